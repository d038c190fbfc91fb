/- One operation: the model does the same. -/
import Derived.Test.YtehgcepifegjiaaSXK
import Derived.Laws.Small
namespace Go.SX
variable {R : Reg} {P : Program}

theorem partsOk_map {ids : Nm} (ev : Operand → W R) (ρ : Operand → Value) (h : ∀ x, WOk ids (ev x) (ρ x)) : ∀ (ps : List (Nat × Operand)),
    PartsOk ids (ps.map fun p => (p.1, ev p.2)) (ps.map fun p => (p.1, ρ p.2))
  | [] => trivial
  | p :: ps => ⟨rfl, h p.2, partsOk_map ev ρ h ps⟩

theorem argsOk_map {ids : Nm} (ev : Operand → W R) (ρ : Operand → Value) (h : ∀ x, WOk ids (ev x) (ρ x)) : ∀ (ps : List Operand),
    ArgsOk ids (ps.map ev) (ps.map ρ)
  | [] => trivial
  | p :: ps => ⟨h p, argsOk_map ev ρ h ps⟩

/-- a run that is no call -/
theorem wp_of_res {o : Oper} {a : Act} {w : World} {ids : Nm} {ob : Ob R} {nb : Nat} {r : Res R} {K : Act → World → Prop} {Q : Exit → Act → World → Prop}
    (h : ResOk ids ob nb w r ((execOp a.eval o).run P w))
    (hK : ∀ v w' ids', WOk ids' r.val v → ObOk ids' (r.ap nb ob) w' → LeN ids ids' → (∀ o, ids' o = ids o ∨ nb ≤ o ∧ o < nb + r.new.length) → Fr ids ob w ids' (r.ap nb ob) w' → K (a.put o.dst v) w') : o.wp P a w K Q := by
  obtain ⟨v, w', ids', hrun, h1, h2, h3, h4, h5⟩ := h
  unfold Oper.wp
  rcases hrun with hrun | ⟨hrun, rfl⟩
  · rw [hrun]; exact hK v w' ids' h1 h2 h3 h4 h5
  · rw [hrun]; exact hK undef w' ids' h1 h2 h3 h4 h5

theorem binS_kind {op : BinOp} {x y : S} {q : Option Prop × S} (h : binS op x y = some q) (J : Tot) : (∃ k n, den J x = .int k n) ∨ ∃ b, den J x = .bool b := by
  cases x <;> first
    | exact .inl ⟨_, _, rfl⟩
    | exact .inr ⟨_, rfl⟩
    | (exfalso
       unfold binS at h
       cases hs : isShift op with
       | true =>
         simp only [hs, shS] at h
         cases hc : cnt y with
         | none => simp [hc] at h
         | some p => obtain ⟨p1, p2⟩ := p; simp [hc] at h
       | false =>
         simp only [hs] at h
         simp [S.u8?, S.u16?, S.u32?, S.u64?, S.int?, S.bool?] at h)

theorem eqGuard_int (w : World) (op : BinOp) (t : TypeId) (x y : Operand) (k : IntKind) (n : Int) (v : Value) : (eqGuard op t x y (.int k n) v).run P w = .ok () w := by
  cases op <;> simp [eqGuard]
theorem eqGuard_bool (w : World) (op : BinOp) (t : TypeId) (x y : Operand) (b : Bool) (v : Value) : (eqGuard op t x y (.bool b) v).run P w = .ok () w := by
  cases op <;> simp [eqGuard]

theorem op_ok [DecidableEq R.K] {E : Env R} (hE : EnvOk P E) {o : Oper} {a : Act} {w : World} {ids : Nm} {ob : Ob R} {nb : Nat} {ev : Operand → W R} (hev : ∀ x, WOk ids (ev x) (a.eval x)) (ho : ObOk ids ob w)
    {r : Res R} (hfree : ∀ j, j < r.new.length → ids (nb + j) = none) (h : opv E o.op ev ob nb = some r) (hp : NeedP r.need)
    {K : Act → World → Prop} {Q : Exit → Act → World → Prop}
    (hK : ∀ v w' ids', WOk ids' r.val v → ObOk ids' (r.ap nb ob) w' → LeN ids ids' → (∀ o, ids' o = ids o ∨ nb ≤ o ∧ o < nb + r.new.length) → Fr ids ob w ids' (r.ap nb ob) w' → K (a.put o.dst v) w') : o.wp P a w K Q := by
  have h0 := Le_tot ids
  cases hop : o.op <;> rw [hop] at h <;> simp only [opv, reduceCtorEq] at h
  case move x =>
    simp only [ok, Option.some.injEq] at h; subst h
    exact wp_of_res (ResOk.pure ho (v := a.eval x) (by simp [execOp, hop]) (hev x)) hK
  case assign x =>
    simp only [ok, Option.some.injEq] at h; subst h
    exact wp_of_res (ResOk.pure ho (v := a.eval x) (by simp [execOp, hop]) (hev x)) hK
  case pick c x y =>
    have hc := hev c
    split at h
    · rename_i he
      simp only [ok, Option.some.injEq] at h; subst h
      rw [he] at hc; have hv := hc.v0; simp only [denV, den] at hv
      exact wp_of_res (ResOk.pure ho (v := a.eval x) (by simp [execOp, hop, hv, asBool]) (hev x)) hK
    · rename_i he
      simp only [ok, Option.some.injEq] at h; subst h
      rw [he] at hc; have hv := hc.v0; simp only [denV, den] at hv
      exact wp_of_res (ResOk.pure ho (v := a.eval y) (by simp [execOp, hop, hv, asBool]) (hev y)) hK
    · cases h
  case alloc t =>
    cases ht : E.ti t with
    | none => simp [ht] at h
    | some i =>
      simp only [ht, Option.some.injEq] at h; subst h
      have := doAlloc_ok (nb := nb) (hE.ti t i ht).1 (show ids nb = none from hfree 0 (by simp)) ho
      exact wp_of_res (by simpa only [execOp, hop] using this) hK
  case box t x =>
    have hfree1 : ids nb = none := by
      refine hfree 0 ?_
      unfold doBox at h; split at h
      · simp only [Option.some.injEq] at h; subst h; simp
      · cases h
    exact wp_of_res (by simpa only [execOp, hop] using doBox_ok (P := P) (t := t) hfree1 ho (hev x) h) hK
  case build t ps =>
    cases ht : E.ti t with
    | none => simp [ht] at h
    | some i =>
      simp only [ht] at h
      have := doBuild_ok (nb := nb) (hE.ti t i ht).1 (hE.ti t i ht).2 ho (partsOk_map _ _ hev ps.toList) h
      refine wp_of_res ?_ hK
      have e1 : (ps.toList.map fun p => (p.1, a.eval p.2)).toArray = ps.map fun (i, x) => (i, a.eval x) := by
        rw [← List.map_toArray, Array.toArray_toList]
      rw [e1] at this
      simpa only [execOp, hop] using this
  case buildSlice t n ps =>
    split at h
    · rename_i i x ht hps
      have hfree1 : ids nb = none := by
        refine hfree 0 ?_
        unfold doSlice1 at h; split at h
        · split at h
          · simp only [Option.some.injEq] at h; subst h; simp
          · cases h
        · cases h
      have := doSlice1_ok (hE.ti t i ht).1 hfree1 ho (hev x) h
      refine wp_of_res ?_ hK
      have e1 : ps = #[(0, x)] := by rw [← Array.toArray_toList (xs := ps), hps]
      simpa only [execOp, hop, e1, List.map_toArray, List.map_cons, List.map_nil] using this
    · cases h
  case load t x =>
    cases ht : E.ti t with
    | none => simp [ht] at h
    | some i =>
      simp only [ht] at h
      have := doLoad_ok (nb := nb) (hE.ti t i ht).1 ho (hev x) h hp
      exact wp_of_res (by simpa only [execOp, hop] using this) hK
  case store t x y =>
    cases ht : E.ti t with
    | none => simp [ht] at h
    | some i =>
      simp only [ht] at h
      have := doStore_ok (nb := nb) (hE.ti t i ht).1 ho (hev x) (hev y) h hp
      exact wp_of_res (by simpa only [execOp, hop] using this) hK
  case nilCheck x =>
    have hx := hev x
    split at h <;> first
      | (rename_i he
         simp only [ok, Option.some.injEq] at h; subst h
         rw [he] at hx; have hv := hx.v0; simp only [denV, den] at hv
         refine wp_of_res (ResOk.pure ho (v := a.eval x) (by simp [execOp, hop, hv]) hx) hK)
      | cases h
  case binOp op t x y t' =>
    split at h
    · rename_i p q i hx hy ht
      cases hf : tyFit i.k p q <;> simp only [hf, reduceCtorEq] at h
      cases hb : binS op p q with
      | none => simp [hb] at h
      | some pz =>
        obtain ⟨pr, z⟩ := pz
        simp only [hb, ok, Option.some.injEq] at h; subst h
        simp only at hp
        obtain ⟨d, hd, ha, hdk⟩ := (hE.ti t i ht).1.desc
        have hx' := hev x; rw [hx] at hx'
        have hy' := hev y; rw [hy] at hy'
        have hrun := fun J => binS_ok P w op t i.k d hd hdk p q pr z hf hb hp J
        have h1 := hrun (tot ids)
        have ex := hx'.v0; have ey := hy'.v0
        simp only [denV] at ex ey
        rw [← ex, ← ey] at h1
        have hguard : (eqGuard op t x y (a.eval x) (a.eval y)).run P w = .ok () w := by
          rw [ex, ey]
          rcases binS_kind hb (tot ids) with ⟨k, n, hk⟩ | ⟨b, hk⟩ <;> rw [hk]
          · exact eqGuard_int w op t x y k n _
          · exact eqGuard_bool w op t x y b _
        refine wp_of_res (ResOk.pure (x := .v (.s z)) ho (v := den (tot ids) z) (by simp [execOp, hop, hguard, h1]) fun J hJ => ?_) hK
        have h2 := hrun J
        have ex1 := hx'.v hJ; have ey1 := hy'.v hJ
        simp only [denV] at ex1 ey1
        rw [← ex1, ← ey1, h1] at h2
        exact (Result.ok.inj h2).1
    · rename_i p q i hx hy ht
      have key : ∀ r, doEq i p q = some r → (Op.equalIn 10000 t (a.eval x) (a.eval y)).run P w = .ok r w ∧ P.eqGuardType P.depth t = false ∧ (∃ c, a.eval x = .agg c) ∧ ∃ c, a.eval y = .agg c := by
        intro r hr
        unfold doEq at hr
        split at hr
        · rename_i ks c1 c2 hks hag hc1 hc2
          split at hr
          · rename_i hf
            rw [Bool.and_eq_true] at hf
            obtain ⟨k1, k2⟩ := hE.eqs t i ks ht hks
            have hx' := hev x; rw [hx] at hx'
            have hy' := hev y; rw [hy] at hy'
            have ex := hx'.v0; have ey := hy'.v0
            simp only [denV, flatS_ok hc1, flatS_ok hc2] at ex ey
            obtain ⟨d, hd, ha, _⟩ := (hE.ti t i ht).1.desc
            have hagg : aggIs P t true := by unfold aggIs; rw [hd]; simp [ha, hag]
            have := equalIn_ok 9 t ks k1 10000 (by omega) (a.eval x) (a.eval y) _ _ w ⟨fitS_ok hf.1 (tot ids), .inl ⟨hagg, ex⟩⟩ ⟨fitS_ok hf.2 (tot ids), .inl ⟨hagg, ey⟩⟩
            rw [eqAll_ok hr] at this
            exact ⟨this, k2, ⟨_, ex⟩, ⟨_, ey⟩⟩
          · cases hr
        · cases hr
      split at h
      · cases hr : doEq i p q with
        | none => simp [hr] at h
        | some r =>
          simp only [hr, ok, Option.some.injEq] at h; subst h
          obtain ⟨k1, k2, ⟨c1, e1⟩, ⟨c2, e2⟩⟩ := key r hr
          rw [e1, e2] at k1
          refine wp_of_res (ResOk.pure (x := .v (.s (.bool r))) ho (v := .bool r) ?_ fun _ _ => rfl) hK
          simp [execOp, hop, e1, e2, run_eqGuard_agg w _ t x y c1 c2 k2, run_eql_struct, k1]
      · cases hr : doEq i p q with
        | none => simp [hr] at h
        | some r =>
          simp only [hr, ok, Option.some.injEq] at h; subst h
          obtain ⟨k1, k2, ⟨c1, e1⟩, ⟨c2, e2⟩⟩ := key r hr
          rw [e1, e2] at k1
          refine wp_of_res (ResOk.pure (x := .v (.s (.bool (!r)))) ho (v := .bool (!r)) ?_ fun _ _ => rfl) hK
          simp [execOp, hop, e1, e2, run_eqGuard_agg w _ t x y c1 c2 k2, run_neq_struct, k1]
      · cases h
    · cases h
  case unOp op t x =>
    split at h
    · rename_i p hx
      cases hb : unS op p with
      | none => simp [hb] at h
      | some z =>
        simp only [hb, ok, Option.some.injEq] at h; subst h
        have hx' := hev x; rw [hx] at hx'
        have ex := hx'.v0; simp only [denV] at ex
        have h1 := unS_ok (P := P) hb (tot ids) w
        rw [← ex] at h1
        refine wp_of_res (ResOk.pure (x := .v (.s z)) ho (v := den (tot ids) z) (by simp [execOp, hop, h1]) fun J hJ => ?_) hK
        have h2 := unS_ok (P := P) hb J w
        have ex1 := hx'.v hJ; simp only [denV] at ex1
        rw [← ex1, h1] at h2
        exact (Result.ok.inj h2).1
    · cases h
  case convert s d x =>
    split at h
    · rename_i i j p hi hj hx
      split at h
      · rename_i k1 k hk1 hk2
        cases hb : convI k p with
        | none => simp [hb] at h
        | some z =>
          simp only [hb, ok, Option.some.injEq] at h; subst h
          have hx' := hev x; rw [hx] at hx'
          have ex := hx'.v0; simp only [denV] at ex
          obtain ⟨n, jk, e1, e2⟩ := convI_ok hb
          obtain ⟨d1, hd1, _, hdk1⟩ := (hE.ti s i hi).1.desc
          obtain ⟨d2, hd2, _, hdk2⟩ := (hE.ti d j hj).1.desc
          rw [hk1] at hdk1; rw [hk2] at hdk2
          cases d1 <;> simp only [TKok] at hdk1
          cases d2 <;> simp only [TKok] at hdk2
          subst hdk1; subst hdk2
          rw [e1] at ex
          refine wp_of_res (ResOk.pure (x := .v (.s z)) ho (v := den (tot ids) z) ?_ fun J hJ => ?_) hK
          · rw [e2]; simp [execOp, hop, convert, run_underlying hd1, run_underlying hd2, ex, Conv.intToInt]
          · simp only [denW, denV, e2]
      · cases h
    · cases h
  case fieldAddr t x f =>
    cases ht : E.ti t with
    | none => simp [ht] at h
    | some i =>
      simp only [ht] at h
      exact wp_of_res (by simpa only [execOp, hop] using doFieldAddr_ok (nb := nb) (hE.ti t i ht).1 ho (hev x) h) hK
  case field t x f =>
    cases ht : E.ti t with
    | none => simp [ht] at h
    | some i =>
      simp only [ht] at h
      exact wp_of_res (by simpa only [execOp, hop] using doField_ok (nb := nb) (hE.ti t i ht).1 ho (hev x) h) hK
  case indexAddr t x y =>
    cases ht : E.ti t with
    | none => simp [ht] at h
    | some i =>
      simp only [ht] at h
      exact wp_of_res (by simpa only [execOp, hop] using doIndexAddr_ok (nb := nb) (hE.ti t i ht).1 ho (hev x) (hev y) h hp) hK
  case index t x y =>
    cases ht : E.ti t with
    | none => simp [ht] at h
    | some i =>
      simp only [ht] at h
      exact wp_of_res (by simpa only [execOp, hop] using doIndex_ok (nb := nb) (hE.ti t i ht).1 ho (hev x) (hev y) h hp) hK
  case extract x i =>
    split at h
    · rename_i vs hx
      cases hv : vs[i]? with
      | none => simp [hv] at h
      | some v =>
        simp only [hv, ok, Option.some.injEq] at h; subst h
        have hx' := hev x; rw [hx] at hx'
        have e0 : a.eval x = .tuple (vs.map (denV (tot ids))).toArray := hx' _ h0
        refine wp_of_res (ResOk.pure (x := .v v) ho (v := denV (tot ids) v) (by simp [execOp, hop, e0, Instr.extract, hv]) fun J hJ => ?_) hK
        have e1 : a.eval x = .tuple (vs.map (denV J)).toArray := hx' J hJ
        rw [e0] at e1
        simp only [Value.tuple.injEq] at e1
        have := congrArg (·[i]?) e1
        show denV (tot ids) v = denV J v
        simpa [hv] using this
    · cases h
  case call c =>
    split at h
    · rename_i f hcal
      cases hf : E.call f with
      | none => simp [hf] at h
      | some sp =>
        simp only [hf] at h
        have hg := hE.call f sp hf _ _ _ r h hp ids w (c.args.toList.map a.eval) ho hfree (argsOk_map _ _ hev _)
        have hrun : (execOp a.eval o).run P w = (callFunc f (c.args.toList.map a.eval).toArray).run P w := by
          have e1 : (c.args.toList.map a.eval).toArray = c.args.map a.eval := by rw [← List.map_toArray, Array.toArray_toList]
          rw [e1]
          simp [execOp, hop, resolve, hcal, Act.eval, Deferred.ofValue, invoke]
        unfold Oper.wp
        rw [hrun]
        rcases hg with ⟨g1, g2⟩ | ⟨v, w', g1, ids', k1, k2, k3, k4, k5⟩
        · rw [g1]
          refine g2.mono ?_
          rintro en w'' ⟨v, rfl, ids', k1, k2, k3, k4, k5⟩
          exact hK v w'' ids' k1 k2 k3 k4 k5
        · rw [g1]; exact hK v w' ids' k1 k2 k3 k4 k5
    · rename_i hcal
      split at h
      · rename_i x y t t' hargs hty
        split at h
        · rename_i i hb ht
          have htt : t = t' := Nat.eq_of_beq_eq_true hb
          subst htt
          have hfree1 : ids nb = none := by
            refine hfree 0 ?_
            unfold doAppend at h
            repeat' split at h
            all_goals first
              | (simp only [Option.some.injEq] at h; subst h; simp; done)
              | cases h
          have := doAppend_ok (ty := o.type) (hE.ti t i ht).1 hfree1 ho (hev x) (hev y) h hp
          refine wp_of_res ?_ hK
          have ea : c.args = #[x, y] := by rw [← Array.toArray_toList (xs := c.args), hargs]
          have et : c.argTypes = #[t, t] := by rw [← Array.toArray_toList (xs := c.argTypes), hty]
          have hrun : (execOp a.eval o).run P w = ((do pure (.value (← Builtin.append_ #[t, t] o.type #[a.eval x, a.eval y])) : Sem Next).run P w) := by
            simp [execOp, hop, resolve, hcal, ea, et, invoke, builtin]
          rw [hrun]; exact this
        · cases h
      · cases h
    · rename_i hcal
      split at h
      · rename_i x t hargs hty
        have ea : c.args = #[x] := by rw [← Array.toArray_toList (xs := c.args), hargs]
        have et : c.argTypes = #[t] := by rw [← Array.toArray_toList (xs := c.argTypes), hty]
        have hrun : (execOp a.eval o).run P w = ((do pure (.value (← Builtin.len_ #[t] o.type #[a.eval x])) : Sem Next).run P w) := by
          simp [execOp, hop, resolve, hcal, ea, et, invoke, builtin]
        split at h
        · rename_i i oo ht hx
          split at h
          · rename_i b n own e hk hob
            simp only [ok, Option.some.injEq] at h; subst h
            obtain ⟨d, hd, _, hdk⟩ := (hE.ti t i ht).1.desc
            rw [hk] at hdk
            cases d <;> simp only [TKok] at hdk
            have hx' := hev x; rw [hx] at hx'
            have ex := hx'.v0; simp only [denV, den] at ex
            obtain ⟨_, _, hval⟩ := lst_read (ho.here hob (by simp)).2.2
            have hval' : ∃ ad cap, (tot ids oo).val = .slice ad n cap := by
              rcases hval with ⟨h1, h2⟩ | ⟨ad, cap, h1, _⟩
              · exact ⟨none, 0, by rw [h1, h2]⟩
              · exact ⟨_, _, h1⟩
            obtain ⟨ad, cap, hv⟩ := hval'
            rw [hv] at ex
            exact wp_of_res (ResOk.pure (x := .v (.s (.int n))) ho (v := .int .i64 n) (by rw [hrun]; simp [Builtin.len_, run_underlying hd, ex, goInt]) fun _ _ => rfl) hK
          · cases h
        · rename_i i ht hx
          split at h
          · rename_i hk
            simp only [ok, Option.some.injEq] at h; subst h
            obtain ⟨d, hd, _, hdk⟩ := (hE.ti t i ht).1.desc
            rw [hk] at hdk
            cases d <;> simp only [TKok] at hdk
            have hx' := hev x; rw [hx] at hx'
            have ex := hx'.v0; simp only [denV, den] at ex
            exact wp_of_res (ResOk.pure (x := .v (.s (.kn .i64 0))) ho (v := .int .i64 0) (by rw [hrun]; simp [Builtin.len_, run_underlying hd, ex, goInt]) fun _ _ => rfl) hK
          · cases h
        · cases h
      · cases h
    · rename_i hcal
      split at h
      · rename_i x y hargs
        split at h
        · rename_i p q hx hy
          split at h
          · rename_i m n hm hn
            simp only [ok, Option.some.injEq] at h; subst h
            have ea : c.args = #[x, y] := by rw [← Array.toArray_toList (xs := c.args), hargs]
            have hx' := hev x; rw [hx] at hx'
            have hy' := hev y; rw [hy] at hy'
            have ex := hx'.v0; simp only [denV] at ex
            have ey := hy'.v0; simp only [denV] at ey
            rw [int?_ok hm] at ex
            rw [int?_ok hn] at ey
            have e2 : (if n > m then n else m) = max m n := by simp only [Int.max_def]; split <;> split <;> omega
            exact wp_of_res (ResOk.pure (x := .v (.s (.int (max m n)))) ho (v := .int .i64 (max m n)) (by simp [execOp, hop, resolve, hcal, ea, invoke, builtin, ex, ey, run_max_int2, e2]) fun _ _ => rfl) hK
          · cases h
        · cases h
      · cases h
    · rename_i hcal
      split at h
      · rename_i x y hargs
        split at h
        · rename_i p q hx hy
          split at h
          · rename_i m n hm hn
            simp only [ok, Option.some.injEq] at h; subst h
            have ea : c.args = #[x, y] := by rw [← Array.toArray_toList (xs := c.args), hargs]
            have hx' := hev x; rw [hx] at hx'
            have hy' := hev y; rw [hy] at hy'
            have ex := hx'.v0; simp only [denV] at ex
            have ey := hy'.v0; simp only [denV] at ey
            rw [int?_ok hm] at ex
            rw [int?_ok hn] at ey
            have e2 : (if n < m then n else m) = min m n := by simp only [Int.min_def]; split <;> split <;> omega
            exact wp_of_res (ResOk.pure (x := .v (.s (.int (min m n)))) ho (v := .int .i64 (min m n)) (by simp [execOp, hop, resolve, hcal, ea, invoke, builtin, ex, ey, run_min_int2, e2]) fun _ _ => rfl) hK
          · cases h
        · cases h
      · cases h
    · cases h
end Go.SX
