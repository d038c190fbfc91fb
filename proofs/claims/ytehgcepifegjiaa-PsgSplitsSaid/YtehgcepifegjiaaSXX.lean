/- Regions that leave their order open: the whole region. -/
import Derived.Test.YtehgcepifegjiaaSXW
namespace Go.SX
variable {R : Reg} {P : Program}

section
variable [DecidableEq R.K] {E : Env R} {ops : List Oper} {ms : List Nat} {st : St R} {rs : Rs R}

theorem mem_ready {ops : Array Oper} {l : Array Bool} {i : Nat} (h : i ∈ Region.ready .any ops l) : i < ops.size ∧ l.getD i true = false ∧ ∀ o, ops[i]? = some o → ∀ d ∈ depsAny o, l.getD d false = true := by
  simp only [Region.ready, List.mem_filter, List.mem_range, Bool.and_eq_true, Bool.not_eq_true'] at h
  obtain ⟨h1, h2, h3⟩ := h
  refine ⟨h1, h2, fun o ho d hd => ?_⟩
  rw [ho] at h3
  simp only [Option.map_some, Option.getD_some, Array.all_eq_true_iff_forall_mem] at h3
  simp only [depsAny, List.mem_filterMap] at hd
  obtain ⟨e, he, hd⟩ := hd
  have := h3 e (Array.mem_toList_iff.1 he)
  cases hb : Region.binds .any e with
  | true => rw [hb] at hd; cases hd; simpa [hb] using this
  | false => rw [hb] at hd; cases hd

theorem ready_mem {ops : Array Oper} {l : Array Bool} {i : Nat} {o : Oper} (h1 : i < ops.size) (h2 : l.getD i true = false) (ho : ops[i]? = some o) (h3 : ∀ d ∈ depsAny o, l.getD d false = true) : i ∈ Region.ready .any ops l := by
  simp only [Region.ready, List.mem_filter, List.mem_range, Bool.and_eq_true, Bool.not_eq_true']
  refine ⟨h1, h2, ?_⟩
  rw [ho]
  simp only [Option.map_some, Option.getD_some, Array.all_eq_true_iff_forall_mem]
  intro e he
  cases hb : Region.binds .any e with
  | true =>
    have := h3 e.on (by simp only [depsAny, List.mem_filterMap]; exact ⟨e, Array.mem_toList_iff.2 he, by rw [hb]⟩)
    simpa [hb] using this
  | false => rfl

theorem finalD_sim (C : Ctx E ops ms st rs) {D : Nat → Bool} (hD : ∀ i, i < ops.length → D i = true) {ids0 ids : Nm} {w0 w : World} {a : Act} (h0f : ∀ o, st.nb ≤ o → ids0 o = none) (hI : InvD ops st rs ids0 w0 D ids a w) :
    Sim ids (finalD ops st rs) a w ∧ getO (finalD ops st rs).ob = memV st rs D ((effF rs 0).filter D) := by
  have hes : (effF rs 0).filter D = effF rs 0 := List.filter_eq_self.2 fun e he => hD e (by have := effF_lt he; rw [C.len] at this; omega)
  have hob : getO (finalD ops st rs).ob = memV st rs D ((effF rs 0).filter D) := by
    rw [hes]
    funext o
    simp only [finalD, getO, List.getD, List.getElem?_map]
    by_cases ho : o < nbR st.nb rs
    · rw [List.getElem?_range ho]
      simp only [Option.map_some, Option.getD_some, memV]
      cases Nat.blt o st.nb with
      | true => rfl
      | false =>
        cases hc : crt rs st.nb 0 o with
        | none => rfl
        | some q =>
          obtain ⟨j, x⟩ := q
          have := (crt_some _ _ _ _ _ _ hc).2.1
          simp only [hD j (by rw [C.len] at this; omega)]
    · rw [List.getElem?_eq_none (by simp; omega)]
      have hb : Nat.blt o st.nb = false := by
        have := nbR_le rs st.nb
        cases hb : Nat.blt o st.nb with
        | false => rfl
        | true => have : o < st.nb := Nat.le_of_ble_eq_true hb; omega
      simp only [Option.map_none, Option.getD_none, memV, hb, crt_none rs st.nb 0 o (by omega)]
  refine ⟨⟨by rw [hI.size]; simp [finalD], fun t => ?_, hI.defers, by rw [hob]; exact hI.ob, fun o ho => ?_⟩, hob⟩
  · have h := hI.slots t
    simp only [finalD, List.getD, List.getElem?_map]
    by_cases ht : t < st.sl.length
    · rw [List.getElem?_range ht]
      simp only [Option.map_some, Option.getD_some]
      simp only [slotD] at h
      cases hw : wrOf ops t with
      | none => simp only [hw] at h; exact h
      | some j =>
        obtain ⟨x, h1, _⟩ := wrOf_lt hw
        have := (List.getElem?_eq_some_iff.1 h1).1
        simp only [hw, hD j this] at h
        exact h
    · rw [List.getElem?_eq_none (by simp; omega)]
      trivial
  · simp only [finalD] at ho
    rcases hI.nm o with e | ⟨j, x, hc, _⟩
    · rw [e]; exact h0f o (by have := nbR_le rs st.nb; omega)
    · rw [crt_none rs st.nb 0 o ho] at hc; cases hc

theorem any_ok (C : Ctx E ops ms st rs) (hE : EnvOk P E) {ids0 : Nm} {w0 : World} (h0f : ∀ o, st.nb ≤ o → ids0 o = none) {Q : Exit → Act → World → Prop}
    (hQ : ∀ (D : Nat → Bool) ids a w, (∀ i, i < ops.length → D i = true) → InvD ops st rs ids0 w0 D ids a w → Q .normal a w) : ∀ (fuel : Nat) (l : Array Bool) (ids : Nm) (a : Act) (w : World),
    l.size = ops.length → l.toList.count false ≤ fuel → Cl ms ops.length (fun i => l.getD i false) → InvD ops st rs ids0 w0 (fun i => l.getD i false) ids a w → wpAny P .any ops.toArray Q fuel l a w := by
  have hend : ∀ (l : Array Bool) (ids : Nm) (a : Act) (w : World), l.size = ops.length → InvD ops st rs ids0 w0 (fun i => l.getD i false) ids a w → Region.ready .any ops.toArray l = [] → Q .normal a w := by
    intro l ids a w hl hI hr
    refine hQ _ ids a w (fun i => ?_) hI
    induction i using Nat.strongRecOn with
    | _ i ih =>
      intro hi
      cases hd : l.getD i false with
      | true => rfl
      | false =>
        exfalso
        have ho : ops[i]? = some ops[i] := List.getElem?_eq_getElem hi
        have hil : i < l.size := by omega
        have h2 : l.getD i true = false := by simpa [Array.getD, hil] using hd
        have hm := ready_mem (ops := ops.toArray) (l := l) (i := i) (o := ops[i]) (by simpa using hi) h2 (by simp) (fun d hd => by
          have hlt := (shapeD_ok C.sh i _ ho).1 d hd
          exact ih d (by omega) (by omega))
        rw [hr] at hm; simp at hm
  have none_ready : ∀ (l : Array Bool), l.toList.count false ≤ 0 → Region.ready .any ops.toArray l = [] := by
    intro l hc
    rw [List.eq_nil_iff_forall_not_mem]
    intro i hi
    obtain ⟨_, h2, _⟩ := mem_ready hi
    have hil : i < l.size := by
      by_cases h : i < l.size
      · exact h
      · simp [Array.getD, h] at h2
    have : false ∈ l.toList := by
      rw [Array.mem_toList_iff]
      have h3 : l[i] = false := by simpa [Array.getD, hil] using h2
      exact h3 ▸ Array.getElem_mem hil
    have := List.count_pos_iff.2 this
    omega
  intro fuel
  induction fuel with
  | zero =>
    intro l ids a w hl hc _ hI
    have hr := none_ready l hc
    exact ⟨hr, hend l ids a w hl hI hr⟩
  | succ fuel ih =>
    intro l ids a w hl hc hcl hI
    refine ⟨hend l ids a w hl hI, fun i hi => ?_⟩
    obtain ⟨h1, h2, h3⟩ := mem_ready hi
    have hi' : i < ops.length := by simpa using h1
    have hil : i < l.size := by omega
    have hDi : l.getD i false = false := by simpa [Array.getD, hil] using h2
    have ho : ops[i]? = some ops[i] := List.getElem?_eq_getElem hi'
    have hdeps := h3 ops[i] (by simp)
    have hb : ∀ j, Nat.testBit (ms.getD i 0) j = true → l.getD j false = true := by
      intro j hj
      have hs := (shapeD_ok C.sh i _ ho).2
      rw [Nat.zero_add] at hs
      rw [hs] at hj
      obtain ⟨d, hd, hjd⟩ := testBit_maskOf hj
      rcases hjd with rfl | hjd
      · exact hdeps j hd
      · exact (hcl d (hdeps d hd)).2 j hjd
    have hD' : ∀ j, (l.setIfInBounds i true).getD j false = (l.getD j false || Nat.beq j i) := by
      intro j
      by_cases e : j = i
      · subst e; simp [hil]
      · rw [beqF e, Bool.or_false]
        simp [Array.getD_eq_getD_getElem?, Array.getElem?_setIfInBounds_ne (Ne.symm e)]
    refine C.step (D := fun i => l.getD i false) (D' := fun j => (l.setIfInBounds i true).getD j false) hE hcl hi' hDi hb hD' h0f hI fun ids' a' w' hI' => ?_
    refine ih _ ids' a' w' (by simpa using hl) ?_ ?_ hI'
    · have h4 : l[i] = false := by simpa [Array.getD, hil] using hDi
      rw [Array.toList_setIfInBounds, List.count_set (by simpa using hil)]
      have : l.toList[i]'(by simpa using hil) = false := by simpa using h4
      have hpos : 0 < l.toList.count false := List.count_pos_iff.2 (by rw [Array.mem_toList_iff]; exact h4 ▸ Array.getElem_mem hil)
      simp only [this, beq_self_eq_true, if_true]
      have hne : (true == false) = false := rfl
      simp only [hne, Bool.false_eq_true, if_false]
      omega
    · intro j hj
      simp only [hD', Bool.or_eq_true] at hj ⊢
      rcases hj with hj | hj
      · exact ⟨(hcl j hj).1, fun k hk => .inl ((hcl j hj).2 k hk)⟩
      · have := Nat.eq_of_beq_eq_true hj
        subst this
        exact ⟨hi', fun k hk => .inl (hb k hk)⟩
end

theorem evDraw_ok [DecidableEq R.K] {E : Env R} (hE : EnvOk P E) (hmix : P.follows .mixedOrders = true) {m : Nat} : ∀ (f : Nat) (ref : List (Nat × Bool)) (id : Nat) (ops : Array Oper), SoundC P m (.region id ops true) fun st => evDraw E f ref ops.toList st (.leaf .normal)
  | 0, ref, id, ops => fun st Q ids a w h _ _ => h.elim
  | f + 1, ref, id, ops => by
    intro st Q ids a w h hs hm
    simp only [evDraw] at h
    cases hr : runD E ref ops.toList (masks ops.toList []) st ops.toList [] [] with
    | fail => simp only [hr] at h; exact h.elim
    | ask g b =>
      simp only [hr, Out.Holds] at h
      cases b with
      | true => exact evDraw_ok hE hmix f _ id ops st Q ids a w (h.1 rfl) hs hm
      | false => exact evDraw_ok hE hmix f _ id ops st Q ids a w (h.2 rfl) hs hm
    | done rs ns =>
      simp only [hr] at h
      split at h
      · rename_i as hchk hal
        simp only [Bool.and_eq_true] at hchk
        obtain ⟨⟨⟨⟨c1, c2⟩, c3⟩, c4⟩, c5⟩ := hchk
        obtain ⟨hn, hleaf⟩ := allOf_holds h
        obtain ⟨⟨suf, hrs, hsl⟩, _, hf⟩ := runD_ok c1 ops.toList [] [] rs ns hr (fun q hq => hn q (by simp [hq])) (by simp) (by simp)
        have C : Ctx E ops.toList (masks ops.toList []) st rs := ⟨c1, c2, c3, c4, c5, by rw [hrs]; simpa using hsl, fun i o ho => hf i o (by simp) ho, fun i o ho => by
          have := altAll_ok hal (fun q hq => hn q (by simp [hq])) i o ho
          rwa [Nat.zero_add] at this⟩
        refine wp_region_any hmix ?_
        have hz : ∀ i, (Array.replicate ops.size false).getD i false = false := fun i => by
          by_cases h : i < ops.size <;> simp [Array.getD, h]
        have hfil : (effF rs 0).filter (fun i => (Array.replicate ops.size false).getD i false) = [] := by
          rw [List.filter_eq_nil_iff]; intro e _; rw [hz e]; simp
        have hmem : memV st rs (fun i => (Array.replicate ops.size false).getD i false) [] = getO st.ob := by
          funext o
          simp only [memV, ups, List.flatMap_nil, apU]
          by_cases ho : o < st.nb
          · have : Nat.blt o st.nb = true := Nat.ble_eq_true_of_le ho
            simp only [this]
          · have hb : Nat.blt o st.nb = false := by
              cases hb : Nat.blt o st.nb with
              | false => rfl
              | true => exact absurd (Nat.le_of_ble_eq_true hb) ho
            have hno : getO st.ob o = .none := by
              refine Classical.byContradiction fun hne => ?_
              obtain ⟨p, hp, _⟩ := hs.ob.ok o _ rfl hne
              rw [hs.free o (by omega)] at hp; cases hp
            rw [hno]
            simp only [hb]
            cases crt rs st.nb 0 o with
            | none => rfl
            | some q => obtain ⟨j, x⟩ := q; simp only [hz]
        have hI : InvD ops.toList st rs ids { w with drawn := w.drawn + 1 } (fun i => (Array.replicate ops.size false).getD i false) ids a { w with drawn := w.drawn + 1 } := by
          refine ⟨hs.size, fun t => ?_, hs.defers, ?_, fun o => .inl rfl, LeN.refl ids, ?_⟩
          · simp only [slotD]
            cases wrOf ops.toList t with
            | none => exact hs.slots t
            | some j => simp only [hz]; exact hs.slots t
          · rw [hfil, hmem]; exact hs.ob.world _
          · rw [hfil, hmem]; exact Fr.refl _ _ _
        have hany := any_ok (P := P) C hE (ids0 := ids) (w0 := { w with drawn := w.drawn + 1 }) hs.free (Q := Post Q m ids st w) (fun D ids' a' w' hD hI' => by
          obtain ⟨g1, g2⟩ := finalD_sim C hD hs.free hI'
          refine ⟨.normal, finalD ops.toList st rs, ids', rfl, hleaf, g1, ?_, ⟨fun o ho p hp => hI'.le o p hp, ?_⟩⟩
          · have := nbR_le rs st.nb; simp only [finalD]; omega
          · rw [g2]
            have hfr := hI'.fr
            exact ⟨hfr.os, hfr.tape, hfr.output, hfr.size, hfr.same, hfr.ex⟩) ops.size (Array.replicate ops.size false) ids a { w with drawn := w.drawn + 1 } (by simp) (by simp) (fun i h => by have h2 := hz i; simp only [h2] at h; cases h) hI
        simpa using hany
      · exact h.elim

theorem drawOk [DecidableEq R.K] {E : Env R} (hE : EnvOk P E) (hmix : P.follows .mixedOrders = true) {m : Nat} (f : Nat) : DrawOk P m (evDraw E f []) :=
  fun id ops => evDraw_ok hE hmix f [] id ops
end Go.SX
