/- Regions that leave their order open: whatever the order, the end is that of the text's order. -/
import Derived.Test.YtehgcepifegjiaaSXR
namespace Go.SX
variable {R : Reg} {P : Program}

theorem apU_hit : ∀ (u : List (Nat × O R)) (f g : Ob R) (o : Nat), (∃ q ∈ u, q.1 = o) → apU f u o = apU g u o
  | [], _, _, _, h => by obtain ⟨q, hq, _⟩ := h; simp at hq
  | (n, x) :: r, f, g, o, h => by
    simp only [apU]
    by_cases hr : ∃ q ∈ r, q.1 = o
    · exact apU_hit r _ _ o hr
    · have hn : ∀ q ∈ r, q.1 ≠ o := fun q hq e => hr ⟨q, hq, e⟩
      rw [apU_not r _ o hn, apU_not r _ o hn]
      obtain ⟨q, hq, e⟩ := h
      rcases List.mem_cons.1 hq with rfl | hq
      · simp only at e; subst e; simp [upd1]
      · exact absurd e (hn q hq)
theorem apU_congr : ∀ (u : List (Nat × O R)) (f g : Ob R) (o : Nat), f o = g o → apU f u o = apU g u o
  | [], _, _, _, h => h
  | (n, x) :: r, f, g, o, h => by
    simp only [apU]
    refine apU_congr r _ _ o ?_
    simp only [upd1]; split
    · rfl
    · exact h
theorem apU_app : ∀ (u v : List (Nat × O R)) (f : Ob R), apU f (u ++ v) = apU (apU f u) v
  | [], _, _ => rfl
  | (n, x) :: r, v, f => by simp only [List.cons_append, apU]; exact apU_app r v _
theorem apU_cases : ∀ (u : List (Nat × O R)) (f : Ob R) (o : Nat), (∃ x, (o, x) ∈ u ∧ apU f u o = x) ∨ ((∀ q ∈ u, q.1 ≠ o) ∧ apU f u o = f o)
  | [], _, _ => .inr ⟨fun q hq => by simp at hq, rfl⟩
  | (n, x) :: r, f, o => by
    simp only [apU]
    rcases apU_cases r (upd1 f n x) o with ⟨y, hy, he⟩ | ⟨hn, he⟩
    · exact .inl ⟨y, by simp [hy], he⟩
    · by_cases h : o = n
      · subst h; exact .inl ⟨x, by simp, by rw [he]; simp [upd1]⟩
      · refine .inr ⟨fun q hq => ?_, by rw [he]; simp [upd1, h]⟩
        rcases List.mem_cons.1 hq with rfl | hq
        · exact fun e => h e.symm
        · exact hn q hq

theorem ObOk.sub {ids : Nm} {ob lk : Ob R} {w : World} (h : ObOk ids ob w) (hl : ∀ o, lk o = ob o ∨ lk o = .none) : ObOk ids lk w := by
  refine ⟨fun o x hx hn => ?_, fun o o' p p' b hne hp hp' hex hbk => ?_⟩
  · rcases hl o with e | e
    · exact h.ok o x (e ▸ hx) hn
    · exact absurd (hx.symm.trans e) hn
  · rcases hl o with e | e
    · rcases hl o' with e' | e'
      · rw [e']; rw [e] at hex hbk; exact h.dist o o' p p' b hne hp hp' hex hbk
      · rw [e']; simp [O.blk]
    · rw [e] at hex; simp [O.excl] at hex

/-- What is hidden from an operation stays. -/
theorem frame_ok {ids ids' : Nm} {ob lk : Ob R} {nb : Nat} {w w' : World} {r : Res R} (ho : ObOk ids ob w) (hl : ∀ o, lk o = ob o ∨ lk o = .none)
    (hux : ∀ q ∈ r.upd, q.2 = .none ∨ q.2.excl = true) (hnx : ∀ x ∈ r.new, x = .none ∨ x.excl = true)
    (hfree : ∀ j, j < r.new.length → ids (nb + j) = none) (ho' : ObOk ids' (r.ap nb lk) w') (hle : LeN ids ids') (hnm : ∀ o, ids' o = ids o ∨ nb ≤ o ∧ o < nb + r.new.length)
    (hfr : Fr ids lk w ids' (r.ap nb lk) w') : ObOk ids' (r.ap nb ob) w' ∧ Fr ids ob w ids' (r.ap nb ob) w' := by
  have obfree : ∀ o, nb ≤ o ∧ o < nb + r.new.length → ids o = none := fun o h => by
    have := hfree (o - nb) (by omega); rwa [show nb + (o - nb) = o by omega] at this
  have obnone : ∀ o, nb ≤ o ∧ o < nb + r.new.length → ob o = .none := fun o h => by
    refine Classical.byContradiction fun hn => ?_
    obtain ⟨p, hp, _⟩ := ho.ok o _ rfl hn
    rw [obfree o h] at hp; cases hp
  -- touched or seen; or hidden
  have cls : ∀ o, ((r.ap nb ob) o = (r.ap nb lk) o ∧ (((r.ap nb lk) o = .none ∨ ((r.ap nb lk) o).excl = true) ∨ (ids' o = ids o ∧ (r.ap nb lk) o = ob o))) ∨
      (ids' o = ids o ∧ (r.ap nb ob) o = ob o ∧ lk o = .none) := by
    intro o
    simp only [Res.ap]
    rw [apN_at, apN_at]
    by_cases hr : nb ≤ o ∧ o < nb + r.new.length
    · rw [if_pos hr, if_pos hr]
      left
      refine ⟨rfl, .inl ?_⟩
      have hlt : o - nb < r.new.length := by omega
      have : getO r.new (o - nb) = r.new[o - nb] := by simp [getO, List.getD, hlt]
      rw [this]
      exact hnx _ (List.getElem_mem hlt)
    · rw [if_neg hr, if_neg hr]
      have hid : ids' o = ids o := (hnm o).resolve_right hr
      rcases apU_cases r.upd lk o with ⟨x, hx, he⟩ | ⟨hn, he⟩
      · left
        refine ⟨apU_hit _ _ _ _ ⟨_, hx, rfl⟩, .inl ?_⟩
        rw [he]; exact hux _ hx
      · rw [apU_not _ ob o hn, he]
        rcases hl o with e | e
        · left; exact ⟨e.symm, .inr ⟨hid, e⟩⟩
        · right; exact ⟨hid, rfl, e⟩
  have hidden : ∀ o p b, lk o = .none → ids o = some p → (ob o).blk p = some b → ¬ exB ids lk b := by
    rintro o p b hn hp hb ⟨i, q, h1, h2, h3⟩
    rcases hl i with e | e
    · rw [e] at h2 h3
      have hne : i ≠ o := fun he => by
        subst he
        rw [hn] at e
        rw [← e] at h2; simp [O.excl] at h2
      exact ho.dist i o q p b hne h1 hp h2 h3 hb
    · rw [e] at h2; simp [O.excl] at h2
  refine ⟨⟨fun o y hy hny => ?_, fun o o' p p' b hoo hp hp' hex hbk hbk' => ?_⟩, ⟨hfr.os, hfr.tape, hfr.output, hfr.size, fun b hb hn => hfr.same b hb fun he => hn ?_, fun b hb => ?_⟩⟩
  · subst hy
    rcases cls o with ⟨e, _⟩ | ⟨e1, e2, e3⟩
    · rw [e] at hny ⊢; exact ho'.ok o _ rfl hny
    · rw [e2] at hny ⊢
      obtain ⟨p, hp, hok⟩ := ho.ok o _ rfl hny
      exact ⟨p, by rw [e1]; exact hp, (hok.keep hfr.size fun b hb => hfr.same b (hok.blk_lt hb) (hidden o p b e3 hp hb)).ext hle⟩
  · rcases cls o with ⟨e, c⟩ | ⟨e1, e2, e3⟩ <;> rcases cls o' with ⟨e', c'⟩ | ⟨e1', e2', e3'⟩
    · rw [e] at hex hbk; rw [e'] at hbk'; exact ho'.dist o o' p p' b hoo hp hp' hex hbk hbk'
    · rw [e] at hex hbk; rw [e1'] at hp'; rw [e2'] at hbk'
      rcases hfr.ex b ⟨o, p, hp, hex, hbk⟩ with h | h
      · exact hidden o' p' b e3' hp' hbk' h
      · have := ho.blk_lt hp' hbk'; omega
    · rw [e1] at hp; rw [e2] at hex hbk; rw [e'] at hbk'
      rcases c' with (hc | hc) | ⟨hc1, hc2⟩
      · rw [hc] at hbk'; simp [O.blk] at hbk'
      · rcases hfr.ex b ⟨o', p', hp', hc, hbk'⟩ with h | h
        · exact hidden o p b e3 hp hbk h
        · have := ho.blk_lt hp hbk; omega
      · rw [hc1] at hp'; rw [hc2] at hbk'
        exact ho.dist o o' p p' b hoo hp hp' hex hbk hbk'
    · rw [e1] at hp; rw [e1'] at hp'; rw [e2] at hex hbk; rw [e2'] at hbk'
      exact ho.dist o o' p p' b hoo hp hp' hex hbk hbk'
  · obtain ⟨i, q, h1, h2, h3⟩ := he
    rcases hl i with e | e
    · rw [e] at h2 h3; exact ⟨i, q, h1, h2, h3⟩
    · rw [e] at h2; simp [O.excl] at h2
  · obtain ⟨o, p, hp, hex, hbk⟩ := hb
    rcases cls o with ⟨e, _⟩ | ⟨e1, e2, _⟩
    · rw [e] at hex hbk
      rcases hfr.ex b ⟨o, p, hp, hex, hbk⟩ with ⟨i, q, h1, h2, h3⟩ | h
      · rcases hl i with e | e
        · rw [e] at h2 h3; exact .inl ⟨i, q, h1, h2, h3⟩
        · rw [e] at h2; simp [O.excl] at h2
      · exact .inr h
    · rw [e1] at hp; rw [e2] at hex hbk
      exact .inl ⟨o, p, hp, hex, hbk⟩

/-! ### What waits for what -/
theorem testBit_maskOf {ms : List Nat} {ds : List Nat} {j : Nat} (h : Nat.testBit (maskOf ms ds) j = true) : ∃ d ∈ ds, j = d ∨ Nat.testBit (ms.getD d 0) j = true := by
  have gen : ∀ (ds : List Nat) (m : Nat), Nat.testBit (ds.foldl (fun m d => m ||| (2 ^ d ||| ms.getD d 0)) m) j = true → Nat.testBit m j = true ∨ ∃ d ∈ ds, j = d ∨ Nat.testBit (ms.getD d 0) j = true := by
    intro ds
    induction ds with
    | nil => intro m h; exact .inl h
    | cons d ds ih =>
      intro m h
      rcases ih _ h with h | ⟨d', hd', h⟩
      · rw [Nat.testBit_or, Nat.testBit_or, Bool.or_eq_true, Bool.or_eq_true] at h
        rcases h with h | h | h
        · exact .inl h
        · rw [Nat.testBit_two_pow] at h; exact .inr ⟨d, by simp, .inl (by simpa using h : d = j).symm⟩
        · exact .inr ⟨d, by simp, .inr h⟩
      · exact .inr ⟨d', by simp [hd'], h⟩
  rcases gen ds 0 h with h | h
  · simp at h
  · exact h

theorem shapeD_ok {ms : List Nat} : ∀ {ops : List Oper} {k : Nat}, shapeD ms ops k = true → ∀ i o, ops[i]? = some o → (∀ d ∈ depsAny o, d < k + i) ∧ ms.getD (k + i) 0 = maskOf ms (depsAny o)
  | [], _, _, i, o, ho => by simp at ho
  | o :: rest, k, h, i, o', ho' => by
    simp only [shapeD, Bool.and_eq_true] at h
    obtain ⟨⟨h1, h2⟩, h3⟩ := h
    cases i with
    | zero =>
      simp at ho'; subst ho'
      refine ⟨fun d hd => ?_, Nat.eq_of_beq_eq_true h2⟩
      have := List.all_eq_true.1 h1 d hd
      have := Nat.le_of_ble_eq_true (show Nat.ble (d + 1) k = true from this); omega
    | succ i =>
      simp at ho'
      have := shapeD_ok h3 i o' ho'
      rw [show k + 1 + i = k + (i + 1) by omega] at this
      exact this

theorem bits_lt {ms : List Nat} {ops : List Oper} (h : shapeD ms ops 0 = true) : ∀ i, i < ops.length → ∀ j, Nat.testBit (ms.getD i 0) j = true → j < i := by
  intro i
  induction i using Nat.strongRecOn with
  | _ i ih =>
    intro hi j hj
    obtain ⟨h1, h2⟩ := shapeD_ok h i ops[i] (List.getElem?_eq_getElem hi)
    rw [Nat.zero_add] at h2
    rw [h2] at hj
    obtain ⟨d, hd, hjd⟩ := testBit_maskOf hj
    have hdi := h1 d hd
    rcases hjd with rfl | hjd
    · omega
    · have := ih d (by omega) (by omega) j hjd; omega
end Go.SX
