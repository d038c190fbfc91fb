/- Regions that leave their order open: the invariant behind any beginning of any order. -/
import Derived.Test.YtehgcepifegjiaaSXT
import Derived.Orders
namespace Go.SX
variable {R : Reg} {P : Program}

theorem noMem_ok [DecidableEq R.K] {E : Env R} {op : Op} (h : noMem op = true) (ev : Operand → W R) (ob ob' : Ob R) (nb : Nat) : opv E op ev ob nb = opv E op ev ob' nb := by
  cases op <;> first
    | rfl
    | (simp [noMem] at h; done)

theorem WEq.symm {x y : W R} (h : WEq x y) : WEq y x := by
  rcases h with rfl | ⟨h1, h2, h3⟩
  · exact .inl rfl
  · exact .inr ⟨h2, h1, fun J => (h3 J).symm⟩

/-! ### Effects -/
theorem effF_lt {l : Rs R} {j : Nat} {e : Nat} (h : e ∈ effF l j) : e < j + l.length := (effF_mem l j e h).2.1

theorem effF_split (rs : Rs R) (i : Nat) (hi : i < rs.length) : ∃ B, effF rs 0 = effF (rs.take i) 0 ++ (if isEff (rs.getD i none) = true then [i] else []) ++ B ∧ ∀ e ∈ B, i < e := by
  refine ⟨effF (rs.drop (i + 1)) (i + 1), ?_, fun e he => ?_⟩
  · have h1 : rs = rs.take i ++ ([rs.getD i none] ++ rs.drop (i + 1)) := by
      have : rs.getD i none = rs[i] := by simp [List.getD, hi]
      rw [this]
      have h2 := (List.take_append_drop i rs).symm
      rw [List.drop_eq_getElem_cons hi] at h2
      exact h2
    conv => lhs; rw [h1]
    rw [effF_app, effF_app]
    have hl : (rs.take i).length = i := by rw [List.length_take]; exact Nat.min_eq_left (Nat.le_of_lt hi)
    rw [hl]
    simp only [Nat.zero_add, List.length_cons, List.length_nil, List.append_assoc]
    congr 1
    congr 1
    simp only [effF]
    cases isEff (rs.getD i none) <;> rfl
  · have := (effF_mem _ _ _ he).1; omega

theorem chain_app {ms : List Nat} : ∀ {A B : List Nat}, chainD ms (A ++ B) = true → ∀ a ∈ A, ∀ b ∈ B, Nat.testBit (ms.getD b 0) a = true
  | [], _, _, a, ha, _, _ => by simp at ha
  | x :: A, B, h, a, ha, b, hb => by
    simp only [List.cons_append, chainD, Bool.and_eq_true] at h
    rcases List.mem_cons.1 ha with rfl | ha
    · exact List.all_eq_true.1 h.1 b (by simp [hb])
    · exact chain_app h.2 a ha b hb

/-- what is closed takes a first part of a chain -/
theorem chain_filter {ms : List Nat} {D : Nat → Bool} : ∀ {es : List Nat}, chainD ms es = true → (∀ e ∈ es, D e = true → ∀ j, Nat.testBit (ms.getD e 0) j = true → D j = true) →
    es.filter D = es.take (es.filter D).length
  | [], _, _ => rfl
  | e :: r, h, hc => by
    simp only [chainD, Bool.and_eq_true] at h
    cases he : D e with
    | true =>
      simp only [List.filter_cons, he, if_true, List.length_cons, List.take_succ_cons]
      congr 1
      exact chain_filter h.2 fun e' h' => hc e' (by simp [h'])
    | false =>
      have : r.filter D = [] := by
        rw [List.filter_eq_nil_iff]
        intro e' h' hd
        have := hc e' (by simp [h']) hd e (List.all_eq_true.1 h.1 e' h')
        rw [he] at this; cases this
      simp [he, this]

theorem cnt1_eq (p : Nat → Bool) : ∀ l : List Nat, cnt1 p l = (l.filter p).length
  | [] => rfl
  | x :: r => by
    simp only [cnt1, List.filter_cons]
    cases p x <;> simp [cnt1_eq p r]

theorem filter_len_le {p q : Nat → Bool} : ∀ {l : List Nat}, (∀ x ∈ l, p x = true → q x = true) → (l.filter p).length ≤ (l.filter q).length
  | [], _ => Nat.le_refl _
  | x :: r, h => by
    have ih := filter_len_le (l := r) fun y hy => h y (by simp [hy])
    have hx := h x (by simp)
    simp only [List.filter_cons]
    cases hp : p x <;> cases hq : q x <;> simp_all <;> omega

/-! ### What the checks say -/
theorem allOf_holds {Q : Ex → St R → Prop} {o : Out R} : ∀ {l : List Prop}, (allOf l o).Holds Q → (∀ q ∈ l, q) ∧ o.Holds Q
  | [], h => ⟨fun q hq => by simp at hq, h⟩
  | p :: l, h => by
    obtain ⟨h1, h2⟩ := allOf_holds (l := l) h.2
    refine ⟨fun q hq => ?_, h2⟩
    rcases List.mem_cons.1 hq with rfl | hq
    · exact h.1
    · exact h1 q hq

theorem altAll_ok [DecidableEq R.K] {E : Env R} {ops : List Oper} {ms : List Nat} {st : St R} {rs : Rs R} {es : List Nat} : ∀ {l : List Oper} {k : Nat} {as : List Prop}, altAll E ops ms st rs es l k = some as → (∀ q ∈ as, q) →
    ∀ i o, l[i]? = some o → ∃ bs, altOf E ops ms st rs es (k + i) o = some bs ∧ ∀ q ∈ bs, q
  | [], _, _, _, _, i, o, h => by simp at h
  | x :: l, k, as, h, hn, i, o, hio => by
    simp only [altAll] at h
    split at h
    · rename_i a b ha hb
      simp only [Option.some.injEq] at h; subst h
      cases i with
      | zero => simp at hio; subst hio; exact ⟨a, ha, fun q hq => hn q (by simp [hq])⟩
      | succ i =>
        simp at hio
        obtain ⟨bs, h1, h2⟩ := altAll_ok hb (fun q hq => hn q (by simp [hq])) i o hio
        rw [show k + 1 + i = k + (i + 1) by omega] at h1
        exact ⟨bs, h1, h2⟩
    · cases h

theorem altQ_ok [DecidableEq R.K] {E : Env R} {ops : List Oper} {ms : List Nat} {st : St R} {rs : Rs R} {es : List Nat} {i : Nat} {o : Oper} {r : Res R} : ∀ {qs : List Nat} {bs : List Prop}, altQ E ops ms st rs es i o r qs = some bs → (∀ q ∈ bs, q) →
    ∀ q ∈ qs, ∃ r', opv E o.op (evD ops ms st rs i) (memV st rs (Nat.testBit (ms.getD i 0)) (es.take q)) (nbR st.nb (rs.take i)) = some r' ∧ NeedP r'.need ∧ r'.upd = [] ∧ r'.new = [] ∧ r.new = [] ∧ WEq r'.val r.val
  | [], _, _, _, q, hq => by simp at hq
  | x :: qs, bs, h, hn, q, hq => by
    simp only [altQ] at h
    split at h
    · rename_i r' ns hr hns
      split at h
      · rename_i hu hw hw2
        simp only [Option.some.injEq] at h; subst h
        obtain ⟨n1, n2⟩ := needs_mem hn
        rcases List.mem_cons.1 hq with rfl | hq
        · exact ⟨r', hr, n1, hu, hw, hw2, n2 _ (by simp)⟩
        · exact altQ_ok hns (fun p hp => n2 p (by simp [hp])) q hq
      · cases h
    · cases h

theorem liveD_ok {ms : List Nat} {st : St R} {rs : Rs R} : ∀ {l : Rs R} {k : Nat}, liveD ms st rs l k = true → ∀ i, i < l.length →
    (∀ u ∈ updR l i, memV st rs (Nat.testBit (ms.getD (k + i) 0)) (effF (rs.take (k + i)) 0) u.1 ≠ .none ∧ (u.2 = .none ∨ u.2.excl = true)) ∧ ∀ x ∈ newR l i, x = .none ∨ x.excl = true
  | [], _, _, _, h => by simp at h
  | none :: l, k, h, i, hi => by
    simp only [liveD] at h
    cases i with
    | zero => exact ⟨fun u hu => by simp [updR] at hu, fun x hx => by simp [newR] at hx⟩
    | succ i =>
      have := liveD_ok h i (by simpa using hi)
      rw [show k + 1 + i = k + (i + 1) by omega] at this
      simpa [updR, newR] using this
  | some r :: l, k, h, i, hi => by
    simp only [liveD, Bool.and_eq_true] at h
    obtain ⟨⟨⟨h1, h2⟩, h3⟩, h4⟩ := h
    cases i with
    | zero =>
      refine ⟨fun u hu => ⟨?_, ?_⟩, fun x hx => ?_⟩
      · have := List.all_eq_true.1 h1 u (by simpa [updR] using hu)
        intro e; simp only [Nat.add_zero] at e; simp only [e, Bool.false_eq_true] at this
      · have := List.all_eq_true.1 h2 u (by simpa [updR] using hu)
        cases hu2 : u.2 <;> simp_all
      · have := List.all_eq_true.1 h3 x (by simpa [newR] using hx)
        cases x <;> simp_all
    | succ i =>
      have := liveD_ok h4 i (by simpa using hi)
      rw [show k + 1 + i = k + (i + 1) by omega] at this
      simpa [updR, newR] using this

/-! ### Who writes what -/
theorem wrOf_lt {ops : List Oper} {t j : Nat} (h : wrOf ops t = some j) : ∃ o, ops[j]? = some o ∧ o.dst = some t := by
  unfold wrOf at h
  obtain ⟨hj, h1, _⟩ := List.findIdx?_eq_some_iff_getElem.1 h
  refine ⟨ops[j], List.getElem?_eq_getElem hj, ?_⟩
  cases hd : ops[j].dst with
  | none => simp [hd] at h1
  | some d => simp only [hd] at h1; rw [Nat.eq_of_beq_eq_true h1]

theorem nodup_dst : ∀ {ops : List Oper}, nodupB (dstsOf ops) = true → ∀ (i j : Nat) (x y : Oper) (t : Nat), ops[i]? = some x → ops[j]? = some y → x.dst = some t → y.dst = some t → i = j
  | [], _, i, _, _, _, _, h, _, _, _ => by simp at h
  | o :: ops, h, i, j, x, y, t, hx, hy, dx, dy => by
    have rest : nodupB (dstsOf ops) = true := by
      simp only [dstsOf, List.filterMap_cons] at h
      cases hd : o.dst with
      | none => simpa [hd, dstsOf] using h
      | some d => simp only [hd, nodupB, Bool.and_eq_true] at h; exact h.2
    have head : ∀ (k : Nat) (z : Oper), ops[k]? = some z → o.dst = some t → z.dst = some t → False := by
      intro k z hz d1 d2
      simp only [dstsOf, List.filterMap_cons, d1, nodupB, Bool.and_eq_true] at h
      have hm : t ∈ List.filterMap (·.dst) ops := List.mem_filterMap.2 ⟨z, List.mem_of_getElem? hz, d2⟩
      have := h.1
      simp only [Bool.not_eq_true', List.any_eq_false] at this
      exact this t hm (by simp)
    cases i with
    | zero =>
      cases j with
      | zero => rfl
      | succ j => simp at hx hy; subst hx; exact (head j y hy dx dy).elim
    | succ i =>
      cases j with
      | zero => simp at hx hy; subst hy; exact (head i x hx dy dx).elim
      | succ j => simp at hx hy; rw [nodup_dst rest i j x y t hx hy dx dy]

theorem wrOf_at {ops : List Oper} (h : nodupB (dstsOf ops) = true) {i t : Nat} {o : Oper} (ho : ops[i]? = some o) (hd : o.dst = some t) : wrOf ops t = some i := by
  cases hw : wrOf ops t with
  | none =>
    unfold wrOf at hw
    rw [List.findIdx?_eq_none_iff] at hw
    have := hw o (List.mem_of_getElem? ho)
    simp [hd] at this
  | some j =>
    obtain ⟨x, h1, h2⟩ := wrOf_lt hw
    rw [nodup_dst h i j o x t ho h1 hd h2]
end Go.SX
