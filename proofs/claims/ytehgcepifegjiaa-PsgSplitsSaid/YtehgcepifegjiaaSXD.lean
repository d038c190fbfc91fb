/- Memory: what loads, stores and new blocks do to a state. -/
import Derived.Test.YtehgcepifegjiaaSXC
namespace Go.SX
variable {R : Reg} {P : Program}

theorem WOk.ext {ids ids' : Nm} {x : W R} {v : Value} (h : WOk ids x v) (hl : LeN ids ids') : WOk ids' x v := by
  cases x with
  | un => trivial
  | v x => intro J hJ; exact h J (hl.le hJ)
  | tup vs => intro J hJ; exact h J (hl.le hJ)

theorem WOk.v {ids : Nm} {x : V R} {v : Value} (h : WOk ids (.v x) v) {J : Tot} (hJ : Le ids J) : v = denV J x := h J hJ
theorem WOk.v0 {ids : Nm} {x : V R} {v : Value} (h : WOk ids (.v x) v) : v = denV (tot ids) x := h _ (Le_tot ids)

theorem lt_of_heap {w : World} {b : Nat} {o : Go.Obj} (h : w.heap[b]? = some o) : b < w.heap.size := (Array.getElem?_eq_some_iff.1 h).1

theorem add_flat (g off j : Nat) : (⟨g, off, none⟩ : Addr).add j = ⟨g, off + j, none⟩ := by unfold Addr.add; split <;> simp_all

theorem run_load_seg (w : World) (g off : Nat) (c : Array Value) (e : TypeId) (fz : Nat × Nat) (A m B : List Value) (hg : w.heap[g]? = some (.cells c e fz))
    (hc : c.toList = A ++ (m ++ B)) (hl : A.length = off) : (loadCells ⟨g, off, none⟩ m.length).run P w = .ok m.toArray w := by
  refine run_loadCells_list (P := P) w ⟨g, off, none⟩ m fun j v hv => ?_
  rw [add_flat, cell_of_row w g (off + j) c e fz hg, ← Array.getElem?_toList, hc, List.getElem?_append_right (by omega),
    show off + j - A.length = j by omega, List.getElem?_append_left (by have := (List.getElem?_eq_some_iff.1 hv).1; omega)]
  exact hv

theorem run_store_seg (w : World) (g off : Nat) (c : Array Value) (e : TypeId) (A o B vs : List Value) (hg : w.heap[g]? = some (.cells c e (0, 0)))
    (hc : c.toList = A ++ (o ++ B)) (hl : A.length = off) (ho : o.length = vs.length) (h1 : ∀ v ∈ vs, v.oneCell' = true) :
    (storeCells ⟨g, off, none⟩ vs).run P w = .ok () (w.setRow g (A ++ (vs ++ B)).toArray) := by
  have hsz : c.size = off + vs.length + B.length := by
    have := congrArg List.length hc; simp at this; omega
  have := run_storeCells_at P g off e vs 0 c w hg (by omega) h1
  simp only [Nat.add_zero] at this
  rw [this, hc, ← hl, List.take_left, ← List.append_assoc A o B, ← ho,
    List.drop_left' (by simp), List.append_assoc]

/-- Where an object's own block is as it was, the object is. -/
theorem OOk.keep {ids : Nm} {p : Pl} {w w' : World} {x : O R} (h : OOk ids p w x) (hs : w.heap.size ≤ w'.heap.size)
    (hb : ∀ b, x.blk p = some b → w'.heap[b]? = w.heap[b]?) : OOk ids p w' x := by
  cases x with
  | none => trivial
  | agg is =>
    obtain ⟨c, e, h1, h2⟩ := h
    exact ⟨c, e, by rw [hb _ rfl]; exact h1, h2⟩
  | lst a n own e =>
    cases own with
    | true =>
      obtain ⟨xs, h1, h2⟩ := h
      refine ⟨xs, ⟨h1.1, ?_⟩, h2⟩
      rcases h1.2 with hn | ⟨g, cap, cur, hv, hb', hg, rest⟩
      · exact .inl hn
      · refine .inr ⟨g, cap, cur, hv, hb', ?_, rest⟩
        rw [hb g (by simp [O.blk, hv, Value.ownBlock])]
        exact hg
    | false =>
      rcases h with h | ⟨ad, cap, xs, hv, hs', hlt, hn, hc, hx, h1⟩
      · exact .inl h
      · refine .inr ⟨ad, cap, xs, hv, hs', by omega, hn, hc, hx, fun j v hj => ?_⟩
        have := h1 j v hj
        have hbk : (ad.add j).block = ad.block := by unfold Addr.add; split <;> rfl
        have hc2 := World.cell?_of_block (w := w) (w' := w') (a := ad.add j) (by rw [hbk]; exact hb ad.block (by simp [O.blk, hv, Value.ownBlock]))
        rw [hc2]; exact this

theorem OOk.ext {ids ids' : Nm} {p : Pl} {w : World} {x : O R} (h : OOk ids p w x) (hl : LeN ids ids') : OOk ids' p w x := by
  cases x with
  | none => trivial
  | agg is => obtain ⟨c, t, h1, h2⟩ := h; exact ⟨c, t, h1, fun J hJ => h2 J (hl.le hJ)⟩
  | lst a n own t =>
    cases own with
    | true => obtain ⟨xs, h1, h2⟩ := h; exact ⟨xs, h1, fun J hJ => h2 J (hl.le hJ)⟩
    | false =>
      rcases h with h | ⟨ad, cap, xs, hv, hs, hlt, hn, hc, hx, h1⟩
      · exact .inl h
      · exact .inr ⟨ad, cap, xs, hv, hs, hlt, hn, hc, fun J hJ => hx J (hl.le hJ), h1⟩

theorem OOk.blk_lt {ids : Nm} {p : Pl} {w : World} {x : O R} (h : OOk ids p w x) {b : Nat} (hb : x.blk p = some b) : b < w.heap.size := by
  cases x with
  | none => simp [O.blk] at hb
  | agg is => obtain ⟨c, t, h1, h2⟩ := h; simp only [O.blk, Option.some.injEq] at hb; subst hb; exact lt_of_heap h1
  | lst a n own t =>
    simp only [O.blk] at hb
    cases own with
    | true => obtain ⟨xs, h1, h2⟩ := h; exact (h1.lt b hb).2
    | false =>
      rcases h with ⟨h, _⟩ | ⟨ad, cap, xs, hv, hs, hlt, hn, hc, hx, h1⟩
      · rw [h] at hb; simp [Value.ownBlock] at hb
      · rw [hv] at hb; simp only [Value.ownBlock, Option.some.injEq] at hb; omega

/-- an object that is there has its place, and is what it is -/
theorem ObOk.here {ids : Nm} {ob : Ob R} {w : World} (h : ObOk ids ob w) {o : Nat} {x : O R} (ho : ob o = x) (hx : x ≠ .none) :
    ids o = some (tot ids o) ∧ (∀ J, Le ids J → J o = tot ids o) ∧ OOk ids (tot ids o) w x := by
  obtain ⟨p, hp, hok⟩ := h.ok o x ho hx
  have ht : tot ids o = p := Le_tot ids o p hp
  rw [ht]
  exact ⟨hp, fun J hJ => hJ o p hp, hok⟩

theorem O.blk_none {p : Pl} : (O.none : O R).blk p = Option.none := rfl

theorem ObOk.blk_lt {ids : Nm} {ob : Ob R} {w : World} (h : ObOk ids ob w) {o b : Nat} {p : Pl} (hp : ids o = some p) (hb : (ob o).blk p = some b) : b < w.heap.size := by
  by_cases hx : ob o = .none
  · rw [hx] at hb; simp [O.blk] at hb
  · obtain ⟨p', hp', hok⟩ := h.ok o _ rfl hx
    rw [hp] at hp'; cases hp'
    exact hok.blk_lt hb

def setN (ids : Nm) (n : Nat) (p : Pl) : Nm := fun o => if o = n then some p else ids o
def upd1 (ob : Ob R) (n : Nat) (x : O R) : Ob R := fun o => if o = n then x else ob o

theorem LeN.setN {ids : Nm} {n : Nat} (h : ids n = none) (p : Pl) : LeN ids (setN ids n p) := by
  intro o q hq
  simp only [SX.setN]
  split
  · rename_i e; subst e; rw [h] at hq; cases hq
  · exact hq

theorem Le.at_setN {ids : Nm} {n : Nat} {p : Pl} {J : Tot} (h : Le (setN ids n p) J) : J n = p := h n p (by simp [setN])

/-- a new object in new memory -/
theorem ObOk.push {ids : Nm} {ob : Ob R} {w w' : World} (h : ObOk ids ob w) {n : Nat} (hfree : ids n = none) (p : Pl) (x : O R)
    (hs : w.heap.size ≤ w'.heap.size) (hb : ∀ b, b < w.heap.size → w'.heap[b]? = w.heap[b]?) (hx : OOk (setN ids n p) p w' x) (hn : ∀ b, x.blk p = some b → w.heap.size ≤ b) :
    ObOk (setN ids n p) (upd1 ob n x) w' where
  ok o y ho hy := by
    by_cases e : o = n
    · subst e; simp only [upd1, if_true] at ho; subst ho
      exact ⟨p, by simp [setN], hx⟩
    · simp only [upd1, if_neg e] at ho
      obtain ⟨q, hq, hok⟩ := h.ok o y ho hy
      exact ⟨q, by simp [setN, e, hq], (hok.keep hs fun b hbk => hb b (hok.blk_lt hbk)).ext (LeN.setN hfree p)⟩
  dist o o' q q' b hne hq hq' hex hbk := by
    by_cases e : o = n
    · have e' : o' ≠ n := fun h => hne (e.trans h.symm)
      subst e
      simp only [setN, if_true, Option.some.injEq, if_neg e'] at hq hq'
      simp only [upd1, if_true, if_neg e'] at hex hbk ⊢
      subst hq
      intro hb2
      have := hn b hbk
      have := h.blk_lt hq' hb2
      omega
    · simp only [setN, if_neg e] at hq
      simp only [upd1, if_neg e] at hex hbk
      by_cases e' : o' = n
      · subst e'
        simp only [setN, if_true, Option.some.injEq] at hq'
        simp only [upd1, if_true]
        subst hq'
        intro hb2
        have := hn b hb2
        have := h.blk_lt hq hbk
        omega
      · simp only [setN, if_neg e'] at hq'
        simp only [upd1, if_neg e']
        exact h.dist o o' q q' b hne hq hq' hex hbk

/-- an object's own block is written anew -/
theorem ObOk.set {ids : Nm} {ob : Ob R} {w w' : World} (h : ObOk ids ob w) {o : Nat} {p : Pl} {x x' : O R} (ho : ob o = x) (hp : ids o = some p) (hex : x.excl = true)
    (hblk : x'.blk p = x.blk p) (hs : w.heap.size ≤ w'.heap.size) (hb : ∀ b, x.blk p ≠ some b → w'.heap[b]? = w.heap[b]?)
    (hx : OOk ids p w' x') : ObOk ids (upd1 ob o x') w' := by
  subst ho
  refine ⟨fun i y hi hy => ?_, fun i j q q' b hne hq hq' hye hyb => ?_⟩
  · by_cases e : i = o
    · subst e; simp only [upd1, if_true] at hi; subst hi; exact ⟨p, hp, hx⟩
    · simp only [upd1, if_neg e] at hi
      obtain ⟨q, hq, hok⟩ := h.ok i y hi hy
      refine ⟨q, hq, hok.keep hs fun b hbk => hb b fun hc => ?_⟩
      exact h.dist o i p q b (Ne.symm e) hp hq hex hc (by rw [hi]; exact hbk)
  · by_cases e1 : i = o
    · have e2 : j ≠ o := fun h => hne (e1.trans h.symm)
      subst e1
      rw [hp] at hq; cases hq
      simp only [upd1, if_true, if_neg e2] at hyb ⊢
      rw [hblk] at hyb
      exact h.dist i j p q' b hne hp hq' hex hyb
    · simp only [upd1, if_neg e1] at hye hyb
      by_cases e2 : j = o
      · subst e2
        rw [hp] at hq'; cases hq'
        simp only [upd1, if_true]
        rw [hblk]; exact h.dist i j q p b hne hq hp hye hyb
      · simp only [upd1, if_neg e2]
        exact h.dist i j q q' b hne hq hq' hye hyb

theorem exB_set {ids : Nm} {ob : Ob R} {o : Nat} {p : Pl} {x' : O R} (hp : ids o = some p) (hex : (ob o).excl = true) (hblk : x'.blk p = (ob o).blk p) (b : Nat)
    (h : exB ids (upd1 ob o x') b) : exB ids ob b := by
  obtain ⟨i, q, hq, hy, hb⟩ := h
  by_cases e : i = o
  · subst e
    rw [hp] at hq; cases hq
    simp only [upd1, if_true] at hb
    exact ⟨i, p, hp, hex, by rw [← hblk]; exact hb⟩
  · simp only [upd1, if_neg e] at hy hb
    exact ⟨i, q, hq, hy, hb⟩

theorem exB_push {ids : Nm} {ob : Ob R} {n : Nat} {p : Pl} {x : O R} {b : Nat} (h : exB (setN ids n p) (upd1 ob n x) b) : exB ids ob b ∨ x.blk p = some b := by
  obtain ⟨i, q, hq, hy, hb⟩ := h
  by_cases e : i = n
  · subst e
    simp only [setN, if_true, Option.some.injEq] at hq; subst hq
    simp only [upd1, if_true] at hb
    exact .inr hb
  · simp only [setN, if_neg e] at hq
    simp only [upd1, if_neg e] at hy hb
    exact .inl ⟨i, q, hq, hy, hb⟩
end Go.SX
