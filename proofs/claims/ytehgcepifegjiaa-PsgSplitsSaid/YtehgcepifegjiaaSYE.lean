/- Arguments without memory, read; a contract's frame as the row's. -/
import Derived.Test.YtehgcepifegjiaaSYD
import Derived.WalkKit
import Derived.ProofKit
import Derived.OpenShut
namespace Go.SX
open Go.RowKit
variable {P : Program} {R : Reg}

/-- a cell of a kind -/
def CellFit : Option IntKind → Value → Prop
  | some k, v => ∃ n, v = .int k n ∧ (Lit.int k n).wf = true
  | none, v => ∃ b, v = .bool b
inductive CellsFit : Ks → List Value → Prop
  | nil : CellsFit [] []
  | cons {k : Option IntKind} {ks : Ks} {v : Value} {vs : List Value} : CellFit k v → CellsFit ks vs → CellsFit (k :: ks) (v :: vs)
theorem CellsFit.app {ks ks' : Ks} {a b : List Value} (h : CellsFit ks a) (h' : CellsFit ks' b) : CellsFit (ks ++ ks') (a ++ b) := by
  induction h with
  | nil => exact h'
  | cons h _ ih => exact .cons h ih
theorem CellsFit.length {ks : Ks} {a : List Value} (h : CellsFit ks a) : a.length = ks.length := by
  induction h with
  | nil => rfl
  | cons _ _ ih => simp [ih]

variable {H : Type} {enc : TypeId × Value → H} {w : World} {base : Nat} {sp : Nat → Bool} {held : Bool}

theorem cells_size {t s : Nat} (h : sizeB P t s = true) : P.cellsOf t = s := by
  have := sizeB_ok h
  unfold sizeIs at this
  cases hi : P.info? t with
  | none => rw [hi] at this; simp at this
  | some i => rw [hi] at this; simp only [Option.map_some, Option.some.injEq] at this; simp only [Program.cellsOf, hi]; exact this

theorem fields_fit {g : TypeId → Option Ks} {rd : TypeId → List Value → Option (DataW H × List MemPlace)} (ih : ∀ t ks, g t = some ks → P.cellsOf t = ks.length → ∀ cs x, cs.length = ks.length → rd t cs = some x → x.2 = [] ∧ CellsFit ks cs) :
    ∀ (fs : List Field) (off : Nat) (ks : Ks) (cs : List Value) (xs : List (DataW H × List MemPlace)), ksFs P g fs off = some ks → cs.length = off + ks.length →
      (fs.mapM fun f => rd f.type ((cs.drop f.offset).take (P.cellsOf f.type))) = some xs → xs.flatMap (·.2) = [] ∧ CellsFit ks (cs.drop off)
  | [], off, ks, cs, xs, hk, hl, hx => by
    simp only [ksFs, Option.some.injEq] at hk; subst hk
    simp only [List.mapM_nil] at hx
    have : xs = [] := by simpa using hx.symm
    subst this
    have : cs.drop off = [] := List.drop_eq_nil_of_le (by simp at hl; omega)
    rw [this]; exact ⟨rfl, .nil⟩
  | f :: r, off, ks, cs, xs, hk, hl, hx => by
    unfold ksFs at hk
    cases hg : g f.type with
    | none => rw [hg] at hk; cases hk
    | some k1 =>
      rw [hg] at hk
      cases hb : (f.name != "_" && Nat.beq f.offset off && sizeB P f.type k1.length) with
      | false => simp only [hb] at hk; cases hk
      | true =>
        cases hr : ksFs P g r (off + k1.length) with
        | none => simp only [hr] at hk; rw [hb] at hk; cases hk
        | some k2 =>
          simp only [hr] at hk; rw [hb] at hk
          simp only [Option.some.injEq] at hk; subst hk
          simp only [Bool.and_eq_true] at hb
          have hoff : f.offset = off := Nat.eq_of_beq_eq_true hb.1.2
          have hsz : P.cellsOf f.type = k1.length := cells_size hb.2
          rw [List.length_append] at hl
          rw [List.mapM_cons] at hx
          cases h1 : rd f.type ((cs.drop f.offset).take (P.cellsOf f.type)) with
          | none => rw [h1] at hx; cases hx
          | some x1 =>
            rw [h1] at hx
            cases h2 : (r.mapM fun f => rd f.type ((cs.drop f.offset).take (P.cellsOf f.type))) with
            | none => rw [h2] at hx; cases hx
            | some x2 =>
              rw [h2] at hx
              have hx' : xs = x1 :: x2 := by simpa using hx.symm
              subst hx'
              obtain ⟨a1, a2⟩ := ih f.type k1 hg hsz _ _ (by rw [hsz, hoff]; simp only [List.length_take, List.length_drop]; omega) h1
              obtain ⟨b1, b2⟩ := fields_fit ih r (off + k1.length) k2 cs x2 hr (by omega) h2
              refine ⟨by simp only [List.flatMap_cons, a1, b1, List.append_nil], ?_⟩
              have : cs.drop off = (cs.drop off).take k1.length ++ cs.drop (off + k1.length) := by
                rw [← List.drop_drop]; exact (List.take_append_drop _ _).symm
              rw [this]
              rw [hsz, hoff] at a2
              exact a2.app b2

theorem rows_fit {ks : Ks} {rd : List Value → Option (DataW H × List MemPlace)} {s : Nat} (hs : s = ks.length) (ih : ∀ cs x, cs.length = ks.length → rd cs = some x → x.2 = [] ∧ CellsFit ks cs) :
    ∀ (n : Nat) (a : Nat) (cs : List Value) (xs : List (DataW H × List MemPlace)), cs.length = a * s + (rep n ks).length →
      ((List.range' a n).mapM fun i => rd ((cs.drop (i * s)).take s)) = some xs → xs.flatMap (·.2) = [] ∧ CellsFit (rep n ks) (cs.drop (a * s))
  | 0, a, cs, xs, hl, hx => by
    simp only [List.range'_zero, List.mapM_nil] at hx
    have : xs = [] := by simpa using hx.symm
    subst this
    have : cs.drop (a * s) = [] := List.drop_eq_nil_of_le (by simp [rep] at hl; omega)
    rw [this]; exact ⟨rfl, .nil⟩
  | n + 1, a, cs, xs, hl, hx => by
    rw [List.range'_succ, List.mapM_cons] at hx
    simp only [rep, List.length_append] at hl
    cases h1 : rd ((cs.drop (a * s)).take s) with
    | none => rw [h1] at hx; cases hx
    | some x1 =>
      rw [h1] at hx
      cases h2 : ((List.range' (a + 1) n).mapM fun i => rd ((cs.drop (i * s)).take s)) with
      | none => rw [h2] at hx; cases hx
      | some x2 =>
        rw [h2] at hx
        have hx' : xs = x1 :: x2 := by simpa using hx.symm
        subst hx'
        obtain ⟨a1, a2⟩ := ih _ _ (by simp only [List.length_take, List.length_drop]; omega) h1
        obtain ⟨b1, b2⟩ := rows_fit hs ih n (a + 1) cs x2 (by rw [Nat.add_mul]; omega) h2
        refine ⟨by simp only [List.flatMap_cons, a1, b1, List.append_nil], ?_⟩
        have : cs.drop (a * s) = (cs.drop (a * s)).take s ++ cs.drop ((a + 1) * s) := by
          rw [Nat.add_mul, Nat.one_mul, ← List.drop_drop]; exact (List.take_append_drop _ _).symm
        rw [this]; exact a2.app b2

/-- what a reading says of the cells of a type without memory -/
theorem trod_ks : ∀ (d : Nat) (t : TypeId) (ks : Ks), ksOf P d t = some ks → P.cellsOf t = ks.length → ∀ (fuel : Nat) (cs : List Value) (x : DataW H × List MemPlace), cs.length = ks.length → DataW.trod enc P w base sp held fuel t cs = some x → x.2 = [] ∧ CellsFit ks cs
  | 0, _, _, h, _, _, _, _, _, _ => by cases h
  | d + 1, t, ks, h, hsz, 0, cs, x, hl, hx => by simp [DataW.trod] at hx
  | d + 1, t, ks, h, hsz, fuel + 1, cs, x, hl, hx => by
    unfold ksOf at h
    unfold DataW.trod at hx
    split at h
    · rename_i k hu
      simp only [Option.some.injEq] at h; subst h
      rw [hu] at hx
      match cs, hl, hx with
      | [.int k' n], _, hx =>
        simp only at hx
        split at hx
        · rename_i hc
          simp only [Option.some.injEq] at hx; subst hx
          exact ⟨rfl, .cons ⟨n, by rw [hc.1], hc.2⟩ .nil⟩
        · cases hx
    · rename_i hu
      simp only [Option.some.injEq] at h; subst h
      rw [hu] at hx
      match cs, hl, hx with
      | [.bool b], _, hx =>
        simp only [Option.some.injEq] at hx; subst hx
        exact ⟨rfl, .cons ⟨b, rfl⟩ .nil⟩
    · rename_i fs hu
      rw [hu] at hx
      split at h
      · cases h
      · simp only at hx
        split at hx
        · simp only [Option.map_eq_some_iff] at hx
          obtain ⟨xs, h1, rfl⟩ := hx
          obtain ⟨a1, a2⟩ := fields_fit (rd := DataW.trod enc P w base sp held fuel) (fun t ks hk hc cs x hl hx => trod_ks d t ks hk hc fuel cs x hl hx) fs.toList 0 ks cs xs h (by omega) h1
          exact ⟨a1, by simpa using a2⟩
        · cases hx
    · rename_i len e hu
      rw [hu] at hx
      cases he : ksOf P d e with
      | none => rw [he] at h; cases h
      | some k1 =>
        rw [he] at h
        cases hs : sizeB P e k1.length with
        | false => simp only [hs] at h; cases h
        | true =>
          simp only [hs, Option.some.injEq] at h; subst h
          simp only at hx
          split at hx
          · simp only [Option.map_eq_some_iff] at hx
            obtain ⟨xs, h1, rfl⟩ := hx
            rw [List.range_eq_range'] at h1
            obtain ⟨a1, a2⟩ := rows_fit (rd := DataW.trod enc P w base sp held fuel e) (cells_size hs) (fun cs x hl hx => trod_ks d e k1 he (cells_size hs) fuel cs x hl hx) len 0 cs xs (by omega) h1
            exact ⟨a1, by simpa using a2⟩
          · cases hx
    · cases h

/-! ### Cells as numbers -/
theorem wf_bounds {k : IntKind} {n : Int} (h : (Lit.int k n).wf = true) : k.min ≤ n ∧ n ≤ k.max := by
  simpa [Lit.wf] using h
theorem wf_b8 {n : Int} (h : (Lit.int .u8 n).wf = true) : ∃ b : BitVec 8, Value.int .u8 n = .int .u8 b.toNat := by
  obtain ⟨h1, h2⟩ := wf_bounds h
  have e1 : IntKind.min .u8 = 0 := by rfl
  have e2 : IntKind.max .u8 = 255 := by rfl
  refine ⟨BitVec.ofNat 8 n.toNat, ?_⟩
  rw [BitVec.toNat_ofNat]; congr 1; omega
theorem wf_b16 {n : Int} (h : (Lit.int .u16 n).wf = true) : ∃ b : BitVec 16, Value.int .u16 n = .int .u16 b.toNat := by
  obtain ⟨h1, h2⟩ := wf_bounds h
  have e1 : IntKind.min .u16 = 0 := by rfl
  have e2 : IntKind.max .u16 = 65535 := by rfl
  refine ⟨BitVec.ofNat 16 n.toNat, ?_⟩
  rw [BitVec.toNat_ofNat]; congr 1; omega

/-! ### A contract's frame, and its answer -/
/-- the memory that there was is as it was -/
structure Kept (w w' : World) : Prop where
  os : w'.os = w.os
  output : w'.output = w.output
  size : w.heap.size ≤ w'.heap.size
  same : ∀ b, b < w.heap.size → w'.heap[b]? = w.heap[b]?
theorem fr_kept {ids ids' : Nm} {ob ob' : Ob R} {w w' : World} (h : Fr ids ob w ids' ob' w') (hno : ∀ b, ¬ exB ids ob b) : Kept w w' :=
  ⟨h.os, h.output, h.size, fun b hb => h.same b hb (hno b)⟩
theorem Kept.keptBut {w w' : World} (h : Kept w w') (may : MemPlace → Prop) : w.keptBut w' may := by
  refine ⟨h.os, h.output, fun i hi => ?_⟩
  rw [h.same i hi]
  split
  · rename_i e1 e2
    rw [e1] at e2
    simp only [Option.some.injEq, Obj.cells.injEq] at e2
    obtain ⟨rfl, rfl, rfl⟩ := e2
    exact ⟨rfl, rfl, rfl, fun _ _ => rfl⟩
  · rename_i e1 e2
    rw [e1] at e2
    simp only [Option.some.injEq, Obj.map.injEq] at e2
    obtain ⟨rfl, rfl⟩ := e2
    exact .inr ⟨rfl, rfl⟩
  · rfl
theorem Kept.frozen {w w' : World} (h : Kept w w') {a : Addr} (ha : a.block < w.heap.size) : w'.frozen? a = w.frozen? a := by
  simp only [World.frozen?, h.same _ ha]
end Go.SX
namespace Go.ChangeShapes
variable {H : Type} {enc : TypeId × Value → H} {P : Program}
/-- a call that leaves the memory that there was, and answers without memory -/
theorem post_of_kept {f : Func} {s : ChangeSpec} {apart fresh handsOn again : Bool} {W W' : World} {args : Array Value} {v : Value} {ds gs : List (DataW H)} {before pa pv : List MemPlace}
    (hW : DataW.Whole enc P f.params.toList s.vars apart W args.toList ds gs before)
    (hres : ∀ (b : Nat) (sp : Nat → Bool) (hd : Bool), DataW.TrodAll enc P W' b sp hd f.resultTypes.toList (v.resultList f.resultTypes.size) (s.fn H (ds ++ gs)).results [])
    (hargs : ∀ sp : Nat → Bool, (∀ p ∈ before, sp p.block = true) → DataW.TrodAll enc P W' 0 sp true f.params.toList args.toList (s.fn H (ds ++ gs)).args pa)
    (hvars : ∀ sp : Nat → Bool, (∀ p ∈ before, sp p.block = true) → DataW.TrodVars enc P W' sp s.vars (s.fn H (ds ++ gs)).vars pv)
    (hps : before = pa ++ pv) (hk : Go.SX.Kept W W')
    (hok : ∀ (j : Nat) (t : TypeId) (r : Value), f.resultTypes[j]? = some t → (v.resultList f.resultTypes.size)[j]? = some r → Value.okWide P W' .any 0 t r) :
    s.post enc P f apart fresh handsOn again W args v W' := by
  have hold : ∀ p ∈ before, (fun b => decide (b < W.heap.size)) p.block = true := fun p hp => by simpa using hW.lt p hp
  refine ⟨ds, gs, before, [], pa, pv, hW, hres _ _ _, hargs _ hold, hvars _ hold, hk.keptBut _, fun _ => ?_⟩
  have hlt := hW.lt
  obtain ⟨_, _, _, _, _, hz, hn⟩ := hW
  refine ⟨hok, _, _, ([] ++ pa) ++ pv, ⟨[] ++ pa, pv, trodAll_append (hargs _ (fun _ _ => rfl)) (hres _ _ _), hvars _ (fun _ _ => rfl), rfl, ?_, ?_⟩, ?_⟩
  · intro b off hp
    have hp' : MemPlace.cell b off ∈ before := by rw [hps]; simpa using hp
    rw [hk.frozen (a := ⟨b, off, none⟩) (hlt _ hp')]
    exact hz b off hp'
  · intro ha
    have := hn ha
    rw [hps] at this
    simpa using this
  · intro p hp _
    rw [hps]
    simpa using hp
end Go.ChangeShapes
