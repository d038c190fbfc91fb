/- Operations: what each makes of a state, and that the model does the same. -/
import Derived.Test.YtehgcepifegjiaaSXD
namespace Go.SX
variable {R : Reg} {P : Program}

structure Res (R : Reg) where
  need : Option Prop
  val : W R
  upd : List (Nat × O R)
  new : List (O R)

def apU : Ob R → List (Nat × O R) → Ob R
  | ob, [] => ob
  | ob, (n, x) :: r => apU (upd1 ob n x) r
def apN : Ob R → Nat → List (O R) → Ob R
  | ob, _, [] => ob
  | ob, n, x :: r => apN (upd1 ob n x) (n + 1) r
def Res.ap (r : Res R) (nb : Nat) (ob : Ob R) : Ob R := apN (apU ob r.upd) nb r.new

/-- A function's answer: of its arguments, the objects, and the first free name. -/
abbrev Spec (R : Reg) := List (W R) → Ob R → Nat → Option (Res R)

structure Env (R : Reg) where
  ti : Nat → Option (TI R)
  call : Nat → Option (Spec R)
  loop : Nat → Option (St R → Out R)
  unroll : Nat

def constS : Value → Option S
  | .bool b => some (.kb b)
  | .int k n => some (.kn k n)
  | .string s => some (.str s.data.toList)
  | .pointer none => some .nilp
  | .slice none 0 0 => some .nils
  | .nilIface => some .nili
  | _ => none

def constL : List Value → Option (List (I R))
  | [] => some []
  | v :: vs => match constS v, constL vs with
    | some s, some r => some (.s s :: r)
    | _, _ => none

def constW : Value → W R
  | .agg cs => match constL cs.toList with
    | some l => .v (.agg l)
    | none => .un
  | v => match constS v with
    | some s => .v (.s s)
    | none => .un

def evS (st : St R) : Operand → W R
  | .tmp t => st.sl.getD t .un
  | .const v => constW v
  | .func f => .v (.s (.fn f []))
  | .global _ => .un

theorem constS_ok {v : Value} {s : S} (h : constS v = some s) (I : Tot) : v = den I s := by
  unfold constS at h
  split at h <;> first | (simp only [Option.some.injEq] at h; subst h; simp [den]) | cases h

theorem constL_ok : ∀ {vs : List Value} {l : List (I R)}, constL vs = some l → ∀ I, vs = flat I l
  | [], l, h, I => by simp [constL] at h; subst h; rfl
  | v :: vs, l, h, I => by
    simp only [constL] at h
    cases h1 : constS v with
    | none => simp [h1] at h
    | some s =>
      cases h2 : constL (R := R) vs with
      | none => simp [h1, h2] at h
      | some r =>
        simp only [h1, h2, Option.some.injEq] at h; subst h
        rw [flat_cons, ← constL_ok h2 I, constS_ok h1 I]; rfl

theorem constW_ok (ids : Nm) (v : Value) : WOk ids (constW (R := R) v) v := by
  have hs : ∀ v : Value, WOk ids ((match constS v with | some s => .v (.s s) | none => .un : W R)) v := by
    intro v
    cases h : constS v with
    | none => trivial
    | some s => intro J _; exact constS_ok h J
  unfold constW
  split
  · rename_i cs
    cases h : constL (R := R) cs.toList with
    | none => trivial
    | some l =>
      intro J _
      simp only [denW, denV]
      rw [← constL_ok h J]
  · exact hs _

theorem evS_ok {ids : Nm} {st : St R} {a : Act} {w : World} (h : Sim ids st a w) (x : Operand) : WOk ids (evS st x) (a.eval x) := by
  cases x with
  | tmp t => exact h.slots t
  | const v => exact constW_ok ids v
  | func f => intro J _; rfl
  | global g => trivial

/-- The model's run of an operation comes to what the result says. -/
def ResOk (ids : Nm) (ob : Ob R) (nb : Nat) (w : World) (r : Res R) (run : Result Next) : Prop :=
  ∃ v w' ids', (run = .ok (.value v) w' ∨ (run = .ok .skip w' ∧ v = undef)) ∧ WOk ids' r.val v ∧ ObOk ids' (r.ap nb ob) w' ∧
    LeN ids ids' ∧ (∀ o, ids' o = ids o ∨ nb ≤ o ∧ o < nb + r.new.length) ∧ Fr ids ob w ids' (r.ap nb ob) w'

def ok (p : Option Prop) (v : W R) : Option (Res R) := some ⟨p, v, [], []⟩

theorem ResOk.pure {ids : Nm} {ob : Ob R} {nb : Nat} {w : World} {p : Option Prop} {x : W R} {run : Result Next} {v : Value} (ho : ObOk ids ob w)
    (hr : run = .ok (.value v) w) (hv : WOk ids x v) : ResOk ids ob nb w ⟨p, x, [], []⟩ run :=
  ⟨v, w, ids, .inl hr, hv, ho, LeN.refl ids, fun _ => .inl rfl, Fr.refl _ _ _⟩

/-- a run that leaves the world as it is -/
def PureOk (ids : Nm) (w : World) (r : Res R) (run : Result Next) : Prop :=
  ∃ v, run = .ok (.value v) w ∧ WOk ids r.val v ∧ r.upd = [] ∧ r.new = []
theorem PureOk.of {ids : Nm} {w : World} {p : Option Prop} {x : W R} {run : Result Next} {v : Value} (hr : run = .ok (.value v) w) (hv : WOk ids x v) : PureOk ids w ⟨p, x, [], []⟩ run :=
  ⟨v, hr, hv, rfl, rfl⟩
theorem PureOk.res {ids : Nm} {ob : Ob R} {nb : Nat} {w : World} {r : Res R} {run : Result Next} (ho : ObOk ids ob w) (h : PureOk ids w r run) : ResOk ids ob nb w r run := by
  obtain ⟨v, hr, hv, hu, hn⟩ := h
  obtain ⟨p, x, u, n⟩ := r
  simp only at hu hn; subst hu; subst hn
  exact ResOk.pure ho hr hv

theorem run_loadVar_agg {t : Nat} (w : World) (g off : Nat) (c : Array Value) (e : TypeId) (fz : Nat × Nat) (A m B : List Value) (hg : w.heap[g]? = some (.cells c e fz))
    (hc : c.toList = A ++ (m ++ B)) (hl : A.length = off) (hs : sizeIs P t m.length) (ha : aggIs P t true) : (loadVar t ⟨g, off, none⟩).run P w = .ok (.agg m.toArray) w := by
  unfold loadVar
  simp only [Sem.run_bind, run_isAgg ha, Result.andThen_ok, if_true, run_sizeOf hs, run_load_seg w g off c e fz A m B hg hc hl, Sem.run_pure]

theorem run_load_cell {t : Nat} (w : World) (a : Addr) (v : Value) (h : w.cell? a = some v) (ha : aggIs P t false) : (loadVar t a).run P w = .ok v w := by
  unfold loadVar
  simp only [Sem.run_bind, run_isAgg ha, Result.andThen_ok, Bool.false_eq_true, if_false, run_load, h]

theorem cell_of_seg (w : World) (g off : Nat) (c : Array Value) (e : TypeId) (fz : Nat × Nat) (A B : List Value) (v : Value) (hg : w.heap[g]? = some (.cells c e fz))
    (hc : c.toList = A ++ (v :: B)) (hl : A.length = off) : w.cell? ⟨g, off, none⟩ = some v := by
  rw [cell_of_row w g off c e fz hg, ← Array.getElem?_toList, hc, List.getElem?_append_right (by omega)]
  simp [hl]

/-- One item as a scalar's list: which cell of a long row. -/
theorem big_cell (ids : Tot) (n : Nat) (a : Arr R) (i : Nat) (hi : i < n) (y : S) (hy : a.at i = [y]) (h1 : a.esz = 1) :
    ∃ A B, flatI ids (.big n a) = A ++ (den ids y :: B) ∧ A.length = i := by
  have hr : List.range n = List.range i ++ i :: (List.range' (i + 1) (n - (i + 1))) := by
    have h1 : List.range' 0 n = List.range' 0 (i + (n - i)) := by congr 1; omega
    rw [List.range_eq_range', List.range_eq_range', h1, ← List.range'_append_1, Nat.zero_add, show n - i = (n - (i + 1)) + 1 by omega, List.range'_succ]
  refine ⟨(List.range i).flatMap fun j => (a.at j).map (den ids), (List.range' (i + 1) (n - (i + 1))).flatMap fun j => (a.at j).map (den ids), ?_, ?_⟩
  · simp only [flatI]
    rw [hr, List.flatMap_append, List.flatMap_cons, hy]
    rfl
  · have := flatI_len ids (.big i a)
    simpa [flatI, I.size, h1] using this

def Arr.item (a : Arr R) (i : Nat) : List (I R) :=
  match a with
  | .rows k f => [.obj k (f i)]
  | .a8 f => [.s (.b8 (f i))]
  | .ai f => [.s (.int (f i))]
  | .a32 f => [.s (.b32 (f i))]
  | .ab f => [.s (.bool (f i))]

theorem item_flat (ids : Tot) (a : Arr R) (i : Nat) : flat ids (a.item i) = (a.at i).map (den ids) := by
  cases a <;> simp [Arr.item, Arr.at, flatI]

def doLoad (ti : TI R) (x : W R) (ob : Ob R) : Option (Res R) :=
  match x with
  | .v (.s (.ptr o off)) =>
    match ob o with
    | .agg is =>
      match seg is off ti.size with
      | some m =>
        match ti.agg with
        | true => ok none (.v (.agg m))
        | false => match m with
          | [.s y] => ok none (.v (.s y))
          | _ => none
      | none => none
    | _ => none
  | .v (.s (.ptri o off i)) =>
    match ti.agg with
    | true => none
    | false =>
      match ob o with
      | .agg is =>
        match spl is off with
        | some (_, .big n a :: _) =>
          match a.esz, a.at i with
          | 1, [y] => ok (some (i < n)) (.v (.s y))
          | _, _ => none
        | _ => none
      | _ => none
  | .v (.s (.lp o sz i)) =>
    match ob o with
    | .lst a n _ _ =>
      match Nat.beq sz a.esz, Nat.beq ti.size sz with
      | true, true =>
        match ti.agg with
        | true => ok (some (i < n)) (.v (.agg (a.item i)))
        | false => match a.at i with
          | [y] => ok (some (i < n)) (.v (.s y))
          | _ => none
      | _, _ => none
    | _ => none
  | _ => none

theorem at_len (a : Arr R) (j : Nat) : (a.at j).length = a.esz := by cases a <;> simp [Arr.at, Arr.esz, R.len]

theorem lcells_get (ids : Tot) (a : Arr R) (n i r : Nat) (hi : i < n) (hr : r < a.esz) : (lcells ids a n)[i * a.esz + r]? = ((a.at i).map (den ids))[r]? := by
  induction n with
  | zero => omega
  | succ n ih =>
    have hl : (lcells ids a n).length = n * a.esz := by
      have := flatI_len ids (.big n a); simpa [flatI, I.size, lcells] using this
    have hsplit : lcells ids a (n + 1) = lcells ids a n ++ (a.at n).map (den ids) := by
      simp [lcells, List.range_succ]
    rw [hsplit]
    by_cases h : i < n
    · have : i * a.esz + r < n * a.esz := by
        have : (i + 1) * a.esz ≤ n * a.esz := Nat.mul_le_mul_right _ h
        rw [Nat.add_mul] at this; omega
      rw [List.getElem?_append_left (by omega)]
      exact ih h
    · have : i = n := by omega
      subst this
      rw [List.getElem?_append_right (by omega), hl]
      congr 1; omega

/-- where the cells of a list's element lie -/
theorem lst_cells {ids : Nm} {p : Pl} {w : World} {a : Arr R} {n : Nat} {own : Bool} {e : Nat} (h : OOk ids p w (.lst a n own e)) (i : Nat) (hi : i < n) {J : Tot} (hJ : Le ids J) :
    ∃ ad cap, p.val = .slice (some ad) n cap ∧ ad.spot = none ∧ n ≤ cap ∧ cap ≤ maxLen ∧ ∀ r v, ((a.at i).map (den J))[r]? = some v → w.cell? (ad.add (i * a.esz + r)) = some v := by
  cases own with
  | true =>
    obtain ⟨xs, h1, h2⟩ := h
    have hxs := h2 J hJ
    rcases h1.2 with ⟨_, h0⟩ | ⟨g, cap, cur, hv, hb, hg, hn, hc, hcs, ht⟩
    · omega
    · refine ⟨⟨g, 0, none⟩, cap, hv, rfl, hn, hc, fun r v hr => ?_⟩
      have hrl : r < a.esz := by have := (List.getElem?_eq_some_iff.1 hr).1; simpa [at_len] using this
      have hget := lcells_get J a n i r hi hrl
      rw [← hxs, hr] at hget
      exact h1.cells (g := g) (by simp [hv, Value.ownBlock]) _ _ hget
  | false =>
    rcases h with ⟨_, h0⟩ | ⟨ad, cap, xs, hv, hs, hlt, hn, hc, hx, h1⟩
    · omega
    · refine ⟨ad, cap, hv, hs, hn, hc, fun r v hr => ?_⟩
      have hrl : r < a.esz := by have := (List.getElem?_eq_some_iff.1 hr).1; simpa [at_len] using this
      have hget := lcells_get J a n i r hi hrl
      rw [← hx J hJ, hr] at hget
      exact h1 _ _ hget

theorem add_add (a : Addr) (m n : Nat) (hs : a.spot = none) : (a.add m).add n = a.add (m + n) := by
  obtain ⟨b, o, s⟩ := a
  simp only at hs; subst hs
  rw [add_flat, add_flat, add_flat, Nat.add_assoc]

theorem doLoad_pure {t : Nat} {ti : TI R} (hti : TIok P t ti) {ids : Nm} {ob : Ob R} {w : World} (ho : ObOk ids ob w) {x : W R} {v : Value} (hx : WOk ids x v) {r : Res R}
    (h : doLoad ti x ob = some r) (hp : NeedP r.need) : PureOk ids w r ((do pure (.value (← Instr.loadAt t v)) : Sem Next).run P w) := by
  have hagg : aggIs P t ti.agg := by
    obtain ⟨d, hd, ha, _⟩ := hti.desc
    simp [aggIs, hd, ha]
  have h0 := Le_tot ids
  unfold doLoad at h
  split at h
  · rename_i o off
    cases hob : ob o <;> simp only [hob, reduceCtorEq] at h
    rename_i is
    cases hseg : seg is off ti.size with
    | none => simp [hseg] at h
    | some m =>
      simp only [hseg] at h
      obtain ⟨_, hpl, c, e, hg, hc⟩ := ho.here hob (by simp)
      have hv := hx.v0
      simp only [denV, den] at hv
      subst hv
      cases ha : ti.agg with
      | true =>
        simp only [ha, ok, Option.some.injEq] at h; subst h
        obtain ⟨hml, A, B, hAB, hAl⟩ := seg_ok hseg (tot ids)
        rw [← hc _ h0] at hAB
        have hld := run_loadVar_agg (P := P) w (tot ids o).blk off c e (0, 0) A (flat (tot ids) m) B hg hAB hAl (by rw [hml]; exact hti.size) (ha ▸ hagg)
        refine PureOk.of (v := .agg (flat (tot ids) m).toArray) (by simp [Instr.loadAt, Instr.sureAddr, hld]) fun J hJ => ?_
        simp only [denW, denV]
        obtain ⟨hml', A', B', hAB', hAl'⟩ := seg_ok hseg J
        rw [← hc J hJ] at hAB'
        have h1 : (c.toList.drop off).take ti.size = flat (tot ids) m := by rw [hAB, ← hAl, List.drop_left, ← hml, List.take_left]
        have h2 : (c.toList.drop off).take ti.size = flat J m := by rw [hAB', ← hAl', List.drop_left, ← hml', List.take_left]
        rw [← h1, h2]
      | false =>
        simp only [ha] at h
        split at h
        · rename_i y
          simp only [ok, Option.some.injEq] at h; subst h
          obtain ⟨hml, A, B, hAB, hAl⟩ := seg_ok hseg (tot ids)
          rw [← hc _ h0] at hAB
          have hAB0 : c.toList = A ++ (den (tot ids) y :: B) := by simpa [flatI] using hAB
          have hcell := cell_of_seg w (tot ids o).blk off c e (0, 0) A B _ hg hAB0 hAl
          refine PureOk.of (v := den (tot ids) y) (by simp [Instr.loadAt, Instr.sureAddr, run_load_cell w _ _ hcell (ha ▸ hagg)]) fun J hJ => ?_
          simp only [denW, denV]
          obtain ⟨hml', A', B', hAB', hAl'⟩ := seg_ok hseg J
          rw [← hc J hJ] at hAB'
          have h1 : c.toList[off]? = some (den (tot ids) y) := by rw [hAB0, List.getElem?_append_right (by omega), hAl]; simp
          have h2 : c.toList[off]? = some (den J y) := by
            have : c.toList = A' ++ (den J y :: B') := by simpa [flatI] using hAB'
            rw [this, List.getElem?_append_right (by omega), hAl']; simp
          rw [h1] at h2; exact Option.some.inj h2
        · cases h
  · rename_i o off i
    cases ha : ti.agg with
    | true => simp [ha] at h
    | false =>
      simp only [ha] at h
      cases hob : ob o <;> simp only [hob, reduceCtorEq] at h
      rename_i is
      split at h
      · rename_i pre n a post hspl
        split at h
        · rename_i y h1 hy
          simp only [ok, Option.some.injEq] at h; subst h
          simp only [NeedP] at hp
          obtain ⟨_, hpl, c, e, hg, hc⟩ := ho.here hob (by simp)
          have hv := hx.v0
          simp only [denV, den] at hv
          subst hv
          have hcl : ∀ J, Le ids J → ∃ A B, c.toList = A ++ (den J y :: B) ∧ A.length = off + i := by
            intro J hJ
            obtain ⟨e1, l1⟩ := spl_ok is off _ _ hspl J
            obtain ⟨A2, B2, e2, l2⟩ := big_cell J n a i hp y hy h1
            rw [hc J hJ, e1, flat_cons, e2]
            exact ⟨flat J pre ++ A2, B2 ++ flat J post, by simp, by simp [l1, l2]⟩
          obtain ⟨A, B, hAB, hAl⟩ := hcl _ h0
          have hcell := cell_of_seg w (tot ids o).blk (off + i) c e (0, 0) A B _ hg hAB hAl
          refine PureOk.of (v := den (tot ids) y) (by simp [Instr.loadAt, Instr.sureAddr, run_load_cell w _ _ hcell (ha ▸ hagg)]) fun J hJ => ?_
          simp only [denW, denV]
          obtain ⟨A', B', hAB', hAl'⟩ := hcl J hJ
          have h1 : c.toList[off + i]? = some (den (tot ids) y) := by rw [hAB, List.getElem?_append_right (by omega), hAl]; simp
          have h2 : c.toList[off + i]? = some (den J y) := by rw [hAB', List.getElem?_append_right (by omega), hAl']; simp
          rw [h1] at h2; exact Option.some.inj h2
        · cases h
      · cases h
  · rename_i o sz i
    cases hob : ob o <;> simp only [hob, reduceCtorEq] at h
    rename_i a n own et
    split at h
    · rename_i hb1 hb2
      have hsz : sz = a.esz := Nat.eq_of_beq_eq_true hb1
      have hts : ti.size = sz := Nat.eq_of_beq_eq_true hb2
      subst hsz
      obtain ⟨_, hpl, hok⟩ := ho.here hob (by simp)
      have hv := hx.v0
      simp only [denV, den] at hv
      cases ha : ti.agg with
      | true =>
        simp only [ha, ok, Option.some.injEq] at h; subst h
        simp only [NeedP] at hp
        obtain ⟨ad, cap, e1, e2, _, _, e3⟩ := lst_cells hok i hp h0
        have hld : (loadCells (ad.add (i * a.esz)) ((a.at i).map (den (tot ids))).length).run P w = .ok ((a.at i).map (den (tot ids))).toArray w :=
          run_loadCells_list (P := P) w _ _ fun j v hj => by rw [add_add _ _ _ e2]; exact e3 j v hj
        rw [e1] at hv
        simp only [slAddr] at hv
        subst hv
        have hll : ((a.at i).map (den (tot ids))).length = a.esz := by simp [at_len]
        rw [hll] at hld
        refine PureOk.of (v := .agg ((a.at i).map (den (tot ids))).toArray) ?_ fun J hJ => ?_
        · have hs := hti.size
          rw [hts] at hs
          simp [Instr.loadAt, Instr.sureAddr, loadVar, run_isAgg (ha ▸ hagg : aggIs P t true), run_sizeOf hs, hld]
        · simp only [denW, denV, item_flat]
          obtain ⟨ad', cap', e1', e2', _, _, e3'⟩ := lst_cells hok i hp hJ
          rw [e1] at e1'
          cases e1'
          congr 2
          apply List.ext_getElem?
          intro r
          rcases Nat.lt_or_ge r a.esz with hr | hr
          · have g1 : r < ((a.at i).map (den (tot ids))).length := by simp [at_len, hr]
            have g2 : r < ((a.at i).map (den J)).length := by simp [at_len, hr]
            have c1 := e3 r _ (List.getElem?_eq_getElem g1)
            have c2 := e3' r _ (List.getElem?_eq_getElem g2)
            rw [c1] at c2
            rw [List.getElem?_eq_getElem g1, List.getElem?_eq_getElem g2]; exact c2
          · rw [List.getElem?_eq_none (by simp [at_len, hr]), List.getElem?_eq_none (by simp [at_len, hr])]
      | false =>
        simp only [ha] at h
        split at h
        · rename_i y hy
          simp only [ok, Option.some.injEq] at h; subst h
          simp only [NeedP] at hp
          obtain ⟨ad, cap, e1, e2, _, _, e3⟩ := lst_cells hok i hp h0
          have c1 := e3 0 (den (tot ids) y) (by simp [hy])
          rw [e1] at hv
          simp only [slAddr] at hv
          subst hv
          simp only [Nat.add_zero] at c1
          refine PureOk.of (v := den (tot ids) y) (by simp [Instr.loadAt, Instr.sureAddr, run_load_cell w _ _ c1 (ha ▸ hagg)]) fun J hJ => ?_
          simp only [denW, denV]
          obtain ⟨ad', cap', e1', e2', _, _, e3'⟩ := lst_cells hok i hp hJ
          rw [e1] at e1'; cases e1'
          have c2 := e3' 0 (den J y) (by simp [hy])
          simp only [Nat.add_zero] at c2
          rw [c1] at c2; exact Option.some.inj c2
        · cases h
    · cases h
  · cases h

theorem doLoad_ok {t : Nat} {ti : TI R} (hti : TIok P t ti) {ids : Nm} {ob : Ob R} {nb : Nat} {w : World} (ho : ObOk ids ob w) {x : W R} {v : Value} (hx : WOk ids x v) {r : Res R}
    (h : doLoad ti x ob = some r) (hp : NeedP r.need) : ResOk ids ob nb w r ((do pure (.value (← Instr.loadAt t v)) : Sem Next).run P w) :=
  (doLoad_pure hti ho hx h hp).res ho
end Go.SX
