/- The abstract aggregates: how they split; and tables of types. -/
import Derived.Test.YtehgcepifegjiaaSXA
namespace Go.SX
variable {R : Reg}

theorem den_one (ids : Tot) (x : S) : (den ids x).oneCell' = true := by
  cases x <;> try rfl
  case sub o sz i len =>
    simp only [den, Pl.val, subVal]
    cases (ids o).base <;> rfl

theorem flatI_len (ids : Tot) (x : I R) : (flatI ids x).length = x.size := by
  cases x with
  | s x => rfl
  | obj k x => simp [flatI, I.size, R.len]
  | big n a =>
    simp only [flatI, I.size, List.length_flatMap, List.length_map]
    have h : ∀ j, (a.at j).length = a.esz := by intro j; cases a <;> simp [Arr.at, Arr.esz, R.len]
    have hc : ∀ (l : List Nat), (l.map fun _ => a.esz).sum = l.length * a.esz := by
      intro l; induction l with
      | nil => simp
      | cons x l ih => simp only [List.map_cons, List.sum_cons, ih, List.length_cons, Nat.succ_mul]; omega
    simp [h, hc]

theorem flatI_one (ids : Tot) (x : I R) : ∀ v ∈ flatI ids x, v.oneCell' = true := by
  intro v hv
  cases x with
  | s x => simp only [flatI, List.mem_singleton] at hv; subst hv; exact den_one ids x
  | obj k x => simp only [flatI, List.mem_map] at hv; obtain ⟨y, _, rfl⟩ := hv; exact den_one ids y
  | big n a => simp only [flatI, List.mem_flatMap, List.mem_map] at hv; obtain ⟨_, _, y, _, rfl⟩ := hv; exact den_one ids y

theorem flat_one (ids : Tot) (is : List (I R)) : ∀ v ∈ flat ids is, v.oneCell' = true := by
  intro v hv
  simp only [flat, List.mem_flatMap] at hv
  obtain ⟨x, _, hx⟩ := hv
  exact flatI_one ids x v hx

@[simp] theorem flat_nil (ids : Tot) : flat ids ([] : List (I R)) = [] := rfl
@[simp] theorem flat_cons (ids : Tot) (x : I R) (xs : List (I R)) : flat ids (x :: xs) = flatI ids x ++ flat ids xs := by simp [flat]
@[simp] theorem flat_append (ids : Tot) (xs ys : List (I R)) : flat ids (xs ++ ys) = flat ids xs ++ flat ids ys := by simp [flat]
theorem flat_map_s (ids : Tot) (l : List S) : flat ids (l.map (I.s : S → I R)) = l.map (den ids) := by
  induction l with
  | nil => rfl
  | cons x l ih => simp [flatI, ih]

/-- A list of parts, cut at a cell. -/
def spl : List (I R) → Nat → Option (List (I R) × List (I R))
  | is, 0 => some ([], is)
  | [], _ + 1 => none
  | x :: xs, n + 1 =>
    match Nat.ble x.size (n + 1) with
    | true => match spl xs (n + 1 - x.size) with
      | some (a, b) => some (x :: a, b)
      | none => none
    | false => match x with
      | .obj k y => some (((R.cells k y).take (n + 1)).map .s, ((R.cells k y).drop (n + 1)).map .s ++ xs)
      | _ => none

theorem spl_ok : ∀ (is : List (I R)) (n : Nat) (a b : List (I R)), spl is n = some (a, b) → ∀ ids, flat ids is = flat ids a ++ flat ids b ∧ (flat ids a).length = n
  | is, 0, a, b, h, ids => by
    cases is <;> (simp only [spl, Option.some.injEq, Prod.mk.injEq] at h; obtain ⟨rfl, rfl⟩ := h; simp)
  | [], n + 1, a, b, h, ids => by simp [spl] at h
  | x :: xs, n + 1, a, b, h, ids => by
    simp only [spl] at h
    cases hb : Nat.ble x.size (n + 1) with
    | true =>
      simp only [hb] at h
      have hle : x.size ≤ n + 1 := Nat.le_of_ble_eq_true hb
      cases hs : spl xs (n + 1 - x.size) with
      | none => simp [hs] at h
      | some p =>
        obtain ⟨a', b'⟩ := p
        simp only [hs, Option.some.injEq, Prod.mk.injEq] at h
        obtain ⟨rfl, rfl⟩ := h
        obtain ⟨h1, h2⟩ := spl_ok xs _ a' b' hs ids
        refine ⟨by simp [h1], ?_⟩
        simp only [flat_cons, List.length_append, flatI_len, h2]
        omega
    | false =>
      simp only [hb] at h
      have hlt : ¬ x.size ≤ n + 1 := fun hh => by rw [Nat.ble_eq_true_of_le hh] at hb; cases hb
      cases x with
      | s x => simp at h
      | big m y => simp at h
      | obj k y =>
        simp only [Option.some.injEq, Prod.mk.injEq] at h
        obtain ⟨rfl, rfl⟩ := h
        simp only [I.size] at hlt
        have hl := R.len k y
        refine ⟨?_, ?_⟩
        · simp only [flat_append, flat_map_s, flat_cons, flatI]
          rw [← List.append_assoc, ← List.map_append, List.take_append_drop]
        · simp only [flat_map_s, List.length_map, List.length_take]
          omega

/-- so many cells from a place on -/
def seg (is : List (I R)) (off len : Nat) : Option (List (I R)) :=
  match spl is off with
  | some (_, r) => match spl r len with
    | some (m, _) => some m
    | none => none
  | none => none

/-- others in their place -/
def put (is : List (I R)) (off len : Nat) (new : List (I R)) : Option (List (I R)) :=
  match spl is off with
  | some (a, r) => match spl r len with
    | some (_, b) => some (a ++ (new ++ b))
    | none => none
  | none => none

theorem seg_ok {is m : List (I R)} {off len : Nat} (h : seg is off len = some m) (ids : Tot) :
    (flat ids m).length = len ∧ ∃ a b, flat ids is = a ++ (flat ids m ++ b) ∧ a.length = off := by
  unfold seg at h
  cases h1 : spl is off with
  | none => simp [h1] at h
  | some p =>
    obtain ⟨a, r⟩ := p
    simp only [h1] at h
    cases h2 : spl r len with
    | none => simp [h2] at h
    | some q =>
      obtain ⟨m', b⟩ := q
      simp only [h2, Option.some.injEq] at h
      subst h
      obtain ⟨e1, l1⟩ := spl_ok is off a r h1 ids
      obtain ⟨e2, l2⟩ := spl_ok r len m' b h2 ids
      exact ⟨l2, flat ids a, flat ids b, by rw [e1, e2], l1⟩

theorem put_ok {is new is' : List (I R)} {off len : Nat} (h : put is off len new = some is') (ids : Tot) :
    ∃ a o b, flat ids is = a ++ (o ++ b) ∧ flat ids is' = a ++ (flat ids new ++ b) ∧ a.length = off ∧ o.length = len := by
  unfold put at h
  cases h1 : spl is off with
  | none => simp [h1] at h
  | some p =>
    obtain ⟨a, r⟩ := p
    simp only [h1] at h
    cases h2 : spl r len with
    | none => simp [h2] at h
    | some q =>
      obtain ⟨m', b⟩ := q
      simp only [h2, Option.some.injEq] at h
      subst h
      obtain ⟨e1, l1⟩ := spl_ok is off a r h1 ids
      obtain ⟨e2, l2⟩ := spl_ok r len m' b h2 ids
      exact ⟨flat ids a, flat ids m', flat ids b, by rw [e1, e2], by simp, l1, l2⟩

/-! ### Types -/
inductive TK where
  | struct (fs : List (Nat × Nat × Bool))
  | array (len esz : Nat) (eagg : Bool)
  | slice (e esz : Nat) (eagg : Bool) (ebytes : Nat)
  | int (k : IntKind)
  | bool | string | pointer | iface | func | tuple | other

structure TI (R : Reg) where
  size : Nat
  agg : Bool
  k : TK
  zero : List (I R)
  eq : Option (List (Option IntKind))

def aggDesc : TypeDesc → Bool
  | .struct _ | .array _ _ => true
  | _ => false

def sizeIs (P : Program) (t s : Nat) : Prop := (P.info? t).map (·.size) = some s
def aggIs (P : Program) (t : Nat) (b : Bool) : Prop := (P.underlying t).map aggDesc = some b

def TKok (P : Program) : TK → TypeDesc → Prop
  | .struct fs, .struct gs => ∀ (i o s : Nat) (g : Bool), fs[i]? = some (o, s, g) → ∃ f, gs[i]? = some f ∧ f.offset = o ∧ sizeIs P f.type s ∧ aggIs P f.type g ∧ s ≠ 0
  | .array len esz eagg, .array l e => len = l ∧ sizeIs P e esz ∧ aggIs P e eagg
  | .slice e esz eagg eb, .slice e' => e = e' ∧ sizeIs P e esz ∧ aggIs P e eagg ∧ (P.info? e).map (·.bytes) = some eb ∧ ∃ z, ((P.info? e).bind (·.zero)) = some z ∧ z.cells.size = esz
  | .int k, .int k' => k = k'
  | .bool, .bool => True
  | .string, .string => True
  | .pointer, .pointer _ => True
  | .iface, .interface _ => True
  | .func, .func _ _ _ => True
  | .tuple, .tuple _ => True
  | .other, _ => True
  | _, _ => False

structure TIok (P : Program) (t : Nat) (i : TI R) : Prop where
  size : sizeIs P t i.size
  zero : ∃ z, ((P.info? t).bind (·.zero)) = some z ∧ ∀ ids, z.cells.toList = flat ids i.zero
  desc : ∃ d, P.underlying t = some d ∧ aggDesc d = i.agg ∧ TKok P i.k d

section
variable {P : Program} {t : Nat}
theorem run_sizeOf {s : Nat} (h : sizeIs P t s) (w : World) : (sizeOf t).run P w = .ok s w := by
  unfold sizeIs at h
  cases hi : P.info? t with
  | none => simp [hi] at h
  | some i => simp [hi] at h; simp [sizeOf, typeInfo, hi, h]
theorem run_isAgg {b : Bool} (h : aggIs P t b) (w : World) : (isAgg t).run P w = .ok b w := by
  unfold aggIs at h
  cases hd : P.underlying t with
  | none => simp [hd] at h
  | some d =>
    simp only [hd, Option.map_some, Option.some.injEq] at h
    unfold isAgg
    rw [Sem.run_bind, run_underlying hd w]
    cases d <;> simp_all [aggDesc]
theorem run_zero {z : Value} (h : ((P.info? t).bind (·.zero)) = some z) (w : World) : (zeroValue t).run P w = .ok z w := by
  cases hi : P.info? t with
  | none => simp [hi] at h
  | some i => simp [hi] at h; simp [zeroValue, typeInfo, hi, h]
end
end Go.SX
