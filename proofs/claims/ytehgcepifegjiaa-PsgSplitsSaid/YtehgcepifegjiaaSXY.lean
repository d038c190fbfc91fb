/- Equality of what is denoted, as a list of plain facts; and names that are in scope, as a check. -/
import Derived.Test.YtehgcepifegjiaaSXX
import Derived.Test.YtehgcepifegjiaaSXQ
namespace Go.SX
variable {R : Reg} {P : Program}

def bl (b : Bool) : Option (List Prop) := match b with
  | true => some []
  | false => none
def kindB : IntKind → IntKind → Bool
  | .i64, .i64 | .u8, .u8 | .u16, .u16 | .u32, .u32 | .u64, .u64 | .i8, .i8 | .i16, .i16 | .i32, .i32 => true
  | _, _ => false
theorem kindB_ok {a b : IntKind} (h : kindB a b = true) : a = b := by cases a <;> cases b <;> first | rfl | cases h

def eqS (a b : S) : Option (List Prop) :=
  match a, b with
  | .bool x, .bool y => some [x = y]
  | .bool x, .kb y => some [x = y]
  | .kb x, .bool y => some [x = y]
  | .kb x, .kb y => bl (x == y)
  | .b8 x, .b8 y => some [x = y]
  | .b16 x, .b16 y => some [x = y]
  | .b32 x, .b32 y => some [x = y]
  | .b64 x, .b64 y => some [x = y]
  | .i8 x, .i8 y => some [x = y]
  | .int x, .int y => some [x = y]
  | .kn .i64 n, .int y => some [n = y]
  | .int x, .kn .i64 n => some [x = n]
  | .kn .u8 n, .b8 y => some [n = (y.toNat : Int)]
  | .b8 x, .kn .u8 n => some [(x.toNat : Int) = n]
  | .kn .u16 n, .b16 y => some [n = (y.toNat : Int)]
  | .b16 x, .kn .u16 n => some [(x.toNat : Int) = n]
  | .kn .u32 n, .b32 y => some [n = (y.toNat : Int)]
  | .b32 x, .kn .u32 n => some [(x.toNat : Int) = n]
  | .kn .u64 n, .b64 y => some [n = (y.toNat : Int)]
  | .b64 x, .kn .u64 n => some [(x.toNat : Int) = n]
  | .kn k n, .kn k' m => match kindB k k' with
    | true => bl (n == m)
    | false => none
  | .ptr o n, .ptr o' n' => bl (Nat.beq o o' && Nat.beq n n')
  | .ptri o n i, .ptri o' n' i' => match Nat.beq o o' && Nat.beq n n' with
    | true => some [i = i']
    | false => none
  | .lp o n i, .lp o' n' i' => match Nat.beq o o' && Nat.beq n n' with
    | true => some [i = i']
    | false => none
  | .nilp, .nilp => some []
  | .sl o, .sl o' => bl (Nat.beq o o')
  | .sub o z i l, .sub o' z' i' l' => match Nat.beq o o' && Nat.beq z z' with
    | true => some [i = i', l = l']
    | false => none
  | .nils, .nils => some []
  | .win o n i l c, .win o' n' i' l' c' => match Nat.beq o o' && Nat.beq n n' with
    | true => some [i = i', l = l', c = c']
    | false => none
  | .str [], .str [] => some []
  | .str s, .str t => some [s = t]
  | .fn f [], .fn g [] => bl (Nat.beq f g)
  | .iface t o n g, .iface t' o' n' g' => bl (Nat.beq t t' && Nat.beq o o' && Nat.beq n n' && (g == g'))
  | .nili, .nili => some []
  | _, _ => none

theorem bl_ok {b : Bool} {ps : List Prop} (h : bl b = some ps) : b = true := by cases b <;> simp [bl] at h ⊢

theorem eqS_ok {a b : S} {ps : List Prop} (h : eqS a b = some ps) (hp : ∀ p ∈ ps, p) (J : Tot) : den J a = den J b := by
  unfold eqS at h
  split at h <;> try (cases h; done)
  all_goals first
    | (simp only [Option.some.injEq] at h; subst h; simp only [List.mem_cons, List.not_mem_nil, or_false, forall_eq] at hp
       first
         | (subst hp; rfl)
         | (simp only [den]; rw [hp])
         | rfl
         | (simp only [den, hp]))
    | (have h := bl_ok h
       have h := Nat.eq_of_beq_eq_true h
       subst h; rfl)
    | (have h := bl_ok h
       simp only [Bool.and_eq_true, beq_iff_eq] at h
       first
         | (subst h; rfl)
         | (obtain ⟨h1, h2⟩ := h; have h1 := Nat.eq_of_beq_eq_true h1; have h2 := Nat.eq_of_beq_eq_true h2; subst h1; subst h2; rfl)
         | (have h := Nat.eq_of_beq_eq_true h; subst h; rfl)
         | (obtain ⟨⟨⟨h1, h2⟩, h3⟩, h4⟩ := h; have h1 := Nat.eq_of_beq_eq_true h1; have h2 := Nat.eq_of_beq_eq_true h2; have h3 := Nat.eq_of_beq_eq_true h3; subst h1; subst h2; subst h3; subst h4; rfl))
    | (split at h
       · rename_i hk
         first
           | (have hk := kindB_ok hk; have h := bl_ok h; simp only [beq_iff_eq] at h; subst hk; subst h; rfl)
           | (simp only [Bool.and_eq_true] at hk
              obtain ⟨h1, h2⟩ := hk
              have h1 := Nat.eq_of_beq_eq_true h1
              have h2 := Nat.eq_of_beq_eq_true h2
              simp only [Option.some.injEq] at h; subst h; simp only [List.mem_cons, List.not_mem_nil, or_false, forall_eq, forall_eq_or_imp] at hp
              subst h1; subst h2
              simp only [den, hp])
       · cases h)

def eqA [DecidableEq R.K] (a b : Arr R) (n : Nat) : Option Prop :=
  match a, b with
  | .a8 f, .a8 g => some (∀ j, j < n → f j = g j)
  | .ai f, .ai g => some (∀ j, j < n → f j = g j)
  | .a32 f, .a32 g => some (∀ j, j < n → f j = g j)
  | .ab f, .ab g => some (∀ j, j < n → f j = g j)
  | .rows k f, .rows k' g => match decEq k k' with
    | .isTrue h => some (∀ j, j < n → h ▸ f j = g j)
    | .isFalse _ => none
  | _, _ => none

theorem eqA_ok [DecidableEq R.K] {a b : Arr R} {n : Nat} {p : Prop} (h : eqA a b n = some p) (hp : p) : a.esz = b.esz ∧ ∀ j, j < n → a.at j = b.at j := by
  unfold eqA at h
  split at h <;> try (cases h; done)
  all_goals first
    | (simp only [Option.some.injEq] at h; subst h; exact ⟨rfl, fun j hj => by simp only [Arr.at, hp j hj]⟩)
    | skip
  split at h
  · rename_i e _
    subst e
    simp only [Option.some.injEq] at h; subst h
    exact ⟨rfl, fun j hj => by simp only [Arr.at]; rw [hp j hj]⟩
  · cases h

theorem lcells_at {a b : Arr R} {n : Nat} (h : ∀ j, j < n → a.at j = b.at j) (J : Tot) : lcells J a n = lcells J b n := by
  simp only [lcells, List.flatMap_def]
  congr 1; apply List.map_congr_left; intro j hj; rw [h j (List.mem_range.1 hj)]

def ap2 (a b : Option (List Prop)) : Option (List Prop) := match a, b with
  | some x, some y => some (x ++ y)
  | _, _ => none

/-! ### Literals, as what they are literals of -/
def nrm : S → S
  | .kn .i64 n => .int n
  | .kn .u8 n => match ((BitVec.ofInt 8 n).toNat : Int) == n with
    | true => .b8 (BitVec.ofInt 8 n)
    | false => .kn .u8 n
  | .kn .u16 n => match ((BitVec.ofInt 16 n).toNat : Int) == n with
    | true => .b16 (BitVec.ofInt 16 n)
    | false => .kn .u16 n
  | .kn .u32 n => match ((BitVec.ofInt 32 n).toNat : Int) == n with
    | true => .b32 (BitVec.ofInt 32 n)
    | false => .kn .u32 n
  | .kn .u64 n => match ((BitVec.ofInt 64 n).toNat : Int) == n with
    | true => .b64 (BitVec.ofInt 64 n)
    | false => .kn .u64 n
  | .kn .i8 n => match (BitVec.ofInt 8 n).toInt == n with
    | true => .i8 (BitVec.ofInt 8 n)
    | false => .kn .i8 n
  | .kb b => .bool b
  | s => s
theorem nrm_ok (s : S) (J : Tot) : den J (nrm s) = den J s := by
  unfold nrm
  split <;> try rfl
  all_goals
    split
    · rename_i h
      simp only [beq_iff_eq] at h
      simp only [den, h]
    · rfl
theorem nrms_ok (l : List S) (J : Tot) : (l.map nrm).map (den J) = l.map (den J) := by
  rw [List.map_map]; apply List.map_congr_left; intro s _; exact nrm_ok s J

/-- records, out of their cells -/
class RegP (R : Reg) where
  pk : (k : R.K) → List S → Option (R.T k)
  ok : ∀ k cs x, pk k cs = some x → ∀ J, cs.map (den J) = (R.cells k x).map (den J)

def takeC : List (I R) → Nat → Option (List S × List (I R))
  | l, 0 => some ([], l)
  | .s x :: r, n + 1 => match takeC r n with
    | some (c, r') => some (x :: c, r')
    | none => none
  | .obj k x :: r, n + 1 => match Nat.ble (R.sz k) (n + 1) with
    | true => match takeC r (n + 1 - R.sz k) with
      | some (c, r') => some (R.cells k x ++ c, r')
      | none => none
    | false => none
  | _, _ => none
theorem takeC_ok : ∀ (l : List (I R)) (n : Nat) (cs : List S) (r : List (I R)), takeC l n = some (cs, r) → ∀ J, flat J l = cs.map (den J) ++ flat J r
  | l, 0, cs, r, h, J => by
    cases l <;> (simp only [takeC, Option.some.injEq, Prod.mk.injEq] at h; obtain ⟨rfl, rfl⟩ := h; simp)
  | [], n + 1, _, _, h, _ => by simp [takeC] at h
  | .s x :: l, n + 1, cs, r, h, J => by
    simp only [takeC] at h
    cases hc : takeC l n with
    | none => simp [hc] at h
    | some q =>
      obtain ⟨c, r'⟩ := q
      simp only [hc, Option.some.injEq, Prod.mk.injEq] at h
      obtain ⟨rfl, rfl⟩ := h
      rw [flat_cons, takeC_ok l n c r' hc J]; simp [flatI]
  | .obj k x :: l, n + 1, cs, r, h, J => by
    simp only [takeC] at h
    split at h
    · cases hc : takeC l (n + 1 - R.sz k) with
      | none => simp [hc] at h
      | some q =>
        obtain ⟨c, r'⟩ := q
        simp only [hc, Option.some.injEq, Prod.mk.injEq] at h
        obtain ⟨rfl, rfl⟩ := h
        rw [flat_cons, takeC_ok l _ c r' hc J]; simp [flatI]
    · cases h
  | .big _ _ :: _, _ + 1, _, _, h, _ => by simp [takeC] at h

/-- the first cells of a list, as a record -/
def packI [RegP R] (k : R.K) (l : List (I R)) : Option (R.T k × List (I R)) := match takeC l (R.sz k) with
  | some (cs, r) => match RegP.pk k cs with
    | some x => some (x, r)
    | none => none
  | none => none
theorem packI_ok [RegP R] {k : R.K} {l r : List (I R)} {x : R.T k} (h : packI k l = some (x, r)) (J : Tot) : flat J l = flatI J (.obj k x) ++ flat J r := by
  unfold packI at h
  split at h
  · rename_i cs r' ht
    split at h
    · rename_i y hy
      simp only [Option.some.injEq, Prod.mk.injEq] at h
      obtain ⟨rfl, rfl⟩ := h
      rw [takeC_ok _ _ _ _ ht J, RegP.ok k cs y hy J]; rfl
    · cases h
  · cases h

def eqL [DecidableEq R.K] [RegP R] : Nat → List (I R) → List (I R) → Option (List Prop)
  | _, [], [] => some []
  | f + 1, .s a :: r, .s b :: s => ap2 (eqS a b) (eqL f r s)
  | f + 1, .obj k x :: r, .obj k' y :: s => match decEq k k' with
    | .isTrue h => ap2 (some [h ▸ x = y]) (eqL f r s)
    | .isFalse _ => match packI k' (.obj k x :: r) with
      | some (z, r') => ap2 (some [z = y]) (eqL f r' s)
      | none => eqL f ((R.cells k x).map .s ++ r) (.obj k' y :: s)
  | f + 1, .obj k x :: r, .s b :: s => eqL f ((R.cells k x).map .s ++ r) (.s b :: s)
  | f + 1, .s a :: r, .obj k y :: s => match packI k (.s a :: r) with
    | some (z, r') => ap2 (some [z = y]) (eqL f r' s)
    | none => eqL f (.s a :: r) ((R.cells k y).map .s ++ s)
  | f + 1, .big n a :: r, .big m b :: s => match Nat.beq n m, eqA a b n with
    | true, some p => ap2 (some [p]) (eqL f r s)
    | _, _ => none
  | _, _, _ => none

theorem ap2_ok {a b : Option (List Prop)} {ps : List Prop} (h : ap2 a b = some ps) (hp : ∀ p ∈ ps, p) : ∃ x y, a = some x ∧ b = some y ∧ (∀ p ∈ x, p) ∧ ∀ p ∈ y, p := by
  unfold ap2 at h
  split at h
  · simp only [Option.some.injEq] at h; subst h
    exact ⟨_, _, rfl, rfl, fun p hq => hp p (by simp [hq]), fun p hq => hp p (by simp [hq])⟩
  · cases h

theorem eqL_ok [DecidableEq R.K] [RegP R] : ∀ (f : Nat) (as bs : List (I R)) (ps : List Prop), eqL f as bs = some ps → (∀ p ∈ ps, p) → ∀ J, flat J as = flat J bs := by
  intro f
  induction f with
  | zero =>
    intro as bs ps h hp J
    unfold eqL at h
    split at h <;> first | rfl | cases h | (rename_i hc; cases hc)
  | succ f ih =>
    have pack : ∀ (k : R.K) (l r : List (I R)) (z y : R.T k) (s : List (I R)) (ps : List Prop) (J : Tot), packI k l = some (z, r) → ap2 (some [z = y]) (eqL f r s) = some ps → (∀ p ∈ ps, p) → flat J l = flat J (.obj k y :: s) := by
      intro k l r z y s ps J hz h hp
      obtain ⟨a, b, h1, h2, h3, h4⟩ := ap2_ok h hp
      cases h1
      have := h3 _ (List.mem_singleton.2 rfl)
      rw [packI_ok hz J, ih _ _ _ h2 h4 J, flat_cons, this]
    intro as bs ps h hp J
    unfold eqL at h
    split at h
    · rfl
    · rename_i e; cases e
      obtain ⟨x, y, h1, h2, h3, h4⟩ := ap2_ok h hp
      rw [flat_cons, flat_cons, ih _ _ _ h2 h4 J]; simp only [flatI, eqS_ok h1 h3 J]
    · rename_i e; cases e
      split at h
      · rename_i e _
        subst e
        obtain ⟨x, y, h1, h2, h3, h4⟩ := ap2_ok h hp
        cases h1
        have := h3 _ (List.mem_singleton.2 rfl)
        simp only at this
        subst this
        rw [flat_cons, flat_cons, ih _ _ _ h2 h4 J]
      · split at h
        · rename_i z r' hz
          exact pack _ _ _ _ _ _ _ J hz h hp
        · have := ih _ _ _ h hp J
          rw [flat_append, flat_map_s] at this
          rw [← this, flat_cons]; rfl
    · rename_i e; cases e
      have := ih _ _ _ h hp J
      rw [flat_append, flat_map_s] at this
      rw [← this, flat_cons]; rfl
    · rename_i e; cases e
      split at h
      · rename_i z r' hz
        exact pack _ _ _ _ _ _ _ J hz h hp
      · have := ih _ _ _ h hp J
        rw [flat_append, flat_map_s] at this
        rw [this, flat_cons (xs := _) (x := I.obj _ _)]; rfl
    · rename_i e; cases e
      split at h
      · rename_i p hn ha
        obtain ⟨x, y, h1, h2, h3, h4⟩ := ap2_ok h hp
        cases h1
        have hn := Nat.eq_of_beq_eq_true hn; subst hn
        have := (eqA_ok ha (h3 _ (by simp))).2
        rw [flat_cons, flat_cons, ih _ _ _ h2 h4 J]
        congr 1
        exact lcells_at this J
      · cases h
    · cases h

def eqV [DecidableEq R.K] [RegP R] (a b : V R) : Option (List Prop) := match a, b with
  | .s x, .s y => eqS x y
  | .agg x, .agg y => eqL 100000 x y
  | _, _ => none
theorem eqV_ok [DecidableEq R.K] [RegP R] {a b : V R} {ps : List Prop} (h : eqV a b = some ps) (hp : ∀ p ∈ ps, p) (J : Tot) : denV J a = denV J b := by
  unfold eqV at h
  split at h
  · exact eqS_ok h hp J
  · simp only [denV, eqL_ok _ _ _ _ h hp J]
  · cases h
def eqVs [DecidableEq R.K] [RegP R] : List (V R) → List (V R) → Option (List Prop)
  | [], [] => some []
  | a :: r, b :: s => ap2 (eqV a b) (eqVs r s)
  | _, _ => none
theorem eqVs_ok [DecidableEq R.K] [RegP R] : ∀ {as bs : List (V R)} {ps : List Prop}, eqVs as bs = some ps → (∀ p ∈ ps, p) → ∀ J, as.map (denV J) = bs.map (denV J)
  | [], [], _, _, _, _ => rfl
  | [], _ :: _, _, h, _, _ => by cases h
  | _ :: _, [], _, h, _, _ => by cases h
  | a :: r, b :: s, ps, h, hp, J => by
    obtain ⟨x, y, h1, h2, h3, h4⟩ := ap2_ok h hp
    simp only [List.map_cons, eqV_ok h1 h3 J, eqVs_ok h2 h4 J]
def eqW [DecidableEq R.K] [RegP R] (a b : W R) : Option (List Prop) := match a, b with
  | .v x, .v y => eqV x y
  | .tup x, .tup y => eqVs x y
  | _, _ => none
theorem eqW_ok [DecidableEq R.K] [RegP R] {a b : W R} {ps : List Prop} (h : eqW a b = some ps) (hp : ∀ p ∈ ps, p) : WEq a b := by
  unfold eqW at h
  split at h
  · exact .inr ⟨by simp, by simp, fun J => by simp only [denW]; exact eqV_ok h hp J⟩
  · exact .inr ⟨by simp, by simp, fun J => by simp only [denW, eqVs_ok h hp J]⟩
  · cases h
def eqO [DecidableEq R.K] [RegP R] (a b : O R) : Option (List Prop) := match a, b with
  | .agg x, .agg y => eqL 100000 x y
  | .lst x n own e, .lst y m own' e' => match own == own' && Nat.beq e e', eqA x y n with
    | true, some p => some [n = m, p]
    | _, _ => none
  | .none, .none => some []
  | _, _ => none
theorem eqO_ok [DecidableEq R.K] [RegP R] {a b : O R} {ps : List Prop} (h : eqO a b = some ps) (hp : ∀ p ∈ ps, p) : OEq a b := by
  unfold eqO at h
  split at h
  · exact fun J => eqL_ok _ _ _ _ h hp J
  · split at h
    · rename_i p hc ha
      simp only [Option.some.injEq] at h; subst h
      simp only [Bool.and_eq_true, beq_iff_eq] at hc
      simp only [List.mem_cons, List.not_mem_nil, or_false, forall_eq_or_imp, forall_eq] at hp
      obtain ⟨g1, g2⟩ := eqA_ok ha hp.2
      exact ⟨hp.1, hc.1, Nat.eq_of_beq_eq_true hc.2, g1, fun J => lcells_at g2 J⟩
    · cases h
  · trivial
  · cases h

/-! ### Scope -/
def scS (n : Nat) : S → Bool
  | .ptr o _ => Nat.blt o n
  | .ptri o _ _ => Nat.blt o n
  | .lp o _ _ => Nat.blt o n
  | .sl o => Nat.blt o n
  | .sub o _ _ _ => Nat.blt o n
  | .win o _ _ _ _ => Nat.blt o n
  | .fn _ caps => caps.all fun p => Nat.blt p.1 n
  | .iface _ o _ _ => Nat.blt o n
  | _ => true
theorem blt_lt {a b : Nat} (h : Nat.blt a b = true) : a < b := Nat.le_of_ble_eq_true h
theorem scS_ok {n : Nat} {x : S} (h : scS n x = true) {J J' : Tot} (hJ : ∀ i, i < n → J i = J' i) : den J x = den J' x := by
  cases x <;> try rfl
  case fn f caps =>
    simp only [scS] at h
    simp only [den]
    congr 2
    apply List.map_congr_left
    intro p hp
    rw [hJ p.1 (blt_lt (List.all_eq_true.1 h p hp))]
  all_goals (simp only [scS] at h; simp only [den, hJ _ (blt_lt h)])
def scI (n : Nat) : I R → Bool
  | .s x => scS n x
  | _ => true
def scV (n : Nat) : V R → Bool
  | .s x => scS n x
  | .agg is => is.all (scI n)
def scW (n : Nat) : W R → Bool
  | .v x => scV n x
  | .tup vs => vs.all (scV n)
  | .un => true
def scO (n : Nat) : O R → Bool
  | .agg is => is.all (scI n)
  | _ => true
variable [RegC R]
theorem scL_ok {n : Nat} {is : List (I R)} (h : is.all (scI n) = true) {J J' : Tot} (hJ : ∀ i, i < n → J i = J' i) : flat J is = flat J' is := by
  simp only [flat, List.flatMap_def]
  congr 1; apply List.map_congr_left; intro x hx
  have := List.all_eq_true.1 h x hx
  cases x with
  | s x => simp only [flatI, scS_ok this hJ]
  | obj k x => exact RegC.closed _ _ _ _
  | big m a => exact lcells_closed a m _ _
theorem scV_ok {n : Nat} {x : V R} (h : scV n x = true) {J J' : Tot} (hJ : ∀ i, i < n → J i = J' i) : denV J x = denV J' x := by
  cases x with
  | s x => exact scS_ok h hJ
  | agg is => show Value.agg _ = Value.agg _; rw [scL_ok h hJ]
theorem scW_ok {n : Nat} {x : W R} (h : scW n x = true) : ScW n x := by
  intro J J' hJ
  cases x with
  | un => rfl
  | v x => exact scV_ok h hJ
  | tup vs =>
    show Value.tuple _ = Value.tuple _
    congr 2
    apply List.map_congr_left; intro x hx
    exact scV_ok (List.all_eq_true.1 h x hx) hJ
theorem scO_ok {n : Nat} {x : O R} (h : scO n x = true) : ScO n x := by
  cases x with
  | agg is => exact fun J J' hJ => scL_ok h hJ
  | _ => trivial
end Go.SX
