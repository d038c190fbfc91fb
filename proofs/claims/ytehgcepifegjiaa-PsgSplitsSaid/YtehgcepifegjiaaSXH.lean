/- Conversions, signs, appends. -/
import Derived.Test.YtehgcepifegjiaaSXG
namespace Go.SX
variable {R : Reg} {P : Program}

def convI (k : IntKind) (x : S) : Option S :=
  match x with
  | .kn _ n => some (.kn k (k.wrap n))
  | .int n => match k with
    | .i64 => some (.int (w64 n))
    | .u8 => some (.b8 (BitVec.ofInt 8 n))
    | .u16 => some (.b16 (BitVec.ofInt 16 n))
    | .u32 => some (.b32 (BitVec.ofInt 32 n))
    | .u64 => some (.b64 (BitVec.ofInt 64 n))
    | .i8 => some (.i8 (BitVec.ofInt 8 n))
    | _ => none
  | .b8 x => match k with
    | .i64 => some (.int x.toNat)
    | .u8 => some (.b8 x)
    | .u16 => some (.b16 (x.setWidth 16))
    | .u32 => some (.b32 (x.setWidth 32))
    | .u64 => some (.b64 (x.setWidth 64))
    | .i8 => some (.i8 x)
    | _ => none
  | .b16 x => match k with
    | .i64 => some (.int x.toNat)
    | .u8 => some (.b8 (x.setWidth 8))
    | .u16 => some (.b16 x)
    | .u32 => some (.b32 (x.setWidth 32))
    | .u64 => some (.b64 (x.setWidth 64))
    | _ => none
  | .b32 x => match k with
    | .i64 => some (.int x.toNat)
    | .u8 => some (.b8 (x.setWidth 8))
    | .u16 => some (.b16 (x.setWidth 16))
    | .u32 => some (.b32 x)
    | .u64 => some (.b64 (x.setWidth 64))
    | _ => none
  | .b64 x => match k with
    | .i64 => some (.int (w64 x.toNat))
    | .u8 => some (.b8 (x.setWidth 8))
    | .u16 => some (.b16 (x.setWidth 16))
    | .u32 => some (.b32 (x.setWidth 32))
    | .u64 => some (.b64 x)
    | _ => none
  | .i8 x => match k with
    | .i64 => some (.int x.toInt)
    | .u8 => some (.b8 x)
    | .u16 => some (.b16 (x.signExtend 16))
    | .i8 => some (.i8 x)
    | _ => none
  | _ => none

theorem toNat_ofInt' (w : Nat) (n : Int) : ((BitVec.ofInt w n).toNat : Int) = n % ((2 ^ w : Nat) : Int) := by
  rw [BitVec.toNat_ofInt]
  have : 0 ≤ n % ((2 ^ w : Nat) : Int) := Int.emod_nonneg _ (by have : 0 < 2 ^ w := Nat.two_pow_pos w; omega)
  omega

theorem wrap_i8_toInt (n : Int) : IntKind.i8.wrap n = (BitVec.ofInt 8 n).toInt := by
  rw [BitVec.toInt_ofInt]
  simp only [IntKind.wrap, IntKind.bits, IntKind.signed, Int.bmod]
  simp
  omega

theorem setWidth_cast (a b : Nat) (x : BitVec a) : ((x.setWidth b).toNat : Int) = (x.toNat : Int) % ((2 ^ b : Nat) : Int) := by
  rw [BitVec.toNat_setWidth, Int.natCast_emod]

theorem wrapS8 (x : BitVec 8) : IntKind.i64.wrap (x.toNat : Int) = x.toNat := by
  have := x.isLt; rw [wrap_i64']; unfold w64; omega
theorem wrapS16 (x : BitVec 16) : IntKind.i64.wrap (x.toNat : Int) = x.toNat := by
  have := x.isLt; rw [wrap_i64']; unfold w64; omega
theorem wrapS32 (x : BitVec 32) : IntKind.i64.wrap (x.toNat : Int) = x.toNat := by
  have := x.isLt; rw [wrap_i64']; unfold w64; omega

theorem i8_range (x : BitVec 8) : -128 ≤ x.toInt ∧ x.toInt < 128 := by
  have h1 := BitVec.le_toInt x; have h2 := BitVec.toInt_lt (x := x); simp at h1 h2; omega

theorem convI_ok {k : IntKind} {x z : S} (h : convI k x = some z) : ∃ n j, (∀ J, den J x = .int j n) ∧ ∀ J, den J z = .int k (k.wrap n) := by
  have hu8 : ∀ n : Int, IntKind.u8.wrap n = n % ((2 ^ 8 : Nat) : Int) := fun n => wrap_u .u8 rfl n
  have hu16 : ∀ n : Int, IntKind.u16.wrap n = n % ((2 ^ 16 : Nat) : Int) := fun n => wrap_u .u16 rfl n
  have hu32 : ∀ n : Int, IntKind.u32.wrap n = n % ((2 ^ 32 : Nat) : Int) := fun n => wrap_u .u32 rfl n
  have hu64 : ∀ n : Int, IntKind.u64.wrap n = n % ((2 ^ 64 : Nat) : Int) := fun n => wrap_u .u64 rfl n
  cases x <;> simp only [convI, reduceCtorEq] at h
  case kn k' n => simp only [Option.some.injEq] at h; subst h; exact ⟨n, k', fun _ => rfl, fun _ => rfl⟩
  case int n =>
    refine ⟨n, .i64, fun _ => rfl, fun J => ?_⟩
    cases k <;> simp only [Option.some.injEq, reduceCtorEq] at h <;> subst h <;> simp only [den]
    · rw [wrap_i8_toInt]
    · rw [wrap_i64']
    · rw [hu8, toNat_ofInt']
    · rw [hu16, toNat_ofInt']
    · rw [hu32, toNat_ofInt']
    · rw [hu64, toNat_ofInt']
  case b8 x =>
    refine ⟨x.toNat, .u8, fun _ => rfl, fun J => ?_⟩
    have hx := x.isLt
    cases k <;> simp only [Option.some.injEq, reduceCtorEq] at h <;> subst h <;> simp only [den]
    · rw [wrap_i8_toInt, ofInt_cast]
    · rw [wrapS8]
    · rw [hu8]; congr 1; omega
    · rw [hu16, setWidth_cast]
    · rw [hu32, setWidth_cast]
    · rw [hu64, setWidth_cast]
  case b16 x =>
    refine ⟨x.toNat, .u16, fun _ => rfl, fun J => ?_⟩
    have hx := x.isLt
    cases k <;> simp only [Option.some.injEq, reduceCtorEq] at h <;> subst h <;> simp only [den]
    · rw [wrapS16]
    · rw [hu8, setWidth_cast]
    · rw [hu16]; congr 1; omega
    · rw [hu32, setWidth_cast]
    · rw [hu64, setWidth_cast]
  case b32 x =>
    refine ⟨x.toNat, .u32, fun _ => rfl, fun J => ?_⟩
    have hx := x.isLt
    cases k <;> simp only [Option.some.injEq, reduceCtorEq] at h <;> subst h <;> simp only [den]
    · rw [wrapS32]
    · rw [hu8, setWidth_cast]
    · rw [hu16, setWidth_cast]
    · rw [hu32]; congr 1; omega
    · rw [hu64, setWidth_cast]
  case b64 x =>
    refine ⟨x.toNat, .u64, fun _ => rfl, fun J => ?_⟩
    have hx := x.isLt
    cases k <;> simp only [Option.some.injEq, reduceCtorEq] at h <;> subst h <;> simp only [den]
    · rw [wrap_i64']
    · rw [hu8, setWidth_cast]
    · rw [hu16, setWidth_cast]
    · rw [hu32, setWidth_cast]
    · rw [hu64]; congr 1; omega
  case i8 x =>
    refine ⟨x.toInt, .i8, fun _ => rfl, fun J => ?_⟩
    have hx := i8_range x
    cases k <;> simp only [Option.some.injEq, reduceCtorEq] at h <;> subst h <;> simp only [den]
    · rw [wrap_i8_toInt, BitVec.ofInt_toInt]
    · rw [wrap_i64']; unfold w64; congr 1; omega
    · rw [hu8, ← toNat_ofInt', BitVec.ofInt_toInt]
    · rw [hu16, ← toNat_ofInt']; rfl

def unS (op : UnOp) (x : S) : Option S :=
  match op, x with
  | .not, .bool b => some (.bool (!b))
  | .not, .kb b => some (.kb (!b))
  | .xor, .kn k n => some (.kn k (k.wrap ((BitVec.ofInt k.bits (if k.signed then -1 else k.max) ^^^ BitVec.ofInt k.bits n).toNat)))
  | .xor, .b8 x => some (.b8 (~~~x))
  | .xor, .b16 x => some (.b16 (~~~x))
  | .xor, .b32 x => some (.b32 (~~~x))
  | .neg, .int n => some (.int (w64 (0 - n)))
  | .neg, .kn k n => some (.kn k (k.wrap (0 - n)))
  | _, _ => none

theorem run_xor_u (w : World) (k : IntKind) (hk : k.signed = false) (x : BitVec k.bits) : (Op.unary .xor (.int k x.toNat)).run P w = .ok (.int k ((~~~x).toNat)) w := by
  have hmax : BitVec.ofInt k.bits k.max = BitVec.allOnes k.bits := by
    apply BitVec.eq_of_toNat_eq
    have h2 : 0 < 2 ^ k.bits := Nat.two_pow_pos _
    have : ((BitVec.ofInt k.bits k.max).toNat : Int) = ((2 ^ k.bits - 1 : Nat) : Int) := by
      rw [toNat_ofInt']
      have : k.max = ((2 ^ k.bits - 1 : Nat) : Int) := by
        simp only [IntKind.max, hk, Bool.false_eq_true, if_false]; rw [Int.natCast_sub h2]; simp
      rw [this, ← Int.natCast_emod, Nat.mod_eq_of_lt (by omega)]
    rw [BitVec.toNat_allOnes]; exact_mod_cast this
  simp only [Op.unary, Op.intBits, hk, Bool.false_eq_true, if_false, Sem.run_pure, ofInt_cast, hmax, back_u k hk, BitVec.allOnes_xor]

theorem unS_ok {op : UnOp} {x z : S} (h : unS op x = some z) (J : Tot) (w : World) : (Op.unary op (den J x)).run P w = .ok (den J z) w := by
  unfold unS at h
  split at h <;> simp only [Option.some.injEq, reduceCtorEq] at h <;> subst h
  · rfl
  · rfl
  · rfl
  · exact run_xor_u w .u8 rfl _
  · exact run_xor_u w .u16 rfl _
  · exact run_xor_u w .u32 rfl _
  · simp [den, Op.unary, Op.intArith, wrap_i64']
  · simp [den, Op.unary, Op.intArith]

/-! ### Appends to a list of one's own -/
def catF {α : Type} (n : Nat) (f g : Nat → α) (j : Nat) : α := if j < n then f j else g (j - n)

def Arr.cat (n : Nat) (a b : Arr R) [DecidableEq R.K] : Option (Arr R) :=
  match a, b with
  | .a8 f, .a8 g => some (.a8 (catF n f g))
  | .ai f, .ai g => some (.ai (catF n f g))
  | .a32 f, .a32 g => some (.a32 (catF n f g))
  | .ab f, .ab g => some (.ab (catF n f g))
  | .rows k f, .rows k' g => if h : k' = k then some (.rows k (catF n f (h ▸ g))) else none
  | _, _ => none

theorem cat_ok [DecidableEq R.K] {n m : Nat} {a b c : Arr R} (h : a.cat n b = some c) : c.esz = a.esz ∧ b.esz = a.esz ∧ ∀ J, lcells J c (n + m) = lcells J a n ++ lcells J b m := by
  have gen : ∀ (a b c : Arr R), c.esz = a.esz → b.esz = a.esz → (∀ j, j < n → c.at j = a.at j) → (∀ j, c.at (n + j) = b.at j) →
      c.esz = a.esz ∧ b.esz = a.esz ∧ ∀ J, lcells J c (n + m) = lcells J a n ++ lcells J b m := by
    intro a b c h1 h2 h3 h4
    refine ⟨h1, h2, fun J => ?_⟩
    simp only [lcells, List.range_add, List.flatMap_def, List.map_map, List.map_append, List.flatten_append]
    congr 2
    · apply List.map_congr_left; intro j hj; rw [h3 j (by simpa using hj)]
    · apply List.map_congr_left; intro j hj; simp only [Function.comp]; rw [h4 j]
  cases a <;> cases b <;> simp only [Arr.cat, reduceCtorEq, Option.some.injEq] at h
  case rows.rows k f k' g =>
    split at h
    · rename_i hk
      subst hk
      simp only [Option.some.injEq] at h; subst h
      exact gen _ _ _ rfl rfl (fun j hj => by simp [Arr.at, catF, hj]) (fun j => by simp [Arr.at, catF, show ¬ n + j < n by omega])
    · cases h
  all_goals
    subst h
    exact gen _ _ _ rfl rfl (fun j hj => by simp [Arr.at, catF, hj]) (fun j => by simp [Arr.at, catF, show ¬ n + j < n by omega])

/-- One thing as a list of one. -/
def single (x : W R) : Option (Arr R) :=
  match x with
  | .v (.agg [.s (.b8 v)]) => some (.a8 fun _ => v)
  | .v (.agg [.s (.int v)]) => some (.ai fun _ => v)
  | .v (.agg [.s (.b32 v)]) => some (.a32 fun _ => v)
  | .v (.agg [.obj k v]) => some (.rows k fun _ => v)
  | _ => none
end Go.SX
