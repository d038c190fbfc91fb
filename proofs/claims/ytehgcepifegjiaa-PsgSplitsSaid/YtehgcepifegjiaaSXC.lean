/- Scalars: sums, comparisons, shifts, conversions, and what the model makes of them. -/
import Derived.Test.YtehgcepifegjiaaSXB
namespace Go.SX

theorem wrap_i64' (n : Int) : IntKind.i64.wrap n = w64 n := IntKind.wrap_i64 n

theorem wrap_u (k : IntKind) (hk : k.signed = false) (n : Int) : k.wrap n = n % ((2 ^ k.bits : Nat) : Int) := by
  simp [IntKind.wrap, hk]

def S.u8? : S → Option (BitVec 8)
  | .b8 x => some x
  | .kn .u8 n => match decide (0 ≤ n) && decide (n < 256) with
    | true => some (BitVec.ofInt 8 n)
    | false => none
  | _ => none
def S.u16? : S → Option (BitVec 16)
  | .b16 x => some x
  | .kn .u16 n => match decide (0 ≤ n) && decide (n < 65536) with
    | true => some (BitVec.ofInt 16 n)
    | false => none
  | _ => none
def S.u32? : S → Option (BitVec 32)
  | .b32 x => some x
  | .kn .u32 n => match decide (0 ≤ n) && decide (n < 4294967296) with
    | true => some (BitVec.ofInt 32 n)
    | false => none
  | _ => none
def S.u64? : S → Option (BitVec 64)
  | .b64 x => some x
  | .kn .u64 n => match decide (0 ≤ n) && decide (n < 18446744073709551616) with
    | true => some (BitVec.ofInt 64 n)
    | false => none
  | _ => none
def S.int? : S → Option Int
  | .int n => some n
  | .kn .i64 n => some n
  | _ => none
def S.bool? : S → Option Bool
  | .bool b => some b
  | .kb b => some b
  | _ => none

theorem ofInt_toNat (w : Nat) (n : Int) (h0 : 0 ≤ n) (h1 : n < ((2 ^ w : Nat) : Int)) : ((BitVec.ofInt w n).toNat : Int) = n := by
  obtain ⟨m, rfl⟩ := Int.eq_ofNat_of_zero_le h0
  have h1' : m < 2 ^ w := by exact_mod_cast h1
  rw [BitVec.toNat_ofInt]
  have : ((m : Int) % ((2 ^ w : Nat) : Int)).toNat = m % 2 ^ w := by
    rw [← Int.natCast_emod, Int.toNat_natCast]
  rw [this, Nat.mod_eq_of_lt h1']

theorem u8?_ok {s : S} {x : BitVec 8} (h : s.u8? = some x) (I : Tot) : den I s = .int .u8 x.toNat := by
  unfold S.u8? at h
  split at h
  · simp at h; subst h; rfl
  · rename_i n
    split at h
    · rename_i hb
      simp only [Bool.and_eq_true, decide_eq_true_eq] at hb
      simp only [Option.some.injEq] at h; subst h
      simp only [den]
      rw [ofInt_toNat 8 n hb.1 (by simpa using hb.2)]
    · cases h
  · cases h
theorem u16?_ok {s : S} {x : BitVec 16} (h : s.u16? = some x) (I : Tot) : den I s = .int .u16 x.toNat := by
  unfold S.u16? at h
  split at h
  · simp at h; subst h; rfl
  · rename_i n
    split at h
    · rename_i hb
      simp only [Bool.and_eq_true, decide_eq_true_eq] at hb
      simp only [Option.some.injEq] at h; subst h
      simp only [den]
      rw [ofInt_toNat 16 n hb.1 (by simpa using hb.2)]
    · cases h
  · cases h
theorem u32?_ok {s : S} {x : BitVec 32} (h : s.u32? = some x) (I : Tot) : den I s = .int .u32 x.toNat := by
  unfold S.u32? at h
  split at h
  · simp at h; subst h; rfl
  · rename_i n
    split at h
    · rename_i hb
      simp only [Bool.and_eq_true, decide_eq_true_eq] at hb
      simp only [Option.some.injEq] at h; subst h
      simp only [den]
      rw [ofInt_toNat 32 n hb.1 (by simpa using hb.2)]
    · cases h
  · cases h
theorem u64?_ok {s : S} {x : BitVec 64} (h : s.u64? = some x) (I : Tot) : den I s = .int .u64 x.toNat := by
  unfold S.u64? at h
  split at h
  · simp at h; subst h; rfl
  · rename_i n
    split at h
    · rename_i hb
      simp only [Bool.and_eq_true, decide_eq_true_eq] at hb
      simp only [Option.some.injEq] at h; subst h
      simp only [den]
      rw [ofInt_toNat 64 n hb.1 (by simpa using hb.2)]
    · cases h
  · cases h
theorem int?_ok {s : S} {n : Int} (h : s.int? = some n) (I : Tot) : den I s = .int .i64 n := by
  unfold S.int? at h
  split at h <;> first | (simp at h; subst h; rfl) | cases h
theorem bool?_ok {s : S} {b : Bool} (h : s.bool? = some b) (I : Tot) : den I s = .bool b := by
  unfold S.bool? at h
  split at h <;> first | (simp at h; subst h; rfl) | cases h

/-- Two numbers of one kind without a sign. -/
def binU {w : Nat} (op : BinOp) (x y : BitVec w) : Option (Option Prop × Sum (BitVec w) Bool) :=
  match op with
  | .add => some (none, .inl (x + y))
  | .sub => some (none, .inl (x - y))
  | .mul => some (none, .inl (x * y))
  | .and => some (none, .inl (x &&& y))
  | .or => some (none, .inl (x ||| y))
  | .xor => some (none, .inl (x ^^^ y))
  | .andNot => some (none, .inl (x &&& ~~~y))
  | .quo => some (some (y ≠ 0), .inl (x / y))
  | .rem => some (some (y ≠ 0), .inl (x % y))
  | .eql => some (none, .inr (x == y))
  | .neq => some (none, .inr (x != y))
  | .lss => some (none, .inr (x.ult y))
  | .leq => some (none, .inr (x.ule y))
  | .gtr => some (none, .inr (y.ult x))
  | .geq => some (none, .inr (y.ule x))
  | _ => none

def outU (k : IntKind) : Sum (BitVec k.bits) Bool → Value
  | .inl z => .int k z.toNat
  | .inr b => .bool b

theorem back_u (k : IntKind) (hk : k.signed = false) (r : BitVec k.bits) : k.wrap (r.toNat : Int) = (r.toNat : Int) := by
  rw [wrap_u k hk, ← Int.natCast_emod, Nat.mod_eq_of_lt r.isLt]

theorem ofInt_cast {w : Nat} (x : BitVec w) : BitVec.ofInt w (x.toNat : Int) = x := by
  apply BitVec.eq_of_toNat_eq
  rw [BitVec.toNat_ofInt, ← Int.natCast_emod, Int.toNat_natCast, Nat.mod_eq_of_lt x.isLt]

theorem binU_ok (P : Program) (w : World) (k : IntKind) (hk : k.signed = false) (op : BinOp) (t : TypeId) (x y : BitVec k.bits) (p : Option Prop) (r : Sum (BitVec k.bits) Bool)
    (h : binU op x y = some (p, r)) (hp : NeedP p) : (binOp op t (.int k x.toNat) (.int k y.toNat)).run P w = .ok (outU k r) w := by
  have hx := x.isLt
  have hy := y.isLt
  cases op <;> simp only [binU, Option.some.injEq, Prod.mk.injEq, reduceCtorEq] at h
  case add =>
    obtain ⟨rfl, rfl⟩ := h
    simp [binOp, Op.intArith, outU, wrap_u k hk, BitVec.toNat_add]
  case sub =>
    obtain ⟨rfl, rfl⟩ := h
    simp only [binOp, ne_eq, not_true_eq_false, if_false, Op.intArith, Sem.run_pure, outU, wrap_u k hk, BitVec.toNat_sub]
    congr 2
    rw [Int.natCast_emod, Int.natCast_add, Int.natCast_sub (Nat.le_of_lt hy)]
    rw [show ((2 ^ k.bits : Nat) : Int) - (y.toNat : Int) + (x.toNat : Int) = (x.toNat : Int) - (y.toNat : Int) + ((2 ^ k.bits : Nat) : Int) by omega, Int.add_emod_right]
  case mul =>
    obtain ⟨rfl, rfl⟩ := h
    simp [binOp, Op.intArith, outU, wrap_u k hk, BitVec.toNat_mul]
  case and =>
    obtain ⟨rfl, rfl⟩ := h
    simp only [binOp, ne_eq, not_true_eq_false, if_false, Op.intBits, Sem.run_pure, outU, ofInt_cast, back_u k hk]
  case or =>
    obtain ⟨rfl, rfl⟩ := h
    simp only [binOp, ne_eq, not_true_eq_false, if_false, Op.intBits, Sem.run_pure, outU, ofInt_cast, back_u k hk]
  case xor =>
    obtain ⟨rfl, rfl⟩ := h
    simp only [binOp, ne_eq, not_true_eq_false, if_false, Op.intBits, Sem.run_pure, outU, ofInt_cast, back_u k hk]
  case andNot =>
    obtain ⟨rfl, rfl⟩ := h
    simp only [binOp, ne_eq, not_true_eq_false, if_false, Op.intBits, Sem.run_pure, outU, ofInt_cast, back_u k hk]
  case quo =>
    obtain ⟨rfl, rfl⟩ := h
    have hy0 : ¬ ((y.toNat : Int) = 0) := by intro h0; apply hp; apply BitVec.eq_of_toNat_eq; simp; omega
    simp only [binOp, ne_eq, not_true_eq_false, if_false, Op.intDiv, hy0, Sem.run_pure, outU]
    congr 2
    rw [← Int.ofNat_tdiv, ← BitVec.toNat_udiv, back_u k hk]
  case rem =>
    obtain ⟨rfl, rfl⟩ := h
    have hy0 : ¬ ((y.toNat : Int) = 0) := by intro h0; apply hp; apply BitVec.eq_of_toNat_eq; simp; omega
    simp only [binOp, ne_eq, not_true_eq_false, if_false, Op.intDiv, hy0, Sem.run_pure, outU]
    congr 2
  case eql =>
    obtain ⟨rfl, rfl⟩ := h
    simp only [binOp, ne_eq, not_true_eq_false, if_false, Op.intCmp, Sem.run_pure, outU]
    congr 2
    rw [Bool.eq_iff_iff]; simp [BitVec.toNat_eq]; try omega
  case neq =>
    obtain ⟨rfl, rfl⟩ := h
    simp only [binOp, ne_eq, not_true_eq_false, if_false, Op.intCmp, Sem.run_pure, outU]
    congr 2
    rw [Bool.eq_iff_iff]; simp [BitVec.toNat_eq]; try omega
  all_goals
    obtain ⟨rfl, rfl⟩ := h
    simp only [binOp, ne_eq, not_true_eq_false, if_false, Op.intCmp, Sem.run_pure, outU]
    congr 2
    rw [Bool.eq_iff_iff]; simp [BitVec.ult, BitVec.ule]

/-- Two ints. -/
def binI (op : BinOp) (x y : Int) : Option (Option Prop × Sum Int Bool) :=
  match op with
  | .add => some (none, .inl (w64 (x + y)))
  | .sub => some (none, .inl (w64 (x - y)))
  | .mul => some (none, .inl (w64 (x * y)))
  | .and => some (none, .inl (w64 ((BitVec.ofInt 64 x &&& BitVec.ofInt 64 y).toNat)))
  | .or => some (none, .inl (w64 ((BitVec.ofInt 64 x ||| BitVec.ofInt 64 y).toNat)))
  | .xor => some (none, .inl (w64 ((BitVec.ofInt 64 x ^^^ BitVec.ofInt 64 y).toNat)))
  | .andNot => some (none, .inl (w64 ((BitVec.ofInt 64 x &&& ~~~BitVec.ofInt 64 y).toNat)))
  | .quo => some (some (y ≠ 0), .inl (w64 (x.tdiv y)))
  | .rem => some (some (y ≠ 0), .inl (x.tmod y))
  | .eql => some (none, .inr (x == y))
  | .neq => some (none, .inr (x != y))
  | .lss => some (none, .inr (decide (x < y)))
  | .leq => some (none, .inr (decide (x ≤ y)))
  | .gtr => some (none, .inr (decide (y < x)))
  | .geq => some (none, .inr (decide (y ≤ x)))
  | _ => none

def outI : Sum Int Bool → Value
  | .inl z => .int .i64 z
  | .inr b => .bool b

theorem binI_ok (P : Program) (w : World) (op : BinOp) (t : TypeId) (x y : Int) (p : Option Prop) (r : Sum Int Bool)
    (h : binI op x y = some (p, r)) (hp : NeedP p) : (binOp op t (.int .i64 x) (.int .i64 y)).run P w = .ok (outI r) w := by
  cases op <;> simp only [binI, Option.some.injEq, Prod.mk.injEq, reduceCtorEq] at h <;> obtain ⟨rfl, rfl⟩ := h
  case quo => simp only [binOp, ne_eq, not_true_eq_false, if_false, Op.intDiv, if_neg hp, Sem.run_pure, outI, wrap_i64']
  case rem => simp only [binOp, ne_eq, not_true_eq_false, if_false, Op.intDiv, if_neg hp, Sem.run_pure, outI]
  case and => simp only [binOp, ne_eq, not_true_eq_false, if_false, Op.intBits, Sem.run_pure, outI, wrap_i64', IntKind.bits]; rfl
  case or => simp only [binOp, ne_eq, not_true_eq_false, if_false, Op.intBits, Sem.run_pure, outI, wrap_i64', IntKind.bits]; rfl
  case xor => simp only [binOp, ne_eq, not_true_eq_false, if_false, Op.intBits, Sem.run_pure, outI, wrap_i64', IntKind.bits]; rfl
  case andNot => simp only [binOp, ne_eq, not_true_eq_false, if_false, Op.intBits, Sem.run_pure, outI, wrap_i64', IntKind.bits]; rfl
  all_goals simp [binOp, Op.intArith, Op.intCmp, outI, wrap_i64', GT.gt, GE.ge]

/-- Two known numbers of one kind. -/
def binK (op : BinOp) (k : IntKind) (x y : Int) : Option S :=
  match op with
  | .add => some (.kn k (k.wrap (x + y)))
  | .sub => some (.kn k (k.wrap (x - y)))
  | .mul => some (.kn k (k.wrap (x * y)))
  | .and => some (.kn k (k.wrap ((BitVec.ofInt k.bits x &&& BitVec.ofInt k.bits y).toNat)))
  | .or => some (.kn k (k.wrap ((BitVec.ofInt k.bits x ||| BitVec.ofInt k.bits y).toNat)))
  | .xor => some (.kn k (k.wrap ((BitVec.ofInt k.bits x ^^^ BitVec.ofInt k.bits y).toNat)))
  | .andNot => some (.kn k (k.wrap ((BitVec.ofInt k.bits x &&& ~~~BitVec.ofInt k.bits y).toNat)))
  | .quo => match decide (y = 0) with
    | true => none
    | false => some (.kn k (k.wrap (x.tdiv y)))
  | .rem => match decide (y = 0) with
    | true => none
    | false => some (.kn k (x.tmod y))
  | .eql => some (.kb (x == y))
  | .neq => some (.kb (x != y))
  | .lss => some (.kb (decide (x < y)))
  | .leq => some (.kb (decide (x ≤ y)))
  | .gtr => some (.kb (decide (y < x)))
  | .geq => some (.kb (decide (y ≤ x)))
  | _ => none

theorem binK_ok (P : Program) (w : World) (op : BinOp) (t : TypeId) (k : IntKind) (x y : Int) (z : S) (h : binK op k x y = some z) (I : Tot) :
    (binOp op t (.int k x) (.int k y)).run P w = .ok (den I z) w := by
  cases op <;> simp only [binK, Option.some.injEq, reduceCtorEq] at h
  case quo =>
    cases hd : decide (y = 0) <;> simp only [hd] at h
    · simp only [Option.some.injEq] at h; subst h
      have : ¬ y = 0 := by simpa using hd
      simp [binOp, Op.intDiv, this, den]
    · cases h
  case rem =>
    cases hd : decide (y = 0) <;> simp only [hd] at h
    · simp only [Option.some.injEq] at h; subst h
      have : ¬ y = 0 := by simpa using hd
      simp [binOp, Op.intDiv, this, den]
    · cases h
  all_goals (subst h; simp [binOp, Op.intArith, Op.intBits, Op.intCmp, den, GT.gt, GE.ge])

/-- How far is shifted. -/
def cnt : S → Option (Option Prop × Nat)
  | .kn _ n => match decide (0 ≤ n) with
    | true => some (none, n.toNat)
    | false => none
  | .int n => some (some (0 ≤ n), n.toNat)
  | .b8 x => some (none, x.toNat)
  | .b16 x => some (none, x.toNat)
  | .b32 x => some (none, x.toNat)
  | .b64 x => some (none, x.toNat)
  | _ => none

theorem cnt_ok {s : S} {p : Option Prop} {c : Nat} (h : cnt s = some (p, c)) (hp : NeedP p) (I : Tot) : ∃ k n, den I s = .int k n ∧ 0 ≤ n ∧ n.toNat = c := by
  cases s <;> simp only [cnt, Option.some.injEq, Prod.mk.injEq, reduceCtorEq] at h
  case kn k n =>
    cases hd : decide (0 ≤ n) <;> simp only [hd] at h
    · cases h
    · simp only [Option.some.injEq, Prod.mk.injEq] at h
      exact ⟨k, n, rfl, by simpa using hd, h.2⟩
  case int n => obtain ⟨rfl, rfl⟩ := h; exact ⟨_, _, rfl, hp, rfl⟩
  all_goals (obtain ⟨rfl, rfl⟩ := h; exact ⟨_, _, rfl, by omega, by simp⟩)

def shU {w : Nat} (op : BinOp) (x : BitVec w) (c : Nat) : Option (BitVec w) :=
  match op with
  | .shl => some (x <<< c)
  | .shr => some (x >>> c)
  | _ => none

theorem shU_ok (P : Program) (w : World) (k yk : IntKind) (hk : k.signed = false) (op : BinOp) (t : TypeId) (x z : BitVec k.bits) (n : Int) (c : Nat)
    (h : shU op x c = some z) (h0 : 0 ≤ n) (hc : n.toNat = c) : (binOp op t (.int k x.toNat) (.int yk n)).run P w = .ok (.int k z.toNat) w := by
  have hx := x.isLt
  have hneg : ¬ n < 0 := by omega
  cases op <;> simp only [shU, Option.some.injEq, reduceCtorEq] at h <;> subst h
  case shl =>
    simp only [binOp, Op.shift, hneg, if_false, Sem.run_pure, hc]
    congr 2
    rw [wrap_u k hk, BitVec.toNat_shiftLeft, Nat.shiftLeft_eq]
    have hm : ((x.toNat : Int) * 2 ^ min c k.bits) = ((x.toNat * 2 ^ min c k.bits : Nat) : Int) := by simp
    rw [hm, ← Int.natCast_emod]
    congr 1
    by_cases hle : c ≤ k.bits
    · rw [Nat.min_eq_left hle]
    · have hle' : k.bits ≤ c := by omega
      rw [Nat.min_eq_right hle', Nat.mul_mod_left]
      obtain ⟨d, rfl⟩ := Nat.exists_eq_add_of_le hle'
      rw [Nat.pow_add, Nat.mul_left_comm, Nat.mul_mod_right]
  case shr =>
    simp only [binOp, Op.shift, hneg, if_false, Sem.run_pure, hc]
    congr 2
    rw [BitVec.toNat_ushiftRight, Nat.shiftRight_eq_div_pow]
    have hm : ((2 : Int) ^ min c k.bits) = ((2 ^ min c k.bits : Nat) : Int) := by simp
    rw [hm, Int.fdiv_eq_ediv_of_nonneg _ (Int.natCast_nonneg _), ← Int.natCast_ediv]
    congr 1
    by_cases hle : c ≤ k.bits
    · rw [Nat.min_eq_left hle]
    · have hle' : k.bits ≤ c := by omega
      rw [Nat.min_eq_right hle', Nat.div_eq_of_lt hx, Nat.div_eq_of_lt (Nat.lt_of_lt_of_le hx (Nat.pow_le_pow_right (by omega) hle'))]

def shI (op : BinOp) (x : Int) (c : Nat) : Option Int :=
  match op with
  | .shl => some (w64 (x * 2 ^ min c 64))
  | .shr => some (x.fdiv (2 ^ min c 64))
  | _ => none

theorem shI_ok (P : Program) (w : World) (yk : IntKind) (op : BinOp) (t : TypeId) (x z : Int) (n : Int) (c : Nat)
    (h : shI op x c = some z) (h0 : 0 ≤ n) (hc : n.toNat = c) : (binOp op t (.int .i64 x) (.int yk n)).run P w = .ok (.int .i64 z) w := by
  have hneg : ¬ n < 0 := by omega
  cases op <;> simp only [shI, Option.some.injEq, reduceCtorEq] at h <;> subst h <;>
    simp only [binOp, Op.shift, hneg, if_false, Sem.run_pure, hc, wrap_i64', IntKind.bits]

def shK (op : BinOp) (k : IntKind) (x : Int) (c : Nat) : Option S :=
  match op with
  | .shl => some (.kn k (k.wrap (x * 2 ^ min c k.bits)))
  | .shr => some (.kn k (x.fdiv (2 ^ min c k.bits)))
  | _ => none

theorem shK_ok (P : Program) (w : World) (k yk : IntKind) (op : BinOp) (t : TypeId) (x : Int) (z : S) (n : Int) (c : Nat)
    (h : shK op k x c = some z) (h0 : 0 ≤ n) (hc : n.toNat = c) (I : Tot) : (binOp op t (.int k x) (.int yk n)).run P w = .ok (den I z) w := by
  have hneg : ¬ n < 0 := by omega
  cases op <;> simp only [shK, Option.some.injEq, reduceCtorEq] at h <;> subst h <;>
    simp only [binOp, Op.shift, hneg, if_false, Sem.run_pure, hc, den]

def isShift : BinOp → Bool
  | .shl | .shr => true
  | _ => false

/-- One operation of two scalars: what must hold, and what comes. -/
def shS (op : BinOp) (x y : S) : Option (Option Prop × S) :=
  match cnt y with
  | none => none
  | some (p, c) =>
    match x with
    | .kn k n => match y with
      | .kn _ _ => (shK op k n c).map fun z => (p, z)
      | _ => match k with
        | .u8 => match S.u8? (.kn .u8 n) with
          | some a => (shU op a c).map fun z => (p, .b8 z)
          | none => none
        | .u16 => match S.u16? (.kn .u16 n) with
          | some a => (shU op a c).map fun z => (p, .b16 z)
          | none => none
        | .u32 => match S.u32? (.kn .u32 n) with
          | some a => (shU op a c).map fun z => (p, .b32 z)
          | none => none
        | .u64 => match S.u64? (.kn .u64 n) with
          | some a => (shU op a c).map fun z => (p, .b64 z)
          | none => none
        | .i64 => (shI op n c).map fun z => (p, .int z)
        | _ => none
    | .b8 a => (shU op a c).map fun z => (p, .b8 z)
    | .b16 a => (shU op a c).map fun z => (p, .b16 z)
    | .b32 a => (shU op a c).map fun z => (p, .b32 z)
    | .b64 a => (shU op a c).map fun z => (p, .b64 z)
    | .int a => (shI op a c).map fun z => (p, .int z)
    | _ => none

def sumS {α : Type} (f : α → S) : Option (Option Prop × Sum α Bool) → Option (Option Prop × S)
  | some (p, .inl z) => some (p, f z)
  | some (p, .inr b) => some (p, .bool b)
  | none => none

def eqB (op : BinOp) (a b : Bool) : Option Bool :=
  match op with
  | .eql => some (a == b)
  | .neq => some (a != b)
  | _ => none

def binS (op : BinOp) (x y : S) : Option (Option Prop × S) :=
  match isShift op with
  | true => shS op x y
  | false =>
    match x, y with
    | .kn k a, .kn k' b => match decide (k = k') with
      | true => (binK op k a b).map fun z => (none, z)
      | false => none
    | .kb a, .kb b => (eqB op a b).map fun z => (none, .kb z)
    | _, _ =>
      match x.u8?, y.u8? with
      | some a, some b => sumS .b8 (binU op a b)
      | _, _ => match x.int?, y.int? with
        | some a, some b => sumS .int (binI op a b)
        | _, _ => match x.u16?, y.u16? with
          | some a, some b => sumS .b16 (binU op a b)
          | _, _ => match x.u32?, y.u32? with
            | some a, some b => sumS .b32 (binU op a b)
            | _, _ => match x.u64?, y.u64? with
              | some a, some b => sumS .b64 (binU op a b)
              | _, _ => match x.bool?, y.bool? with
                | some a, some b => (eqB op a b).map fun z => (none, .bool z)
                | _, _ => none

theorem binOp_shift_str : True := trivial

theorem shS_ok (P : Program) (w : World) (op : BinOp) (t : TypeId) (x y : S) (p : Option Prop) (z : S) (h : shS op x y = some (p, z)) (hp : NeedP p) (I : Tot) :
    (binOp op t (den I x) (den I y)).run P w = .ok (den I z) w := by
  unfold shS at h
  cases hc : cnt y with
  | none => simp [hc] at h
  | some q =>
    obtain ⟨p', c⟩ := q
    simp only [hc] at h
    have fin : NeedP p' → ∃ k n, den I y = .int k n ∧ 0 ≤ n ∧ n.toNat = c := fun hp' => cnt_ok hc hp' I
    cases x <;> simp only [reduceCtorEq, Option.map_eq_some_iff, Prod.mk.injEq] at h
    case b8 a =>
      obtain ⟨z', hz, rfl, rfl⟩ := h
      obtain ⟨yk, n, hy, h0, hn⟩ := fin hp
      rw [hy]; exact shU_ok P w .u8 yk rfl op t a z' n c hz h0 hn
    case b16 a =>
      obtain ⟨z', hz, rfl, rfl⟩ := h
      obtain ⟨yk, n, hy, h0, hn⟩ := fin hp
      rw [hy]; exact shU_ok P w .u16 yk rfl op t a z' n c hz h0 hn
    case b32 a =>
      obtain ⟨z', hz, rfl, rfl⟩ := h
      obtain ⟨yk, n, hy, h0, hn⟩ := fin hp
      rw [hy]; exact shU_ok P w .u32 yk rfl op t a z' n c hz h0 hn
    case b64 a =>
      obtain ⟨z', hz, rfl, rfl⟩ := h
      obtain ⟨yk, n, hy, h0, hn⟩ := fin hp
      rw [hy]; exact shU_ok P w .u64 yk rfl op t a z' n c hz h0 hn
    case int a =>
      obtain ⟨z', hz, rfl, rfl⟩ := h
      obtain ⟨yk, n, hy, h0, hn⟩ := fin hp
      rw [hy]; exact shI_ok P w yk op t a z' n c hz h0 hn
    case kn k m =>
      split at h
      · simp only [Option.map_eq_some_iff, Prod.mk.injEq] at h
        obtain ⟨z', hz, rfl, rfl⟩ := h
        obtain ⟨yk, n, hy, h0, hn⟩ := fin hp
        rw [hy]; exact shK_ok P w k yk op t m z' n c hz h0 hn I
      · cases k <;> simp only [reduceCtorEq] at h
        case u8 =>
          cases hu : S.u8? (.kn .u8 m) <;> simp only [hu, reduceCtorEq, Option.map_eq_some_iff, Prod.mk.injEq] at h
          obtain ⟨z', hz, rfl, rfl⟩ := h
          obtain ⟨yk, n, hy, h0, hn⟩ := fin hp
          rw [hy, u8?_ok hu I]; exact shU_ok P w .u8 yk rfl op t _ z' n c hz h0 hn
        case u16 =>
          cases hu : S.u16? (.kn .u16 m) <;> simp only [hu, reduceCtorEq, Option.map_eq_some_iff, Prod.mk.injEq] at h
          obtain ⟨z', hz, rfl, rfl⟩ := h
          obtain ⟨yk, n, hy, h0, hn⟩ := fin hp
          rw [hy, u16?_ok hu I]; exact shU_ok P w .u16 yk rfl op t _ z' n c hz h0 hn
        case u32 =>
          cases hu : S.u32? (.kn .u32 m) <;> simp only [hu, reduceCtorEq, Option.map_eq_some_iff, Prod.mk.injEq] at h
          obtain ⟨z', hz, rfl, rfl⟩ := h
          obtain ⟨yk, n, hy, h0, hn⟩ := fin hp
          rw [hy, u32?_ok hu I]; exact shU_ok P w .u32 yk rfl op t _ z' n c hz h0 hn
        case u64 =>
          cases hu : S.u64? (.kn .u64 m) <;> simp only [hu, reduceCtorEq, Option.map_eq_some_iff, Prod.mk.injEq] at h
          obtain ⟨z', hz, rfl, rfl⟩ := h
          obtain ⟨yk, n, hy, h0, hn⟩ := fin hp
          rw [hy, u64?_ok hu I]; exact shU_ok P w .u64 yk rfl op t _ z' n c hz h0 hn
        case i64 =>
          simp only [Option.map_eq_some_iff, Prod.mk.injEq] at h
          obtain ⟨z', hz, rfl, rfl⟩ := h
          obtain ⟨yk, n, hy, h0, hn⟩ := fin hp
          rw [hy]; exact shI_ok P w yk op t m z' n c hz h0 hn

theorem run_equalIn_bool (P : Program) (w : World) (d : Nat) (t : TypeId) (ht : P.underlying t = some .bool) (a b : Bool) :
    (Op.equalIn (d + 1) t (.bool a) (.bool b)).run P w = .ok (a == b) w := by
  simp [Op.equalIn, run_underlying ht]
theorem run_equal_bool (P : Program) (w : World) (t : TypeId) (ht : P.underlying t = some .bool) (a b : Bool) :
    (Op.equal t (.bool a) (.bool b)).run P w = .ok (a == b) w := run_equalIn_bool P w 9999 t ht a b

theorem eqB_ok (P : Program) (w : World) (op : BinOp) (t : TypeId) (ht : P.underlying t = some .bool) (a b c : Bool) (h : eqB op a b = some c) :
    (binOp op t (.bool a) (.bool b)).run P w = .ok (.bool c) w := by
  cases op <;> simp only [eqB, Option.some.injEq, reduceCtorEq] at h <;> subst h <;>
    simp only [binOp, Sem.run_bind, run_equal_bool P w t ht, Result.andThen_ok, Sem.run_pure, bne]

theorem sumS_ok {α : Type} {f : α → S} {q : Option (Option Prop × Sum α Bool)} {p : Option Prop} {z : S} (h : sumS f q = some (p, z)) :
    ∃ r, q = some (p, r) ∧ z = (match r with | .inl a => f a | .inr b => .bool b) := by
  cases q with
  | none => simp [sumS] at h
  | some q =>
    obtain ⟨p', r⟩ := q
    cases r <;> (simp only [sumS, Option.some.injEq, Prod.mk.injEq] at h; obtain ⟨rfl, rfl⟩ := h; exact ⟨_, rfl, rfl⟩)

/-- May this be asked of that type? (Bools, and texts, are compared by their type.) -/
def tyFit (k : TK) (x y : S) : Bool :=
  match x.bool?, y.bool? with
  | some _, some _ => match k with
    | .bool => true
    | _ => false
  | _, _ => true

theorem binS_ok (P : Program) (w : World) (op : BinOp) (t : TypeId) (k : TK) (d : TypeDesc) (ht : P.underlying t = some d) (hk : TKok P k d) (x y : S) (p : Option Prop) (z : S)
    (hfit : tyFit k x y = true) (h : binS op x y = some (p, z)) (hp : NeedP p) (I : Tot) :
    (binOp op t (den I x) (den I y)).run P w = .ok (den I z) w := by
  have key : ∀ (hbool : ∀ a b, x.bool? = some a → y.bool? = some b → P.underlying t = some .bool), (match x.u8?, y.u8? with
      | some a, some b => sumS .b8 (binU op a b)
      | _, _ => match x.int?, y.int? with
        | some a, some b => sumS .int (binI op a b)
        | _, _ => match x.u16?, y.u16? with
          | some a, some b => sumS .b16 (binU op a b)
          | _, _ => match x.u32?, y.u32? with
            | some a, some b => sumS .b32 (binU op a b)
            | _, _ => match x.u64?, y.u64? with
              | some a, some b => sumS .b64 (binU op a b)
              | _, _ => match x.bool?, y.bool? with
                | some a, some b => (eqB op a b).map fun z => (none, S.bool z)
                | _, _ => none) = some (p, z) → (binOp op t (den I x) (den I y)).run P w = .ok (den I z) w := by
    intro hbool h
    split at h
    · rename_i a b ha hb
      obtain ⟨r, hr, rfl⟩ := sumS_ok h
      rw [u8?_ok ha I, u8?_ok hb I]; have e := binU_ok P w .u8 rfl op t a b p r hr hp
      cases r <;> exact e
    · split at h
      · rename_i a b ha hb
        obtain ⟨r, hr, rfl⟩ := sumS_ok h
        rw [int?_ok ha I, int?_ok hb I]; have e := binI_ok P w op t a b p r hr hp
        cases r <;> exact e
      · split at h
        · rename_i a b ha hb
          obtain ⟨r, hr, rfl⟩ := sumS_ok h
          rw [u16?_ok ha I, u16?_ok hb I]; have e := binU_ok P w .u16 rfl op t a b p r hr hp
          cases r <;> exact e
        · split at h
          · rename_i a b ha hb
            obtain ⟨r, hr, rfl⟩ := sumS_ok h
            rw [u32?_ok ha I, u32?_ok hb I]; have e := binU_ok P w .u32 rfl op t a b p r hr hp
            cases r <;> exact e
          · split at h
            · rename_i a b ha hb
              obtain ⟨r, hr, rfl⟩ := sumS_ok h
              rw [u64?_ok ha I, u64?_ok hb I]; have e := binU_ok P w .u64 rfl op t a b p r hr hp
              cases r <;> exact e
            · split at h
              · rename_i a b ha hb
                simp only [Option.map_eq_some_iff, Prod.mk.injEq] at h
                obtain ⟨c, hc, rfl, rfl⟩ := h
                rw [bool?_ok ha I, bool?_ok hb I]
                exact eqB_ok P w op t (hbool a b ha hb) a b c hc
              · cases h
  unfold binS at h
  cases hs : isShift op with
  | true => simp only [hs] at h; exact shS_ok P w op t x y p z h hp I
  | false =>
    simp only [hs] at h
    have kbool : ∀ a b, x.bool? = some a → y.bool? = some b → P.underlying t = some .bool := by
      intro a b ha hb
      have : k = .bool := by
        simp only [tyFit, ha, hb] at hfit
        cases k <;> simp_all
      subst this
      cases d <;> simp_all [TKok]
    split at h
    · rename_i k₁ a k₂ b
      cases hd : decide (k₁ = k₂) <;> simp only [hd, reduceCtorEq, Option.map_eq_some_iff, Prod.mk.injEq] at h
      obtain ⟨z', hz, rfl, rfl⟩ := h
      have hkk : k₁ = k₂ := by simpa using hd
      subst hkk
      exact binK_ok P w op t k₁ a b z' hz I
    · rename_i a b
      simp only [Option.map_eq_some_iff, Prod.mk.injEq] at h
      obtain ⟨z', hz, rfl, rfl⟩ := h
      exact eqB_ok P w op t (kbool a b rfl rfl) a b z' hz
    · exact key kbool h
end Go.SX
