/- A symbolic executor over the model's code: the abstract values and states, and what they denote. -/
import Derived.Calls
import Derived.Orders
import Derived.Tactics
import Derived.Laws.AppendOwn
import Derived.Laws.BitsAllLaws
import Derived.KernelRfl
namespace Go.SX

/-- An int of 64 bits, wrapped. -/
def w64 (n : Int) : Int := (n + 9223372036854775808) % 18446744073709551616 - 9223372036854775808

/-- what must hold, if anything -/
def NeedP : Option Prop → Prop
  | none => True
  | some p => p

/-- A scalar: one cell. -/
inductive S where
  | bool (b : Bool) | kb (b : Bool)
  | b8 (x : BitVec 8) | b16 (x : BitVec 16) | b32 (x : BitVec 32) | b64 (x : BitVec 64) | i8 (x : BitVec 8)
  | int (n : Int) | kn (k : IntKind) (n : Int)
  | ptr (o off : Nat) | ptri (o off i : Nat) | lp (o sz i : Nat) | nilp
  | sl (o : Nat) | sub (o sz i len : Nat) | nils | win (o off i len cap : Nat)
  | str (s : List UInt8)
  | fn (f : Nat) (caps : List (Nat × Nat))
  | iface (t o off : Nat) (agg : Bool) | nili

/-- The record types of a program, as leaves. -/
structure Reg where
  K : Type
  T : K → Type
  sz : K → Nat
  cells : (k : K) → T k → List S
  len : ∀ k x, (cells k x).length = sz k

/-- The contents of a long row. -/
inductive Arr (R : Reg) where
  | a8 (f : Nat → BitVec 8) | ai (f : Nat → Int) | a32 (f : Nat → BitVec 32) | ab (f : Nat → Bool)
  | rows (k : R.K) (f : Nat → R.T k)

def Arr.esz {R : Reg} : Arr R → Nat
  | .rows k _ => R.sz k
  | .a8 _ | .ai _ | .a32 _ | .ab _ => 1

def Arr.at {R : Reg} : Arr R → Nat → List S
  | .a8 f, j => [.b8 (f j)]
  | .ai f, j => [.int (f j)]
  | .a32 f, j => [.b32 (f j)]
  | .ab f, j => [.bool (f j)]
  | .rows k f, j => R.cells k (f j)

/-- A part of an aggregate. -/
inductive I (R : Reg) where
  | s (x : S) | obj (k : R.K) (x : R.T k) | big (n : Nat) (a : Arr R)

inductive V (R : Reg) where
  | s (x : S) | agg (is : List (I R))

inductive W (R : Reg) where
  | v (x : V R) | tup (vs : List (V R)) | un

inductive O (R : Reg) where
  | agg (is : List (I R)) | lst (a : Arr R) (n : Nat) (own : Bool) (e : Nat) | none

structure Pl where
  blk : Nat
  base : Option Addr
  len : Nat
  cap : Nat
instance : Inhabited Pl := ⟨⟨0, none, 0, 0⟩⟩
def Pl.val (p : Pl) : Value := .slice p.base p.len p.cap

/-- places of names: some are known; all are -/
abbrev Nm := Nat → Option Pl
abbrev Tot := Nat → Pl
def Le (ids : Nm) (J : Tot) : Prop := ∀ o p, ids o = some p → J o = p
def LeN (ids ids' : Nm) : Prop := ∀ o p, ids o = some p → ids' o = some p
def tot (ids : Nm) : Tot := fun o => (ids o).getD default
theorem Le_tot (ids : Nm) : Le ids (tot ids) := fun o p h => by simp [tot, h]
theorem LeN.refl (ids : Nm) : LeN ids ids := fun _ _ h => h
theorem LeN.trans {a b c : Nm} (h : LeN a b) (h' : LeN b c) : LeN a c := fun o p hp => h' o p (h o p hp)
theorem LeN.le {a b : Nm} {J : Tot} (h : LeN a b) (h' : Le b J) : Le a J := fun o p hp => h' o p (h o p hp)

def slAddr : Value → Addr
  | .slice (some a) _ _ => a
  | _ => ⟨0, 0, none⟩

def subVal (sz i len : Nat) : Value → Value
  | .slice (some a) _ cap => .slice (some (if cap = i then a else a.add (i * sz))) len (cap - i)
  | v => v

def den (J : Tot) : S → Value
  | .bool b | .kb b => .bool b
  | .b8 x => .int .u8 x.toNat
  | .b16 x => .int .u16 x.toNat
  | .b32 x => .int .u32 x.toNat
  | .b64 x => .int .u64 x.toNat
  | .i8 x => .int .i8 x.toInt
  | .int n => .int .i64 n
  | .kn k n => .int k n
  | .ptr o off => .pointer (some ⟨(J o).blk, off, none⟩)
  | .ptri o off i => .pointer (some ⟨(J o).blk, off + i, none⟩)
  | .lp o sz i => .pointer (some ((slAddr (J o).val).add (i * sz)))
  | .nilp => .pointer none
  | .sl o => (J o).val
  | .sub o sz i len => subVal sz i len (J o).val
  | .nils => .slice none 0 0
  | .win o off i len cap => .slice (some ⟨(J o).blk, off + i, none⟩) len cap
  | .str s => .string ⟨s.toArray⟩
  | .fn f caps => .func (.func f) #[] (caps.map fun (o, off) => Value.pointer (some ⟨(J o).blk, off, none⟩)).toArray
  | .iface t o off agg => .iface t (if agg then .agg #[.pointer (some ⟨(J o).blk, off, none⟩)] else .pointer (some ⟨(J o).blk, off, none⟩))
  | .nili => .nilIface

variable {R : Reg}

def I.size : I R → Nat
  | .s _ => 1
  | .obj k _ => R.sz k
  | .big n a => n * a.esz

def flatI (J : Tot) : I R → List Value
  | .s x => [den J x]
  | .obj k x => (R.cells k x).map (den J)
  | .big n a => (List.range n).flatMap fun j => (a.at j).map (den J)

def flat (J : Tot) (is : List (I R)) : List Value := is.flatMap (flatI J)

def denV (J : Tot) : V R → Value
  | .s x => den J x
  | .agg is => .agg (flat J is).toArray

def denW (J : Tot) : W R → Value
  | .v x => denV J x
  | .tup vs => .tuple (vs.map (denV J)).toArray
  | .un => undef

/-- A slot's value is what its abstract value denotes, however the other names lie; of 'un' nothing is known. -/
def WOk (ids : Nm) : W R → Value → Prop
  | .un, _ => True
  | x, v => ∀ J, Le ids J → v = denW J x

def O.excl : O R → Bool
  | .agg _ => true
  | .lst _ _ own _ => own
  | .none => false

def O.blk (p : Pl) : O R → Option Nat
  | .agg _ => some p.blk
  | .lst .. => p.val.ownBlock
  | .none => .none

/-- the cells of a list's first n elements -/
def lcells (J : Tot) (a : Arr R) (n : Nat) : List Value := (List.range n).flatMap fun j => (a.at j).map (den J)

def OOk (ids : Nm) (p : Pl) (w : World) : O R → Prop
  | .agg is => ∃ c e, w.heap[p.blk]? = some (.cells c e (0, 0)) ∧ ∀ J, Le ids J → c.toList = flat J is
  | .lst a n true e => ∃ xs, w.ownsRow 0 e a.esz p.val n xs ∧ ∀ J, Le ids J → xs = lcells J a n
  | .lst a n false _ => (p.val = .slice none 0 0 ∧ n = 0) ∨
      ∃ ad cap xs, p.val = .slice (some ad) n cap ∧ ad.spot = none ∧ ad.block < w.heap.size ∧ n ≤ cap ∧ cap ≤ maxLen ∧ (∀ J, Le ids J → xs = lcells J a n) ∧
        ∀ j v, xs[j]? = some v → w.cell? (ad.add j) = some v
  | .none => True

/-- objects by name -/
abbrev Ob (R : Reg) := Nat → O R

/-- the blocks that may be written -/
def exB (ids : Nm) (ob : Ob R) (b : Nat) : Prop := ∃ o p, ids o = some p ∧ (ob o).excl = true ∧ (ob o).blk p = some b

structure ObOk (ids : Nm) (ob : Ob R) (w : World) : Prop where
  ok : ∀ (o : Nat) (x : O R), ob o = x → x ≠ .none → ∃ p, ids o = some p ∧ OOk ids p w x
  dist : ∀ (o o' : Nat) (p p' : Pl) (b : Nat), o ≠ o' → ids o = some p → ids o' = some p' → (ob o).excl = true → (ob o).blk p = some b → (ob o').blk p' ≠ some b

/-- what becomes of the world -/
structure Fr (ids : Nm) (ob : Ob R) (w : World) (ids' : Nm) (ob' : Ob R) (w' : World) : Prop where
  os : w'.os = w.os
  tape : w'.tape = w.tape
  output : w'.output = w.output
  size : w.heap.size ≤ w'.heap.size
  same : ∀ b, b < w.heap.size → ¬ exB ids ob b → w'.heap[b]? = w.heap[b]?
  ex : ∀ b, exB ids' ob' b → exB ids ob b ∨ w.heap.size ≤ b

theorem Fr.refl (ids : Nm) (ob : Ob R) (w : World) : Fr ids ob w ids ob w :=
  ⟨rfl, rfl, rfl, Nat.le_refl _, fun _ _ _ => rfl, fun _ h => .inl h⟩

theorem Fr.trans {ids ids₁ ids₂ : Nm} {ob ob₁ ob₂ : Ob R} {w w₁ w₂ : World}
    (h : Fr ids ob w ids₁ ob₁ w₁) (h' : Fr ids₁ ob₁ w₁ ids₂ ob₂ w₂) : Fr ids ob w ids₂ ob₂ w₂ where
  os := h'.os.trans h.os
  tape := h'.tape.trans h.tape
  output := h'.output.trans h.output
  size := Nat.le_trans h.size h'.size
  same b hb hn := (h'.same b (Nat.lt_of_lt_of_le hb h.size) (fun he => (h.ex b he).elim hn (fun hle => by omega))).trans (h.same b hb hn)
  ex b hb := (h'.ex b hb).elim (fun h1 => h.ex b h1) (fun hle => .inr (Nat.le_trans h.size hle))

/-- A state: slots, objects, and the first name that is free. -/
structure St (R : Reg) where
  sl : List (W R)
  ob : List (O R)
  nb : Nat

def getO (l : List (O R)) (o : Nat) : O R := l.getD o .none

structure Sim (ids : Nm) (st : St R) (a : Act) (w : World) : Prop where
  size : a.tmps.size = st.sl.length
  slots : ∀ t, WOk ids (st.sl.getD t .un) (a.tmps.getD t undef)
  defers : a.defers = []
  ob : ObOk ids (getO st.ob) w
  free : ∀ o, st.nb ≤ o → ids o = none

/-- what a piece of code may do: the names below m lie where they lay -/
structure Step (m : Nat) (ids : Nm) (ob : Ob R) (w : World) (ids' : Nm) (ob' : Ob R) (w' : World) : Prop where
  keep : ∀ o, o < m → ∀ p, ids o = some p → ids' o = some p
  fr : Fr ids ob w ids' ob' w'

theorem Step.refl (m : Nat) (ids : Nm) (ob : Ob R) (w : World) : Step m ids ob w ids ob w := ⟨fun _ _ _ h => h, Fr.refl _ _ _⟩
theorem Step.trans {m : Nat} {ids ids₁ ids₂ : Nm} {ob ob₁ ob₂ : Ob R} {w w₁ w₂ : World}
    (h : Step m ids ob w ids₁ ob₁ w₁) (h' : Step m ids₁ ob₁ w₁ ids₂ ob₂ w₂) : Step m ids ob w ids₂ ob₂ w₂ :=
  ⟨fun o ho p hp => h'.keep o ho p (h.keep o ho p hp), h.fr.trans h'.fr⟩

/-- The outcome of a piece: a tree of ways. -/
inductive Ex where
  | normal | exit (id : Nat) | ret
  deriving DecidableEq

inductive Out (R : Reg) where
  | leaf (e : Ex) (st : St R)
  | ite (c : Bool) (t e : Out R)
  | need (p : Prop) (o : Out R)
  | fail

def Out.Holds (Q : Ex → St R → Prop) : Out R → Prop
  | .leaf e st => Q e st
  | .ite c t e => (c = true → t.Holds Q) ∧ (c = false → e.Holds Q)
  | .need p o => p ∧ o.Holds Q
  | .fail => False

def Out.bind (f : Ex → St R → Out R) : Out R → Out R
  | .leaf e st => f e st
  | .ite c t e => .ite c (t.bind f) (e.bind f)
  | .need p o => .need p (o.bind f)
  | .fail => .fail

theorem Out.holds_bind (f : Ex → St R → Out R) (Q : Ex → St R → Prop) (o : Out R) :
    (o.bind f).Holds Q ↔ o.Holds fun e st => (f e st).Holds Q := by
  induction o with
  | leaf e st => rfl
  | ite c t e iht ihe => simp only [Out.bind, Out.Holds, iht, ihe]
  | need p o ih => simp only [Out.bind, Out.Holds, ih]
  | fail => rfl

theorem Out.Holds.mono {Q Q' : Ex → St R → Prop} (h : ∀ e st, Q e st → Q' e st) {o : Out R} (ho : o.Holds Q) : o.Holds Q' := by
  induction o with
  | leaf e st => exact h _ _ ho
  | ite c t e iht ihe => exact ⟨fun hc => iht (ho.1 hc), fun hc => ihe (ho.2 hc)⟩
  | need p o ih => exact ⟨ho.1, ih ho.2⟩
  | fail => exact ho

end Go.SX
