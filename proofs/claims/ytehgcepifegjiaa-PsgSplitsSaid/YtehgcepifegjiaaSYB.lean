/- Tables of types, by a check. -/
import Derived.Test.YtehgcepifegjiaaSYA
namespace Go.SX
variable {R : Reg} {P : Program}

def fsB (P : Program) : List (Nat × Nat × Bool) → List Field → Bool
  | [], [] => true
  | (o, s, g) :: r, f :: fs => Nat.beq f.offset o && sizeB P f.type s && aggB P f.type g && Nat.blt 0 s && fsB P r fs
  | _, _ => false
theorem fsB_ok : ∀ {l : List (Nat × Nat × Bool)} {fs : List Field}, fsB P l fs = true → l.length = fs.length ∧
    ∀ (i o s : Nat) (g : Bool), l[i]? = some (o, s, g) → ∃ f, fs[i]? = some f ∧ f.offset = o ∧ sizeIs P f.type s ∧ aggIs P f.type g ∧ s ≠ 0
  | [], [], _ => ⟨rfl, fun i o s g h => by simp at h⟩
  | [], _ :: _, h => by cases h
  | _ :: _, [], h => by cases h
  | (o, s, g) :: r, f :: fs, h => by
    simp only [fsB, Bool.and_eq_true] at h
    obtain ⟨⟨⟨⟨h1, h2⟩, h3⟩, h4⟩, h5⟩ := h
    obtain ⟨g1, g2⟩ := fsB_ok h5
    refine ⟨by simp [g1], fun i o' s' g' hi => ?_⟩
    cases i with
    | zero =>
      simp only [List.getElem?_cons_zero, Option.some.injEq, Prod.mk.injEq] at hi
      obtain ⟨rfl, rfl, rfl⟩ := hi
      exact ⟨f, rfl, Nat.eq_of_beq_eq_true h1, sizeB_ok h2, aggB_ok h3, by have := blt_lt h4; omega⟩
    | succ i => exact g2 i o' s' g' hi

def tkB (P : Program) : TK → TypeDesc → Bool
  | .struct fs, .struct gs => fsB P fs gs.toList
  | .array len esz g, .array l e => Nat.beq len l && sizeB P e esz && aggB P e g
  | .slice e esz g eb, .slice e' => Nat.beq e e' && sizeB P e esz && aggB P e g && (match P.info? e with
    | some i => Nat.beq i.bytes eb && (match i.zero with
      | some z => Nat.beq z.cells.size esz
      | none => false)
    | none => false)
  | .int k, .int k' => kindB k k'
  | .bool, .bool => true
  | .string, .string => true
  | .pointer, .pointer _ => true
  | .iface, .interface _ => true
  | .func, .func _ _ _ => true
  | .tuple, .tuple _ => true
  | .other, _ => true
  | _, _ => false

theorem tkB_ok {k : TK} {d : TypeDesc} (h : tkB P k d = true) : TKok P k d ∧ ∀ fs gs, k = .struct fs → d = .struct gs → fs.length = gs.size := by
  cases k <;> cases d <;> first
    | (cases h; done)
    | exact ⟨trivial, fun _ _ h => by cases h⟩
    | skip
  case struct.struct fs gs =>
    obtain ⟨h1, h2⟩ := fsB_ok h
    refine ⟨fun i o s g hi => ?_, fun fs' gs' e1 e2 => by cases e1; cases e2; simpa using h1⟩
    obtain ⟨f, g1, g2⟩ := h2 i o s g hi
    exact ⟨f, by simpa using g1, g2⟩
  case array.array =>
    simp only [tkB, Bool.and_eq_true] at h
    exact ⟨⟨Nat.eq_of_beq_eq_true h.1.1, sizeB_ok h.1.2, aggB_ok h.2⟩, fun _ _ h => by cases h⟩
  case slice.slice e esz g eb e' =>
    simp only [tkB, Bool.and_eq_true] at h
    obtain ⟨⟨⟨h1, h2⟩, h3⟩, h4⟩ := h
    have h1 := Nat.eq_of_beq_eq_true h1; subst h1
    refine ⟨⟨rfl, sizeB_ok h2, aggB_ok h3, ?_⟩, fun _ _ h => by cases h⟩
    cases hi : P.info? e with
    | none => simp [hi] at h4
    | some i =>
      simp only [hi, Bool.and_eq_true] at h4
      cases hz : i.zero with
      | none => simp [hz] at h4
      | some z =>
        simp only [hz] at h4
        exact ⟨by simp [Nat.eq_of_beq_eq_true h4.1], z, by simp [hz], Nat.eq_of_beq_eq_true h4.2⟩
  case int.int k k' => exact ⟨kindB_ok h, fun _ _ h => by cases h⟩

def tiB [DecidableEq R.K] [RegP R] (P : Program) (t : Nat) (i : TI R) : Bool :=
  sizeB P t i.size && (match P.info? t with
    | some inf => match inf.zero with
      | some z => match constL (R := R) z.cells.toList with
        | some l => match eqL 100000 l i.zero with
          | some [] => true
          | _ => false
        | none => false
      | none => false
    | none => false) && (match P.underlying t with
    | some d => (aggDesc d == i.agg) && tkB P i.k d
    | none => false)

def ksB : Ks → Ks → Bool
  | [], [] => true
  | a :: r, b :: s => ckB a b && ksB r s
  | _, _ => false
theorem ksB_ok : ∀ {a b : Ks}, ksB a b = true → a = b
  | [], [], _ => rfl
  | [], _ :: _, h => by cases h
  | _ :: _, [], h => by cases h
  | a :: r, b :: s, h => by
    simp only [ksB, Bool.and_eq_true] at h
    rw [ckB_ok h.1, ksB_ok h.2]
/-- '==' -/
def eqtB (P : Program) (t : Nat) (i : TI R) : Bool := match i.eq with
  | none => true
  | some ks => match ksOf P 9 t with
    | some ks' => ksB ks' ks && !P.eqGuardType P.depth t
    | none => false
theorem eqtB_ok {t : Nat} {i : TI R} (h : eqtB P t i = true) (ks : Ks) (hk : i.eq = some ks) : ksOf P 9 t = some ks ∧ P.eqGuardType P.depth t = false := by
  unfold eqtB at h
  rw [hk] at h
  simp only at h
  cases hq : ksOf P 9 t with
  | none => simp [hq] at h
  | some q =>
    simp only [hq, Bool.and_eq_true, Bool.not_eq_true'] at h
    rw [ksB_ok h.1]; exact ⟨rfl, h.2⟩

theorem tiB_ok [DecidableEq R.K] [RegP R] {t : Nat} {i : TI R} (h : tiB P t i = true) : TIok P t i ∧ ∀ fs gs, i.k = .struct fs → P.underlying t = some (.struct gs) → fs.length = gs.size := by
  simp only [tiB, Bool.and_eq_true] at h
  obtain ⟨⟨h1, h2⟩, h3⟩ := h
  cases hd : P.underlying t with
  | none => simp [hd] at h3
  | some d =>
    simp only [hd, Bool.and_eq_true, beq_iff_eq] at h3
    obtain ⟨k1, k2⟩ := tkB_ok h3.2
    refine ⟨⟨sizeB_ok h1, ?_, d, hd, h3.1, k1⟩, fun fs gs e1 e2 => k2 fs gs e1 (by simpa using e2)⟩
    cases hi : P.info? t with
    | none => simp [hi] at h2
    | some inf =>
      simp only [hi] at h2
      cases hz : inf.zero with
      | none => simp [hz] at h2
      | some z =>
        simp only [hz] at h2
        cases hc : constL (R := R) z.cells.toList with
        | none => simp [hc] at h2
        | some l =>
          simp only [hc] at h2
          split at h2
          · rename_i he
            exact ⟨z, by simp [hz], fun J => by rw [constL_ok hc J]; exact eqL_ok _ _ _ _ he (by simp) J⟩
          · cases h2

def tiGet : List (Nat × TI R) → Nat → Option (TI R)
  | [], _ => none
  | (t, i) :: r, u => match Nat.beq t u with
    | true => some i
    | false => tiGet r u
def tabB [DecidableEq R.K] [RegP R] (P : Program) : List (Nat × TI R) → Bool
  | [] => true
  | (t, i) :: r => tiB P t i && eqtB P t i && tabB P r
theorem tab_ok [DecidableEq R.K] [RegP R] : ∀ {l : List (Nat × TI R)}, tabB P l = true → ∀ t i, tiGet l t = some i → TIok P t i ∧ ∀ fs gs, i.k = .struct fs → P.underlying t = some (.struct gs) → fs.length = gs.size
  | [], _, t, i, h => by cases h
  | (u, j) :: r, h, t, i, hg => by
    simp only [tabB, Bool.and_eq_true] at h
    simp only [tiGet] at hg
    split at hg
    · rename_i e
      have := Nat.eq_of_beq_eq_true e; subst this
      simp only [Option.some.injEq] at hg; subst hg
      exact tiB_ok h.1.1
    · exact tab_ok h.2 t i hg
theorem tab_eq [DecidableEq R.K] [RegP R] : ∀ {l : List (Nat × TI R)}, tabB P l = true → ∀ t i ks, tiGet l t = some i → i.eq = some ks → ksOf P 9 t = some ks ∧ P.eqGuardType P.depth t = false
  | [], _, t, i, _, h, _ => by cases h
  | (u, j) :: r, h, t, i, ks, hg, hk => by
    simp only [tabB, Bool.and_eq_true] at h
    simp only [tiGet] at hg
    split at hg
    · rename_i e
      have := Nat.eq_of_beq_eq_true e; subst this
      simp only [Option.some.injEq] at hg; subst hg
      exact eqtB_ok h.1.2 ks hk
    · exact tab_eq h.2 t i ks hg hk

/-- calls -/
def callGet : List (Nat × Spec R) → Nat → Option (Spec R)
  | [], _ => none
  | (t, i) :: r, u => match Nat.beq t u with
    | true => some i
    | false => callGet r u
def CallsOk (P : Program) : List (Nat × Spec R) → Prop
  | [] => True
  | (f, sp) :: r => CallOk P f sp ∧ CallsOk P r
theorem calls_ok : ∀ {l : List (Nat × Spec R)}, CallsOk P l → ∀ f sp, callGet l f = some sp → CallOk P f sp
  | [], _, f, sp, h => by cases h
  | (u, j) :: r, h, f, sp, hg => by
    simp only [callGet] at hg
    split at hg
    · rename_i e
      have := Nat.eq_of_beq_eq_true e; subst this
      simp only [Option.some.injEq] at hg; subst hg
      exact h.1
    · exact calls_ok h.2 f sp hg
end Go.SX
