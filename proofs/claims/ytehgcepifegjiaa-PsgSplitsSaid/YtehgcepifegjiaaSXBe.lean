/- '==' of plain aggregates: cell by cell. -/
import Derived.Test.YtehgcepifegjiaaSXB
import Derived.Laws.StructEq
import Derived.ChangeKeysEq
namespace Go.SX
variable {P : Program}

def ckOf : Value → Option (Option IntKind)
  | .int k _ => some (some k)
  | .bool _ => some none
  | _ => none
def veq : Value → Value → Bool
  | .int _ a, .int _ b => a == b
  | .bool a, .bool b => a == b
  | _, _ => false
def cellsEq : List Value → List Value → Bool
  | [], [] => true
  | a :: r, b :: s => veq a b && cellsEq r s
  | _, _ => false

def sizeB (P : Program) (t s : Nat) : Bool := match P.info? t with
  | some i => Nat.beq i.size s
  | none => false
def aggB (P : Program) (t : Nat) (b : Bool) : Bool := match P.underlying t with
  | some d => aggDesc d == b
  | none => false
theorem sizeB_ok {t s : Nat} (h : sizeB P t s = true) : sizeIs P t s := by
  unfold sizeB at h; unfold sizeIs
  cases hi : P.info? t with
  | none => simp [hi] at h
  | some i => simp only [hi] at h; simp [Nat.eq_of_beq_eq_true h]
theorem aggB_ok {t : Nat} {b : Bool} (h : aggB P t b = true) : aggIs P t b := by
  unfold aggB at h; unfold aggIs
  cases hi : P.underlying t with
  | none => simp [hi] at h
  | some d => simp only [hi, beq_iff_eq] at h; simp [h]

abbrev Ks := List (Option IntKind)
def ksFs (P : Program) (g : TypeId → Option Ks) : List Field → Nat → Option Ks
  | [], _ => some []
  | f :: r, off => match g f.type with
    | some ks => match f.name != "_" && Nat.beq f.offset off && sizeB P f.type ks.length, ksFs P g r (off + ks.length) with
      | true, some l => some (ks ++ l)
      | _, _ => none
    | none => none
def rep : Nat → Ks → Ks
  | 0, _ => []
  | n + 1, ks => ks ++ rep n ks
/-- the kinds of a type's cells, where it is plain -/
def ksOf (P : Program) : Nat → TypeId → Option Ks
  | 0, _ => none
  | d + 1, t => match P.underlying t with
    | some (.int k) => some [some k]
    | some .bool => some [none]
    | some (.struct fs) => match P.stoodInHeld t with
      | true => none
      | false => ksFs P (ksOf P d) fs.toList 0
    | some (.array len e) => match ksOf P d e with
      | some ks => match sizeB P e ks.length with
        | true => some (rep len ks)
        | false => none
      | none => none
    | _ => none

/-- a value of such a type -/
def Fit (P : Program) (t : Nat) (ks : Ks) (x : Value) (cs : List Value) : Prop :=
  cs.map ckOf = ks.map some ∧ ((aggIs P t true ∧ x = .agg cs.toArray) ∨ (aggIs P t false ∧ cs = [x]))

theorem fit_part {t : Nat} {ks : Ks} (hs : sizeIs P t ks.length) (ha : aggIs P t true ∨ aggIs P t false ∧ ks.length = 1) {A B C : List Value} (hB : B.map ckOf = ks.map some) (w : World) :
    ∃ x, (part t (A ++ (B ++ C)).toArray A.length).run P w = .ok x w ∧ Fit P t ks x B := by
  have hl : B.length = ks.length := by have := congrArg List.length hB; simpa using this
  unfold part
  rcases ha with ha | ⟨ha, h1⟩
  · refine ⟨.agg B.toArray, ?_, hB, .inl ⟨ha, rfl⟩⟩
    rw [Sem.run_bind, run_isAgg ha]
    simp only [Result.andThen_ok, if_true, Sem.run_bind, run_sizeOf hs, Sem.run_pure]
    congr 2
    apply Array.ext'
    simp only [List.extract_toArray, List.extract_eq_take_drop]
    rw [List.drop_left, show A.length + ks.length - A.length = B.length by omega, List.take_left]
  · have : ∃ v, B = [v] := by
      rw [h1] at hl
      match B, hl with
      | [v], _ => exact ⟨v, rfl⟩
    obtain ⟨v, rfl⟩ := this
    refine ⟨v, ?_, hB, .inr ⟨ha, rfl⟩⟩
    rw [Sem.run_bind, run_isAgg ha]
    simp

theorem ks_agg : ∀ {d t : Nat} {ks : Ks}, ksOf P d t = some ks → aggIs P t true ∨ aggIs P t false ∧ ks.length = 1
  | 0, _, _, h => by cases h
  | d + 1, t, ks, h => by
    unfold ksOf at h
    unfold aggIs
    split at h <;> rename_i hd <;> first
      | (cases h; done)
      | (simp only [Option.some.injEq] at h; subst h; right; rw [hd]; exact ⟨rfl, rfl⟩)
      | (left; rw [hd]; rfl)

theorem cellsEq_app : ∀ {A A' B B' : List Value}, A.length = A'.length → cellsEq (A ++ B) (A' ++ B') = (cellsEq A A' && cellsEq B B')
  | [], [], _, _, _ => rfl
  | [], _ :: _, _, _, h => by simp at h
  | _ :: _, [], _, _, h => by simp at h
  | a :: A, a' :: A', B, B', h => by
    simp only [List.cons_append, cellsEq]
    rw [cellsEq_app (by simpa using h), Bool.and_assoc]

theorem split_ks {cs : List Value} {k1 k2 : Ks} (h : cs.map ckOf = (k1 ++ k2).map some) : ∃ B C, cs = B ++ C ∧ B.map ckOf = k1.map some ∧ C.map ckOf = k2.map some := by
  rw [List.map_append] at h
  obtain ⟨B, C, h1, h2, h3⟩ := List.map_eq_append_iff.1 h
  exact ⟨B, C, h1, h2, h3⟩

theorem eqFs_ok {d : Nat} {g : TypeId → Option Ks} (hg : ∀ t ks, g t = some ks → (aggIs P t true ∨ aggIs P t false ∧ ks.length = 1) ∧ ∀ x y cx cy w, Fit P t ks x cx → Fit P t ks y cy → (Op.equalIn d t x y).run P w = .ok (cellsEq cx cy) w) :
    ∀ (fs : List Field) (off : Nat) (ks : Ks), ksFs P g fs off = some ks → ∀ (A A' B B' : List Value) (w : World), A.length = off → A'.length = off → B.map ckOf = ks.map some → B'.map ckOf = ks.map some →
      (Op.eqFields d (A ++ B).toArray (A' ++ B').toArray fs).run P w = .ok (cellsEq B B') w
  | [], off, ks, h, A, A', B, B', w, _, _, hB, hB' => by
    simp only [ksFs, Option.some.injEq] at h; subst h
    simp only [List.map_nil, List.map_eq_nil_iff] at hB hB'
    subst hB; subst hB'
    simp [Op.eqFields, cellsEq]
  | f :: r, off, ks, h, A, A', B, B', w, hA, hA', hB, hB' => by
    simp only [ksFs] at h
    cases hk : g f.type with
    | none => simp [hk] at h
    | some k1 =>
      simp only [hk] at h
      split at h
      · rename_i l hc hl
        simp only [Option.some.injEq] at h; subst h
        simp only [Bool.and_eq_true, bne_iff_ne, ne_eq] at hc
        obtain ⟨⟨c1, c2⟩, c3⟩ := hc
        have c2 := Nat.eq_of_beq_eq_true c2
        obtain ⟨g1, g2⟩ := hg _ _ hk
        obtain ⟨B1, B2, rfl, b1, b2⟩ := split_ks hB
        obtain ⟨C1, C2, rfl, d1, d2⟩ := split_ks hB'
        have lb : B1.length = k1.length := by have := congrArg List.length b1; simpa using this
        have lc : C1.length = k1.length := by have := congrArg List.length d1; simpa using this
        obtain ⟨x, hx, fx⟩ := fit_part (P := P) (sizeB_ok c3) g1 (A := A) (C := B2) b1 w
        obtain ⟨y, hy, fy⟩ := fit_part (P := P) (sizeB_ok c3) g1 (A := A') (C := C2) d1 w
        rw [hA] at hx; rw [hA'] at hy
        have ih := eqFs_ok hg r (off + k1.length) l hl (A ++ B1) (A' ++ C1) B2 C2 w (by simp; omega) (by simp; omega) b2 d2
        rw [List.append_assoc, List.append_assoc] at ih
        unfold Op.eqFields
        rw [if_pos c1, c2]
        simp only [Sem.run_bind, hx, hy, Result.andThen_ok, g2 x y B1 C1 w fx fy]
        rw [cellsEq_app (by omega)]
        cases cellsEq B1 C1 with
        | false => simp
        | true => simpa using ih
      · cases h

theorem eqArr_ok {d : Nat} {e : TypeId} {ks : Ks} (hs : sizeIs P e ks.length) (ha : aggIs P e true ∨ aggIs P e false ∧ ks.length = 1)
    (hg : ∀ x y cx cy w, Fit P e ks x cx → Fit P e ks y cy → (Op.equalIn d e x y).run P w = .ok (cellsEq cx cy) w) :
    ∀ (m i : Nat) (A A' B B' : List Value) (w : World), A.length = i * ks.length → A'.length = i * ks.length → B.map ckOf = (rep m ks).map some → B'.map ckOf = (rep m ks).map some →
      (Op.eqItems d e ks.length (A ++ B).toArray (A' ++ B').toArray (List.range' i m)).run P w = .ok (cellsEq B B') w
  | 0, i, A, A', B, B', w, _, _, hB, hB' => by
    simp only [rep, List.map_nil, List.map_eq_nil_iff] at hB hB'
    subst hB; subst hB'
    simp [Op.eqItems, cellsEq]
  | m + 1, i, A, A', B, B', w, hA, hA', hB, hB' => by
    simp only [rep] at hB hB'
    obtain ⟨B1, B2, rfl, b1, b2⟩ := split_ks hB
    obtain ⟨C1, C2, rfl, d1, d2⟩ := split_ks hB'
    have lb : B1.length = ks.length := by have := congrArg List.length b1; simpa using this
    have lc : C1.length = ks.length := by have := congrArg List.length d1; simpa using this
    obtain ⟨x, hx, fx⟩ := fit_part (P := P) hs ha (A := A) (C := B2) b1 w
    obtain ⟨y, hy, fy⟩ := fit_part (P := P) hs ha (A := A') (C := C2) d1 w
    rw [hA] at hx; rw [hA'] at hy
    have ih := eqArr_ok hs ha hg m (i + 1) (A ++ B1) (A' ++ C1) B2 C2 w (by simp [Nat.add_mul]; omega) (by simp [Nat.add_mul]; omega) b2 d2
    rw [List.append_assoc, List.append_assoc] at ih
    simp only [List.range'_succ, Op.eqItems, Sem.run_bind, hx, hy, Result.andThen_ok, hg x y B1 C1 w fx fy]
    rw [cellsEq_app (by omega)]
    cases cellsEq B1 C1 with
    | false => simp
    | true => simpa using ih

theorem ckOf_int {v : Value} {k : IntKind} (h : ckOf v = some (some k)) : ∃ n, v = .int k n := by
  cases v <;> simp [ckOf] at h
  subst h; exact ⟨_, rfl⟩
theorem ckOf_bool {v : Value} (h : ckOf v = some none) : ∃ b, v = .bool b := by
  cases v <;> simp [ckOf] at h
  exact ⟨_, rfl⟩
theorem agg_not {t : Nat} (h : aggIs P t true) (h' : aggIs P t false) : False := by
  unfold aggIs at h h'; rw [h] at h'; cases h'

theorem equalIn_ok : ∀ (d : Nat) (t : TypeId) (ks : Ks), ksOf P d t = some ks → ∀ (d' : Nat), d ≤ d' → ∀ x y cx cy w, Fit P t ks x cx → Fit P t ks y cy → (Op.equalIn d' t x y).run P w = .ok (cellsEq cx cy) w
  | 0, _, _, h, _, _, _, _, _, _, _, _, _ => by cases h
  | d + 1, t, ks, h, 0, hd, _, _, _, _, _, _, _ => by omega
  | d + 1, t, ks, h, d' + 1, hd, x, y, cx, cy, w, fx, fy => by
    have ih := fun (t : TypeId) (ks : Ks) (h : ksOf P d t = some ks) => equalIn_ok d t ks h d' (by omega)
    have scal : ∀ {dd}, P.underlying t = some dd → aggDesc dd = false → cx = [x] ∧ cy = [y] := fun hd ha => by
      have h0 : aggIs P t false := by unfold aggIs; rw [hd]; simp [ha]
      refine ⟨?_, ?_⟩
      · rcases fx.2 with ⟨h1, _⟩ | ⟨_, h1⟩
        · exact (agg_not h1 h0).elim
        · exact h1
      · rcases fy.2 with ⟨h1, _⟩ | ⟨_, h1⟩
        · exact (agg_not h1 h0).elim
        · exact h1
    have aggr : ∀ {dd}, P.underlying t = some dd → aggDesc dd = true → x = .agg cx.toArray ∧ y = .agg cy.toArray := fun hd ha => by
      have h0 : aggIs P t true := by unfold aggIs; rw [hd]; simp [ha]
      refine ⟨?_, ?_⟩
      · rcases fx.2 with ⟨_, h1⟩ | ⟨h1, _⟩
        · exact h1
        · exact (agg_not h0 h1).elim
      · rcases fy.2 with ⟨_, h1⟩ | ⟨h1, _⟩
        · exact h1
        · exact (agg_not h0 h1).elim
    have hx := fx.1
    have hy := fy.1
    unfold ksOf at h
    split at h
    · rename_i k hu
      simp only [Option.some.injEq] at h; subst h
      obtain ⟨rfl, rfl⟩ := scal hu rfl
      simp only [List.map_cons, List.map_nil, List.cons.injEq, and_true] at hx hy
      obtain ⟨m, rfl⟩ := ckOf_int hx
      obtain ⟨n, rfl⟩ := ckOf_int hy
      rw [run_equalIn_int w d' t k k m n hu]; simp [cellsEq, veq]
    · rename_i hu
      simp only [Option.some.injEq] at h; subst h
      obtain ⟨rfl, rfl⟩ := scal hu rfl
      simp only [List.map_cons, List.map_nil, List.cons.injEq, and_true] at hx hy
      obtain ⟨m, rfl⟩ := ckOf_bool hx
      obtain ⟨n, rfl⟩ := ckOf_bool hy
      rw [run_equalIn_bool' w d' t m n hu]; simp [cellsEq, veq]
    · rename_i fs hu
      split at h
      · cases h
      · rename_i hst
        obtain ⟨rfl, rfl⟩ := aggr hu rfl
        have hf : P.fieldsOf t = fs := by simp [Program.fieldsOf, hu]
        rw [run_equalIn_struct (P := P) w d' t _ _ (by rw [hf]; exact hu) hst, hf]
        have := eqFs_ok (P := P) (d := d') (g := ksOf P d) (fun t ks hk => ⟨ks_agg hk, fun x y cx cy w => ih t ks hk x y cx cy w⟩) fs.toList 0 ks h [] [] cx cy w rfl rfl hx hy
        simpa using this
    · rename_i len e hu
      cases hk : ksOf P d e with
      | none => simp [hk] at h
      | some k1 =>
        simp only [hk] at h
        split at h
        · rename_i hs
          simp only [Option.some.injEq] at h; subst h
          obtain ⟨rfl, rfl⟩ := aggr hu rfl
          have hsz := sizeB_ok hs
          cases hi : P.info? e with
          | none => simp [sizeIs, hi] at hsz
          | some i =>
            have hi2 : i.size = k1.length := by simpa [sizeIs, hi] using hsz
            rw [run_equalIn_array (P := P) w d' _ _ hu hi]
            have hc : P.cellsOf e = k1.length := by simp [Program.cellsOf, hi, hi2]
            rw [hc, List.range_eq_range']
            have := eqArr_ok (P := P) (d := d') hsz (ks_agg hk) (fun x y cx cy w => ih e k1 hk x y cx cy w) len 0 [] [] cx cy w (by simp) (by simp) hx hy
            simpa using this
        · cases h
    · cases h
end Go.SX
