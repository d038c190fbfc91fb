/- A contract, used at a call: names are those of the caller. -/
import Derived.Test.YtehgcepifegjiaaSXO
namespace Go.SX
variable {R : Reg} {P : Program}

/-- records hold no addresses -/
class RegC (R : Reg) : Prop where
  closed : ∀ (k : R.K) (x : R.T k) (J J' : Tot), (R.cells k x).map (den J) = (R.cells k x).map (den J')

def rnS (g : Nat → Nat) : S → S
  | .ptr o off => .ptr (g o) off
  | .ptri o off i => .ptri (g o) off i
  | .lp o sz i => .lp (g o) sz i
  | .sl o => .sl (g o)
  | .sub o sz i len => .sub (g o) sz i len
  | .win o off i len cap => .win (g o) off i len cap
  | .fn f caps => .fn f (caps.map fun p => (g p.1, p.2))
  | .iface t o off agg => .iface t (g o) off agg
  | s => s

theorem den_rnS (g : Nat → Nat) (J : Tot) (s : S) : den J (rnS g s) = den (fun i => J (g i)) s := by
  cases s <;> try rfl
  simp [rnS, den, Function.comp_def]

def rnI (g : Nat → Nat) : I R → I R
  | .s x => .s (rnS g x)
  | x => x
def rnV (g : Nat → Nat) : V R → V R
  | .s x => .s (rnS g x)
  | .agg is => .agg (is.map (rnI g))
def rnW (g : Nat → Nat) : W R → W R
  | .v x => .v (rnV g x)
  | .tup vs => .tup (vs.map (rnV g))
  | .un => .un
def rnO (g : Nat → Nat) : O R → O R
  | .agg is => .agg (is.map (rnI g))
  | x => x

variable [RegC R]

theorem at_closed (a : Arr R) (j : Nat) (J J' : Tot) : (a.at j).map (den J) = (a.at j).map (den J') := by
  cases a <;> first | rfl | exact RegC.closed _ _ _ _
theorem lcells_closed (a : Arr R) (n : Nat) (J J' : Tot) : lcells J a n = lcells J' a n := by
  simp only [lcells, List.flatMap_def]
  congr 1; apply List.map_congr_left; intro j _; exact at_closed a j J J'

theorem flatI_rn (g : Nat → Nat) (J : Tot) (x : I R) : flatI J (rnI g x) = flatI (fun i => J (g i)) x := by
  cases x with
  | s x => simp [rnI, flatI, den_rnS]
  | obj k x => exact RegC.closed _ _ _ _
  | big n a => exact lcells_closed a n _ _
theorem flat_rn (g : Nat → Nat) (J : Tot) (is : List (I R)) : flat J (is.map (rnI g)) = flat (fun i => J (g i)) is := by
  induction is with
  | nil => rfl
  | cons x is ih => simp [flatI_rn, ih]
theorem denV_rn (g : Nat → Nat) (J : Tot) (x : V R) : denV J (rnV g x) = denV (fun i => J (g i)) x := by
  cases x with
  | s x => exact den_rnS g J x
  | agg is => simp [rnV, denV, flat_rn]
theorem denW_rn (g : Nat → Nat) (J : Tot) (x : W R) : denW J (rnW g x) = denW (fun i => J (g i)) x := by
  cases x with
  | un => rfl
  | v x => exact denV_rn g J x
  | tup vs => simp [rnW, denW, Function.comp_def, denV_rn]
omit [RegC R] in
theorem rnW_un {g : Nat → Nat} {x : W R} : rnW g x = .un ↔ x = .un := by cases x <;> simp [rnW]

/-- names below n alone -/
def ScW (n : Nat) (x : W R) : Prop := ∀ J J' : Tot, (∀ i, i < n → J i = J' i) → denW J x = denW J' x
def ScO (n : Nat) : O R → Prop
  | .agg is => ∀ J J' : Tot, (∀ i, i < n → J i = J' i) → flat J is = flat J' is
  | _ => True

omit [RegC R] in
theorem OEq.refl (a : O R) : OEq a a := by cases a <;> simp [OEq]
omit [RegC R] in
theorem OEq.symm {a b : O R} (h : OEq a b) : OEq b a := by
  cases a <;> cases b <;> first
    | exact h.elim
    | exact fun J => (h J).symm
    | (obtain ⟨rfl, rfl, rfl, h4, h5⟩ := h; exact ⟨rfl, rfl, rfl, h4.symm, fun J => (h5 J).symm⟩)
    | trivial
omit [RegC R] in
theorem OEq.trans {a b c : O R} (h : OEq a b) (h' : OEq b c) : OEq a c := by
  cases a <;> cases b <;> (try exact h.elim) <;> cases c <;> first
    | exact h'.elim
    | exact fun J => (h J).trans (h' J)
    | (obtain ⟨rfl, rfl, rfl, h4, h5⟩ := h; obtain ⟨rfl, rfl, rfl, h4', h5'⟩ := h'; exact ⟨rfl, rfl, rfl, h4.trans h4', fun J => (h5 J).trans (h5' J)⟩)
    | trivial

/-- an object under other names, in other names' terms -/
theorem OOk.rn {ids idsC : Nm} {p : Pl} {w : World} {x : O R} {g : Nat → Nat} {n : Nat} (hsc : ScO n x) (h : OOk idsC p w x)
    (hk : ∀ J, Le ids J → ∃ K, Le idsC K ∧ ∀ i, i < n → K i = J (g i)) : OOk ids p w (rnO g x) := by
  cases x with
  | none => trivial
  | agg is =>
    obtain ⟨c, e, h1, h2⟩ := h
    refine ⟨c, e, h1, fun J hJ => ?_⟩
    obtain ⟨K, hK, hKJ⟩ := hk J hJ
    rw [h2 K hK, flat_rn]
    exact hsc K _ hKJ
  | lst a m own t =>
    cases own with
    | true => obtain ⟨xs, h1, h2⟩ := h; exact ⟨xs, h1, fun J hJ => by obtain ⟨K, hK, _⟩ := hk J hJ; rw [h2 K hK]; exact lcells_closed a m K J⟩
    | false =>
      rcases h with h | ⟨ad, cap, xs, hv, hs, hlt, hn, hc, hx, h1⟩
      · exact .inl h
      · exact .inr ⟨ad, cap, xs, hv, hs, hlt, hn, hc, fun J hJ => by obtain ⟨K, hK, _⟩ := hk J hJ; rw [hx K hK]; exact lcells_closed a m K J, h1⟩

theorem OOk.unrn {ids idsC : Nm} {p : Pl} {w : World} {x : O R} {g : Nat → Nat} {n : Nat} (hsc : ScO n x) (h : OOk ids p w (rnO g x))
    (hk : ∀ K, Le idsC K → ∃ J, Le ids J ∧ ∀ i, i < n → K i = J (g i)) : OOk idsC p w x := by
  cases x with
  | none => trivial
  | agg is =>
    obtain ⟨c, e, h1, h2⟩ := h
    refine ⟨c, e, h1, fun K hK => ?_⟩
    obtain ⟨J, hJ, hKJ⟩ := hk K hK
    rw [h2 J hJ, flat_rn]
    exact (hsc K _ hKJ).symm
  | lst a m own t =>
    cases own with
    | true => obtain ⟨xs, h1, h2⟩ := h; exact ⟨xs, h1, fun K hK => by obtain ⟨J, hJ, _⟩ := hk K hK; rw [h2 J hJ]; exact lcells_closed a m J K⟩
    | false =>
      rcases h with h | ⟨ad, cap, xs, hv, hs, hlt, hn, hc, hx, h1⟩
      · exact .inl h
      · exact .inr ⟨ad, cap, xs, hv, hs, hlt, hn, hc, fun K hK => by obtain ⟨J, hJ, _⟩ := hk K hK; rw [hx J hJ]; exact lcells_closed a m J K, h1⟩

omit [RegC R] in
theorem rnO_blk (g : Nat → Nat) (x : O R) (p : Pl) : (rnO g x).blk p = x.blk p := by cases x <;> rfl
omit [RegC R] in
theorem rnO_excl (g : Nat → Nat) (x : O R) : (rnO g x).excl = x.excl := by cases x <;> rfl
omit [RegC R] in
theorem rnO_none (g : Nat → Nat) (x : O R) : rnO g x = .none ↔ x = .none := by cases x <;> simp [rnO]

/-- How a contract is used: what must hold; which objects it changes; how many new names; and what the caller's things are to it. -/
structure Use (C : Con R) where
  need : C.X → Option Prop
  mod : List Nat
  new : Nat
  dec : List (W R) → Ob R → Option (C.X × List Nat)

def nmap (nb : Nat) (ρ : List Nat) (nbc : Nat) (i : Nat) : Nat :=
  match Nat.blt i nb with
  | true => ρ.getD i 0
  | false => nbc + (i - nb)

def Use.spec {C : Con R} (U : Use C) : Spec R := fun args ob nbc =>
  match U.dec args ob with
  | some (x, ρ) =>
    let g := nmap C.nb ρ nbc
    some ⟨U.need x, rnW g (C.res x), U.mod.map fun i => (ρ.getD i 0, rnO g (keptO C.keep (C.ob' x) i)),
      (List.range U.new).map fun j => rnO g (keptO C.keep (C.ob' x) (C.nb + j))⟩
  | none => none

structure UseOk {C : Con R} (U : Use C) : Prop where
  need : ∀ x, NeedP (U.need x) → C.pre x
  modlt : ∀ i ∈ U.mod, i < C.nb
  moddup : U.mod.Nodup
  dec : ∀ args ob x ρ, U.dec args ob = some (x, ρ) → ρ.length = C.nb ∧ ρ.Nodup ∧
    (∀ i, i < C.nb → getO (C.ob x) i ≠ .none ∧ OEq (ob (ρ.getD i 0)) (rnO (fun i => ρ.getD i 0) (getO (C.ob x) i))) ∧
    args.length = (C.args x).length ∧ ∀ t, t < args.length → WEq (args.getD t .un) (rnW (fun i => ρ.getD i 0) ((C.args x).getD t .un))
  obOut : ∀ x i, C.nb ≤ i → getO (C.ob x) i = .none
  scArgs : ∀ x t, ScW C.nb ((C.args x).getD t .un)
  scOb : ∀ x i, ScO C.nb (getO (C.ob x) i)
  scRes : ∀ x, ScW (C.nb + U.new) (C.res x)
  scOb' : ∀ x i, ScO (C.nb + U.new) (keptO C.keep (C.ob' x) i)
  same : ∀ x i, i < C.nb → i ∉ U.mod → OEq (getO (C.ob x) i) (keptO C.keep (C.ob' x) i)
  keptIn : ∀ i ∈ C.keep, i < C.nb + U.new
  exNew : ∀ x i, i ∈ U.mod ∨ C.nb ≤ i → (keptO C.keep (C.ob' x) i).excl = true ∨ keptO C.keep (C.ob' x) i = .none

omit [RegC R] in
theorem apU_not : ∀ (u : List (Nat × O R)) (ob : Ob R) (o : Nat), (∀ q ∈ u, q.1 ≠ o) → apU ob u o = ob o
  | [], _, _, _ => rfl
  | (n, x) :: r, ob, o, h => by
    simp only [apU]
    rw [apU_not r _ o fun q hq => h q (by simp [hq])]
    have := h (n, x) (by simp)
    simp only at this
    simp [upd1, Ne.symm this]
omit [RegC R] in
theorem apU_in : ∀ (u : List (Nat × O R)) (ob : Ob R) (o : Nat) (x : O R), (u.map (·.1)).Nodup → (o, x) ∈ u → apU ob u o = x
  | (n, y) :: r, ob, o, x, hd, h => by
    simp only [List.map_cons, List.nodup_cons] at hd
    simp only [apU]
    rcases List.mem_cons.1 h with e | h
    · obtain ⟨rfl, rfl⟩ := Prod.mk.inj e
      rw [apU_not r _ _ fun q hq he => hd.1 (List.mem_map.2 ⟨q, hq, he⟩)]
      simp [upd1]
    · exact apU_in r _ o x hd.2 h
omit [RegC R] in
theorem apN_at : ∀ (l : List (O R)) (ob : Ob R) (n o : Nat), apN ob n l o = if n ≤ o ∧ o < n + l.length then getO l (o - n) else ob o
  | [], ob, n, o => by simp [apN]; omega
  | x :: r, ob, n, o => by
    simp only [apN]
    rw [apN_at r _ (n + 1) o]
    simp only [List.length_cons]
    by_cases h : o = n
    · subst h
      rw [if_neg (by omega), if_pos (by omega)]
      simp [upd1, getO]
    · by_cases h2 : n + 1 ≤ o ∧ o < n + 1 + r.length
      · rw [if_pos h2, if_pos (by omega)]
        obtain ⟨d, hd⟩ : ∃ d, o - n = d + 1 := ⟨o - n - 1, by omega⟩
        rw [hd, show o - (n + 1) = d by omega]; simp [getO]
      · rw [if_neg h2, if_neg (by omega)]
        simp [upd1, h]

omit [RegC R] in
theorem idxOf_get {ρ : List Nat} (hd : ρ.Nodup) {i : Nat} (hi : i < ρ.length) : ρ.idxOf? (ρ.getD i 0) = some i := by
  induction ρ generalizing i with
  | nil => simp at hi
  | cons x l ih =>
    simp only [List.nodup_cons] at hd
    cases i with
    | zero => simp [List.idxOf?_cons]
    | succ i =>
      have hi' : i < l.length := by simpa using hi
      have := ih hd.2 hi'
      rw [List.idxOf?_cons, List.getD_cons_succ, this]
      have hne : ¬ (x == l.getD i 0) = true := by
        simp only [beq_iff_eq]
        intro e
        exact hd.1 (by rw [e]; simp [List.getD, List.getElem?_eq_getElem hi'])
      rw [if_neg hne]; rfl

theorem use_ok {C : Con R} {U : Use C} (hU : UseOk U) {f : FuncId} (hC : ConOk P f C) : CallOk P f U.spec := by
  intro args ob nbc r hr hp ids w cargs ho hfree ha
  unfold Use.spec at hr
  cases hd : U.dec args ob with
  | none => simp [hd] at hr
  | some q =>
    obtain ⟨x, ρ⟩ := q
    simp only [hd, Option.some.injEq] at hr
    obtain ⟨hlen, hnd, hobs, halen, hargs⟩ := hU.dec args ob x ρ hd
    have g1 : ∀ i, i < C.nb → nmap C.nb ρ nbc i = ρ.getD i 0 := fun i hi => by
      have : Nat.blt i C.nb = true := by simp [Nat.blt, Nat.succ_le_of_lt hi]
      simp [nmap, this]
    have g2 : ∀ i, C.nb ≤ i → nmap C.nb ρ nbc i = nbc + (i - C.nb) := fun i hi => by
      have : Nat.blt i C.nb = false := by
        cases h : Nat.blt i C.nb with
        | false => rfl
        | true => have := Nat.le_of_ble_eq_true (show Nat.ble (i + 1) C.nb = true from h); omega
      simp [nmap, this]
    subst hr
    simp only at hp
    simp only [List.length_map, List.length_range] at hfree
    have hlive : ∀ i, i < C.nb → ∃ p, ids (ρ.getD i 0) = some p := fun i hi => by
      obtain ⟨h1, h2⟩ := hobs i hi
      have : ob (ρ.getD i 0) ≠ .none := h2.none (fun h => h1 ((rnO_none _ _).1 h))
      obtain ⟨p, hp, _⟩ := ho.ok _ _ rfl this
      exact ⟨p, hp⟩
    have hold : ∀ i, i < C.nb → ∀ j, j < U.new → ρ.getD i 0 ≠ nbc + j := fun i hi j hj e => by
      obtain ⟨p, hp⟩ := hlive i hi
      rw [e, hfree j hj] at hp; cases hp
    -- the callee's names
    let idsC : Nm := fun i => if i < C.nb then ids (ρ.getD i 0) else none
    have toJ : ∀ K, Le idsC K → ∃ J, Le ids J ∧ ∀ i, i < C.nb → K i = J (ρ.getD i 0) := by
      intro K hK
      refine ⟨fun o => match ρ.idxOf? o with
        | some i => K i
        | none => tot ids o, fun o p hp => ?_, fun i hi => ?_⟩
      · cases hi : ρ.idxOf? o with
        | none => simp only [hi]; exact Le_tot ids o p hp
        | some i =>
          simp only [hi]
          obtain ⟨h1, h2⟩ := idxOf_lt hi
          have h3 : ρ.getD i 0 = o := by simp [List.getD, h2]
          exact hK i p (by simp only [idsC]; rw [if_pos (by omega), h3]; exact hp)
      · simp only [idxOf_get hnd (by omega : i < ρ.length)]
    have hoC : ObOk idsC (getO (C.ob x)) w := by
      refine ⟨fun i y hi hy => ?_, fun i j p p' b hne hpi hpj hex hbk => ?_⟩
      · have hi' : i < C.nb := by
          rcases Nat.lt_or_ge i C.nb with h | h
          · exact h
          · exact absurd (hi.symm.trans (hU.obOut x i h)) hy
        obtain ⟨h1, h2⟩ := hobs i hi'
        obtain ⟨p, hp, hok⟩ := ho.ok _ _ rfl (h2.none (fun h => h1 ((rnO_none _ _).1 h)))
        refine ⟨p, by simp only [idsC]; rw [if_pos hi']; exact hp, ?_⟩
        subst hi
        exact (hok.congr h2).unrn (hU.scOb x i) toJ
      · by_cases hi' : i < C.nb
        · by_cases hj' : j < C.nb
          · simp only [idsC, if_pos hi'] at hpi
            simp only [idsC, if_pos hj'] at hpj
            have e1 := (hobs i hi').2
            have e2 := (hobs j hj').2
            have hne' : ρ.getD i 0 ≠ ρ.getD j 0 := fun e => by
              have h1 := idxOf_get hnd (by omega : i < ρ.length)
              have h2 := idxOf_get hnd (by omega : j < ρ.length)
              rw [e, h2] at h1; exact hne (Option.some.inj h1).symm
            have := ho.dist _ _ p p' b hne' hpi hpj (by rw [e1.excl, rnO_excl]; exact hex) (by rw [e1.blk, rnO_blk]; exact hbk)
            rwa [e2.blk, rnO_blk] at this
          · simp [idsC, hj'] at hpj
        · simp [idsC, hi'] at hpi
    have haC : ArgsOk idsC (C.args x) cargs := by
      obtain ⟨hl, hg⟩ := argsOk_get ha
      have gen : ∀ (xs : List (W R)) (vs : List Value), xs.length = vs.length → (∀ t, t < xs.length → WOk idsC (xs.getD t .un) (vs.getD t undef)) → ArgsOk idsC xs vs := by
        intro xs
        induction xs with
        | nil => intro vs h _; cases vs with
          | nil => trivial
          | cons _ _ => simp at h
        | cons y xs ih =>
          intro vs h h'
          cases vs with
          | nil => simp at h
          | cons v vs =>
            refine ⟨by simpa [List.getD] using h' 0 (by simp), ih vs (by simpa using h) fun t ht => by simpa [List.getD] using h' (t + 1) (by simpa using ht)⟩
      refine gen _ _ (by omega) fun t ht => ?_
      have h1 := (hg t).congr (hargs t (by omega))
      have hsc := hU.scArgs x t
      generalize (C.args x).getD t .un = c at h1 hsc
      cases hc : c with
      | un => trivial
      | _ =>
        rw [← hc]
        have hne : c ≠ .un := by rw [hc]; simp
        have key : ∀ K, Le idsC K → cargs.getD t undef = denW K c := by
          intro K hK
          obtain ⟨J, hJ, hKJ⟩ := toJ K hK
          have hren : rnW (fun i => ρ.getD i 0) c ≠ .un := fun h => hne (rnW_un.1 h)
          have hv : cargs.getD t undef = denW J (rnW (fun i => ρ.getD i 0) c) := by
            cases hq : rnW (fun i => ρ.getD i 0) c with
            | un => exact absurd hq hren
            | v y => rw [hq] at h1; exact h1 J hJ
            | tup y => rw [hq] at h1; exact h1 J hJ
          rw [hv, denW_rn]
          exact (hsc K _ hKJ).symm
        rw [hc]; rw [hc] at key; exact key
    have hgo := hC x (hU.need x hp) idsC w cargs hoC (fun o h => by simp only [idsC]; rw [if_neg (by omega)]) haC
    have exC : ∀ b, exB idsC (getO (C.ob x)) b → ∃ i p, i < C.nb ∧ ids (ρ.getD i 0) = some p ∧ (ob (ρ.getD i 0)).excl = true ∧ (ob (ρ.getD i 0)).blk p = some b := by
      rintro b ⟨i, p, h1, h2, h3⟩
      by_cases hi : i < C.nb
      · simp only [idsC, if_pos hi] at h1
        have e := (hobs i hi).2
        exact ⟨i, p, hi, h1, by rw [e.excl, rnO_excl]; exact h2, by rw [e.blk, rnO_blk]; exact h3⟩
      · simp [idsC, hi] at h1
    have fin : ∀ v w', (∃ ids'C, WOk ids'C (C.res x) v ∧ C.res x ≠ .un ∧ ObOk ids'C (keptO C.keep (C.ob' x)) w' ∧ (∀ o, o < C.nb → ∀ p, idsC o = some p → ids'C o = some p) ∧
          Fr idsC (getO (C.ob x)) w ids'C (keptO C.keep (C.ob' x)) w') →
        ∃ ids', WOk ids' (rnW (nmap C.nb ρ nbc) (C.res x)) v ∧
          ObOk ids' (Res.ap ⟨U.need x, rnW (nmap C.nb ρ nbc) (C.res x), U.mod.map fun i => (ρ.getD i 0, rnO (nmap C.nb ρ nbc) (keptO C.keep (C.ob' x) i)), (List.range U.new).map fun j => rnO (nmap C.nb ρ nbc) (keptO C.keep (C.ob' x) (C.nb + j))⟩ nbc ob) w' ∧
          LeN ids ids' ∧ (∀ o, ids' o = ids o ∨ nbc ≤ o ∧ o < nbc + ((List.range U.new).map fun j => rnO (nmap C.nb ρ nbc) (keptO C.keep (C.ob' x) (C.nb + j))).length) ∧
          Fr ids ob w ids' (Res.ap ⟨U.need x, rnW (nmap C.nb ρ nbc) (C.res x), U.mod.map fun i => (ρ.getD i 0, rnO (nmap C.nb ρ nbc) (keptO C.keep (C.ob' x) i)), (List.range U.new).map fun j => rnO (nmap C.nb ρ nbc) (keptO C.keep (C.ob' x) (C.nb + j))⟩ nbc ob) w' := by
      rintro v w' ⟨ids'C, hv, hne, ho', hkeep, hfr⟩
      generalize hkd : keptO C.keep (C.ob' x) = kept at *
      have hsame : ∀ i, i < C.nb → i ∉ U.mod → OEq (getO (C.ob x) i) (kept i) := fun i h1 h2 => by rw [← hkd]; exact hU.same x i h1 h2
      have hsc' : ∀ i, ScO (C.nb + U.new) (kept i) := fun i => by rw [← hkd]; exact hU.scOb' x i
      have hexN : ∀ i, i ∈ U.mod ∨ C.nb ≤ i → (kept i).excl = true ∨ kept i = .none := fun i h => by rw [← hkd]; exact hU.exNew x i h
      let ids' : Nm := fun o => if nbc ≤ o ∧ o < nbc + U.new then ids'C (C.nb + (o - nbc)) else ids o
      have idOld : ∀ i, i < C.nb → ids' (ρ.getD i 0) = ids (ρ.getD i 0) := fun i hi => by
        simp only [ids']
        rw [if_neg]
        rintro ⟨h1, h2⟩
        exact hold i hi (ρ.getD i 0 - nbc) (by omega) (by omega)
      have idC : ∀ i, i < C.nb → ids'C i = ids (ρ.getD i 0) := fun i hi => by
        obtain ⟨p, hp⟩ := hlive i hi
        rw [hp]; exact hkeep i hi p (by simp only [idsC]; rw [if_pos hi]; exact hp)
      have idG : ∀ i, i < C.nb + U.new → ids' (nmap C.nb ρ nbc i) = ids'C i := fun i hi => by
        by_cases h : i < C.nb
        · rw [g1 i h, idOld i h, idC i h]
        · rw [g2 i (by omega)]
          simp only [ids']
          rw [if_pos (by omega)]; congr 1; omega
      have toK : ∀ J, Le ids' J → ∃ K, Le ids'C K ∧ ∀ i, i < C.nb + U.new → K i = J (nmap C.nb ρ nbc i) := by
        intro J hJ
        refine ⟨fun i => if i < C.nb + U.new then J (nmap C.nb ρ nbc i) else tot ids'C i, fun i p hp => ?_, fun i hi => by simp [hi]⟩
        by_cases h : i < C.nb + U.new
        · simp only [if_pos h]; exact hJ _ p (by rw [idG i h]; exact hp)
        · simp only [if_neg h]; exact Le_tot ids'C i p hp
      have hle : LeN ids ids' := by
        intro o p hp
        simp only [ids']
        rw [if_neg]
        · exact hp
        · rintro ⟨h1, h2⟩
          have := hfree (o - nbc) (by omega)
          rw [show nbc + (o - nbc) = o by omega, hp] at this; cases this
      -- which object is under a name
      have apNew : ∀ o, nbc ≤ o ∧ o < nbc + U.new → Res.ap ⟨U.need x, rnW (nmap C.nb ρ nbc) (C.res x), U.mod.map fun i => (ρ.getD i 0, rnO (nmap C.nb ρ nbc) (kept i)), (List.range U.new).map fun j => rnO (nmap C.nb ρ nbc) (kept (C.nb + j))⟩ nbc ob o = rnO (nmap C.nb ρ nbc) (kept (C.nb + (o - nbc))) := by
        intro o ho1
        simp only [Res.ap]
        rw [apN_at, if_pos (by simpa using ho1)]
        have : o - nbc < U.new := by omega
        simp [getO, List.getD, this]
      have rinj : ∀ i j, i < C.nb → j < C.nb → ρ.getD i 0 = ρ.getD j 0 → i = j := fun i j hi hj e => by
        have h1 := idxOf_get hnd (by omega : i < ρ.length)
        have h2 := idxOf_get hnd (by omega : j < ρ.length)
        rw [e, h2] at h1; exact (Option.some.inj h1).symm
      have keysNd : ((U.mod.map fun i => (ρ.getD i 0, rnO (nmap C.nb ρ nbc) (kept i))).map (·.1)).Nodup := by
        rw [List.map_map]
        have : ∀ l : List Nat, l.Nodup → (∀ i ∈ l, i < C.nb) → (l.map ((·.1) ∘ fun i => (ρ.getD i 0, rnO (nmap C.nb ρ nbc) (kept i)))).Nodup := by
          intro l
          induction l with
          | nil => intro _ _; simp
          | cons a l ih =>
            intro h1 h2
            simp only [List.nodup_cons] at h1
            simp only [List.map_cons, List.nodup_cons]
            refine ⟨fun hm => ?_, ih h1.2 fun i hi => h2 i (by simp [hi])⟩
            obtain ⟨j, hj, he⟩ := List.mem_map.1 hm
            have := rinj j a (h2 j (by simp [hj])) (h2 a (by simp)) he
            exact h1.1 (this ▸ hj)
        exact this _ hU.moddup hU.modlt
      have apMod : ∀ i, i ∈ U.mod → Res.ap ⟨U.need x, rnW (nmap C.nb ρ nbc) (C.res x), U.mod.map fun i => (ρ.getD i 0, rnO (nmap C.nb ρ nbc) (kept i)), (List.range U.new).map fun j => rnO (nmap C.nb ρ nbc) (kept (C.nb + j))⟩ nbc ob (ρ.getD i 0) = rnO (nmap C.nb ρ nbc) (kept i) := by
        intro i hi
        have hlt := hU.modlt i hi
        simp only [Res.ap]
        rw [apN_at, if_neg]
        · exact apU_in _ _ _ _ keysNd (List.mem_map.2 ⟨i, hi, rfl⟩)
        · rintro ⟨h1, h2⟩
          simp only [List.length_map, List.length_range] at h2
          exact hold i hlt (ρ.getD i 0 - nbc) (by omega) (by omega)
      have apOther : ∀ o, ¬ (nbc ≤ o ∧ o < nbc + U.new) → (∀ i ∈ U.mod, ρ.getD i 0 ≠ o) → Res.ap ⟨U.need x, rnW (nmap C.nb ρ nbc) (C.res x), U.mod.map fun i => (ρ.getD i 0, rnO (nmap C.nb ρ nbc) (kept i)), (List.range U.new).map fun j => rnO (nmap C.nb ρ nbc) (kept (C.nb + j))⟩ nbc ob o = ob o := by
        intro o h1 h2
        simp only [Res.ap]
        rw [apN_at, if_neg (by simpa using h1)]
        refine apU_not _ _ _ fun q hq => ?_
        obtain ⟨i, hi, rfl⟩ := List.mem_map.1 hq
        exact h2 i hi
      generalize hap : Res.ap ⟨U.need x, rnW (nmap C.nb ρ nbc) (C.res x), U.mod.map fun i => (ρ.getD i 0, rnO (nmap C.nb ρ nbc) (kept i)), (List.range U.new).map fun j => rnO (nmap C.nb ρ nbc) (kept (C.nb + j))⟩ nbc ob = ap at *
      -- seen by the callee, or hidden from it
      have cls : ∀ o, (∃ i, i < C.nb + U.new ∧ nmap C.nb ρ nbc i = o ∧ (ap o).excl = (kept i).excl ∧ (∀ p, (ap o).blk p = (kept i).blk p) ∧ (ap o = .none ↔ kept i = .none) ∧ (∀ p, OOk ids'C p w' (kept i) → OOk ids' p w' (ap o)) ∧
            ((i ∈ U.mod ∨ C.nb ≤ i) ∨ (i < C.nb ∧ ap o = ob o))) ∨
          (ids' o = ids o ∧ ap o = ob o ∧ ∀ i, i < C.nb → ρ.getD i 0 ≠ o) := by
        intro o
        by_cases hnew : nbc ≤ o ∧ o < nbc + U.new
        · left
          refine ⟨C.nb + (o - nbc), by omega, by rw [g2 _ (by omega)]; omega, ?_, ?_, ?_, ?_, .inl (.inr (by omega))⟩
          · rw [apNew o hnew, rnO_excl]
          · intro p; rw [apNew o hnew, rnO_blk]
          · rw [apNew o hnew, rnO_none]
          · intro p h; rw [apNew o hnew]; exact h.rn (hsc' _) toK
        · by_cases hin : ∃ i, i < C.nb ∧ ρ.getD i 0 = o
          · left
            obtain ⟨i, hi, rfl⟩ := hin
            by_cases hm : i ∈ U.mod
            · refine ⟨i, by omega, g1 i hi, ?_, ?_, ?_, ?_, .inl (.inl hm)⟩
              · rw [apMod i hm, rnO_excl]
              · intro p; rw [apMod i hm, rnO_blk]
              · rw [apMod i hm, rnO_none]
              · intro p h; rw [apMod i hm]; exact h.rn (hsc' _) toK
            · have e0 : ap (ρ.getD i 0) = ob (ρ.getD i 0) := apOther _ hnew fun j hj e => hm (by rw [← rinj j i (hU.modlt j hj) hi e]; exact hj)
              have e1 := (hobs i hi).2
              have e2 := hsame i hi hm
              refine ⟨i, by omega, g1 i hi, ?_, ?_, ?_, ?_, .inr ⟨hi, e0⟩⟩
              · rw [e0, e1.excl, rnO_excl, e2.excl]
              · intro p; rw [e0, e1.blk, rnO_blk, e2.blk]
              · rw [e0]
                constructor
                · intro h; exact absurd ((rnO_none _ _).1 (by have := e1.symm.none (b := ob (ρ.getD i 0)); exact Classical.byContradiction fun hc => (e1.none hc) h)) (hobs i hi).1
                · intro h; exact absurd h (e2.symm.none (hobs i hi).1)
              · intro p h
                rw [e0]
                refine OOk.congr ?_ e1.symm
                refine (h.congr e2.symm).rn (hU.scOb x i) fun J hJ => ?_
                obtain ⟨K, hK, hKJ⟩ := toK J hJ
                exact ⟨K, hK, fun j hj => by rw [hKJ j (by omega), g1 j hj]⟩
          · right
            refine ⟨by simp only [ids']; rw [if_neg hnew], apOther o hnew fun i hi e => hin ⟨i, hU.modlt i hi, e⟩, fun i hi e => hin ⟨i, hi, e⟩⟩
      have hidden : ∀ o p b, (∀ i, i < C.nb → ρ.getD i 0 ≠ o) → ids o = some p → (ob o).blk p = some b → ¬ exB idsC (getO (C.ob x)) b := by
        intro o p b hne' hp hb he
        obtain ⟨i, q, hi, h1, h2, h3⟩ := exC b he
        exact ho.dist _ o q p b (hne' i hi) h1 hp h2 h3 hb
      refine ⟨ids', ?_, ⟨fun o y hy hny => ?_, fun o o' p p' b hoo hp hp' hex hbk hbk' => ?_⟩, hle, fun o => ?_, ?_⟩
      · have hne2 : rnW (nmap C.nb ρ nbc) (C.res x) ≠ .un := fun h => hne (rnW_un.1 h)
        have key : ∀ J, Le ids' J → v = denW J (rnW (nmap C.nb ρ nbc) (C.res x)) := by
          intro J hJ
          obtain ⟨K, hK, hKJ⟩ := toK J hJ
          rw [denW_rn, ← hU.scRes x K _ hKJ]
          cases hq : C.res x with
          | un => exact absurd hq hne
          | v y => rw [hq] at hv; exact hv K hK
          | tup y => rw [hq] at hv; exact hv K hK
        cases hq : rnW (nmap C.nb ρ nbc) (C.res x) with
        | un => trivial
        | v y => rw [hq] at key; exact key
        | tup y => rw [hq] at key; exact key
      · subst hy
        rcases cls o with ⟨i, hi, hgi, c1, c2, c3, c4, _⟩ | ⟨h1, h2, h3⟩
        · obtain ⟨p, hp, hok⟩ := ho'.ok i _ rfl (fun h => hny (c3.2 h))
          exact ⟨p, by rw [← hgi, idG i hi]; exact hp, c4 p hok⟩
        · rw [h2] at hny ⊢
          obtain ⟨p, hp, hok⟩ := ho.ok o _ rfl hny
          refine ⟨p, by rw [h1]; exact hp, (hok.keep hfr.size fun b hb => hfr.same b (hok.blk_lt hb) (hidden o p b h3 hp hb)).ext hle⟩
      · rcases cls o with ⟨i, hi, hgi, c1, c2, c3, c4, c5⟩ | ⟨h1, h2, h3⟩ <;> rcases cls o' with ⟨i', hi', hgi', c1', c2', c3', c4', c5'⟩ | ⟨h1', h2', h3'⟩
        · have hii : i ≠ i' := fun e => hoo (by rw [← hgi, ← hgi', e])
          rw [← hgi, idG i hi] at hp
          rw [← hgi', idG i' hi'] at hp'
          exact ho'.dist i i' p p' b hii hp hp' (by rw [← c1]; exact hex) (by rw [← c2]; exact hbk) (by rw [← c2']; exact hbk')
        · rw [← hgi, idG i hi] at hp
          rw [h1'] at hp'; rw [h2'] at hbk'
          have hexb : exB ids'C kept b := ⟨i, p, hp, by rw [← c1]; exact hex, by rw [← c2]; exact hbk⟩
          rcases hfr.ex b hexb with h | h
          · exact hidden o' p' b h3' hp' hbk' h
          · have := ho.blk_lt hp' hbk'; omega
        · rw [h1] at hp; rw [h2] at hex hbk
          rw [← hgi', idG i' hi'] at hp'
          rcases c5' with hmn | ⟨hin, heq⟩
          · rcases hexN i' hmn with hx1 | hx1
            · have hexb : exB ids'C kept b := ⟨i', p', hp', hx1, by rw [← c2']; exact hbk'⟩
              rcases hfr.ex b hexb with h | h
              · exact hidden o p b h3 hp hbk h
              · have := ho.blk_lt hp hbk; omega
            · rw [c2', hx1] at hbk'; simp [O.blk] at hbk'
          · rw [heq] at hbk'
            have hp2 : ids o' = some p' := by rw [← hgi', g1 i' hin, ← idC i' hin]; exact hp'
            exact ho.dist o o' p p' b hoo hp hp2 hex hbk hbk'
        · rw [h1] at hp; rw [h1'] at hp'; rw [h2] at hex hbk; rw [h2'] at hbk'
          exact ho.dist o o' p p' b hoo hp hp' hex hbk hbk'
      · by_cases h : nbc ≤ o ∧ o < nbc + U.new
        · exact .inr (by simpa using h)
        · exact .inl (by simp only [ids']; rw [if_neg h])
      · refine ⟨hfr.os, hfr.tape, hfr.output, hfr.size, fun b hb hn => hfr.same b hb fun he => hn ?_, fun b hb => ?_⟩
        · obtain ⟨i, q, hi, h1, h2, h3⟩ := exC b he
          exact ⟨_, q, h1, h2, h3⟩
        · obtain ⟨o, p, hp, hex, hbk⟩ := hb
          rcases cls o with ⟨i, hi, hgi, c1, c2, c3, c4, c5⟩ | ⟨h1, h2, h3⟩
          · rw [← hgi, idG i hi] at hp
            rcases hfr.ex b ⟨i, p, hp, by rw [← c1]; exact hex, by rw [← c2]; exact hbk⟩ with h | h
            · obtain ⟨j, q, hj, k1, k2, k3⟩ := exC b h
              exact .inl ⟨_, q, k1, k2, k3⟩
            · exact .inr h
          · rw [h1] at hp; rw [h2] at hex hbk
            exact .inl ⟨o, p, hp, hex, hbk⟩
    rcases hgo with ⟨q1, q2⟩ | ⟨v, w', q1, q2⟩
    · exact .inl ⟨q1, q2.mono fun e w' ⟨v, he, hh⟩ => ⟨v, he, fin v w' hh⟩⟩
    · exact .inr ⟨v, w', q1, fin v w' q2⟩
end Go.SX
