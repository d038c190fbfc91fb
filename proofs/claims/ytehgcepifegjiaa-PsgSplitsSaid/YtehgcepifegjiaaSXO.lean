/- Functions: contracts of what the evaluator makes of their code; calls by contracts. -/
import Derived.Test.YtehgcepifegjiaaSXN
namespace Go.SX
variable {R : Reg} {P : Program}

/-- the end of a function: its results, and the objects that are kept -/
def finish [DecidableEq R.K] (E : Env R) (rs : List ResultVar) (keep : List Nat) : Ex → St R → Out R
  | .exit _, _ => .fail
  | _, st => match resW E st rs with
    | some (p, v) => needO p (.leaf .ret ⟨[v], keep.map (getO st.ob), 0⟩)
    | none => .fail

def entry (n : Nat) (args : List (W R)) (ob : List (O R)) (nb : Nat) : St R := ⟨args ++ List.replicate (n - args.length) .un, ob, nb⟩

/-- a function's code, from its arguments on -/
def evF [DecidableEq R.K] (E : Env R) (dr : List Oper → St R → (St R → Out R) → Out R) (fn : Func) (args : List (W R)) (ob : List (O R)) (nb : Nat) (keep : List Nat) : Out R :=
  match fn.body with
  | some c => (evC E dr c (entry fn.ntmps args ob nb)).bind (finish E fn.results.toList keep)
  | none => .fail

def WEq (x y : W R) : Prop := x = y ∨ (y ≠ .un ∧ x ≠ .un ∧ ∀ J, denW J x = denW J y)
def OEq : O R → O R → Prop
  | .agg is, .agg js => ∀ J, flat J is = flat J js
  | .lst a n own e, .lst b m own' e' => n = m ∧ own = own' ∧ e = e' ∧ a.esz = b.esz ∧ ∀ J, lcells J a n = lcells J b n
  | .none, .none => True
  | _, _ => False

theorem WOk.congr {ids : Nm} {x y : W R} {v : Value} (h : WOk ids x v) (he : WEq x y) : WOk ids y v := by
  rcases he with rfl | ⟨hy, hx, he⟩
  · exact h
  · cases y with
    | un => exact absurd rfl hy
    | v y =>
      cases x with
      | un => exact absurd rfl hx
      | v x => intro J hJ; rw [← he J]; exact h J hJ
      | tup x => intro J hJ; rw [← he J]; exact h J hJ
    | tup y =>
      cases x with
      | un => exact absurd rfl hx
      | v x => intro J hJ; rw [← he J]; exact h J hJ
      | tup x => intro J hJ; rw [← he J]; exact h J hJ

theorem OEq.blk {a b : O R} (h : OEq a b) (p : Pl) : a.blk p = b.blk p := by
  cases a <;> cases b <;> first | rfl | exact h.elim
theorem OEq.excl {a b : O R} (h : OEq a b) : a.excl = b.excl := by
  cases a <;> cases b <;> first | rfl | exact h.elim | skip
  obtain ⟨_, h2, _⟩ := h; simp [O.excl, h2]
theorem OEq.none {a b : O R} (h : OEq a b) (hb : b ≠ .none) : a ≠ .none := by
  cases a <;> cases b <;> simp_all [OEq]

theorem OOk.congr {ids : Nm} {p : Pl} {w : World} {a b : O R} (h : OOk ids p w a) (he : OEq a b) : OOk ids p w b := by
  cases a <;> cases b <;> try exact he.elim
  case agg.agg is js => obtain ⟨c, e, h1, h2⟩ := h; exact ⟨c, e, h1, fun J hJ => by rw [← he J]; exact h2 J hJ⟩
  case lst.lst a n own e b m own' e' =>
    obtain ⟨rfl, rfl, rfl, h4, h5⟩ := he
    cases own with
    | true => obtain ⟨xs, h1, h2⟩ := h; exact ⟨xs, by rw [← h4]; exact h1, fun J hJ => by rw [← h5 J]; exact h2 J hJ⟩
    | false =>
      rcases h with h | ⟨ad, cap, xs, hv, hs, hlt, hn, hc, hx, h1⟩
      · exact .inl h
      · exact .inr ⟨ad, cap, xs, hv, hs, hlt, hn, hc, fun J hJ => by rw [← h5 J]; exact hx J hJ, h1⟩
  case none.none => trivial

def resOne (tmps : Array Value) : ResultVar → Sem Value
  | .tmp t => pure (tmps.getD t undef)
  | .cell c t => do loadVar t (← asAddr (tmps.getD c undef))
theorem results_eq (fn : Func) (tmps : Array Value) : results fn tmps = (do let vs ← fn.results.mapM (resOne tmps); pure (if h : vs.size = 1 then vs[0] else .tuple vs)) := by
  unfold results
  congr 2

/-- the model's reading of the results -/
theorem resV_ok [DecidableEq R.K] {E : Env R} (hE : EnvOk P E) {st : St R} {ids : Nm} {a : Act} {w : World} (hs : Sim ids st a w) {x : ResultVar} {p : Option Prop} {v : W R} (h : resV E st x = some (p, v)) (hp : NeedP p) :
    ∃ u, (resOne a.tmps x).run P w = .ok u w ∧ WOk ids v u := by
  cases x with
  | tmp t =>
    simp only [resV, Option.some.injEq, Prod.mk.injEq] at h
    obtain ⟨rfl, rfl⟩ := h
    exact ⟨_, rfl, hs.slots t⟩
  | cell c t =>
    simp only [resV] at h
    cases ht : E.ti t with
    | none => simp [ht] at h
    | some i =>
      simp only [ht] at h
      cases hl : doLoad i (st.sl.getD c .un) (getO st.ob) with
      | none => simp only [hl, reduceCtorEq] at h
      | some r =>
        simp only [hl, Option.some.injEq, Prod.mk.injEq] at h
        obtain ⟨rfl, rfl⟩ := h
        have hcell := hs.slots c
        obtain ⟨u, hrun, hv, _, _⟩ := doLoad_pure (P := P) (hE.ti t i ht).1 hs.ob hcell hl hp
        refine ⟨u, ?_, hv⟩
        cases hval : a.tmps.getD c undef with
        | pointer ad =>
          cases ad with
          | none => rw [hval] at hrun; simp [Instr.loadAt, Instr.sureAddr] at hrun
          | some ad =>
            rw [hval] at hrun
            simp only [Instr.loadAt, Instr.sureAddr, Sem.run_bind, Sem.run_pure, Result.andThen_ok] at hrun
            simp only [resOne, asAddr, hval, Sem.run_bind, Sem.run_pure, Result.andThen_ok]
            cases hq : (loadVar t ad).run P w with
            | ok u2 w2 =>
              rw [hq] at hrun
              simp only [Result.andThen_ok, Result.ok.injEq, Next.value.injEq] at hrun
              rw [hrun.1, hrun.2]
            | halt x w2 => rw [hq] at hrun; simp at hrun
        | _ => rw [hval] at hrun; simp [Instr.loadAt, Instr.sureAddr] at hrun

theorem andO_ok {p q : Option Prop} : NeedP (andO p q) ↔ NeedP p ∧ NeedP q := by
  cases p <;> cases q <;> simp [andO, NeedP]

theorem resVs_ok [DecidableEq R.K] {E : Env R} (hE : EnvOk P E) {st : St R} {ids : Nm} {a : Act} {w : World} (hs : Sim ids st a w) : ∀ {xs : List ResultVar} {p : Option Prop} {vs : List (W R)}, resVs E st xs = some (p, vs) → NeedP p →
    ∃ us, (xs.mapM (resOne a.tmps)).run P w = .ok us w ∧ ArgsOk ids vs us
  | [], p, vs, h, hp => by
    simp only [resVs, Option.some.injEq, Prod.mk.injEq] at h
    obtain ⟨rfl, rfl⟩ := h
    exact ⟨[], rfl, trivial⟩
  | x :: xs, p, vs, h, hp => by
    simp only [resVs] at h
    cases h1 : resV E st x with
    | none => simp [h1] at h
    | some q =>
      obtain ⟨p1, v⟩ := q
      cases h2 : resVs E st xs with
      | none => simp [h1, h2] at h
      | some q =>
        obtain ⟨p2, vs'⟩ := q
        simp only [h1, h2, Option.some.injEq, Prod.mk.injEq] at h
        obtain ⟨rfl, rfl⟩ := h
        obtain ⟨hp1, hp2⟩ := andO_ok.1 hp
        obtain ⟨u, hu, hw⟩ := resV_ok hE hs h1 hp1
        obtain ⟨us, hus, hws⟩ := resVs_ok hE hs h2 hp2
        refine ⟨u :: us, ?_, hw, hws⟩
        rw [List.mapM_cons]
        simp only [Sem.run_bind, Sem.run_pure]
        rw [hu]
        simp only [Result.andThen_ok]
        rw [hus]
        rfl

theorem unVs_ok {ids : Nm} : ∀ {vs : List (W R)} {us : List (V R)} {xs : List Value}, unVs vs = some us → ArgsOk ids vs xs → ∀ J, Le ids J → xs = us.map (denV J)
  | [], us, [], h, _, J, _ => by simp only [unVs, Option.some.injEq] at h; subst h; rfl
  | [], _, _ :: _, _, h, _, _ => h.elim
  | _ :: _, _, [], _, h, _, _ => h.elim
  | v :: vs, us, x :: xs, h, ha, J, hJ => by
    simp only [unVs] at h
    cases h1 : unV v with
    | none => simp [h1] at h
    | some z =>
      cases h2 : unVs vs with
      | none => simp [h1, h2] at h
      | some zs =>
        simp only [h1, h2, Option.some.injEq] at h; subst h
        cases v <;> simp only [unV, Option.some.injEq, reduceCtorEq] at h1
        subst h1
        simp only [List.map_cons]
        rw [← unVs_ok h2 ha.2 J hJ]
        congr 1
        exact ha.1 J hJ

theorem resW_ok [DecidableEq R.K] {E : Env R} (hE : EnvOk P E) {fn : Func} {st : St R} {ids : Nm} {a : Act} {w : World} (hs : Sim ids st a w) {p : Option Prop} {v : W R} (h : resW E st fn.results.toList = some (p, v)) (hp : NeedP p) :
    ∃ u, (results fn a.tmps).run P w = .ok u w ∧ WOk ids v u ∧ v ≠ .un := by
  unfold resW at h
  cases hr : resVs E st fn.results.toList with
  | none => simp [hr] at h
  | some q =>
    obtain ⟨p', vs⟩ := q
    have hpp : p' = p := by
      simp only [hr] at h
      split at h
      · split at h
        · cases h
        · simp_all
      · split at h
        · simp_all
        · cases h
      · simp_all
    subst hpp
    obtain ⟨us, hus, hok⟩ := resVs_ok hE hs hr hp
    have hm : (results fn a.tmps).run P w = .ok (if h : us.toArray.size = 1 then us.toArray[0] else .tuple us.toArray) w := by
      rw [results_eq, Array.mapM_eq_mapM_toList]
      simp only [Sem.run_bind, Sem.run_map, hus, Result.andThen_ok, Sem.run_pure]
    rw [hm]
    simp only [hr] at h
    split at h
    · rename_i p2 v2 heq
      simp only [Option.some.injEq, Prod.mk.injEq] at heq
      obtain ⟨rfl, rfl⟩ := heq
      cases us with
      | nil => exact hok.elim
      | cons u us =>
        cases us with
        | cons _ _ => exact hok.2.elim
        | nil =>
          split at h
          · cases h
          · rename_i hne
            simp only [Option.some.injEq, Prod.mk.injEq] at h
            obtain ⟨_, rfl⟩ := h
            exact ⟨u, rfl, hok.1, fun e => hne e⟩
    · rename_i p2 vs2 hne heq
      simp only [Option.some.injEq, Prod.mk.injEq] at heq
      obtain ⟨rfl, rfl⟩ := heq
      cases hu : unVs vs with
      | none => simp [hu] at h
      | some zs =>
        simp only [hu, Option.some.injEq, Prod.mk.injEq, true_and] at h
        subst h
        refine ⟨_, rfl, ?_, by simp⟩
        have hlen : us.toArray.size ≠ 1 := by
          intro hl
          cases us with
          | nil => simp at hl
          | cons u us =>
            cases us with
            | cons _ _ => simp at hl
            | nil =>
              cases vs with
              | nil => exact hok.elim
              | cons v vs =>
                cases vs with
                | cons _ _ => exact hok.2.elim
                | nil => exact hne v rfl
        intro J hJ
        rw [dif_neg hlen]
        simp only [denW]
        rw [unVs_ok hu hok J hJ]
    · cases h

/-- A contract: on such arguments, with such objects, what is answered, and which objects there are then. -/
structure Con (R : Reg) where
  X : Type
  pre : X → Prop
  nb : Nat
  args : X → List (W R)
  ob : X → List (O R)
  keep : List Nat
  res : X → W R
  ob' : X → List (O R)

/-- objects by kept names -/
def keptO (keep : List Nat) (l : List (O R)) : Ob R := fun o => match keep.idxOf? o with
  | some i => getO l i
  | none => .none

def Con.FinOk (C : Con R) (x : C.X) : Ex → St R → Prop := fun _ st =>
  (∃ v, st.sl = [v] ∧ WEq v (C.res x)) ∧ ∀ i, i < C.keep.length → OEq (getO st.ob i) (getO (C.ob' x) i)

def ConOk (P : Program) (f : FuncId) (C : Con R) : Prop :=
  ∀ x, C.pre x → ∀ ids w cargs, ObOk ids (getO (C.ob x)) w → (∀ o, C.nb ≤ o → ids o = none) → ArgsOk ids (C.args x) cargs →
    Goes P f cargs.toArray w fun v w' => ∃ ids', WOk ids' (C.res x) v ∧ C.res x ≠ .un ∧ ObOk ids' (keptO C.keep (C.ob' x)) w' ∧ (∀ o, o < C.nb → ∀ p, ids o = some p → ids' o = some p) ∧
      Fr ids (getO (C.ob x)) w ids' (keptO C.keep (C.ob' x)) w'

theorem idxOf_lt {l : List Nat} {o i : Nat} (h : l.idxOf? o = some i) : i < l.length ∧ l[i]? = some o := by
  induction l generalizing i with
  | nil => simp at h
  | cons x l ih =>
    rw [List.idxOf?_cons] at h
    split at h
    · rename_i hx; simp only [Option.some.injEq] at h; subst h; simp at hx; simp [hx]
    · cases hi : l.idxOf? o with
      | none => simp [hi] at h
      | some j =>
        simp only [hi, Option.map_some, Option.some.injEq] at h; subst h
        obtain ⟨g1, g2⟩ := ih hi
        exact ⟨by simp; omega, by simpa using g2⟩

theorem argsOk_get {ids : Nm} : ∀ {xs : List (W R)} {vs : List Value}, ArgsOk ids xs vs → xs.length = vs.length ∧ ∀ t, WOk ids (xs.getD t .un) (vs.getD t undef)
  | [], [], _ => ⟨rfl, fun t => by simp [List.getD]; trivial⟩
  | [], _ :: _, h => h.elim
  | _ :: _, [], h => h.elim
  | x :: xs, v :: vs, h => by
    obtain ⟨h1, h2⟩ := argsOk_get h.2
    refine ⟨by simp [h1], fun t => ?_⟩
    cases t with
    | zero => simpa [List.getD] using h.1
    | succ t => simpa [List.getD] using h2 t

theorem entry_sim {ids : Nm} {w : World} {n : Nat} {args : List (W R)} {ob : List (O R)} {nb : Nat} {cargs : List Value} (ha : ArgsOk ids args cargs) (hn : args.length ≤ n) (ho : ObOk ids (getO ob) w) (hf : ∀ o, nb ≤ o → ids o = none) :
    Sim ids (entry n args ob nb) { tmps := cargs.toArray ++ Array.replicate (n - cargs.toArray.size) undef, defers := [] } w := by
  obtain ⟨hl, hg⟩ := argsOk_get ha
  refine ⟨by simp [entry]; omega, fun t => ?_, rfl, ho, hf⟩
  simp only [entry]
  have e1 : (cargs.toArray ++ Array.replicate (n - cargs.toArray.size) undef).getD t undef = cargs.getD t undef := by
    rw [Array.getD_eq_getD_getElem?, List.getD, Array.getElem?_append]
    simp only [List.size_toArray]
    split
    · rename_i h; simp
    · rename_i h; rw [List.getElem?_eq_none (by omega)]; simp [Array.getElem?_replicate]; split <;> rfl
  have e2 : (args ++ List.replicate (n - args.length) (.un : W R)).getD t .un = args.getD t .un := by
    rw [List.getD, List.getD, List.getElem?_append]
    split
    · rfl
    · rename_i h; rw [List.getElem?_eq_none (l := args) (by omega)]; rw [List.getElem?_replicate]; split <;> rfl
  rw [e1, e2]; exact hg t

/-- A contract out of the evaluator's answer. -/
theorem conOk_of [DecidableEq R.K] {E : Env R} (hE : EnvOk P E) {dr : List Oper → St R → (St R → Out R) → Out R} {f : FuncId} {fn : Func} {c : Code} {C : Con R} (hdr : DrawOk P C.nb dr) (hf : P.funcs[f]? = some fn) (hb : fn.body = some c)
    (hcall : ∀ args w, (callFunc f args).run P w = .ok (.enter f args) w) (hl : LoopsOk P C.nb E c) (hn : ∀ x, (C.args x).length ≤ fn.ntmps)
    (h : ∀ x, C.pre x → (evF E dr fn (C.args x) (C.ob x) C.nb C.keep).Holds (C.FinOk x)) : ConOk P f C := by
  intro x hx ids w cargs ho hfree ha
  refine .inl ⟨hcall _ _, calls_of_wp hf hb ?_⟩
  have hh := h x hx
  unfold evF at hh
  rw [hb] at hh
  simp only at hh
  rw [Out.holds_bind] at hh
  have hs := entry_sim ha (hn x) ho hfree
  refine wp_mono (evC_ok hE hdr c hl _ _ ids _ w hh hs (Nat.le_refl _)) ?_
  rintro ex a' w' ⟨e', st', ids', he, hq, hs', hm', hst⟩
  have fin : (finish E fn.results.toList C.keep .ret st').Holds (C.FinOk x) → a'.defers = [] ∧ ∃ v, (results fn a'.tmps).run P w' = .ok v w' ∧
      ∃ u, Ending.returned v = .returned u ∧ ∃ ids'', WOk ids'' (C.res x) u ∧ C.res x ≠ .un ∧ ObOk ids'' (keptO C.keep (C.ob' x)) w' ∧ (∀ o, o < C.nb → ∀ p, ids o = some p → ids'' o = some p) ∧
        Fr ids (getO (C.ob x)) w ids'' (keptO C.keep (C.ob' x)) w' := by
    intro hq
    unfold finish at hq
    cases hr : resW E st' fn.results.toList with
    | none => simp [hr, Out.Holds] at hq
    | some q =>
      obtain ⟨p, v⟩ := q
      simp only [hr] at hq
      rw [needO_holds] at hq
      obtain ⟨hp, ⟨v', hv, hw⟩, hobs⟩ := hq
      simp only [List.cons.injEq, and_true] at hv; subst hv
      obtain ⟨u, hu, hwu, hne⟩ := resW_ok hE hs' hr hp
      have hkept : ∀ o, keptO C.keep (C.ob' x) o ≠ .none → OEq (getO st'.ob o) (keptO C.keep (C.ob' x) o) := by
        intro o hno
        unfold keptO at hno ⊢
        cases hi : C.keep.idxOf? o with
        | none => simp [hi] at hno
        | some i =>
          obtain ⟨h1, h2⟩ := idxOf_lt hi
          have := hobs i h1
          have e1 : getO (C.keep.map (getO st'.ob)) i = getO st'.ob o := by
            simp [getO, List.getD, h2]
          rw [e1] at this
          exact this
      refine ⟨hs'.defers, u, hu, u, rfl, ids', hwu.congr hw, ?_, ⟨fun o y hy hny => ?_, fun o o' p p' b hne hp hp' hex hbk => ?_⟩, ?_, ?_⟩
      · rcases hw with rfl | ⟨h1, _⟩
        · exact hne
        · exact h1
      · have hq := hkept o (by rw [hy]; exact hny)
        rw [hy] at hq
        obtain ⟨p, hp, hok⟩ := hs'.ob.ok o _ rfl (hq.none hny)
        exact ⟨p, hp, hok.congr hq⟩
      · by_cases h1 : keptO C.keep (C.ob' x) o = .none
        · rw [h1] at hex; simp [O.excl] at hex
        · have q1 := hkept o h1
          by_cases h2 : keptO C.keep (C.ob' x) o' = .none
          · rw [h2]; simp [O.blk]
          · have q2 := hkept o' h2
            rw [← q2.blk]
            exact hs'.ob.dist o o' p p' b hne hp hp' (by rw [q1.excl]; exact hex) (by rw [q1.blk]; exact hbk)
      · exact hst.keep
      · refine ⟨hst.fr.os, hst.fr.tape, hst.fr.output, hst.fr.size, hst.fr.same, fun b hb => hst.fr.ex b ?_⟩
        obtain ⟨o, p, h1, h2, h3⟩ := hb
        have hno : keptO C.keep (C.ob' x) o ≠ .none := by intro h; rw [h] at h2; simp [O.excl] at h2
        have q1 := hkept o hno
        exact ⟨o, p, h1, by rw [q1.excl]; exact h2, by rw [q1.blk]; exact h3⟩
  cases e' with
  | normal => subst he; exact fin hq
  | ret => subst he; exact fin hq
  | exit i => exact hq.elim
end Go.SX
