/- Contracts as checked trees; their use at a call; tables of types by a check. -/
import Derived.Test.YtehgcepifegjiaaSXZ
namespace Go.SX
variable {R : Reg} {P : Program}

/-! ### Contracts -/
def obC [DecidableEq R.K] [RegP R] : List (O R) → List (O R) → Option (List Prop)
  | [], [] => some []
  | x :: r, y :: s => ap2 (eqO x y) (obC r s)
  | _, _ => none
theorem obC_ok [DecidableEq R.K] [RegP R] : ∀ {xs ys : List (O R)} {ps : List Prop}, obC xs ys = some ps → (∀ p ∈ ps, p) → ∀ i, OEq (getO xs i) (getO ys i)
  | [], [], _, _, _, i => by simp [getO, List.getD, OEq]
  | [], _ :: _, _, h, _, _ => by cases h
  | _ :: _, [], _, h, _, _ => by cases h
  | x :: r, y :: s, ps, h, hp, i => by
    obtain ⟨a, b, h1, h2, h3, h4⟩ := ap2_ok h hp
    cases i with
    | zero => exact eqO_ok h1 h3
    | succ i => exact obC_ok h2 h4 i

def Con.look [DecidableEq R.K] [RegP R] (C : Con R) (x : C.X) : Ex → St R → Out R := fun _ st =>
    match st.sl with
    | [v] => match ap2 (eqW v (C.res x)) (obC st.ob (C.ob' x)) with
      | some ps => allOf ps (.leaf .ret ⟨[], [], 0⟩)
      | none => .fail
    | _ => .fail

/-- what a function's code makes, against what is said of it -/
def Con.tree [DecidableEq R.K] [RegP R] (C : Con R) (E : Env R) (dr : List Oper → St R → (St R → Out R) → Out R) (fn : Func) (x : C.X) : Out R :=
  (evF E dr fn (C.args x) (C.ob x) C.nb C.keep).bind (C.look x)

structure Good (o : Out R) : Prop where
  holds : o.Holds fun _ _ => True

theorem conOk_tree [DecidableEq R.K] [RegP R] {E : Env R} (hE : EnvOk P E) {dr : List Oper → St R → (St R → Out R) → Out R} {f : FuncId} {fn : Func} {c : Code} {C : Con R} (hdr : DrawOk P C.nb dr) (hf : P.funcs[f]? = some fn) (hb : fn.body = some c)
    (hcall : ∀ args w, (callFunc f args).run P w = .ok (.enter f args) w) (hl : LoopsOk P C.nb E c) (hn : ∀ x, (C.args x).length ≤ fn.ntmps)
    (h : ∀ x, C.pre x → Good (C.tree E dr fn x)) : ConOk P f C := by
  refine conOk_of hE hdr hf hb hcall hl hn fun x hx => ?_
  have hh := (h x hx).holds
  unfold Con.tree at hh
  rw [Out.holds_bind] at hh
  refine Out.Holds.mono (fun e st hq => ?_) hh
  unfold Con.look at hq
  split at hq
  · rename_i v hv
    cases hps : ap2 (eqW v (C.res x)) (obC st.ob (C.ob' x)) with
    | none => simp only [hps] at hq; exact hq.elim
    | some ps =>
      simp only [hps] at hq
      obtain ⟨h1, _⟩ := allOf_holds hq
      obtain ⟨a, b, e1, e2, e3, e4⟩ := ap2_ok hps h1
      exact ⟨⟨v, hv, eqW_ok e1 e3⟩, fun i _ => obC_ok e2 e4 i⟩
  · exact hq.elim

theorem loopsOk_none {m : Nat} {E : Env R} (h : ∀ k, E.loop k = none) : ∀ c : Code, LoopsOk P m E c
  | .seq a b => ⟨loopsOk_none h a, loopsOk_none h b⟩
  | .cond _ a b => ⟨loopsOk_none h a, loopsOk_none h b⟩
  | .block _ c => loopsOk_none h c
  | .loop c => by unfold LoopsOk; rw [h]; exact loopsOk_none h c
  | .skip => trivial
  | .region _ _ _ => trivial
  | .exit _ => trivial
  | .label _ => trivial
  | .ret => trivial
  | .rangeFunc _ _ _ _ => trivial
  | .scope _ => trivial
  | .goto _ => trivial
  | .refuse _ => trivial

/-! ### Use at a call -/
structure Call1 (C : Con R) where
  pre : C.X → List Prop
  mod : List Nat
  new : Nat
  dec : List (W R) → Ob R → Option (C.X × List Nat)

def andN : List Prop → Option Prop
  | [] => none
  | [p] => some p
  | p :: r => match andN r with
    | some q => some (p ∧ q)
    | none => some p
theorem andN_ok : ∀ {ps : List Prop}, NeedP (andN ps) → ∀ p ∈ ps, p
  | [], _, p, hp => by simp at hp
  | [q], h, p, hp => by rw [List.mem_singleton] at hp; rw [hp]; exact h
  | q :: r :: s, h, p, hp => by
    have ih := andN_ok (ps := r :: s)
    simp only [andN] at h
    cases hc : andN (r :: s) with
    | none =>
      cases s <;> simp [andN] at hc
      split at hc <;> cases hc
    | some q' =>
      have h2 : q ∧ q' := by
        have : andN (q :: r :: s) = some (q ∧ q') := by
          show (match andN (r :: s) with | some q' => some (q ∧ q') | none => some q) = _
          rw [hc]
        have h3 : NeedP (andN (q :: r :: s)) := h
        rw [this] at h3; exact h3
      rcases List.mem_cons.1 hp with rfl | hp
      · exact h2.1
      · exact ih (by rw [hc]; exact h2.2) p hp

def argN [DecidableEq R.K] [RegP R] (g : Nat → Nat) : List (W R) → List (W R) → Option (List Prop)
  | [], [] => some []
  | x :: r, y :: s => ap2 (eqW x (rnW g y)) (argN g r s)
  | _, _ => none
def obsN [DecidableEq R.K] [RegP R] (g : Nat → Nat) (ob : Ob R) : List (O R) → Nat → Option (List Prop)
  | [], _ => some []
  | y :: s, i => match y with
    | .none => none
    | y => ap2 (eqO (ob (g i)) (rnO g y)) (obsN g ob s (i + 1))

def Call1.chk {C : Con R} (U : Call1 C) (x : C.X) (ρ : List Nat) : Bool :=
  Nat.beq ρ.length C.nb && nodupB ρ && Nat.beq (C.ob x).length C.nb && (C.args x).all (scW C.nb) && (C.ob x).all (scO C.nb) && scW (C.nb + U.new) (C.res x) && (C.ob' x).all (scO (C.nb + U.new)) &&
  ((U.mod ++ (List.range U.new).map (C.nb + ·)).all fun i => match keptO C.keep (C.ob' x) i with
    | .none => true
    | y => y.excl)
/-- what does not hang on the case -/
def Call1.st {C : Con R} (U : Call1 C) : Bool := C.keep.all (fun i => Nat.blt i (C.nb + U.new)) && U.mod.all (fun i => Nat.blt i C.nb) && nodupB U.mod

def Call1.spec [DecidableEq R.K] [RegP R] {C : Con R} (U : Call1 C) : Spec R := fun args ob nbc =>
  match U.dec args ob with
  | some (x, ρ) => match U.chk x ρ, ap2 (argN (fun i => ρ.getD i 0) args (C.args x)) (obsN (fun i => ρ.getD i 0) ob (C.ob x) 0) with
    | true, some ps => some ⟨andN (U.pre x ++ ps), rnW (nmap C.nb ρ nbc) (C.res x), U.mod.map fun i => (ρ.getD i 0, rnO (nmap C.nb ρ nbc) (keptO C.keep (C.ob' x) i)),
        (List.range U.new).map fun j => rnO (nmap C.nb ρ nbc) (keptO C.keep (C.ob' x) (C.nb + j))⟩
    | _, _ => none
  | none => none

theorem argN_ok [DecidableEq R.K] [RegP R] {g : Nat → Nat} : ∀ {xs ys : List (W R)} {ps : List Prop}, argN g xs ys = some ps → (∀ p ∈ ps, p) → xs.length = ys.length ∧ ∀ t, t < xs.length → WEq (xs.getD t .un) (rnW g (ys.getD t .un))
  | [], [], _, _, _ => ⟨rfl, fun t h => by simp at h⟩
  | [], _ :: _, _, h, _ => by cases h
  | _ :: _, [], _, h, _ => by cases h
  | x :: r, y :: s, ps, h, hp => by
    obtain ⟨a, b, h1, h2, h3, h4⟩ := ap2_ok h hp
    obtain ⟨g1, g2⟩ := argN_ok h2 h4
    refine ⟨by simp [g1], fun t ht => ?_⟩
    cases t with
    | zero => exact eqW_ok h1 h3
    | succ t => exact g2 t (by simpa using ht)

theorem obsN_ok [DecidableEq R.K] [RegP R] {g : Nat → Nat} {ob : Ob R} : ∀ {ys : List (O R)} {i : Nat} {ps : List Prop}, obsN g ob ys i = some ps → (∀ p ∈ ps, p) → ∀ o, o < ys.length → getO ys o ≠ .none ∧ OEq (ob (g (i + o))) (rnO g (getO ys o))
  | [], _, _, _, _, o, ho => by simp at ho
  | y :: s, i, ps, h, hp, o, ho => by
    have h' : y ≠ .none ∧ ap2 (eqO (ob (g i)) (rnO g y)) (obsN g ob s (i + 1)) = some ps := by
      cases y <;> first | exact ⟨by simp, h⟩ | cases h
    obtain ⟨hne, h'⟩ := h'
    obtain ⟨a, b, e1, e2, e3, e4⟩ := ap2_ok h' hp
    cases o with
    | zero => exact ⟨hne, eqO_ok e1 e3⟩
    | succ o =>
      have := obsN_ok e2 e4 o (by simpa using ho)
      rw [show i + 1 + o = i + (o + 1) by omega] at this
      exact this

theorem callOk_mono {f : FuncId} {sp sp' : Spec R} (h : CallOk P f sp) (hs : ∀ args ob nb r, sp' args ob nb = some r → NeedP r.need → ∃ r0, sp args ob nb = some r0 ∧ NeedP r0.need ∧ r0.val = r.val ∧ r0.upd = r.upd ∧ r0.new = r.new) : CallOk P f sp' := by
  intro args ob nb r hr hp ids w cargs ho hf ha
  obtain ⟨r0, h1, h2, h3, h4, h5⟩ := hs args ob nb r hr hp
  have := h args ob nb r0 h1 h2 ids w cargs ho (by rw [h5]; exact hf) ha
  have e : r0.ap nb ob = r.ap nb ob := by simp only [Res.ap, h4, h5]
  rw [h3, h5, e] at this
  exact this

theorem scW_at [RegC R] {n : Nat} {l : List (W R)} (h : l.all (scW n) = true) (t : Nat) : ScW n (l.getD t .un) := by
  refine scW_ok ?_
  by_cases ht : t < l.length
  · have : l.getD t .un = l[t] := by simp [List.getD, ht]
    rw [this]; exact List.all_eq_true.1 h _ (List.getElem_mem ht)
  · have : l.getD t .un = .un := by simp [List.getD, ht]
    rw [this]; rfl
theorem scO_at [RegC R] {n : Nat} {l : List (O R)} (h : l.all (scO n) = true) (t : Nat) : ScO n (getO l t) := by
  refine scO_ok ?_
  by_cases ht : t < l.length
  · have : getO l t = l[t] := by simp [getO, List.getD, ht]
    rw [this]; exact List.all_eq_true.1 h _ (List.getElem_mem ht)
  · have : getO l t = .none := by simp [getO, List.getD, ht]
    rw [this]; rfl

/-- those of a contract's cases that pass the check -/
def Con.sub (C : Con R) (G : C.X → Prop) : Con R := ⟨{ x : C.X // G x }, fun x => C.pre x.1, C.nb, fun x => C.args x.1, fun x => C.ob x.1, C.keep, fun x => C.res x.1, fun x => C.ob' x.1⟩

theorem Call1.ok [DecidableEq R.K] [RegP R] [RegC R] {C : Con R} (U : Call1 C) (hst : U.st = true) (hpre : ∀ x, (∀ p ∈ U.pre x, p) → C.pre x) (hsame : ∀ x i, i < C.nb → i ∉ U.mod → OEq (getO (C.ob x) i) (keptO C.keep (C.ob' x) i)) {f : FuncId} (hC : ConOk P f C) : CallOk P f U.spec := by
  have good : ∀ x ρ, U.chk x ρ = true → U.chk x ((List.range C.nb)) = true := by
    intro x ρ h
    simp only [Call1.chk, Bool.and_eq_true] at h ⊢
    obtain ⟨⟨⟨⟨⟨⟨⟨_, _⟩, h3⟩, h4⟩, h5⟩, h6⟩, h7⟩, h8⟩ := h
    refine ⟨⟨⟨⟨⟨⟨⟨by simp, ?_⟩, h3⟩, h4⟩, h5⟩, h6⟩, h7⟩, h8⟩
    have gen : ∀ n k, nodupB ((List.range' k n)) = true := by
      intro n
      induction n with
      | zero => intro k; rfl
      | succ n ih =>
        intro k
        simp only [List.range'_succ, nodupB, Bool.and_eq_true, Bool.not_eq_true', List.any_eq_false]
        refine ⟨fun y hy hb => ?_, ih (k + 1)⟩
        have := Nat.eq_of_beq_eq_true hb
        have := (List.mem_range'_1.1 hy).1
        omega
    rw [List.range_eq_range']; exact gen _ _
  let C' := C.sub fun x => U.chk x (List.range C.nb) = true
  have hC' : ConOk P f C' := fun x hx => hC x.1 hx
  let U' : Use C' := ⟨fun x => andN (U.pre x.1), U.mod, U.new, fun args ob => match U.dec args ob with
    | some (x, ρ) => open Classical in if h : U.chk x ρ = true ∧ (args.length = (C.args x).length ∧ ∀ t, t < args.length → WEq (args.getD t .un) (rnW (fun i => ρ.getD i 0) ((C.args x).getD t .un))) ∧
        (∀ i, i < C.nb → getO (C.ob x) i ≠ .none ∧ OEq (ob (ρ.getD i 0)) (rnO (fun i => ρ.getD i 0) (getO (C.ob x) i))) then some (⟨x, good x ρ h.1⟩, ρ) else none
    | none => none⟩
  have chk : ∀ x : C'.X, U.chk x.1 (List.range C.nb) = true := fun x => x.2
  simp only [Call1.st, Bool.and_eq_true] at hst
  obtain ⟨⟨k1, k2⟩, k3⟩ := hst
  have keptLt : ∀ (x : C.X) i, C.nb + U.new ≤ i → keptO C.keep (C.ob' x) i = .none := by
    intro x i hi
    unfold keptO
    cases hx : C.keep.idxOf? i with
    | none => rfl
    | some j =>
      obtain ⟨h1, h2⟩ := idxOf_lt hx
      have := blt_lt (List.all_eq_true.1 k1 i (List.mem_of_getElem? h2))
      omega
  have hU' : UseOk U' := by
    refine ⟨fun x hp => hpre x.1 (andN_ok hp), fun i hi => blt_lt (List.all_eq_true.1 k2 i hi), nodupB_ok k3, fun args ob x ρ hd => ?_, fun x i hi => ?_, fun x t => ?_, fun x i => ?_, fun x => ?_, fun x i => ?_, fun x i hi hm => hsame x.1 i hi hm, fun i hi => blt_lt (List.all_eq_true.1 k1 i hi), fun x i hi => ?_⟩
    · simp only [U'] at hd
      split at hd
      · rename_i y ρ' hdec
        split at hd
        · rename_i hc
          have hd := Option.some.inj hd
          have hx := congrArg Prod.fst hd
          have hρ := congrArg Prod.snd hd
          simp only at hx hρ
          subst hρ
          have hxy : y = x.1 := by rw [← hx]
          subst hxy
          obtain ⟨c1, ⟨c2, c3⟩, c4⟩ := hc
          simp only [Call1.chk, Bool.and_eq_true] at c1
          obtain ⟨⟨⟨⟨⟨⟨⟨h1, h2⟩, h3⟩, h4⟩, h5⟩, h6⟩, h7⟩, h8⟩ := c1
          exact ⟨Nat.eq_of_beq_eq_true h1, nodupB_ok h2, c4, c2, c3⟩
        · cases hd
      · cases hd
    all_goals
      have hc := chk x
      simp only [Call1.chk, Bool.and_eq_true] at hc
      obtain ⟨⟨⟨⟨⟨⟨⟨h1, h2⟩, h3⟩, h4⟩, h5⟩, h6⟩, h7⟩, h8⟩ := hc
    · have := Nat.eq_of_beq_eq_true h3
      show getO (C.ob x.1) i = .none
      have hi' : C.nb ≤ i := hi
      simp [getO, List.getD, show (C.ob x.1).length ≤ i by omega]
    · exact scW_at h4 t
    · exact scO_at h5 i
    · exact scW_ok h6
    · show ScO (C.nb + U.new) (keptO C.keep (C.ob' x.1) i)
      unfold keptO
      cases C.keep.idxOf? i with
      | none => trivial
      | some j => exact scO_at h7 j
    · show (keptO C.keep (C.ob' x.1) i).excl = true ∨ keptO C.keep (C.ob' x.1) i = .none
      by_cases hb : C.nb + U.new ≤ i
      · exact .inr (keptLt x.1 i hb)
      · have hm : i ∈ U.mod ++ (List.range U.new).map (C.nb + ·) := by
          rcases hi with hi | hi
          · exact List.mem_append_left _ hi
          · have hi' : C.nb ≤ i := hi
            exact List.mem_append_right _ (List.mem_map.2 ⟨i - C.nb, List.mem_range.2 (by omega), by omega⟩)
        have := List.all_eq_true.1 h8 i hm
        cases hk : keptO C.keep (C.ob' x.1) i with
        | none => exact .inr rfl
        | agg is => exact .inl rfl
        | lst a n own e => rw [hk] at this; exact .inl this
  refine callOk_mono (use_ok hU' hC') fun args ob nb r hr hp => ?_
  unfold Call1.spec at hr
  split at hr
  · rename_i x ρ hdec
    split at hr
    · rename_i ps hchk hps
      simp only [Option.some.injEq] at hr; subst hr
      have hall := andN_ok hp
      obtain ⟨a, b, e1, e2, e3, e4⟩ := ap2_ok hps fun p hp => hall p (by simp [hp])
      have hobl : (C.ob x).length = C.nb := by
        simp only [Call1.chk, Bool.and_eq_true] at hchk
        exact Nat.eq_of_beq_eq_true hchk.1.1.1.1.1.2
      have hcond : U.chk x ρ = true ∧ (args.length = (C.args x).length ∧ ∀ t, t < args.length → WEq (args.getD t .un) (rnW (fun i => ρ.getD i 0) ((C.args x).getD t .un))) ∧
        (∀ i, i < C.nb → getO (C.ob x) i ≠ .none ∧ OEq (ob (ρ.getD i 0)) (rnO (fun i => ρ.getD i 0) (getO (C.ob x) i))) := by
        refine ⟨hchk, argN_ok e1 e3, fun i hi => ?_⟩
        have := obsN_ok e2 e4 i (by omega)
        rwa [Nat.zero_add] at this
      refine ⟨⟨andN (U.pre x), rnW (nmap C.nb ρ nb) (C.res x), U.mod.map fun i => (ρ.getD i 0, rnO (nmap C.nb ρ nb) (keptO C.keep (C.ob' x) i)),
        (List.range U.new).map fun j => rnO (nmap C.nb ρ nb) (keptO C.keep (C.ob' x) (C.nb + j))⟩, ?_, ?_, rfl, rfl, rfl⟩
      · unfold Use.spec
        have : U'.dec args ob = some (⟨x, good x ρ hcond.1⟩, ρ) := by
          simp only [U', hdec]
          rw [dif_pos hcond]
        rw [this]; rfl
      · have gen : ∀ l : List Prop, (∀ p ∈ l, p) → NeedP (andN l) := by
          intro l
          induction l with
          | nil => intro _; trivial
          | cons q l ih =>
            intro hl
            cases l with
            | nil => exact hl q (by simp)
            | cons r s =>
              have h2 := ih fun p hp => hl p (by simp [hp])
              have e : andN (q :: r :: s) = (match andN (r :: s) with | some q' => some (q ∧ q') | none => some q) := rfl
              rw [e]
              cases hc : andN (r :: s) with
              | none => exact hl q (by simp)
              | some q' => rw [hc] at h2; exact ⟨hl q (by simp), h2⟩
        exact gen _ fun p hp => hall p (by simp [hp])
    · cases hr
  · cases hr
end Go.SX
