/- Loops by a summary; contracts as checked trees; tables of types by a check. -/
import Derived.Test.YtehgcepifegjiaaSXY
namespace Go.SX
variable {R : Reg} {P : Program}

/-! ### A state, seen as another -/
def Sees (m : Nat) (st st' : St R) : Prop := m ≤ st.nb → m ≤ st'.nb ∧ ∀ ids a w, Sim ids st a w → ∃ ids', Sim ids' st' a w ∧
  ∀ {ids0 : Nm} {ob0 : Ob R} {w0 : World}, Step m ids0 ob0 w0 ids (getO st.ob) w → Step m ids0 ob0 w0 ids' (getO st'.ob) w

theorem Sees.refl (m : Nat) (st : St R) : Sees m st st := fun h => ⟨h, fun ids _ _ hs => ⟨ids, hs, fun h => h⟩⟩
theorem Sees.trans {m : Nat} {a b c : St R} (h : Sees m a b) (h' : Sees m b c) : Sees m a c := fun hm => by
  obtain ⟨h1, h2⟩ := h hm
  obtain ⟨h3, h4⟩ := h' h1
  refine ⟨h3, fun ids x w hs => ?_⟩
  obtain ⟨i1, s1, k1⟩ := h2 ids x w hs
  obtain ⟨i2, s2, k2⟩ := h4 i1 x w s1
  exact ⟨i2, s2, fun h => k2 (k1 h)⟩
theorem Ent.sees [RegC R] {m : Nat} {st st' : St R} {gl : List Nat} (h : Ent m st st' gl) : Sees m st st' := fun _ => ⟨h.mle, fun _ _ _ hs => h.sim hs⟩

/-- a slice that is nil, as a list of nothing -/
def openNil (t : Nat) (a : Arr R) (e : Nat) (st : St R) : St R := match st.sl.getD t .un with
  | .v (.s .nils) => ⟨st.sl.set t (.v (.s (.sl st.nb))), putO st.ob st.nb (.lst a 0 true e), st.nb + 1⟩
  | _ => st

theorem openNil_sees (m : Nat) (t : Nat) (a : Arr R) (e : Nat) (st : St R) : Sees m st (openNil t a e st) := by
  unfold openNil
  split
  · rename_i hsl
    refine fun hm => ⟨by simp only; omega, fun ids ac w hs => ?_⟩
    have hfree := hs.free st.nb (Nat.le_refl _)
    have hv := hs.slots t
    rw [hsl] at hv
    have hle : LeN ids (setN ids st.nb ⟨0, none, 0, 0⟩) := LeN.setN hfree _
    have hob : getO (putO st.ob st.nb (.lst a 0 true e)) = upd1 (getO st.ob) st.nb (.lst a 0 true e) := by
      funext o; rw [getO_putO]; rfl
    refine ⟨setN ids st.nb ⟨0, none, 0, 0⟩, ⟨by simp [hs.size], fun i => ?_, hs.defers, ?_, fun o ho => ?_⟩, fun {ids0 ob0 w0} hst => ?_⟩
    · simp only
      by_cases hi : i = t
      · subst hi
        by_cases hl : i < st.sl.length
        · have e1 : (st.sl.set i (.v (.s (.sl st.nb)))).getD i .un = .v (.s (.sl st.nb)) := by simp [List.getD, hl]
          rw [e1]
          intro J hJ
          have e2 : J st.nb = ⟨0, none, 0, 0⟩ := hJ st.nb _ (by simp [setN])
          rw [hv (tot ids) (Le_tot ids)]
          simp only [denW, denV, den, e2]; rfl
        · rw [List.set_eq_of_length_le (by omega)]; exact (hs.slots i).ext hle
      · have e1 : (st.sl.set t (.v (.s (.sl st.nb)))).getD i .un = st.sl.getD i .un := by simp [List.getD, List.getElem?_set_ne (Ne.symm hi)]
        rw [e1]; exact (hs.slots i).ext hle
    · simp only
      rw [hob]
      exact hs.ob.push hfree _ _ (Nat.le_refl _) (fun _ _ => rfl) ⟨[], by simpa [Pl.val] using World.ownsRow_nil w 0 e a.esz, fun J _ => rfl⟩ (fun b hb => by simp [O.blk, Pl.val, Value.ownBlock] at hb)
    · simp only at ho
      have : ¬ o = st.nb := by omega
      simp only [setN, if_neg this]; exact hs.free o (by omega)
    · refine ⟨fun o ho p hp => hle o p (hst.keep o ho p hp), hst.fr.os, hst.fr.tape, hst.fr.output, hst.fr.size, hst.fr.same, fun b hb => hst.fr.ex b ?_⟩
      obtain ⟨o, p, h1, h2, h3⟩ := hb
      simp only at h2 h3
      rw [hob] at h2 h3
      by_cases ho : o = st.nb
      · subst ho
        simp only [setN, if_true, Option.some.injEq] at h1; subst h1
        simp [upd1, O.blk, Pl.val, Value.ownBlock] at h3
      · simp only [setN, if_neg ho] at h1
        simp only [upd1, if_neg ho] at h2 h3
        exact ⟨o, p, h1, h2, h3⟩
  · exact Sees.refl _ _

def openAll : List (Nat × Arr R × Nat) → St R → St R
  | [], st => st
  | (t, a, e) :: r, st => openAll r (openNil t a e st)
theorem openAll_sees (m : Nat) : ∀ (l : List (Nat × Arr R × Nat)) (st : St R), Sees m st (openAll l st)
  | [], st => Sees.refl m st
  | (t, a, e) :: r, st => (openNil_sees m t a e st).trans (openAll_sees m r _)

/-- what must be equal -/
def slN [DecidableEq R.K] [RegP R] (g : Nat → Nat) : List (W R) → List (W R) → Option (List Prop)
  | _ :: r, .un :: s => slN g r s
  | x :: r, y :: s => ap2 (eqW x (rnW g y)) (slN g r s)
  | [], [] => some []
  | _, _ => none
def obN [DecidableEq R.K] [RegP R] (g : Nat → Nat) (st : St R) : List (O R) → Nat → Option (List Prop)
  | [], _ => some []
  | .none :: s, i => obN g st s (i + 1)
  | y :: s, i => ap2 (eqO (getO st.ob (g i)) (rnO g y)) (obN g st s (i + 1))

def entB (m : Nat) (st' : St R) (gl : List Nat) : Bool :=
  Nat.beq gl.length st'.nb && nodupB gl && (List.range m).all (fun o => Nat.beq (gmap gl o) o) && Nat.ble m st'.nb && st'.sl.all (scW st'.nb) && st'.ob.all (scO st'.nb) && Nat.ble st'.ob.length st'.nb

/-- a state, seen as another: what must hold -/
def entN [DecidableEq R.K] [RegP R] (m : Nat) (st st' : St R) (gl : List Nat) : Option (List Prop) :=
  match entB m st' gl with
  | true => ap2 (slN (gmap gl) st.sl st'.sl) (obN (gmap gl) st st'.ob 0)
  | false => none

theorem nodupB_ok : ∀ {l : List Nat}, nodupB l = true → l.Nodup
  | [], _ => List.nodup_nil
  | x :: l, h => by
    simp only [nodupB, Bool.and_eq_true, Bool.not_eq_true', List.any_eq_false] at h
    exact List.nodup_cons.2 ⟨fun hm => h.1 x hm (by simp), nodupB_ok h.2⟩

theorem slN_ok [DecidableEq R.K] [RegP R] {g : Nat → Nat} : ∀ {xs ys : List (W R)} {ps : List Prop}, slN g xs ys = some ps → (∀ p ∈ ps, p) →
    ys.length = xs.length ∧ ∀ t, ys.getD t .un = .un ∨ WEq (xs.getD t .un) (rnW g (ys.getD t .un))
  | [], [], _, _, _ => ⟨rfl, fun t => .inl rfl⟩
  | [], _ :: _, _, h, _ => by simp [slN] at h
  | _ :: _, [], _, h, _ => by simp [slN] at h
  | x :: r, y :: s, ps, h, hp => by
    by_cases hy : y = .un
    · subst hy
      simp only [slN] at h
      obtain ⟨h1, h2⟩ := slN_ok h hp
      refine ⟨by simp [h1], fun t => ?_⟩
      cases t with
      | zero => exact .inl rfl
      | succ t => exact h2 t
    · have h' : ap2 (eqW x (rnW g y)) (slN g r s) = some ps := by cases y <;> first | exact h | exact absurd rfl hy
      obtain ⟨a, b, e1, e2, e3, e4⟩ := ap2_ok h' hp
      obtain ⟨h1, h2⟩ := slN_ok e2 e4
      refine ⟨by simp [h1], fun t => ?_⟩
      cases t with
      | zero => exact .inr (eqW_ok e1 e3)
      | succ t => exact h2 t

theorem obN_ok [DecidableEq R.K] [RegP R] {g : Nat → Nat} {st : St R} : ∀ {ys : List (O R)} {i : Nat} {ps : List Prop}, obN g st ys i = some ps → (∀ p ∈ ps, p) →
    ∀ o, o < ys.length → getO ys o = .none ∨ OEq (getO st.ob (g (i + o))) (rnO g (getO ys o))
  | [], _, _, _, _, o, ho => by simp at ho
  | y :: s, i, ps, h, hp, o, ho => by
    by_cases hy : y = .none
    · subst hy
      simp only [obN] at h
      cases o with
      | zero => exact .inl rfl
      | succ o =>
        have := obN_ok h hp o (by simpa using ho)
        rw [show i + 1 + o = i + (o + 1) by omega] at this
        exact this
    · have h' : ap2 (eqO (getO st.ob (g i)) (rnO g y)) (obN g st s (i + 1)) = some ps := by cases y <;> first | exact h | exact absurd rfl hy
      obtain ⟨a, b, e1, e2, e3, e4⟩ := ap2_ok h' hp
      cases o with
      | zero => exact .inr (eqO_ok e1 e3)
      | succ o =>
        have := obN_ok e2 e4 o (by simpa using ho)
        rw [show i + 1 + o = i + (o + 1) by omega] at this
        exact this

theorem entN_ok [DecidableEq R.K] [RegP R] [RegC R] {m : Nat} {st st' : St R} {gl : List Nat} {ps : List Prop} (h : entN m st st' gl = some ps) (hp : ∀ p ∈ ps, p) : Ent m st st' gl := by
  unfold entN at h
  split at h
  · rename_i hb
    simp only [entB, Bool.and_eq_true] at hb
    obtain ⟨⟨⟨⟨⟨⟨b1, b2⟩, b3⟩, b4⟩, b5⟩, b6⟩, b7⟩ := hb
    obtain ⟨a, b, e1, e2, e3, e4⟩ := ap2_ok h hp
    obtain ⟨s1, s2⟩ := slN_ok e1 e3
    have hlen : st'.ob.length ≤ st'.nb := Nat.le_of_ble_eq_true b7
    refine ⟨s1, Nat.eq_of_beq_eq_true b1, nodupB_ok b2, fun o ho => Nat.eq_of_beq_eq_true (List.all_eq_true.1 b3 o (List.mem_range.2 ho)), Nat.le_of_ble_eq_true b4, s2, fun t => ?_, fun o => ?_, fun o => ?_⟩
    · refine scW_ok ?_
      by_cases ht : t < st'.sl.length
      · have : st'.sl.getD t .un = st'.sl[t] := by simp [List.getD, ht]
        rw [this]; exact List.all_eq_true.1 b5 _ (List.getElem_mem ht)
      · have : st'.sl.getD t .un = .un := by simp [List.getD, ht]
        rw [this]; rfl
    · by_cases ho : o < st'.ob.length
      · have := obN_ok e2 e4 o ho
        rw [Nat.zero_add] at this
        rcases this with h | h
        · exact .inl h
        · exact .inr ⟨by omega, h⟩
      · exact .inl (by simp [getO, List.getD, ho])
    · refine scO_ok ?_
      by_cases ho : o < st'.ob.length
      · have : getO st'.ob o = st'.ob[o] := by simp [getO, List.getD, ho]
        rw [this]; exact List.all_eq_true.1 b6 _ (List.getElem_mem ho)
      · have : getO st'.ob o = .none := by simp [getO, List.getD, ho]
        rw [this]; rfl
  · cases h

/-- a state, of which what is not needed is forgotten -/
def prune (live : List Nat) (liveO : List Nat) (st : St R) : St R :=
  ⟨(List.range st.sl.length).map fun t => match live.any (Nat.beq t) with
    | true => st.sl.getD t .un
    | false => .un,
   (List.range st.ob.length).map fun o => match liveO.any (Nat.beq o) with
    | true => getO st.ob o
    | false => .none, st.nb⟩

theorem prune_sees (m : Nat) (live liveO : List Nat) (st : St R) : Sees m st (prune live liveO st) := fun hm => by
  refine ⟨hm, fun ids a w hs => ?_⟩
  have hob : ∀ o, getO (prune live liveO st).ob o = getO st.ob o ∨ getO (prune live liveO st).ob o = .none := by
    intro o
    simp only [prune, getO, List.getD, List.getElem?_map]
    by_cases ho : o < st.ob.length
    · rw [List.getElem?_range ho]
      simp only [Option.map_some, Option.getD_some]
      cases liveO.any (Nat.beq o) with
      | true => exact .inl rfl
      | false => exact .inr rfl
    · rw [List.getElem?_eq_none (by simpa using ho)]; exact .inr rfl
  refine ⟨ids, ⟨by rw [hs.size]; simp [prune], fun t => ?_, hs.defers, hs.ob.sub hob, hs.free⟩, fun hst => ⟨hst.keep, hst.fr.os, hst.fr.tape, hst.fr.output, hst.fr.size, hst.fr.same, fun b hb => hst.fr.ex b ?_⟩⟩
  · simp only [prune, List.getD, List.getElem?_map]
    by_cases ht : t < st.sl.length
    · rw [List.getElem?_range ht]
      simp only [Option.map_some, Option.getD_some]
      cases live.any (Nat.beq t) with
      | true => exact hs.slots t
      | false => trivial
    · rw [List.getElem?_eq_none (by simpa using ht)]; trivial
  · obtain ⟨o, p, h1, h2, h3⟩ := hb
    rcases hob o with e | e
    · rw [e] at h2 h3; exact ⟨o, p, h1, h2, h3⟩
    · rw [e] at h2; simp [O.excl] at h2

/-! ### Loops -/
structure LoopS (R : Reg) where
  X : Type
  opens : List (Nat × Arr R × Nat)
  hd : X → St R
  dec : St R → Option (X × List Nat)
  inv : X → Prop
  μ : X → Nat
  res : X → Out R
  live : List Nat
  liveO : List Nat

/-- what holds of one answer holds of the other -/
def LoopS.Imp (L : LoopS R) (x x' : L.X) : Prop := ∀ Q, (L.res x).Holds Q → (L.res x').Holds Q

/-- a loop, at its summary -/
def LoopS.ev [DecidableEq R.K] [RegP R] (L : LoopS R) (m : Nat) (st : St R) : Out R :=
  match L.dec (openAll L.opens st) with
  | some (x, gl) => match entN m (openAll L.opens st) (L.hd x) gl with
    | some ps => allOf ps (.need (L.inv x) (L.res x))
    | none => .fail
  | none => .fail

/-- the end of a round -/
def LoopS.look [DecidableEq R.K] [RegP R] (L : LoopS R) (m : Nat) (x : L.X) : Ex → St R → Out R
  | .normal, st => match L.dec (openAll L.opens st) with
    | some (x', gl) => match entN m (openAll L.opens st) (L.hd x') gl with
      | some ps => allOf ps (.need (L.inv x') (.need (L.μ x' < L.μ x) (.need (L.Imp x x') (.leaf .normal ⟨[], [], 0⟩))))
      | none => .fail
    | none => .fail
  | e, st => .leaf e (prune L.live L.liveO st)

def LoopS.Goal (Q : Ex → St R → Prop) : Ex → St R → Prop
  | .normal, _ => True
  | e, st => Q e st

/-- what one round must do -/
def LoopS.Ok [DecidableEq R.K] [RegP R] (L : LoopS R) (m : Nat) (body : St R → Out R) : Prop :=
  ∀ x, L.inv x → ∀ Q, (L.res x).Holds Q → ((body (L.hd x)).bind (L.look m x)).Holds (LoopS.Goal Q)

theorem LoopS.sound [DecidableEq R.K] [RegP R] [RegC R] (L : LoopS R) {m : Nat} {c : Code} {body : St R → Out R} (hbody : SoundC P m c body) (h : L.Ok m body) : SoundC P m (.loop c) (L.ev m) := by
  intro st Q ids a w hh hs hm
  unfold LoopS.ev at hh
  have into : ∀ (st : St R) (x : L.X) (gl : List Nat) (ps : List Prop), entN m (openAll L.opens st) (L.hd x) gl = some ps → (∀ p ∈ ps, p) → Sees m st (L.hd x) := fun st x gl ps h1 h2 =>
    (openAll_sees m L.opens st).trans (entN_ok h1 h2).sees
  split at hh
  · rename_i x gl hx
    split at hh
    · rename_i ps hps
      obtain ⟨h1, h2⟩ := allOf_holds hh
      obtain ⟨hm1, hsee⟩ := into st x gl ps hps h1 hm
      obtain ⟨ids1, hs1, hst1⟩ := hsee ids a w hs
      have key : ∀ n x (ids' : Nm) a' w', L.μ x < n → L.inv x → (L.res x).Holds Q → Sim ids' (L.hd x) a' w' → m ≤ (L.hd x).nb → Step m ids (getO st.ob) w ids' (getO (L.hd x).ob) w' → Code.rounds P c (Post Q m ids st w) n a' w' := by
        intro n
        induction n with
        | zero => intro x ids' a' w' h; omega
        | succ n ih =>
          intro x ids' a' w' hlt hi hr hs' hm' hst'
          rw [rounds_succ]
          have hround := h x hi Q hr
          rw [Out.holds_bind] at hround
          refine wp_mono (hbody (L.hd x) _ ids' a' w' hround hs' hm') ?_
          rintro ex a2 w2 ⟨e2, st2, ids2, rfl, hq, hs2, hm2, hst2⟩
          have hfull := hst'.trans hst2
          have out : ∀ e, (Out.leaf e (prune L.live L.liveO st2)).Holds (LoopS.Goal Q) → e ≠ .normal → Post Q m ids st w (exOf e) a2 w2 := by
            intro e hq hne
            obtain ⟨hm3, hsee⟩ := prune_sees m L.live L.liveO st2 hm2
            obtain ⟨ids3, hs3, hst3⟩ := hsee ids2 a2 w2 hs2
            refine ⟨e, _, ids3, rfl, ?_, hs3, hm3, hst3 hfull⟩
            cases e with
            | normal => exact absurd rfl hne
            | exit i => exact hq
            | ret => exact hq
          cases e2 with
          | normal =>
            simp only [LoopS.look] at hq
            split at hq
            · rename_i x' gl' hx'
              split at hq
              · rename_i ps' hps'
                obtain ⟨g1, g2⟩ := allOf_holds hq
                obtain ⟨hm3, hsee⟩ := into st2 x' gl' ps' hps' g1 hm2
                obtain ⟨ids3, hs3, hst3⟩ := hsee ids2 a2 w2 hs2
                have g3 : L.μ x' < L.μ x := g2.2.1
                exact ih x' ids3 a2 w2 (by omega) g2.1 (g2.2.2.1 Q hr) hs3 hm3 (hst3 hfull)
              · exact hq.elim
            · exact hq.elim
          | exit i => exact out (.exit i) hq (by simp)
          | ret => exact out .ret hq (by simp)
      exact wp_loop_rounds (L.μ x + 1) (key _ x ids1 a w (by omega) h2.1 h2.2 hs1 hm1 (hst1 (Step.refl _ _ _ _)))
    · exact hh.elim
  · exact hh.elim
end Go.SX
