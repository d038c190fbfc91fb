/- Loops: a summary, proved by one round. -/
import Derived.Test.YtehgcepifegjiaaSXP
namespace Go.SX
variable {R : Reg} {P : Program} [RegC R]

def gmap (gl : List Nat) (o : Nat) : Nat := gl.getD o 0

/-- A state, seen as another one: names are those of 'gl'; what the other one does not tell is forgotten. -/
structure Ent (m : Nat) (st st' : St R) (gl : List Nat) : Prop where
  len : st'.sl.length = st.sl.length
  gll : gl.length = st'.nb
  nd : gl.Nodup
  low : ∀ o, o < m → gmap gl o = o
  mle : m ≤ st'.nb
  slots : ∀ t, st'.sl.getD t .un = .un ∨ WEq (st.sl.getD t .un) (rnW (gmap gl) (st'.sl.getD t .un))
  sc : ∀ t, ScW st'.nb (st'.sl.getD t .un)
  ob : ∀ o, getO st'.ob o = .none ∨ (o < st'.nb ∧ OEq (getO st.ob (gmap gl o)) (rnO (gmap gl) (getO st'.ob o)))
  scO : ∀ o, ScO st'.nb (getO st'.ob o)

theorem Ent.sim {m : Nat} {st st' : St R} {gl : List Nat} (h : Ent m st st' gl) {ids : Nm} {a : Act} {w : World} (hs : Sim ids st a w) :
    ∃ ids', Sim ids' st' a w ∧ ∀ {ids0 : Nm} {ob0 : Ob R} {w0 : World}, Step m ids0 ob0 w0 ids (getO st.ob) w → Step m ids0 ob0 w0 ids' (getO st'.ob) w := by
  let ids' : Nm := fun o => if o < st'.nb then ids (gmap gl o) else none
  have toJ : ∀ K, Le ids' K → ∃ J, Le ids J ∧ ∀ i, i < st'.nb → K i = J (gmap gl i) := by
    intro K hK
    refine ⟨fun o => match gl.idxOf? o with
      | some i => K i
      | none => tot ids o, fun o p hp => ?_, fun i hi => ?_⟩
    · cases hi : gl.idxOf? o with
      | none => simp only [hi]; exact Le_tot ids o p hp
      | some i =>
        simp only [hi]
        obtain ⟨h1, h2⟩ := idxOf_lt hi
        have h3 : gmap gl i = o := by simp [gmap, List.getD, h2]
        exact hK i p (by simp only [ids']; rw [if_pos (by rw [← h.gll]; exact h1), h3]; exact hp)
    · have := idxOf_get h.nd (by rw [h.gll]; exact hi : i < gl.length)
      simp only [gmap, this]
  have ginj : ∀ i j, i < st'.nb → j < st'.nb → gmap gl i = gmap gl j → i = j := fun i j hi hj e => by
    have h1 := idxOf_get h.nd (by rw [h.gll]; exact hi : i < gl.length)
    have h2 := idxOf_get h.nd (by rw [h.gll]; exact hj : j < gl.length)
    simp only [gmap] at e
    rw [e, h2] at h1; exact (Option.some.inj h1).symm
  refine ⟨ids', ⟨by rw [hs.size, h.len], fun t => ?_, hs.defers, ⟨fun o y hy hny => ?_, fun o o' p p' b hne hp hp' hex hbk => ?_⟩, fun o ho => by simp only [ids']; rw [if_neg (by omega)]⟩, fun {ids0 ob0 w0} hst => ⟨fun o ho p hp => ?_, ?_⟩⟩
  · rcases h.slots t with hu | he
    · rw [hu]; trivial
    · have h1 := (hs.slots t).congr he
      have hsc := h.sc t
      generalize st'.sl.getD t .un = c at h1 hsc
      cases hc : c with
      | un => trivial
      | _ =>
        rw [← hc]
        have hne : c ≠ .un := by rw [hc]; simp
        have key : ∀ K, Le ids' K → a.tmps.getD t undef = denW K c := by
          intro K hK
          obtain ⟨J, hJ, hKJ⟩ := toJ K hK
          have hren : rnW (gmap gl) c ≠ .un := fun h => hne (rnW_un.1 h)
          have hv : a.tmps.getD t undef = denW J (rnW (gmap gl) c) := by
            cases hq : rnW (gmap gl) c with
            | un => exact absurd hq hren
            | v y => rw [hq] at h1; exact h1 J hJ
            | tup y => rw [hq] at h1; exact h1 J hJ
          rw [hv, denW_rn]
          exact (hsc K _ hKJ).symm
        rw [hc]; rw [hc] at key; exact key
  · rcases h.ob o with hn | ⟨hlt, he⟩
    · exact absurd (hy.symm.trans hn) hny
    · subst hy
      have hne : getO st.ob (gmap gl o) ≠ .none := he.none (fun h => hny ((rnO_none _ _).1 h))
      obtain ⟨p, hp, hok⟩ := hs.ob.ok _ _ rfl hne
      exact ⟨p, by simp only [ids']; rw [if_pos hlt]; exact hp, (hok.congr he).unrn (h.scO o) toJ⟩
  · rcases h.ob o with hn | ⟨hlt, he⟩
    · rw [hn] at hex; simp [O.excl] at hex
    · rcases h.ob o' with hn' | ⟨hlt', he'⟩
      · rw [hn']; simp [O.blk]
      · simp only [ids', if_pos hlt] at hp
        simp only [ids', if_pos hlt'] at hp'
        have := hs.ob.dist _ _ p p' b (fun e => hne (ginj o o' hlt hlt' e)) hp hp' (by rw [he.excl, rnO_excl]; exact hex) (by rw [he.blk, rnO_blk]; exact hbk)
        rwa [he'.blk, rnO_blk] at this
  · simp only [ids']
    rw [if_pos (by have := h.mle; omega), h.low o ho]
    exact hst.keep o ho p hp
  · refine ⟨hst.fr.os, hst.fr.tape, hst.fr.output, hst.fr.size, hst.fr.same, fun b hb => hst.fr.ex b ?_⟩
    obtain ⟨o, p, h1, h2, h3⟩ := hb
    rcases h.ob o with hn | ⟨hlt, he⟩
    · rw [hn] at h2; simp [O.excl] at h2
    · simp only [ids', if_pos hlt] at h1
      exact ⟨_, p, h1, by rw [he.excl, rnO_excl]; exact h2, by rw [he.blk, rnO_blk]; exact h3⟩

/-- what a round must do -/
def Round {X : Type} (m : Nat) (hd : X → St R) (inv : X → Prop) (μ : X → Nat) (res : X → Out R) (x : X) (Q : Ex → St R → Prop) : Ex → St R → Prop := fun e st =>
  ∃ st' gl, Ent m st st' gl ∧ match e with
    | .normal => ∃ x', st' = hd x' ∧ inv x' ∧ μ x' < μ x ∧ (res x').Holds Q
    | e => Q e st'

theorem soundC_loop {X : Type} {m : Nat} {c : Code} {body : St R → Out R} (hbody : SoundC P m c body) (hd : X → St R) (dec : St R → Option X) (inv : X → Prop) (μ : X → Nat) (res : X → Out R)
    (hdec : ∀ st x, dec st = some x → ∃ gl, Ent m st (hd x) gl)
    (step : ∀ x, inv x → ∀ Q, (res x).Holds Q → (body (hd x)).Holds (Round m hd inv μ res x Q)) :
    SoundC P m (.loop c) fun st => match dec st with
      | some x => .need (inv x) (res x)
      | none => .fail := by
  intro st Q ids a w h hs hm
  cases hx : dec st with
  | none => simp only [hx] at h; exact h.elim
  | some x =>
    simp only [hx, Out.Holds] at h
    obtain ⟨gl, hent⟩ := hdec st x hx
    obtain ⟨ids1, hs1, hst1⟩ := hent.sim hs
    have key : ∀ n x (ids' : Nm) a' w', μ x < n → inv x → (res x).Holds Q → Sim ids' (hd x) a' w' → m ≤ (hd x).nb → Step m ids (getO st.ob) w ids' (getO (hd x).ob) w' → Code.rounds P c (Post Q m ids st w) n a' w' := by
      intro n
      induction n with
      | zero => intro x ids' a' w' h; omega
      | succ n ih =>
        intro x ids' a' w' hlt hi hr hs' hm' hst'
        rw [rounds_succ]
        refine wp_mono (hbody (hd x) _ ids' a' w' (step x hi Q hr) hs' hm') ?_
        rintro ex a2 w2 ⟨e2, st2, ids2, rfl, ⟨st3, gl3, hent3, hmatch⟩, hs2, hm2, hst2⟩
        obtain ⟨ids3, hs3, hst3⟩ := hent3.sim hs2
        have hfull := hst3 (hst'.trans hst2)
        cases e2 with
        | normal =>
          obtain ⟨x', rfl, hi', hlt', hr'⟩ := hmatch
          exact ih x' ids3 a2 w2 (by omega) hi' hr' hs3 hent3.mle hfull
        | exit i => exact ⟨.exit i, st3, ids3, rfl, hmatch, hs3, hent3.mle, hfull⟩
        | ret => exact ⟨.ret, st3, ids3, rfl, hmatch, hs3, hent3.mle, hfull⟩
    exact wp_loop_rounds (μ x + 1) (key _ x ids1 a w (by omega) h.1 h.2 hs1 hent.mle (hst1 (Step.refl _ _ _ _)))
end Go.SX
