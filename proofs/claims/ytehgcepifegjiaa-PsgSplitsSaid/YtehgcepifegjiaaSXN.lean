/- Code: what it makes of a state, and that the model does the same. -/
import Derived.Test.YtehgcepifegjiaaSXM
namespace Go.SX
variable {R : Reg} {P : Program}

def exOf : Ex → Exit
  | .normal => .normal
  | .exit i => .exit i
  | .ret => .ret

/-- where a piece may come to -/
def Post (Q : Ex → St R → Prop) (m : Nat) (ids : Nm) (st : St R) (w : World) : Exit → Act → World → Prop := fun ex a' w' =>
  ∃ e' st' ids', exOf e' = ex ∧ Q e' st' ∧ Sim ids' st' a' w' ∧ m ≤ st'.nb ∧ Step m ids (getO st.ob) w ids' (getO st'.ob) w'

def SoundC (P : Program) (m : Nat) (c : Code) (f : St R → Out R) : Prop :=
  ∀ st Q ids a w, (f st).Holds Q → Sim ids st a w → m ≤ st.nb → c.wp P (Post Q m ids st w) a w

def key : Code → Nat
  | .region id _ _ => id
  | .seq a _ => key a
  | .block _ c => key c
  | .loop c => key c
  | _ => 0

def stop (f : St R → Out R) : Ex → St R → Out R
  | .normal, st => f st
  | e, st => .leaf e st

def inBlk (id : Nat) : Ex → St R → Out R
  | .exit i, st => match Nat.beq i id with
    | true => .leaf .normal st
    | false => .leaf (.exit i) st
  | e, st => .leaf e st

def loopN (f : St R → Out R) : Nat → St R → Out R
  | 0, _ => .fail
  | n + 1, st => (f st).bind (stop (loopN f n))

def evCond (st : St R) (c : Operand) (x y : St R → Out R) : Out R :=
  match c with
  | .tmp t => match st.sl.getD t .un with
    | .v (.s (.kb true)) => x st
    | .v (.s (.kb false)) => y st
    | .v (.s (.bool b)) => .ite b (x (st.know t (.v (.s (.kb true))))) (y (st.know t (.v (.s (.kb false)))))
    | _ => .fail
  | .const (.bool true) => x st
  | .const (.bool false) => y st
  | _ => .fail

/-- Code. 'dr' does the regions that leave their order open. -/
def evC [DecidableEq R.K] (E : Env R) (dr : List Oper → St R → (St R → Out R) → Out R) : Code → St R → Out R
  | .skip, st => .leaf .normal st
  | .region _ ops d, st => match d with
    | false => evOps E ops.toList ops.toList st (.leaf .normal)
    | true => dr ops.toList st (.leaf .normal)
  | .seq a b, st => (evC E dr a st).bind (stop (evC E dr b))
  | .cond c x y, st => evCond st c (evC E dr x) (evC E dr y)
  | .block id c, st => (evC E dr c st).bind (inBlk id)
  | .loop c, st => match E.loop (key c) with
    | some f => f st
    | none => loopN (evC E dr c) E.unroll st
  | .exit id, st => .leaf (.exit id) st
  | .label _, st => .leaf .normal st
  | .ret, st => .leaf .ret st
  | _, _ => .fail

def LoopsOk (P : Program) (m : Nat) (E : Env R) : Code → Prop
  | .seq a b => LoopsOk P m E a ∧ LoopsOk P m E b
  | .cond _ a b => LoopsOk P m E a ∧ LoopsOk P m E b
  | .block _ c => LoopsOk P m E c
  | .loop c => match E.loop (key c) with
    | some f => SoundC P m (.loop c) f
    | none => LoopsOk P m E c
  | _ => True

def DrawOk (P : Program) (m : Nat) (dr : List Oper → St R → (St R → Out R) → Out R) : Prop :=
  ∀ id ops, SoundC P m (.region id ops true) fun st => dr ops.toList st (.leaf .normal)

theorem soundC_seq {m : Nat} {x y : Code} {f g : St R → Out R} (hf : SoundC P m x f) (hg : SoundC P m y g) : SoundC P m (.seq x y) fun st => (f st).bind (stop g) := by
  intro st Q ids a w h hs hm
  rw [Out.holds_bind] at h
  refine wp_seq (wp_mono (hf st _ ids a w h hs hm) ?_)
  rintro ex a' w' ⟨e', st', ids', he, hq, hs', hm', hst⟩
  cases e' with
  | normal =>
    subst he
    refine wp_mono (hg st' Q ids' a' w' hq hs' hm') ?_
    rintro ex a2 w2 ⟨e2, st2, ids2, he2, hq2, hs2, hm2, hst2⟩
    exact ⟨e2, st2, ids2, he2, hq2, hs2, hm2, hst.trans hst2⟩
  | exit i => subst he; exact ⟨.exit i, st', ids', rfl, hq, hs', hm', hst⟩
  | ret => subst he; exact ⟨.ret, st', ids', rfl, hq, hs', hm', hst⟩

theorem soundC_block {m id : Nat} {c : Code} {f : St R → Out R} (hf : SoundC P m c f) : SoundC P m (.block id c) fun st => (f st).bind (inBlk id) := by
  intro st Q ids a w h hs hm
  rw [Out.holds_bind] at h
  refine wp_block (wp_mono (hf st _ ids a w h hs hm) ?_)
  rintro ex a' w' ⟨e', st', ids', he, hq, hs', hm', hst⟩
  cases e' with
  | normal => subst he; exact ⟨.normal, st', ids', rfl, hq, hs', hm', hst⟩
  | ret => subst he; exact ⟨.ret, st', ids', rfl, hq, hs', hm', hst⟩
  | exit i =>
    subst he
    simp only [inBlk] at hq
    cases hb : Nat.beq i id with
    | true =>
      have hi : i = id := Nat.eq_of_beq_eq_true hb
      simp only [hb, Out.Holds] at hq
      simp only [exOf, Exit.inBlock, hi, if_true]
      exact ⟨.normal, st', ids', rfl, hq, hs', hm', hst⟩
    | false =>
      have hi : ¬ i = id := fun e => by subst e; simp at hb
      simp only [hb, Out.Holds] at hq
      simp only [exOf, Exit.inBlock, hi, if_false]
      exact ⟨.exit i, st', ids', rfl, hq, hs', hm', hst⟩

theorem soundC_loopN {m : Nat} {c : Code} {f : St R → Out R} (hf : SoundC P m c f) : ∀ n, SoundC P m (.loop c) (loopN f n) := by
  intro n st Q ids a w h hs hm
  refine wp_loop_rounds n ?_
  have gen : ∀ n st (ids : Nm) a w, (loopN f n st).Holds Q → Sim ids st a w → m ≤ st.nb → Code.rounds P c (Post Q m ids st w) n a w := by
    intro n
    induction n with
    | zero => intro st ids a w h; exact h.elim
    | succ n ih =>
      intro st ids a w h hs hm
      simp only [loopN] at h
      rw [Out.holds_bind] at h
      rw [rounds_succ]
      refine wp_mono (hf st _ ids a w h hs hm) ?_
      rintro ex a' w' ⟨e', st', ids', he, hq, hs', hm', hst⟩
      have hmono : ∀ k (st1 : St R) (ids1 : Nm) (a1 : Act) (w1 : World), Code.rounds P c (Post Q m ids' st' w') k a1 w1 → Code.rounds P c (Post Q m ids st w) k a1 w1 := by
        intro k
        induction k with
        | zero => intro _ _ _ _ h; exact h
        | succ k ihk =>
          intro st1 ids1 a1 w1 hr
          rw [rounds_succ] at hr ⊢
          refine wp_mono hr ?_
          intro ex a2 w2 hp
          have post : Post Q m ids' st' w' ex a2 w2 → Post Q m ids st w ex a2 w2 := by
            rintro ⟨e2, st2, ids2, he2, hq2, hs2, hm2, hst2⟩
            exact ⟨e2, st2, ids2, he2, hq2, hs2, hm2, hst.trans hst2⟩
          cases ex with
          | normal => exact ihk st1 ids1 a2 w2 hp
          | exit i => exact post hp
          | goto l => exact post hp
          | ret => exact post hp
          | panic ch => exact post hp
          | outgrown => exact post hp
      cases e' with
      | normal => subst he; exact hmono n st' ids' a' w' (ih st' ids' a' w' hq hs' hm')
      | exit i => subst he; exact ⟨.exit i, st', ids', rfl, hq, hs', hm', hst⟩
      | ret => subst he; exact ⟨.ret, st', ids', rfl, hq, hs', hm', hst⟩
  exact gen n st ids a w h hs hm

theorem soundC_leaf {m : Nat} {c : Code} (e : Ex) (hc : ∀ (Q : Exit → Act → World → Prop) a w, Q (exOf e) a w → c.wp P Q a w) : SoundC P m c fun st => (.leaf e st : Out R) := by
  intro st Q ids a w h hs hm
  exact hc _ a w ⟨e, st, ids, rfl, h, hs, hm, Step.refl _ _ _ _⟩

theorem soundC_cond {m : Nat} {c : Operand} {x y : Code} {f g : St R → Out R} (hf : SoundC P m x f) (hg : SoundC P m y g) : SoundC P m (.cond c x y) fun st => evCond st c f g := by
  intro st Q ids a w h hs hm
  replace h : (evCond st c f g).Holds Q := h
  unfold evCond at h
  split at h
  · rename_i t
    have hv := hs.slots t
    split at h
    · rename_i he; rw [he] at hv
      exact wp_cond_true (by have := hv.v0; simpa [Act.eval, denV, den] using this) (hf st Q ids a w h hs hm)
    · rename_i he; rw [he] at hv
      exact wp_cond_false (by have := hv.v0; simpa [Act.eval, denV, den] using this) (hg st Q ids a w h hs hm)
    · rename_i b he; rw [he] at hv
      have hb : a.eval (.tmp t) = .bool b := by have := hv.v0; simpa [Act.eval, denV, den] using this
      simp only [Out.Holds] at h
      cases b with
      | true =>
        exact wp_cond_true hb (hf (st.know t (.v (.s (.kb true)))) Q ids a w (h.1 rfl) (hs.know t (x := .v (.s (.kb true))) fun J hJ => hv J hJ) hm)
      | false =>
        exact wp_cond_false hb (hg (st.know t (.v (.s (.kb false)))) Q ids a w (h.2 rfl) (hs.know t (x := .v (.s (.kb false))) fun J hJ => hv J hJ) hm)
    · exact h.elim
  · exact wp_cond_true rfl (hf st Q ids a w h hs hm)
  · exact wp_cond_false rfl (hg st Q ids a w h hs hm)
  · exact h.elim

theorem evC_ok [DecidableEq R.K] {E : Env R} (hE : EnvOk P E) {m : Nat} {dr : List Oper → St R → (St R → Out R) → Out R} (hdr : DrawOk P m dr) : ∀ c, LoopsOk P m E c → SoundC P m c (evC E dr c)
  | .skip, _ => soundC_leaf .normal fun Q a w h => wp_skip h
  | .label l, _ => soundC_leaf .normal fun Q a w h => wp_label h
  | .exit id, _ => soundC_leaf (.exit id) fun Q a w h => wp_exit h
  | .ret, _ => soundC_leaf .ret fun Q a w h => wp_ret h
  | .seq a b, h => soundC_seq (evC_ok hE hdr a h.1) (evC_ok hE hdr b h.2)
  | .cond c x y, h => soundC_cond (evC_ok hE hdr x h.1) (evC_ok hE hdr y h.2)
  | .block id c, h => soundC_block (evC_ok hE hdr c h)
  | .loop c, h => by
    intro st Q ids a w hh
    simp only [LoopsOk] at h
    simp only [evC] at hh
    cases hl : E.loop (key c) with
    | none =>
      simp only [hl] at h hh
      exact soundC_loopN (evC_ok hE hdr c h) E.unroll st Q ids a w hh
    | some f =>
      simp only [hl] at h hh
      exact h st Q ids a w hh
  | .region id ops d, _ => by
    cases d with
    | true => exact hdr id ops
    | false =>
      intro st Q ids a w h hs hm
      have h' : (evOps E ops.toList ops.toList st (.leaf .normal)).Holds Q := h
      refine wp_region_list ?_
      have := evOps_ok (P := P) (all := ops.toList) (k := .leaf .normal) (Q := Q) (Q' := Post Q m ids st w) (m := m) hE ops.toList st ids a w h' hs hm
        (fun st' ids' a' w' hq hs' hm' hst => ⟨.normal, st', ids', rfl, hq, hs', hm', hst⟩)
      simpa using this
  | .rangeFunc _ _ _ _, _ => fun _ _ _ _ _ h => h.elim
  | .scope _, _ => fun _ _ _ _ _ h => h.elim
  | .goto _, _ => fun _ _ _ _ _ h => h.elim
  | .refuse _, _ => fun _ _ _ _ _ h => h.elim

/-! ### Functions -/
/-- what a function answers, in a state -/
def resV [DecidableEq R.K] (E : Env R) (st : St R) : ResultVar → Option (Option Prop × W R)
  | .tmp t => some (none, st.sl.getD t .un)
  | .cell p t => match E.ti t with
    | some i => match doLoad i (st.sl.getD p .un) (getO st.ob) with
      | some r => some (r.need, r.val)
      | none => none
    | none => none

def andO : Option Prop → Option Prop → Option Prop
  | none, q => q
  | p, none => p
  | some p, some q => some (p ∧ q)

def resVs [DecidableEq R.K] (E : Env R) (st : St R) : List ResultVar → Option (Option Prop × List (W R))
  | [] => some (none, [])
  | x :: xs => match resV E st x, resVs E st xs with
    | some (p, v), some (q, vs) => some (andO p q, v :: vs)
    | _, _ => none

def unV : W R → Option (V R)
  | .v x => some x
  | _ => none
def unVs : List (W R) → Option (List (V R))
  | [] => some []
  | x :: xs => match unV x, unVs xs with
    | some v, some vs => some (v :: vs)
    | _, _ => none

def resW [DecidableEq R.K] (E : Env R) (st : St R) (rs : List ResultVar) : Option (Option Prop × W R) :=
  match resVs E st rs with
  | some (p, [v]) => match v with
    | .un => none
    | v => some (p, v)
  | some (p, vs) => match unVs vs with
    | some us => some (p, .tup us)
    | none => none
  | none => none
end Go.SX
