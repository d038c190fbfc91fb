/- States, regions and code. -/
import Derived.Test.YtehgcepifegjiaaSXL
import Derived.LoopN
namespace Go.SX
variable {R : Reg} {P : Program}

def setL {α : Type} (l : List α) (n : Nat) (x : α) : List α := l.set n x

/-- an object under a name, where it may not be there yet -/
def putO : List (O R) → Nat → O R → List (O R)
  | [], 0, x => [x]
  | [], n + 1, x => .none :: putO [] n x
  | _ :: t, 0, x => x :: t
  | h :: t, n + 1, x => h :: putO t n x

theorem getO_putO : ∀ (l : List (O R)) (n : Nat) (x : O R) (o : Nat), getO (putO l n x) o = if o = n then x else getO l o
  | [], 0, x, o => by cases o <;> simp [putO, getO]
  | [], n + 1, x, o => by
    cases o with
    | zero => simp [putO, getO]
    | succ o => have := getO_putO [] n x o; simp only [putO, getO] at this ⊢; simp at this ⊢; exact this
  | h :: t, 0, x, o => by cases o <;> simp [putO, getO]
  | h :: t, n + 1, x, o => by
    cases o with
    | zero => simp [putO, getO]
    | succ o => have := getO_putO t n x o; simp only [putO, getO] at this ⊢; simp at this ⊢; exact this

def putU : List (O R) → List (Nat × O R) → List (O R)
  | l, [] => l
  | l, (n, x) :: r => putU (putO l n x) r
def putN : List (O R) → Nat → List (O R) → List (O R)
  | l, _, [] => l
  | l, n, x :: r => putN (putO l n x) (n + 1) r

theorem getO_putU : ∀ (u : List (Nat × O R)) (l : List (O R)), getO (putU l u) = apU (getO l) u
  | [], l => rfl
  | (n, x) :: r, l => by
    simp only [putU, apU]; rw [getO_putU r]
    congr 1; funext o; rw [getO_putO]; rfl
theorem getO_putN : ∀ (u : List (O R)) (n : Nat) (l : List (O R)), getO (putN l n u) = apN (getO l) n u
  | [], n, l => rfl
  | x :: r, n, l => by
    simp only [putN, apN]; rw [getO_putN r]
    congr 1; funext o; rw [getO_putO]; rfl

/-- the state behind an operation -/
def St.app (st : St R) (dst : Option Nat) (r : Res R) : St R :=
  ⟨match dst with
    | some d => st.sl.set d r.val
    | none => st.sl, putN (putU st.ob r.upd) st.nb r.new, st.nb + r.new.length⟩

theorem getO_app (st : St R) (dst : Option Nat) (r : Res R) : getO (st.app dst r).ob = r.ap st.nb (getO st.ob) := by
  simp only [St.app, Res.ap, getO_putN, getO_putU]

theorem WOk.set {ids : Nm} {sl : List (W R)} {tmps : Array Value} (hs : tmps.size = sl.length) (h : ∀ t, WOk ids (sl.getD t .un) (tmps.getD t undef)) (d : Nat) {x : W R} {v : Value} (hx : WOk ids x v) :
    ∀ t, WOk ids ((sl.set d x).getD t .un) ((tmps.setIfInBounds d v).getD t undef) := by
  intro t
  by_cases hd : d < sl.length
  · by_cases e : t = d
    · subst e
      have : t < tmps.size := by omega
      simpa [List.getD, hd, this] using hx
    · have h1 : (sl.set d x).getD t .un = sl.getD t .un := by simp [List.getD, List.getElem?_set_ne (Ne.symm e)]
      have h2 : (tmps.setIfInBounds d v).getD t undef = tmps.getD t undef := by simp [Array.getD_eq_getD_getElem?, Array.getElem?_setIfInBounds_ne (Ne.symm e)]
      rw [h1, h2]; exact h t
  · have h1 : sl.set d x = sl := List.set_eq_of_length_le (by omega)
    have h2 : tmps.setIfInBounds d v = tmps := by apply Array.ext' ; rw [Array.toList_setIfInBounds]; exact List.set_eq_of_length_le (by simp; omega)
    rw [h1, h2]; exact h t

theorem Sim.app {ids ids' : Nm} {st : St R} {a : Act} {w w' : World} (h : Sim ids st a w) {r : Res R} {v : Value} (dst : Option Nat) (h1 : WOk ids' r.val v) (h2 : ObOk ids' (r.ap st.nb (getO st.ob)) w')
    (h3 : LeN ids ids') (h4 : ∀ o, ids' o = ids o ∨ st.nb ≤ o ∧ o < st.nb + r.new.length) : Sim ids' (st.app dst r) (a.put dst v) w' := by
  have hsl : ∀ t, WOk ids' (st.sl.getD t .un) (a.tmps.getD t undef) := fun t => (h.slots t).ext h3
  refine ⟨?_, ?_, ?_, by rw [getO_app]; exact h2, fun o ho => ?_⟩
  · cases dst <;> simp [Act.put, St.app, h.size]
  · cases dst with
    | none => exact hsl
    | some d => exact WOk.set h.size hsl d h1
  · cases dst <;> simp [Act.put, h.defers]
  · simp only [St.app] at ho
    rcases h4 o with e | ⟨e1, e2⟩
    · rw [e]; exact h.free o (by omega)
    · omega

/-- a slot of which one knows more -/
def St.know (st : St R) (t : Nat) (x : W R) : St R := { st with sl := st.sl.set t x }

theorem Sim.know {ids : Nm} {st : St R} {a : Act} {w : World} (h : Sim ids st a w) (t : Nat) {x : W R} (hx : WOk ids x (a.tmps.getD t undef)) : Sim ids (st.know t x) a w := by
  refine ⟨by simp [St.know, h.size], fun i => ?_, h.defers, h.ob, h.free⟩
  simp only [St.know]
  by_cases e : i = t
  · subst e
    by_cases hl : i < st.sl.length
    · simpa [List.getD, hl] using hx
    · have : (st.sl.set i x) = st.sl := List.set_eq_of_length_le (by omega)
      rw [this]; exact h.slots i
  · have h1 : (st.sl.set t x).getD i .un = st.sl.getD i .un := by simp [List.getD, List.getElem?_set_ne (Ne.symm e)]
    rw [h1]; exact h.slots i

def needO (p : Option Prop) (o : Out R) : Out R :=
  match p with
  | none => o
  | some q => .need q o

theorem needO_holds {p : Option Prop} {o : Out R} {Q : Ex → St R → Prop} : (needO p o).Holds Q ↔ NeedP p ∧ o.Holds Q := by
  cases p <;> simp [needO, NeedP, Out.Holds]

def evOp1 [DecidableEq R.K] (E : Env R) (o : Oper) (st : St R) (k : St R → Out R) : Out R :=
  match opv E o.op (evS st) (getO st.ob) st.nb with
  | some r => needO r.need (k (st.app o.dst r))
  | none => .fail

inductive Split where
  | no
  | b (t : Nat) (c : Bool)
  | i (t : Nat) (k : IntKind) (n : Int) (len : Nat)

def numK : S → Option (IntKind × Int)
  | .int n => some (.i64, n)
  | .b8 x => some (.u8, x.toNat)
  | .b16 x => some (.u16, x.toNat)
  | .b32 x => some (.u32, x.toNat)
  | _ => none

def splitIx (E : Env R) (t : Nat) (x : W R) (st : St R) (i : Nat) : Split :=
  match E.ti t, st.sl.getD i .un with
  | some ti, .v (.s s) => match ti.k, numK s with
    | .array len _ _, some (k, n) => match Nat.ble len 16 with
      | true => match x with
        | .v (.s (.ptr o off)) => match getO st.ob o with
          | .agg is => match spl is off with
            | some (_, .big _ _ :: _) => .no
            | _ => .i i k n len
          | _ => .no
        | .v (.agg is) => match tblI is, is with
          | some _, _ => .no
          | none, .big _ _ :: _ => .no
          | none, _ => .i i k n len
        | _ => .no
      | false => .no
    | _, _ => .no
  | _, _ => .no

def splitOf (E : Env R) (op : Op) (st : St R) : Split :=
  match op with
  | .pick (.tmp c) _ _ => match st.sl.getD c .un with
    | .v (.s (.bool b)) => .b c b
    | _ => .no
  | .indexAddr t x (.tmp i) | .index t x (.tmp i) => splitIx E t (evS st x) st i
  | _ => .no

def splitL (n : Int) (f : Nat → Out R) : List Nat → Out R
  | [] => .fail
  | [j] => .need (n = (j : Int)) (f j)
  | j :: js => .ite (n == (j : Int)) (f j) (splitL n f js)

def evOp [DecidableEq R.K] (E : Env R) (o : Oper) (st : St R) (k : St R → Out R) : Out R :=
  match splitOf E o.op st with
  | .no => evOp1 E o st k
  | .b t c => .ite c (evOp1 E o (st.know t (.v (.s (.kb true)))) k) (evOp1 E o (st.know t (.v (.s (.kb false)))) k)
  | .i t kd n len => splitL n (fun j => evOp1 E o (st.know t (.v (.s (.kn kd j)))) k) (List.range len)

/-- which slot a guard asks -/
def guardSlot (all : List Oper) (j : Nat) : Option Nat :=
  match all[j]? with
  | some o => o.dst
  | none => none

/-- the operations of a region, in the text's order -/
def evOps [DecidableEq R.K] (E : Env R) (all : List Oper) : List Oper → St R → (St R → Out R) → Out R
  | [], st, k => k st
  | o :: rest, st, k =>
    match o.guard with
    | none => evOp E o st fun st' => evOps E all rest st' k
    | some (j, want) =>
      match guardSlot all j with
      | none => .fail
      | some t =>
        match st.sl.getD t .un with
        | .v (.s (.kb b)) => match b == want with
          | true => evOp E o st fun st' => evOps E all rest st' k
          | false => evOps E all rest (st.app o.dst ⟨none, .un, [], []⟩) k
        | .v (.s (.bool b)) =>
          let yes := fun (st : St R) => evOp E o st fun st' => evOps E all rest st' k
          let no := fun (st : St R) => evOps E all rest (st.app o.dst ⟨none, .un, [], []⟩) k
          match want with
          | true => .ite b (yes (st.know t (.v (.s (.kb true))))) (no (st.know t (.v (.s (.kb false)))))
          | false => .ite b (no (st.know t (.v (.s (.kb true))))) (yes (st.know t (.v (.s (.kb false)))))
        | _ => .fail

theorem evOp1_ok [DecidableEq R.K] {E : Env R} (hE : EnvOk P E) {o : Oper} {st : St R} {k : St R → Out R} {Q : Ex → St R → Prop} (h : (evOp1 E o st k).Holds Q) {ids : Nm} {a : Act} {w : World} (hs : Sim ids st a w)
    {K : Act → World → Prop} {Q' : Exit → Act → World → Prop} {m : Nat} (hm : m ≤ st.nb)
    (hK : ∀ st' ids' a' w', (k st').Holds Q → Sim ids' st' a' w' → m ≤ st'.nb → Step m ids (getO st.ob) w ids' (getO st'.ob) w' → K a' w') : o.wp P a w K Q' := by
  unfold evOp1 at h
  cases hv : opv E o.op (evS st) (getO st.ob) st.nb with
  | none => simp [hv, Out.Holds] at h
  | some r =>
    simp only [hv] at h
    rw [needO_holds] at h
    refine op_ok hE (evS_ok hs) hs.ob (fun j _ => hs.free _ (by omega)) hv h.1 fun v w' ids' h1 h2 h3 h4 h5 => ?_
    refine hK _ ids' _ w' h.2 (hs.app o.dst h1 h2 h3 h4) (by simp [St.app]; omega) ⟨fun i hi p hp => h3 i p hp, ?_⟩
    rw [getO_app]; exact h5

theorem splitL_ok {n : Int} {f : Nat → Out R} {Q : Ex → St R → Prop} : ∀ {l : List Nat}, (splitL n f l).Holds Q → ∃ j : Nat, n = (j : Int) ∧ (f j).Holds Q
  | [], h => h.elim
  | [j], h => ⟨j, h.1, h.2⟩
  | j :: j' :: js, h => by
    by_cases e : n = (j : Int)
    · exact ⟨j, e, h.1 (by simpa using e)⟩
    · exact splitL_ok (l := j' :: js) (h.2 (by simpa using e))

theorem numK_ok {s : S} {k : IntKind} {n : Int} (h : numK s = some (k, n)) (J : Tot) : den J s = .int k n := by
  cases s <;> simp only [numK, Option.some.injEq, Prod.mk.injEq, reduceCtorEq] at h <;> obtain ⟨rfl, rfl⟩ := h <;> rfl

theorem splitIx_ok {E : Env R} {t : Nat} {x : W R} {st : St R} {i t' : Nat} {k : IntKind} {n : Int} {len : Nat} (h : splitIx E t x st i = .i t' k n len) :
    ∃ s, st.sl.getD t' .un = .v (.s s) ∧ numK s = some (k, n) := by
  unfold splitIx at h
  split at h
  · rename_i ti s h1 h2
    split at h
    · rename_i len' _ _ k' n' hk hn
      repeat' split at h
      all_goals first
        | (cases h; done)
        | (cases h; exact ⟨s, h2, hn⟩)
    · cases h
  · cases h

theorem splitIx_b {E : Env R} {t : Nat} {x : W R} {st : St R} {i t' : Nat} {c : Bool} : splitIx E t x st i ≠ .b t' c := by
  unfold splitIx
  repeat' split
  all_goals simp

theorem evOp_ok [DecidableEq R.K] {E : Env R} (hE : EnvOk P E) {o : Oper} {st : St R} {k : St R → Out R} {Q : Ex → St R → Prop} (h : (evOp E o st k).Holds Q) {ids : Nm} {a : Act} {w : World} (hs : Sim ids st a w)
    {K : Act → World → Prop} {Q' : Exit → Act → World → Prop} {m : Nat} (hm : m ≤ st.nb)
    (hK : ∀ st' ids' a' w', (k st').Holds Q → Sim ids' st' a' w' → m ≤ st'.nb → Step m ids (getO st.ob) w ids' (getO st'.ob) w' → K a' w') : o.wp P a w K Q' := by
  unfold evOp at h
  cases hsp : splitOf E o.op st with
  | no => simp only [hsp] at h; exact evOp1_ok hE h hs hm hK
  | b t c =>
    simp only [hsp, Out.Holds] at h
    have hsl : st.sl.getD t .un = .v (.s (.bool c)) := by
      unfold splitOf at hsp
      split at hsp
      · split at hsp
        · rename_i c' _ _ b hb; cases hsp; exact hb
        · cases hsp
      · exact absurd hsp splitIx_b
      · exact absurd hsp splitIx_b
      · cases hsp
    have hv := hs.slots t
    rw [hsl] at hv
    cases c with
    | true =>
      exact evOp1_ok hE (h.1 rfl) (hs.know t (x := .v (.s (.kb true))) fun J hJ => hv J hJ) hm hK
    | false =>
      exact evOp1_ok hE (h.2 rfl) (hs.know t (x := .v (.s (.kb false))) fun J hJ => hv J hJ) hm hK
  | i t kd n len =>
    simp only [hsp] at h
    obtain ⟨j, hj, hh⟩ := splitL_ok h
    have hsl : ∃ s, st.sl.getD t .un = .v (.s s) ∧ numK s = some (kd, n) := by
      unfold splitOf at hsp
      split at hsp
      · split at hsp <;> cases hsp
      · exact splitIx_ok hsp
      · exact splitIx_ok hsp
      · cases hsp
    obtain ⟨s, h1, h2⟩ := hsl
    have hv := hs.slots t
    rw [h1] at hv
    exact evOp1_ok hE hh (hs.know t (x := .v (.s (.kn kd j))) fun J hJ => by rw [hv J hJ]; simp only [denW, denV]; rw [numK_ok h2 J, hj]; rfl) hm hK

theorem yielded_of {all : List Oper} {j t : Nat} (hg : guardSlot all j = some t) {tmps : Array Value} {b : Bool} (hb : tmps[t]? = some (.bool b)) : yielded all.toArray tmps j = some b := by
  unfold guardSlot at hg
  unfold yielded
  simp only [List.getElem?_toArray]
  cases hj : all[j]? with
  | none => simp [hj] at hg
  | some o => simp only [hj] at hg; simp [hg, hb]

theorem getD_some {tmps : Array Value} {t : Nat} {b : Bool} (h : tmps.getD t undef = .bool b) : tmps[t]? = some (.bool b) := by
  rw [Array.getD_eq_getD_getElem?] at h
  cases hh : tmps[t]? with
  | none => simp [hh, undef] at h
  | some v => simp [hh] at h; rw [h]

theorem evOps_ok [DecidableEq R.K] {E : Env R} (hE : EnvOk P E) {all : List Oper} {k : St R → Out R} {Q : Ex → St R → Prop} {Q' : Exit → Act → World → Prop} {m : Nat} : ∀ (ops : List Oper) (st : St R) (ids : Nm) (a : Act) (w : World),
    (evOps E all ops st k).Holds Q → Sim ids st a w → m ≤ st.nb →
    (∀ st' ids' a' w', (k st').Holds Q → Sim ids' st' a' w' → m ≤ st'.nb → Step m ids (getO st.ob) w ids' (getO st'.ob) w' → Q' .normal a' w') → wpList P all.toArray Q' ops a w
  | [], st, ids, a, w, h, hs, hm, hK => hK st ids a w h hs hm (Step.refl _ _ _ _)
  | o :: rest, st, ids, a, w, h, hs, hm, hK => by
    have yes : ∀ (st : St R), (evOp E o st fun st' => evOps E all rest st' k).Holds Q → Sim ids st a w → m ≤ st.nb →
        (∀ st' ids' a' w', (k st').Holds Q → Sim ids' st' a' w' → m ≤ st'.nb → Step m ids (getO st.ob) w ids' (getO st'.ob) w' → Q' .normal a' w') → o.wp P a w (wpList P all.toArray Q' rest) Q' := by
      intro st h hs hm hK
      refine evOp_ok hE h hs hm fun st1 ids1 a1 w1 h1 hs1 hm1 hst1 => ?_
      exact evOps_ok hE rest st1 ids1 a1 w1 h1 hs1 hm1 fun st2 ids2 a2 w2 h2 hs2 hm2 hst2 => hK st2 ids2 a2 w2 h2 hs2 hm2 (hst1.trans hst2)
    have no : ∀ (st : St R), (evOps E all rest (st.app o.dst ⟨none, .un, [], []⟩) k).Holds Q → Sim ids st a w → m ≤ st.nb →
        (∀ st' ids' a' w', (k st').Holds Q → Sim ids' st' a' w' → m ≤ st'.nb → Step m ids (getO st.ob) w ids' (getO st'.ob) w' → Q' .normal a' w') → wpList P all.toArray Q' rest (a.put o.dst undef) w := by
      intro st h hs hm hK
      have hs' : Sim ids (st.app o.dst ⟨none, .un, [], []⟩) (a.put o.dst undef) w := hs.app o.dst trivial hs.ob (LeN.refl ids) fun _ => .inl rfl
      exact evOps_ok hE rest _ ids _ w h hs' hm fun st2 ids2 a2 w2 h2 hs2 hm2 hst2 => hK st2 ids2 a2 w2 h2 hs2 hm2 hst2
    unfold evOps at h
    unfold wpList
    cases hg : o.guard with
    | none =>
      simp only [hg] at h
      have hw : Region.wanted o (yielded all.toArray a.tmps) = true := by simp [Region.wanted, hg]
      rw [if_pos hw]
      exact .inl (yes st h hs hm hK)
    | some gw =>
      obtain ⟨j, want⟩ := gw
      simp only [hg] at h
      cases hgs : guardSlot all j with
      | none => simp [hgs, Out.Holds] at h
      | some t =>
        simp only [hgs] at h
        split at h
        · rename_i b hb
          have hv := hs.slots t
          rw [hb] at hv
          have hy := yielded_of hgs (getD_some (hv.v0))
          split at h
          · rename_i he
            have hbw : b = want := by simpa using he
            have hw : Region.wanted o (yielded all.toArray a.tmps) = true := by simp [Region.wanted, hg, hy, hbw]
            rw [if_pos hw]
            exact .inl (yes st h hs hm hK)
          · rename_i he
            have hbw : ¬ b = want := by simpa using he
            have hw : ¬ Region.wanted o (yielded all.toArray a.tmps) = true := by simp [Region.wanted, hg, hy, hbw]
            rw [if_neg hw]
            exact no st h hs hm hK
        · rename_i b hb
          have hv := hs.slots t
          rw [hb] at hv
          have hy := yielded_of hgs (getD_some (hv.v0))
          have kn : ∀ c, b = c → Sim ids (st.know t (.v (.s (.kb c)))) a w := fun c hc => hs.know t (x := .v (.s (.kb c))) fun J hJ => by rw [hv J hJ]; subst hc; rfl
          cases want with
          | true =>
            simp only [Out.Holds] at h
            cases b with
            | true =>
              have hw : Region.wanted o (yielded all.toArray a.tmps) = true := by simp [Region.wanted, hg, hy]
              rw [if_pos hw]
              exact .inl (yes _ (h.1 rfl) (kn true rfl) hm hK)
            | false =>
              have hw : ¬ Region.wanted o (yielded all.toArray a.tmps) = true := by simp [Region.wanted, hg, hy]
              rw [if_neg hw]
              exact no _ (h.2 rfl) (kn false rfl) hm hK
          | false =>
            simp only [Out.Holds] at h
            cases b with
            | true =>
              have hw : ¬ Region.wanted o (yielded all.toArray a.tmps) = true := by simp [Region.wanted, hg, hy]
              rw [if_neg hw]
              exact no _ (h.1 rfl) (kn true rfl) hm hK
            | false =>
              have hw : Region.wanted o (yielded all.toArray a.tmps) = true := by simp [Region.wanted, hg, hy]
              rw [if_pos hw]
              exact .inl (yes _ (h.2 rfl) (kn false rfl) hm hK)
        · exact h.elim
end Go.SX
