/- Functions with loops that have a summary. -/
import Derived.Test.YtehgcepifegjiaaSYC
namespace Go.SX
variable {R : Reg} {P : Program}

/-- the loops of a piece of code, from without inwards -/
def loopsIn : Code → List Code
  | .seq a b => loopsIn a ++ loopsIn b
  | .cond _ a b => loopsIn a ++ loopsIn b
  | .block _ c => loopsIn c
  | .loop c => c :: loopsIn c
  | _ => []

theorem loopsOk_of {m : Nat} {E : Env R} : ∀ c : Code, (∀ c' ∈ loopsIn c, ∀ f, E.loop (key c') = some f → SoundC P m (.loop c') f) → LoopsOk P m E c
  | .seq a b, h => ⟨loopsOk_of a fun c' hc => h c' (by simp [loopsIn, hc]), loopsOk_of b fun c' hc => h c' (by simp [loopsIn, hc])⟩
  | .cond _ a b, h => ⟨loopsOk_of a fun c' hc => h c' (by simp [loopsIn, hc]), loopsOk_of b fun c' hc => h c' (by simp [loopsIn, hc])⟩
  | .block _ c, h => loopsOk_of c fun c' hc => h c' (by simp [loopsIn, hc])
  | .loop c, h => by
    unfold LoopsOk
    cases he : E.loop (key c) with
    | some f => exact h c (by simp [loopsIn]) f he
    | none => exact loopsOk_of c fun c' hc => h c' (by simp [loopsIn, hc])
  | .skip, _ => trivial
  | .region _ _ _, _ => trivial
  | .exit _, _ => trivial
  | .label _, _ => trivial
  | .ret, _ => trivial
  | .rangeFunc _ _ _ _, _ => trivial
  | .scope _, _ => trivial
  | .goto _, _ => trivial
  | .refuse _, _ => trivial

def bodyOf (fn : Func) : Code := match fn.body with
  | some c => c
  | none => .skip
/-- the i-th loop of a function -/
def loopAt (fn : Func) (i : Nat) : Code := (loopsIn (bodyOf fn)).getD i .skip

theorem all_at {α : Type} {d : α} {Q : α → Prop} {l : List α} (h : ∀ i, i < l.length → Q (l.getD i d)) : ∀ x ∈ l, Q x := by
  intro x hx
  obtain ⟨i, hi, rfl⟩ := List.mem_iff_getElem.1 hx
  have := h i hi
  simpa [List.getD, hi] using this

/-- the body of a summary's loop, evaluated -/
def LoopS.T [DecidableEq R.K] [RegP R] (L : LoopS R) (m : Nat) (tab : List (Nat × TI R)) (calls : List (Nat × Spec R)) (loops : List (Nat × (St R → Out R))) (c : Code) (x : L.X) : Out R :=
  (evC (envOf tab calls loops) (drOf tab calls loops) c (L.hd x)).bind (L.look m x)

structure LoopS.Fine [DecidableEq R.K] [RegP R] (L : LoopS R) (m : Nat) (tab : List (Nat × TI R)) (calls : List (Nat × Spec R)) (loops : List (Nat × (St R → Out R))) (c : Code) : Prop where
  ok : ∀ x, L.inv x → ∀ Q, (L.res x).Holds Q → (L.T m tab calls loops c x).Holds (LoopS.Goal Q)

theorem loop_ok [DecidableEq R.K] [RegP R] [RegC R] {tab : List (Nat × TI R)} (ht : tabB P tab = true) (hm : P.follows .mixedOrders = true) {calls : List (Nat × Spec R)} (hc : CallsOk P calls)
    {loops : List (Nat × (St R → Out R))} {c : Code} (L : LoopS R) {m : Nat} (hl : LoopsOk P m (envOf tab calls loops) c) (h : L.Fine m tab calls loops c) : SoundC P m (.loop c) (L.ev m) :=
  L.sound (evC_ok (env_ok ht hc loops) (drawOk (env_ok ht hc loops) hm 16) c hl) fun x hx Q hq => h.ok x hx Q hq

def Con.TL [DecidableEq R.K] [RegP R] (C : Con R) (tab : List (Nat × TI R)) (calls : List (Nat × Spec R)) (loops : List (Nat × (St R → Out R))) (fn : Func) (x : C.X) : Out R := C.tree (envOf tab calls loops) (drOf tab calls loops) fn x
theorem con_okL [DecidableEq R.K] [RegP R] [RegC R] {tab : List (Nat × TI R)} (ht : tabB P tab = true) (hm : P.follows .mixedOrders = true) {calls : List (Nat × Spec R)} (hc : CallsOk P calls) {loops : List (Nat × (St R → Out R))} {f : FuncId} {fn : Func} {c : Code} {C : Con R} (hf : P.funcs[f]? = some fn) (hb : fn.body = some c)
    (hcall : ∀ args w, (callFunc f args).run P w = .ok (.enter f args) w) (hl : LoopsOk P C.nb (envOf tab calls loops) (bodyOf fn)) (hn : ∀ x, Nat.ble (C.args x).length fn.ntmps = true)
    (h : ∀ x, C.pre x → Good (C.TL tab calls loops fn x)) : ConOk P f C :=
  have e : bodyOf fn = c := by simp [bodyOf, hb]
  conOk_tree (env_ok ht hc loops) (drawOk (env_ok ht hc loops) hm 16) hf hb hcall (e ▸ hl) (fun x => Nat.le_of_ble_eq_true (hn x)) h
end Go.SX
