/- Words for contracts. -/
import Derived.Test.YtehgcepifegjiaaSYB
namespace Go.SX
variable {R : Reg} {P : Program}

def mk (X : Type) (args : X → List (W R)) (res : X → W R) : Con R := ⟨X, fun _ => True, 0, args, fun _ => [], [], res, fun _ => []⟩
def sp [DecidableEq R.K] [RegP R] (C : Con R) (dec : List (W R) → Option C.X) : Spec R := (⟨fun _ => [], [], 0, fun l _ => match dec l with
  | some x => some (x, [])
  | none => none⟩ : Call1 C).spec
theorem sp_ok [DecidableEq R.K] [RegP R] [RegC R] {C : Con R} (h0 : C.nb = 0) (h1 : C.keep = []) (h2 : ∀ x, C.pre x) {dec : List (W R) → Option C.X} {f : FuncId} (h : ConOk P f C) : CallOk P f (sp C dec) :=
  Call1.ok _ (by simp [Call1.st, h1, nodupB]) (fun _ _ => h2 _) (fun _ i hi _ => absurd hi (by omega)) h

def loopGet : List (Nat × (St R → Out R)) → Nat → Option (St R → Out R)
  | [], _ => none
  | (t, i) :: r, u => match Nat.beq t u with
    | true => some i
    | false => loopGet r u
def envOf (tab : List (Nat × TI R)) (calls : List (Nat × Spec R)) (loops : List (Nat × (St R → Out R))) : Env R := ⟨tiGet tab, callGet calls, loopGet loops, 64⟩
def drOf [DecidableEq R.K] [RegP R] (tab : List (Nat × TI R)) (calls : List (Nat × Spec R)) (loops : List (Nat × (St R → Out R))) := evDraw (envOf tab calls loops) 16 []
theorem env_ok [DecidableEq R.K] [RegP R] {tab : List (Nat × TI R)} (ht : tabB P tab = true) {calls : List (Nat × Spec R)} (hc : CallsOk P calls) (loops : List (Nat × (St R → Out R))) : EnvOk P (envOf tab calls loops) :=
  ⟨tab_ok ht, calls_ok hc, tab_eq ht⟩

def Con.T [DecidableEq R.K] [RegP R] (C : Con R) (tab : List (Nat × TI R)) (calls : List (Nat × Spec R)) (fn : Func) (x : C.X) : Out R := C.tree (envOf tab calls []) (drOf tab calls []) fn x
theorem con_ok [DecidableEq R.K] [RegP R] [RegC R] {tab : List (Nat × TI R)} (ht : tabB P tab = true) (hm : P.follows .mixedOrders = true) {calls : List (Nat × Spec R)} (hc : CallsOk P calls) {f : FuncId} {fn : Func} {c : Code} {C : Con R} (hf : P.funcs[f]? = some fn) (hb : fn.body = some c)
    (hcall : ∀ args w, (callFunc f args).run P w = .ok (.enter f args) w) (hn : ∀ x, Nat.ble (C.args x).length fn.ntmps = true)
    (h : ∀ x, C.pre x → Good (C.T tab calls fn x)) : ConOk P f C :=
  conOk_tree (env_ok ht hc []) (drawOk (env_ok ht hc []) hm 16) hf hb hcall (loopsOk_none (fun _ => rfl) c) (fun x => Nat.le_of_ble_eq_true (hn x)) h

/-- the way that closed conditions take -/
def Out.walk : Out R → Out R
  | .ite c t e => match c with
    | true => t.walk
    | false => e.walk
  | .need p o => .need p o.walk
  | o => o
theorem walk_holds {Q : Ex → St R → Prop} : ∀ {o : Out R}, o.walk.Holds Q → o.Holds Q
  | .ite true t _, h => ⟨fun _ => walk_holds (o := t) h, fun h => (nomatch h)⟩
  | .ite false _ e, h => ⟨fun h => (nomatch h), fun _ => walk_holds (o := e) h⟩
  | .need _ o, h => ⟨h.1, walk_holds (o := o) h.2⟩
  | .leaf _ _, h => h
  | .fail, h => h
theorem good_walk {o : Out R} (h : Good o.walk) : Good o := ⟨walk_holds h.holds⟩

/-! ### What an argument is -/
def wO [DecidableEq R.K] [RegP R] (k : R.K) : W R → Option (R.T k)
  | .v (.agg l) => match l with
    | [.obj k' x] => match decEq k' k with
      | .isTrue h => some (h ▸ x)
      | .isFalse _ => none
    | l => match packI k l with
      | some (x, []) => some x
      | _ => none
  | _ => none
def wI : W R → Option Int
  | .v (.s x) => match nrm x with
    | .int n => some n
    | _ => none
  | _ => none
def wB : W R → Option Bool
  | .v (.s x) => match nrm x with
    | .bool n => some n
    | _ => none
  | _ => none
def w8 : W R → Option (BitVec 8)
  | .v (.s x) => match nrm x with
    | .b8 n => some n
    | _ => none
  | _ => none
def w16 : W R → Option (BitVec 16)
  | .v (.s x) => match nrm x with
    | .b16 n => some n
    | _ => none
  | _ => none
def w32 : W R → Option (BitVec 32)
  | .v (.s x) => match nrm x with
    | .b32 n => some n
    | _ => none
  | _ => none
def oI (t : Int) : W R := .v (.s (.int t))
def oB (t : Bool) : W R := .v (.s (.bool t))
def o8 (t : BitVec 8) : W R := .v (.s (.b8 t))
def o16 (t : BitVec 16) : W R := .v (.s (.b16 t))
def o32 (t : BitVec 32) : W R := .v (.s (.b32 t))
def oO (k : R.K) (t : R.T k) : W R := .v (.agg [.obj k t])
def d0 : List (W R) → Option Unit
  | [] => some ()
  | _ => none
def d1 {A : Type} (f : W R → Option A) : List (W R) → Option A
  | [x] => f x
  | _ => none
def d2 {A B : Type} (f : W R → Option A) (g : W R → Option B) : List (W R) → Option (A × B)
  | [x, y] => match f x, g y with
    | some a, some b => some (a, b)
    | _, _ => none
  | _ => none
def d3 {A B C : Type} (f : W R → Option A) (g : W R → Option B) (h : W R → Option C) : List (W R) → Option (A × B × C)
  | [x, y, z] => match f x, g y, h z with
    | some a, some b, some c => some (a, b, c)
    | _, _, _ => none
  | _ => none
def d4 {A B C D : Type} (f : W R → Option A) (g : W R → Option B) (h : W R → Option C) (i : W R → Option D) : List (W R) → Option (A × B × C × D)
  | [x, y, z, u] => match f x, g y, h z, i u with
    | some a, some b, some c, some d => some (a, b, c, d)
    | _, _, _, _ => none
  | _ => none
end Go.SX
