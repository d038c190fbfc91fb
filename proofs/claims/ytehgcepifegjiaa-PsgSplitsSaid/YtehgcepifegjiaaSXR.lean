/- Regions that leave their order open: the text's order is evaluated; what might come in another order is checked. -/
import Derived.Test.YtehgcepifegjiaaSXQ
namespace Go.SX
variable {R : Reg} {P : Program}

def depsAny (o : Oper) : List Nat := o.after.toList.filterMap fun e => match Region.binds .any e with
  | true => some e.on
  | false => none

def maskOf (ms : List Nat) (ds : List Nat) : Nat := ds.foldl (fun m d => m ||| (2 ^ d ||| ms.getD d 0)) 0
def masks : List Oper → List Nat → List Nat
  | [], acc => acc
  | o :: r, acc => masks r (acc ++ [maskOf acc (depsAny o)])

abbrev Rs (R : Reg) := List (Option (Res R))

def newLen : Option (Res R) → Nat
  | some r => r.new.length
  | none => 0
def isEff : Option (Res R) → Bool
  | some r => match r.upd with
    | [] => false
    | _ :: _ => true
  | none => false
def nbR : Nat → Rs R → Nat
  | nb, [] => nb
  | nb, r :: rest => nbR (nb + newLen r) rest
def effF : Rs R → Nat → List Nat
  | [], _ => []
  | r :: rest, j => match isEff r with
    | true => j :: effF rest (j + 1)
    | false => effF rest (j + 1)
def valR (rs : Rs R) (j : Nat) : W R := match rs.getD j none with
  | some r => r.val
  | none => .un
def updR (rs : Rs R) (j : Nat) : List (Nat × O R) := match rs.getD j none with
  | some r => r.upd
  | none => []
def newR (rs : Rs R) (j : Nat) : List (O R) := match rs.getD j none with
  | some r => r.new
  | none => []
/-- who made the object of a name -/
def crt : Rs R → Nat → Nat → Nat → Option (Nat × O R)
  | [], _, _, _ => none
  | r :: rest, nb, j, o => match Nat.ble nb o, Nat.blt o (nb + newLen r) with
    | true, true => some (j, match r with
      | some r => getO r.new (o - nb)
      | none => .none)
    | _, _ => crt rest (nb + newLen r) (j + 1) o

def ups (rs : Rs R) (es : List Nat) : List (Nat × O R) := es.flatMap (updR rs)

/-- the memory behind so many effects, where what 'vis' made is seen -/
def memV (st : St R) (rs : Rs R) (vis : Nat → Bool) (es : List Nat) : Ob R := fun o =>
  match Nat.blt o st.nb with
  | true => apU (getO st.ob) (ups rs es) o
  | false => match crt rs st.nb 0 o with
    | some (j, x) => match vis j with
      | true => apU (fun _ => x) (ups rs es) o
      | false => .none
    | none => .none

def wrOf (ops : List Oper) (t : Nat) : Option Nat := ops.findIdx? fun o => match o.dst with
  | some d => Nat.beq d t
  | none => false

def evD (ops : List Oper) (ms : List Nat) (st : St R) (rs : Rs R) (i : Nat) : Operand → W R
  | .tmp t => match wrOf ops t with
    | none => st.sl.getD t .un
    | some j => match Nat.testBit (ms.getD i 0) j with
      | true => valR rs j
      | false => match Nat.testBit (ms.getD j 0) i || Nat.beq j i with
        | true => st.sl.getD t .un
        | false => .un
  | x => evS st x

def wantD (ops : List Oper) (ms : List Nat) (st : St R) (rs : Rs R) (i : Nat) (o : Oper) : Option (Sum Bool (Nat × Bool)) :=
  match o.guard with
  | none => some (.inl true)
  | some (g, want) => match guardSlot ops g with
    | some t => match evD ops ms st rs i (.tmp t) with
      | .v (.s (.kb b)) => some (.inl (b == want))
      | .v (.s (.bool b)) => some (.inr (g, b))
      | _ => none
    | none => none

inductive RD (R : Reg) where
  | done (rs : Rs R) (needs : List Prop)
  | ask (g : Nat) (b : Bool)
  | fail

def addN (p : Option Prop) (l : List Prop) : List Prop := match p with
  | some q => q :: l
  | none => l

/-- what is known of a result -/
def apRef (ref : List (Nat × Bool)) (i : Nat) (r : Res R) : Res R × Option Prop :=
  match ref.lookup i with
  | some c => match r.val with
    | .v (.s (.bool b)) => (⟨r.need, .v (.s (.kb c)), r.upd, r.new⟩, some (b = c))
    | _ => (r, none)
  | none => (r, none)

def runD [DecidableEq R.K] (E : Env R) (ref : List (Nat × Bool)) (ops : List Oper) (ms : List Nat) (st : St R) : List Oper → Rs R → List Prop → RD R
  | [], rs, ns => .done rs ns
  | o :: rest, rs, ns =>
    match wantD ops ms st rs rs.length o with
    | some (.inl true) =>
      match opv E o.op (evD ops ms st rs rs.length) (memV st rs (Nat.testBit (ms.getD rs.length 0)) (effF rs 0)) (nbR st.nb rs) with
      | some r => runD E ref ops ms st rest (rs ++ [some (apRef ref rs.length r).1]) (addN (apRef ref rs.length r).2 (addN r.need ns))
      | none => .fail
    | some (.inl false) => runD E ref ops ms st rest (rs ++ [none]) ns
    | some (.inr (g, b)) => .ask g b
    | none => .fail

/-- is an operation's answer the same in whatever memory? -/
def noMem : Op → Bool
  | .move _ | .assign _ | .pick _ _ _ | .alloc _ | .box _ _ | .build _ _ | .buildSlice _ _ _ | .nilCheck _ | .binOp _ _ _ _ _ | .unOp _ _ _ | .convert _ _ _ | .fieldAddr _ _ _ | .field _ _ _ | .index _ _ _ | .extract _ _ => true
  | _ => false

def cnt1 (p : Nat → Bool) : List Nat → Nat
  | [] => 0
  | x :: r => match p x with
    | true => cnt1 p r + 1
    | false => cnt1 p r

def lowE (ms es : List Nat) (i : Nat) : Nat := cnt1 (Nat.testBit (ms.getD i 0)) es
def highE (ms es : List Nat) (i : Nat) : Nat := cnt1 (fun e => !(Nat.testBit (ms.getD e 0) i) && !(Nat.beq e i)) es

/-- an operation, in other memories that it might meet -/
def altQ [DecidableEq R.K] (E : Env R) (ops : List Oper) (ms : List Nat) (st : St R) (rs : Rs R) (es : List Nat) (i : Nat) (o : Oper) (r : Res R) : List Nat → Option (List Prop)
  | [] => some []
  | q :: qs => match opv E o.op (evD ops ms st rs i) (memV st rs (Nat.testBit (ms.getD i 0)) (es.take q)) (nbR st.nb (rs.take i)), altQ E ops ms st rs es i o r qs with
    | some r', some ns => match r'.upd, r'.new, r.new with
      | [], [], [] => some (addN r'.need ((WEq r'.val r.val) :: ns))
      | _, _, _ => none
    | _, _ => none

def altOf [DecidableEq R.K] (E : Env R) (ops : List Oper) (ms : List Nat) (st : St R) (rs : Rs R) (es : List Nat) (i : Nat) (o : Oper) : Option (List Prop) :=
  match rs.getD i none with
  | none => some []
  | some r => match isEff (some r) || noMem o.op with
    | true => some []
    | false => altQ E ops ms st rs es i o r (((List.range (highE ms es i + 1)).filter fun q => Nat.ble (lowE ms es i) q && !(Nat.beq q (effF (rs.take i) 0).length)))

def altAll [DecidableEq R.K] (E : Env R) (ops : List Oper) (ms : List Nat) (st : St R) (rs : Rs R) (es : List Nat) : List Oper → Nat → Option (List Prop)
  | [], _ => some []
  | o :: rest, i => match altOf E ops ms st rs es i o, altAll E ops ms st rs es rest (i + 1) with
    | some a, some b => some (a ++ b)
    | _, _ => none

/-- the shape of the region: what waits for what, and who writes what -/
def shapeD (ms : List Nat) : List Oper → Nat → Bool
  | [], _ => true
  | o :: rest, i => (depsAny o).all (fun d => Nat.blt d i) && Nat.beq (ms.getD i 0) (maskOf ms (depsAny o)) && shapeD ms rest (i + 1)

def dstsOf (ops : List Oper) : List Nat := ops.filterMap (·.dst)
def nodupB : List Nat → Bool
  | [] => true
  | x :: r => !(r.any fun y => Nat.beq x y) && nodupB r

/-- the effects are in one order -/
def chainD (ms : List Nat) : List Nat → Bool
  | [] => true
  | e :: r => (r.all fun e' => Nat.testBit (ms.getD e' 0) e) && chainD ms r

/-- what an effect changes is there, and seen by it; what is new, or changed, is one's own -/
def liveD (ms : List Nat) (st : St R) (rs : Rs R) : List (Option (Res R)) → Nat → Bool
  | [], _ => true
  | none :: rest, i => liveD ms st rs rest (i + 1)
  | some r :: rest, i =>
    (r.upd.all fun u => match memV st rs (Nat.testBit (ms.getD i 0)) (effF (rs.take i) 0) u.1 with
      | .none => false
      | _ => true) &&
    (r.upd.all fun u => match u.2 with
      | .none => true
      | x => x.excl) && (r.new.all fun x => match x with
      | .none => true
      | x => x.excl) && liveD ms st rs rest (i + 1)

def allOf (needs : List Prop) (o : Out R) : Out R := needs.foldr .need o

def finalD (ops : List Oper) (st : St R) (rs : Rs R) : St R :=
  ⟨(List.range st.sl.length).map fun t => match wrOf ops t with
      | some j => valR rs j
      | none => st.sl.getD t .un,
   (List.range (nbR st.nb rs)).map (memV st rs (fun _ => true) (effF rs 0)), nbR st.nb rs⟩

def evDraw [DecidableEq R.K] (E : Env R) : Nat → List (Nat × Bool) → List Oper → St R → (St R → Out R) → Out R
  | 0, _, _, _, _ => .fail
  | f + 1, ref, ops, st, k =>
    match runD E ref ops (masks ops []) st ops [] [] with
    | .done rs ns =>
      match shapeD (masks ops []) ops 0 && nodupB (dstsOf ops) && ((dstsOf ops).all fun d => Nat.blt d st.sl.length) && chainD (masks ops []) (effF rs 0) && liveD (masks ops []) st rs rs 0, altAll E ops (masks ops []) st rs (effF rs 0) ops 0 with
      | true, some as => allOf (ns ++ as) (k (finalD ops st rs))
      | _, _ => .fail
    | .ask g b => .ite b (evDraw E f ((g, true) :: ref) ops st k) (evDraw E f ((g, false) :: ref) ops st k)
    | .fail => .fail
end Go.SX
