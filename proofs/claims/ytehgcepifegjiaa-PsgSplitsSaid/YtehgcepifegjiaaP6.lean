/- Lists that are the same. -/
import Derived.Test.YtehgcepifegjiaaSYD
import Derived.Test.YtehgcepifegjiaaP5
namespace Go.SX
open Go.Proofs
structure Two where
  f : Nat → Int
  g : Nat → Int
  n : Nat
  m : Nat
def Two.same (x : Two) : Bool := decide (x.n = x.m) && (List.range x.n).all fun j => x.f j == x.g j
def Two.ob (x : Two) : List (O psgReg) := [.lst (.ai x.f) x.n true 3, .lst (.ai x.g) x.m true 3]
def cSame : Con psgReg := ⟨Two, fun x => (x.n : Int) < 4611686018427387904, 2, fun _ => [.v (.s (.sl 0)), .v (.s (.sl 1))], Two.ob, [0, 1], fun x => oB x.same, Two.ob⟩
def slots {R : Reg} (n : Nat) (l : List (Nat × W R)) : List (W R) := (List.range n).map fun t => (l.lookup t).getD .un
def sameL : LoopS psgReg where
  X := Two × Int
  opens := []
  hd := fun x => ⟨slots 26 [(0, .v (.s (.sl 0))), (1, .v (.s (.sl 1))), (12, oI (x.1.n : Int)), (13, oI x.2)], x.1.ob, 2⟩
  dec := fun st => match st.sl.getD 0 .un, st.sl.getD 1 .un, getO st.ob 0, getO st.ob 1, wI (st.sl.getD 13 .un) with
    | .v (.s (.sl 0)), .v (.s (.sl 1)), .lst (.ai f) n _ _, .lst (.ai g) m _ _, some i => some ((⟨f, g, n, m⟩, i), [0, 1])
    | _, _, _, _, _ => none
  inv := fun x => x.1.n = x.1.m ∧ 0 ≤ x.2 ∧ x.2 ≤ (x.1.n : Int) ∧ (x.1.n : Int) < 4611686018427387904
  μ := fun x => ((x.1.n : Int) - x.2).toNat
  res := fun x => .ite ((List.range x.1.n).all fun j => decide ((j : Int) < x.2) || x.1.f j == x.1.g j) (.leaf (.exit 0) ⟨slots 26 [], x.1.ob, 2⟩) (.leaf .ret ⟨slots 26 [(4, .v (.s (.kb false)))], x.1.ob, 2⟩)
  live := [4]
  liveO := [0, 1]
theorem same_body (x : Two × Int) : sameL.T 2 psgTab [] [] (loopAt Try.f7 0) x = Go.SX.Out.ite (Decidable.decide (x.snd < (↑x.fst.n : Int)))
  (Go.SX.Out.need (x.snd.toNat < x.fst.m)
    (Go.SX.Out.need ((0 : Int) ≤ x.snd ∧ x.snd < (↑x.fst.m : Int))
      (Go.SX.Out.need (x.snd.toNat < x.fst.n)
        (Go.SX.Out.need ((0 : Int) ≤ x.snd ∧ x.snd < (↑x.fst.n : Int))
          (Go.SX.Out.ite (x.fst.f x.snd.toNat != x.fst.g x.snd.toNat)
            (Go.SX.Out.leaf Go.SX.Ex.ret
              (Go.SX.St.mk
                [Go.SX.W.un, Go.SX.W.un, Go.SX.W.un, Go.SX.W.un, Go.SX.W.v (Go.SX.V.s (Go.SX.S.kb Bool.false)),
                  Go.SX.W.un, Go.SX.W.un, Go.SX.W.un, Go.SX.W.un, Go.SX.W.un, Go.SX.W.un, Go.SX.W.un, Go.SX.W.un,
                  Go.SX.W.un, Go.SX.W.un, Go.SX.W.un, Go.SX.W.un, Go.SX.W.un, Go.SX.W.un, Go.SX.W.un, Go.SX.W.un,
                  Go.SX.W.un, Go.SX.W.un, Go.SX.W.un, Go.SX.W.un, Go.SX.W.un]
                [Go.SX.O.lst (Go.SX.Arr.ai x.fst.f) x.fst.n Bool.true (3 : Nat),
                  Go.SX.O.lst (Go.SX.Arr.ai x.fst.g) x.fst.m Bool.true (3 : Nat)]
                (2 : Nat)))
            (Go.SX.Out.need ((↑x.fst.n : Int) = (↑x.fst.n : Int))
              (Go.SX.Out.need (Go.SX.w64 (x.snd + (1 : Int)) = Go.SX.w64 (x.snd + (1 : Int)))
                (Go.SX.Out.need (x.fst.n = x.fst.n)
                  (Go.SX.Out.need (∀ (j : Nat), j < x.fst.n → x.fst.f j = x.fst.f j)
                    (Go.SX.Out.need (x.fst.m = x.fst.m)
                      (Go.SX.Out.need (∀ (j : Nat), j < x.fst.m → x.fst.g j = x.fst.g j)
                        (Go.SX.Out.need (Go.SX.sameL.inv (x.fst, Go.SX.w64 (x.snd + (1 : Int))))
                          (Go.SX.Out.need (Go.SX.sameL.μ (x.fst, Go.SX.w64 (x.snd + (1 : Int))) < Go.SX.sameL.μ x)
                            (Go.SX.Out.need (Go.SX.sameL.Imp x (x.fst, Go.SX.w64 (x.snd + (1 : Int))))
                              (Go.SX.Out.leaf Go.SX.Ex.normal (Go.SX.St.mk [] [] (0 : Nat)))))))))))))))))
  (Go.SX.Out.leaf (Go.SX.Ex.exit (0 : Nat))
    (Go.SX.St.mk
      [Go.SX.W.un, Go.SX.W.un, Go.SX.W.un, Go.SX.W.un, Go.SX.W.un, Go.SX.W.un, Go.SX.W.un, Go.SX.W.un, Go.SX.W.un,
        Go.SX.W.un, Go.SX.W.un, Go.SX.W.un, Go.SX.W.un, Go.SX.W.un, Go.SX.W.un, Go.SX.W.un, Go.SX.W.un, Go.SX.W.un,
        Go.SX.W.un, Go.SX.W.un, Go.SX.W.un, Go.SX.W.un, Go.SX.W.un, Go.SX.W.un, Go.SX.W.un, Go.SX.W.un]
      [Go.SX.O.lst (Go.SX.Arr.ai x.fst.f) x.fst.n Bool.true (3 : Nat),
        Go.SX.O.lst (Go.SX.Arr.ai x.fst.g) x.fst.m Bool.true (3 : Nat)]
      (2 : Nat))) := by kernel_rfl

theorem f7_tree (x : Two) : cSame.TL psgTab [] [(4, sameL.ev 2)] Try.f7 x = Go.SX.Out.ite ((↑x.n : Int) != (↑x.m : Int))
  (Go.SX.Out.need (Bool.false = x.same)
    (Go.SX.Out.need (x.n = x.n)
      (Go.SX.Out.need (∀ (j : Nat), j < x.n → x.f j = x.f j)
        (Go.SX.Out.need (x.m = x.m)
          (Go.SX.Out.need (∀ (j : Nat), j < x.m → x.g j = x.g j)
            (Go.SX.Out.leaf Go.SX.Ex.ret (Go.SX.St.mk [] [] (0 : Nat))))))))
  (Go.SX.Out.need ((↑x.n : Int) = (↑x.n : Int))
    (Go.SX.Out.need ((0 : Int) = (0 : Int))
      (Go.SX.Out.need (x.n = x.n)
        (Go.SX.Out.need (∀ (j : Nat), j < x.n → x.f j = x.f j)
          (Go.SX.Out.need (x.m = x.m)
            (Go.SX.Out.need (∀ (j : Nat), j < x.m → x.g j = x.g j)
              (Go.SX.Out.need (Go.SX.sameL.inv (x, (0 : Int)))
                (Go.SX.Out.ite
                  ((List.range x.n).all fun j => Decidable.decide ((↑j : Int) < (0 : Int)) || x.f j == x.g j)
                  (Go.SX.Out.need (Bool.true = x.same)
                    (Go.SX.Out.need (x.n = x.n)
                      (Go.SX.Out.need (∀ (j : Nat), j < x.n → x.f j = x.f j)
                        (Go.SX.Out.need (x.m = x.m)
                          (Go.SX.Out.need (∀ (j : Nat), j < x.m → x.g j = x.g j)
                            (Go.SX.Out.leaf Go.SX.Ex.ret (Go.SX.St.mk [] [] (0 : Nat))))))))
                  (Go.SX.Out.need (Bool.false = x.same)
                    (Go.SX.Out.need (x.n = x.n)
                      (Go.SX.Out.need (∀ (j : Nat), j < x.n → x.f j = x.f j)
                        (Go.SX.Out.need (x.m = x.m)
                          (Go.SX.Out.need (∀ (j : Nat), j < x.m → x.g j = x.g j)
                            (Go.SX.Out.leaf Go.SX.Ex.ret (Go.SX.St.mk [] [] (0 : Nat)))))))))))))))) := by kernel_rfl

end Go.SX
