/- Steps in two parts. -/
import Derived.Test.YtehgcepifegjiaaP9
namespace Go.SX
open Go.Proofs
structure SplX where
  s : Sound
  a : Int
  b : Int
  c : Int
  d : Int
def cSpl : Con psgReg := mk SplX (fun x => [oS x.s, .v (.agg [.s (.int x.a), .s (.int x.b), .s (.int x.c), .s (.int x.d)])]) (fun _ => oB true)
def calls4 : List (Nat × Spec psgReg) := (4, sp cAlive d0) :: (6, uRun.spec) :: (7, uSame.spec) :: calls3
theorem f3_tree (x : SplX) : cSpl.T psgTab calls4 Try.f3 x = Go.SX.Out.ite (!Bool.true)
  (Go.SX.Out.need (Bool.false = Bool.true) (Go.SX.Out.leaf Go.SX.Ex.ret (Go.SX.St.mk [] [] (0 : Nat))))
  (Go.SX.Out.need (x.1 = x.1)
    (Go.SX.Out.ite (!x.1.right)
      (Go.SX.Out.need (Bool.true = Bool.true) (Go.SX.Out.leaf Go.SX.Ex.ret (Go.SX.St.mk [] [] (0 : Nat))))
      (Go.SX.Out.ite (Decidable.decide (x.a < (0 : Int)))
        (Go.SX.Out.need (Bool.true = Bool.true) (Go.SX.Out.leaf Go.SX.Ex.ret (Go.SX.St.mk [] [] (0 : Nat))))
        (Go.SX.Out.ite (Decidable.decide (x.b < (0 : Int)))
          (Go.SX.Out.need (Bool.true = Bool.true) (Go.SX.Out.leaf Go.SX.Ex.ret (Go.SX.St.mk [] [] (0 : Nat))))
          (Go.SX.Out.ite (Decidable.decide ((2000 : Int) < x.a))
            (Go.SX.Out.need (Bool.true = Bool.true) (Go.SX.Out.leaf Go.SX.Ex.ret (Go.SX.St.mk [] [] (0 : Nat))))
            (Go.SX.Out.ite (Decidable.decide ((2000 : Int) < x.b))
              (Go.SX.Out.need (Bool.true = Bool.true) (Go.SX.Out.leaf Go.SX.Ex.ret (Go.SX.St.mk [] [] (0 : Nat))))
              (Go.SX.Out.ite (Decidable.decide (x.c < (1 : Int)))
                (Go.SX.Out.need (Bool.true = Bool.true) (Go.SX.Out.leaf Go.SX.Ex.ret (Go.SX.St.mk [] [] (0 : Nat))))
                (Go.SX.Out.ite (Decidable.decide ((100 : Int) < x.c))
                  (Go.SX.Out.need (Bool.true = Bool.true) (Go.SX.Out.leaf Go.SX.Ex.ret (Go.SX.St.mk [] [] (0 : Nat))))
                  (Go.SX.Out.ite (Decidable.decide (x.d < (0 : Int)))
                    (Go.SX.Out.need (Bool.true = Bool.true) (Go.SX.Out.leaf Go.SX.Ex.ret (Go.SX.St.mk [] [] (0 : Nat))))
                    (Go.SX.Out.ite (Decidable.decide ((100 : Int) < x.d))
                      (Go.SX.Out.need (Bool.true = Bool.true)
                        (Go.SX.Out.leaf Go.SX.Ex.ret (Go.SX.St.mk [] [] (0 : Nat))))
                      (Go.SX.Out.need
                        ((0 : Int) ≤ x.a ∧
                          x.a ≤ (1099511627776 : Int) ∧
                            (0 : Int) < x.c ∧
                              x.c < (1099511627776 : Int) ∧
                                (0 : Int) ≤ x.d ∧
                                  x.d < (1099511627776 : Int) ∧ x.1 = x.1 ∧ x.a = x.a ∧ x.c = x.c ∧ x.d = x.d)
                        (Go.SX.Out.need
                          ((0 : Int) ≤ x.b ∧
                            x.b ≤ (1099511627776 : Int) ∧
                              (0 : Int) < x.c ∧
                                x.c < (1099511627776 : Int) ∧
                                  (0 : Int) ≤ (Go.SX.w64 (x.d + x.a)).tmod x.c ∧
                                    (Go.SX.w64 (x.d + x.a)).tmod x.c < (1099511627776 : Int) ∧
                                      (Go.SX.RX.mk x.a x.c (0 : Int)
                                                (Go.SX.Rd.mk x.1 (x.c - x.d % x.c) (fun _ => (0 : Int))
                                                  (0 : Nat))).fin.1 =
                                          (Go.SX.RX.mk x.a x.c (0 : Int)
                                                (Go.SX.Rd.mk x.1 (x.c - x.d % x.c) (fun _ => (0 : Int))
                                                  (0 : Nat))).fin.1 ∧
                                        x.b = x.b ∧
                                          x.c = x.c ∧
                                            (Go.SX.w64 (x.d + x.a)).tmod x.c = (Go.SX.w64 (x.d + x.a)).tmod x.c)
                          (Go.SX.Out.need (x.c ≠ (0 : Int))
                            (Go.SX.Out.need
                              ((0 : Int) ≤ Go.SX.w64 (x.a + x.b) ∧
                                Go.SX.w64 (x.a + x.b) ≤ (1099511627776 : Int) ∧
                                  (0 : Int) < x.c ∧
                                    x.c < (1099511627776 : Int) ∧
                                      (0 : Int) ≤ x.d ∧
                                        x.d < (1099511627776 : Int) ∧
                                          x.1 = x.1 ∧
                                            Go.SX.w64 (x.a + x.b) = Go.SX.w64 (x.a + x.b) ∧ x.c = x.c ∧ x.d = x.d)
                              (Go.SX.Out.ite
                                ((Go.SX.RX.mk x.b x.c (0 : Int)
                                              (Go.SX.Rd.mk
                                                (Go.SX.RX.mk x.a x.c (0 : Int)
                                                      (Go.SX.Rd.mk x.1 (x.c - x.d % x.c) (fun _ => (0 : Int))
                                                        (0 : Nat))).fin.1
                                                (x.c - (Go.SX.w64 (x.d + x.a)).tmod x.c % x.c) (fun _ => (0 : Int))
                                                (0 : Nat))).fin.s.t0.p ==
                                    (Go.SX.RX.mk (Go.SX.w64 (x.a + x.b)) x.c (0 : Int)
                                              (Go.SX.Rd.mk x.1 (x.c - x.d % x.c) (fun _ => (0 : Int))
                                                (0 : Nat))).fin.s.t0.p &&
                                  ((Go.SX.RX.mk x.b x.c (0 : Int)
                                                (Go.SX.Rd.mk
                                                  (Go.SX.RX.mk x.a x.c (0 : Int)
                                                        (Go.SX.Rd.mk x.1 (x.c - x.d % x.c) (fun _ => (0 : Int))
                                                          (0 : Nat))).fin.1
                                                  (x.c - (Go.SX.w64 (x.d + x.a)).tmod x.c % x.c) (fun _ => (0 : Int))
                                                  (0 : Nat))).fin.s.t0.c ==
                                      (Go.SX.RX.mk (Go.SX.w64 (x.a + x.b)) x.c (0 : Int)
                                                (Go.SX.Rd.mk x.1 (x.c - x.d % x.c) (fun _ => (0 : Int))
                                                  (0 : Nat))).fin.s.t0.c &&
                                    ((Go.SX.RX.mk x.b x.c (0 : Int)
                                                  (Go.SX.Rd.mk
                                                    (Go.SX.RX.mk x.a x.c (0 : Int)
                                                          (Go.SX.Rd.mk x.1 (x.c - x.d % x.c) (fun _ => (0 : Int))
                                                            (0 : Nat))).fin.1
                                                    (x.c - (Go.SX.w64 (x.d + x.a)).tmod x.c % x.c) (fun _ => (0 : Int))
                                                    (0 : Nat))).fin.s.t0.o ==
                                        (Go.SX.RX.mk (Go.SX.w64 (x.a + x.b)) x.c (0 : Int)
                                                  (Go.SX.Rd.mk x.1 (x.c - x.d % x.c) (fun _ => (0 : Int))
                                                    (0 : Nat))).fin.s.t0.o &&
                                      ((Go.SX.RX.mk x.b x.c (0 : Int)
                                                    (Go.SX.Rd.mk
                                                      (Go.SX.RX.mk x.a x.c (0 : Int)
                                                            (Go.SX.Rd.mk x.1 (x.c - x.d % x.c) (fun _ => (0 : Int))
                                                              (0 : Nat))).fin.1
                                                      (x.c - (Go.SX.w64 (x.d + x.a)).tmod x.c % x.c)
                                                      (fun _ => (0 : Int)) (0 : Nat))).fin.s.t1.p ==
                                          (Go.SX.RX.mk (Go.SX.w64 (x.a + x.b)) x.c (0 : Int)
                                                    (Go.SX.Rd.mk x.1 (x.c - x.d % x.c) (fun _ => (0 : Int))
                                                      (0 : Nat))).fin.s.t1.p &&
                                        ((Go.SX.RX.mk x.b x.c (0 : Int)
                                                      (Go.SX.Rd.mk
                                                        (Go.SX.RX.mk x.a x.c (0 : Int)
                                                              (Go.SX.Rd.mk x.1 (x.c - x.d % x.c) (fun _ => (0 : Int))
                                                                (0 : Nat))).fin.1
                                                        (x.c - (Go.SX.w64 (x.d + x.a)).tmod x.c % x.c)
                                                        (fun _ => (0 : Int)) (0 : Nat))).fin.s.t1.c ==
                                            (Go.SX.RX.mk (Go.SX.w64 (x.a + x.b)) x.c (0 : Int)
                                                      (Go.SX.Rd.mk x.1 (x.c - x.d % x.c) (fun _ => (0 : Int))
                                                        (0 : Nat))).fin.s.t1.c &&
                                          ((Go.SX.RX.mk x.b x.c (0 : Int)
                                                        (Go.SX.Rd.mk
                                                          (Go.SX.RX.mk x.a x.c (0 : Int)
                                                                (Go.SX.Rd.mk x.1 (x.c - x.d % x.c) (fun _ => (0 : Int))
                                                                  (0 : Nat))).fin.1
                                                          (x.c - (Go.SX.w64 (x.d + x.a)).tmod x.c % x.c)
                                                          (fun _ => (0 : Int)) (0 : Nat))).fin.s.t1.o ==
                                              (Go.SX.RX.mk (Go.SX.w64 (x.a + x.b)) x.c (0 : Int)
                                                        (Go.SX.Rd.mk x.1 (x.c - x.d % x.c) (fun _ => (0 : Int))
                                                          (0 : Nat))).fin.s.t1.o &&
                                            ((Go.SX.RX.mk x.b x.c (0 : Int)
                                                          (Go.SX.Rd.mk
                                                            (Go.SX.RX.mk x.a x.c (0 : Int)
                                                                  (Go.SX.Rd.mk x.1 (x.c - x.d % x.c)
                                                                    (fun _ => (0 : Int)) (0 : Nat))).fin.1
                                                            (x.c - (Go.SX.w64 (x.d + x.a)).tmod x.c % x.c)
                                                            (fun _ => (0 : Int)) (0 : Nat))).fin.s.t2.p ==
                                                (Go.SX.RX.mk (Go.SX.w64 (x.a + x.b)) x.c (0 : Int)
                                                          (Go.SX.Rd.mk x.1 (x.c - x.d % x.c) (fun _ => (0 : Int))
                                                            (0 : Nat))).fin.s.t2.p &&
                                              ((Go.SX.RX.mk x.b x.c (0 : Int)
                                                            (Go.SX.Rd.mk
                                                              (Go.SX.RX.mk x.a x.c (0 : Int)
                                                                    (Go.SX.Rd.mk x.1 (x.c - x.d % x.c)
                                                                      (fun _ => (0 : Int)) (0 : Nat))).fin.1
                                                              (x.c - (Go.SX.w64 (x.d + x.a)).tmod x.c % x.c)
                                                              (fun _ => (0 : Int)) (0 : Nat))).fin.s.t2.c ==
                                                  (Go.SX.RX.mk (Go.SX.w64 (x.a + x.b)) x.c (0 : Int)
                                                            (Go.SX.Rd.mk x.1 (x.c - x.d % x.c) (fun _ => (0 : Int))
                                                              (0 : Nat))).fin.s.t2.c &&
                                                ((Go.SX.RX.mk x.b x.c (0 : Int)
                                                              (Go.SX.Rd.mk
                                                                (Go.SX.RX.mk x.a x.c (0 : Int)
                                                                      (Go.SX.Rd.mk x.1 (x.c - x.d % x.c)
                                                                        (fun _ => (0 : Int)) (0 : Nat))).fin.1
                                                                (x.c - (Go.SX.w64 (x.d + x.a)).tmod x.c % x.c)
                                                                (fun _ => (0 : Int)) (0 : Nat))).fin.s.t2.o ==
                                                    (Go.SX.RX.mk (Go.SX.w64 (x.a + x.b)) x.c (0 : Int)
                                                              (Go.SX.Rd.mk x.1 (x.c - x.d % x.c) (fun _ => (0 : Int))
                                                                (0 : Nat))).fin.s.t2.o &&
                                                  ((Go.SX.RX.mk x.b x.c (0 : Int)
                                                                (Go.SX.Rd.mk
                                                                  (Go.SX.RX.mk x.a x.c (0 : Int)
                                                                        (Go.SX.Rd.mk x.1 (x.c - x.d % x.c)
                                                                          (fun _ => (0 : Int)) (0 : Nat))).fin.1
                                                                  (x.c - (Go.SX.w64 (x.d + x.a)).tmod x.c % x.c)
                                                                  (fun _ => (0 : Int)) (0 : Nat))).fin.s.n.m ==
                                                      (Go.SX.RX.mk (Go.SX.w64 (x.a + x.b)) x.c (0 : Int)
                                                                (Go.SX.Rd.mk x.1 (x.c - x.d % x.c) (fun _ => (0 : Int))
                                                                  (0 : Nat))).fin.s.n.m &&
                                                    ((Go.SX.RX.mk x.b x.c (0 : Int)
                                                                  (Go.SX.Rd.mk
                                                                    (Go.SX.RX.mk x.a x.c (0 : Int)
                                                                          (Go.SX.Rd.mk x.1 (x.c - x.d % x.c)
                                                                            (fun _ => (0 : Int)) (0 : Nat))).fin.1
                                                                    (x.c - (Go.SX.w64 (x.d + x.a)).tmod x.c % x.c)
                                                                    (fun _ => (0 : Int)) (0 : Nat))).fin.s.n.c ==
                                                        (Go.SX.RX.mk (Go.SX.w64 (x.a + x.b)) x.c (0 : Int)
                                                                  (Go.SX.Rd.mk x.1 (x.c - x.d % x.c)
                                                                    (fun _ => (0 : Int)) (0 : Nat))).fin.s.n.c &&
                                                      ((Go.SX.RX.mk x.b x.c (0 : Int)
                                                                    (Go.SX.Rd.mk
                                                                      (Go.SX.RX.mk x.a x.c (0 : Int)
                                                                            (Go.SX.Rd.mk x.1 (x.c - x.d % x.c)
                                                                              (fun _ => (0 : Int)) (0 : Nat))).fin.1
                                                                      (x.c - (Go.SX.w64 (x.d + x.a)).tmod x.c % x.c)
                                                                      (fun _ => (0 : Int)) (0 : Nat))).fin.s.n.h ==
                                                          (Go.SX.RX.mk (Go.SX.w64 (x.a + x.b)) x.c (0 : Int)
                                                                    (Go.SX.Rd.mk x.1 (x.c - x.d % x.c)
                                                                      (fun _ => (0 : Int)) (0 : Nat))).fin.s.n.h &&
                                                        ((Go.SX.RX.mk x.b x.c (0 : Int)
                                                                      (Go.SX.Rd.mk
                                                                        (Go.SX.RX.mk x.a x.c (0 : Int)
                                                                              (Go.SX.Rd.mk x.1 (x.c - x.d % x.c)
                                                                                (fun _ => (0 : Int)) (0 : Nat))).fin.1
                                                                        (x.c - (Go.SX.w64 (x.d + x.a)).tmod x.c % x.c)
                                                                        (fun _ => (0 : Int)) (0 : Nat))).fin.s.n.s ==
                                                            (Go.SX.RX.mk (Go.SX.w64 (x.a + x.b)) x.c (0 : Int)
                                                                      (Go.SX.Rd.mk x.1 (x.c - x.d % x.c)
                                                                        (fun _ => (0 : Int)) (0 : Nat))).fin.s.n.s &&
                                                          ((Go.SX.RX.mk x.b x.c (0 : Int)
                                                                      (Go.SX.Rd.mk
                                                                        (Go.SX.RX.mk x.a x.c (0 : Int)
                                                                              (Go.SX.Rd.mk x.1 (x.c - x.d % x.c)
                                                                                (fun _ => (0 : Int)) (0 : Nat))).fin.1
                                                                        (x.c - (Go.SX.w64 (x.d + x.a)).tmod x.c % x.c)
                                                                        (fun _ => (0 : Int)) (0 : Nat))).fin.s.q0 ==
                                                              (Go.SX.RX.mk (Go.SX.w64 (x.a + x.b)) x.c (0 : Int)
                                                                      (Go.SX.Rd.mk x.1 (x.c - x.d % x.c)
                                                                        (fun _ => (0 : Int)) (0 : Nat))).fin.s.q0 &&
                                                            ((Go.SX.RX.mk x.b x.c (0 : Int)
                                                                        (Go.SX.Rd.mk
                                                                          (Go.SX.RX.mk x.a x.c (0 : Int)
                                                                                (Go.SX.Rd.mk x.1 (x.c - x.d % x.c)
                                                                                  (fun _ => (0 : Int)) (0 : Nat))).fin.1
                                                                          (x.c - (Go.SX.w64 (x.d + x.a)).tmod x.c % x.c)
                                                                          (fun _ => (0 : Int)) (0 : Nat))).fin.s.q1 ==
                                                                (Go.SX.RX.mk (Go.SX.w64 (x.a + x.b)) x.c (0 : Int)
                                                                        (Go.SX.Rd.mk x.1 (x.c - x.d % x.c)
                                                                          (fun _ => (0 : Int)) (0 : Nat))).fin.s.q1 &&
                                                              ((Go.SX.RX.mk x.b x.c (0 : Int)
                                                                          (Go.SX.Rd.mk
                                                                            (Go.SX.RX.mk x.a x.c (0 : Int)
                                                                                  (Go.SX.Rd.mk x.1 (x.c - x.d % x.c)
                                                                                    (fun _ => (0 : Int))
                                                                                    (0 : Nat))).fin.1
                                                                            (x.c -
                                                                              (Go.SX.w64 (x.d + x.a)).tmod x.c % x.c)
                                                                            (fun _ => (0 : Int)) (0 : Nat))).fin.s.q2 ==
                                                                  (Go.SX.RX.mk (Go.SX.w64 (x.a + x.b)) x.c (0 : Int)
                                                                          (Go.SX.Rd.mk x.1 (x.c - x.d % x.c)
                                                                            (fun _ => (0 : Int)) (0 : Nat))).fin.s.q2 &&
                                                                ((Go.SX.RX.mk x.b x.c (0 : Int)
                                                                            (Go.SX.Rd.mk
                                                                              (Go.SX.RX.mk x.a x.c (0 : Int)
                                                                                    (Go.SX.Rd.mk x.1 (x.c - x.d % x.c)
                                                                                      (fun _ => (0 : Int))
                                                                                      (0 : Nat))).fin.1
                                                                              (x.c -
                                                                                (Go.SX.w64 (x.d + x.a)).tmod x.c % x.c)
                                                                              (fun _ => (0 : Int))
                                                                              (0 : Nat))).fin.s.q3 ==
                                                                    (Go.SX.RX.mk (Go.SX.w64 (x.a + x.b)) x.c (0 : Int)
                                                                            (Go.SX.Rd.mk x.1 (x.c - x.d % x.c)
                                                                              (fun _ => (0 : Int))
                                                                              (0 : Nat))).fin.s.q3 &&
                                                                  (Go.SX.RX.mk x.b x.c (0 : Int)
                                                                            (Go.SX.Rd.mk
                                                                              (Go.SX.RX.mk x.a x.c (0 : Int)
                                                                                    (Go.SX.Rd.mk x.1 (x.c - x.d % x.c)
                                                                                      (fun _ => (0 : Int))
                                                                                      (0 : Nat))).fin.1
                                                                              (x.c -
                                                                                (Go.SX.w64 (x.d + x.a)).tmod x.c % x.c)
                                                                              (fun _ => (0 : Int))
                                                                              (0 : Nat))).fin.s.l ==
                                                                    (Go.SX.RX.mk (Go.SX.w64 (x.a + x.b)) x.c (0 : Int)
                                                                            (Go.SX.Rd.mk x.1 (x.c - x.d % x.c)
                                                                              (fun _ => (0 : Int))
                                                                              (0 : Nat))).fin.s.l)))))))))))))))))
                                (Go.SX.Out.need
                                  ((Go.SX.RX.mk x.a x.c (0 : Int)
                                            (Go.SX.Rd.mk x.1 (x.c - x.d % x.c) (fun _ => (0 : Int)) (0 : Nat))).fin.n +
                                      (Go.SX.RX.mk x.b x.c (0 : Int)
                                            (Go.SX.Rd.mk
                                              (Go.SX.RX.mk x.a x.c (0 : Int)
                                                    (Go.SX.Rd.mk x.1 (x.c - x.d % x.c) (fun _ => (0 : Int))
                                                      (0 : Nat))).fin.1
                                              (x.c - (Go.SX.w64 (x.d + x.a)).tmod x.c % x.c) (fun _ => (0 : Int))
                                              (0 : Nat))).fin.n ≤
                                    (1099511627776 : Nat))
                                  (Go.SX.Out.need
                                    ((↑((Go.SX.RX.mk x.a x.c (0 : Int)
                                                    (Go.SX.Rd.mk x.1 (x.c - x.d % x.c) (fun _ => (0 : Int))
                                                      (0 : Nat))).fin.n +
                                              (Go.SX.RX.mk x.b x.c (0 : Int)
                                                    (Go.SX.Rd.mk
                                                      (Go.SX.RX.mk x.a x.c (0 : Int)
                                                            (Go.SX.Rd.mk x.1 (x.c - x.d % x.c) (fun _ => (0 : Int))
                                                              (0 : Nat))).fin.1
                                                      (x.c - (Go.SX.w64 (x.d + x.a)).tmod x.c % x.c)
                                                      (fun _ => (0 : Int)) (0 : Nat))).fin.n) :
                                          Int) <
                                        (4611686018427387904 : Int) ∧
                                      (Go.SX.RX.mk x.a x.c (0 : Int)
                                                  (Go.SX.Rd.mk x.1 (x.c - x.d % x.c) (fun _ => (0 : Int))
                                                    (0 : Nat))).fin.n +
                                            (Go.SX.RX.mk x.b x.c (0 : Int)
                                                  (Go.SX.Rd.mk
                                                    (Go.SX.RX.mk x.a x.c (0 : Int)
                                                          (Go.SX.Rd.mk x.1 (x.c - x.d % x.c) (fun _ => (0 : Int))
                                                            (0 : Nat))).fin.1
                                                    (x.c - (Go.SX.w64 (x.d + x.a)).tmod x.c % x.c) (fun _ => (0 : Int))
                                                    (0 : Nat))).fin.n =
                                          (Go.SX.RX.mk x.a x.c (0 : Int)
                                                  (Go.SX.Rd.mk x.1 (x.c - x.d % x.c) (fun _ => (0 : Int))
                                                    (0 : Nat))).fin.n +
                                            (Go.SX.RX.mk x.b x.c (0 : Int)
                                                  (Go.SX.Rd.mk
                                                    (Go.SX.RX.mk x.a x.c (0 : Int)
                                                          (Go.SX.Rd.mk x.1 (x.c - x.d % x.c) (fun _ => (0 : Int))
                                                            (0 : Nat))).fin.1
                                                    (x.c - (Go.SX.w64 (x.d + x.a)).tmod x.c % x.c) (fun _ => (0 : Int))
                                                    (0 : Nat))).fin.n ∧
                                        (∀ (j : Nat),
                                            j <
                                                (Go.SX.RX.mk x.a x.c (0 : Int)
                                                        (Go.SX.Rd.mk x.1 (x.c - x.d % x.c) (fun _ => (0 : Int))
                                                          (0 : Nat))).fin.n +
                                                  (Go.SX.RX.mk x.b x.c (0 : Int)
                                                        (Go.SX.Rd.mk
                                                          (Go.SX.RX.mk x.a x.c (0 : Int)
                                                                (Go.SX.Rd.mk x.1 (x.c - x.d % x.c) (fun _ => (0 : Int))
                                                                  (0 : Nat))).fin.1
                                                          (x.c - (Go.SX.w64 (x.d + x.a)).tmod x.c % x.c)
                                                          (fun _ => (0 : Int)) (0 : Nat))).fin.n →
                                              Go.SX.catF
                                                  (Go.SX.RX.mk x.a x.c (0 : Int)
                                                        (Go.SX.Rd.mk x.1 (x.c - x.d % x.c) (fun _ => (0 : Int))
                                                          (0 : Nat))).fin.n
                                                  (Go.SX.RX.mk x.a x.c (0 : Int)
                                                        (Go.SX.Rd.mk x.1 (x.c - x.d % x.c) (fun _ => (0 : Int))
                                                          (0 : Nat))).fin.f
                                                  (Go.SX.RX.mk x.b x.c (0 : Int)
                                                        (Go.SX.Rd.mk
                                                          (Go.SX.RX.mk x.a x.c (0 : Int)
                                                                (Go.SX.Rd.mk x.1 (x.c - x.d % x.c) (fun _ => (0 : Int))
                                                                  (0 : Nat))).fin.1
                                                          (x.c - (Go.SX.w64 (x.d + x.a)).tmod x.c % x.c)
                                                          (fun _ => (0 : Int)) (0 : Nat))).fin.f
                                                  j =
                                                (Go.SX.Two.mk
                                                      (Go.SX.catF
                                                        (Go.SX.RX.mk x.a x.c (0 : Int)
                                                              (Go.SX.Rd.mk x.1 (x.c - x.d % x.c) (fun _ => (0 : Int))
                                                                (0 : Nat))).fin.n
                                                        (Go.SX.RX.mk x.a x.c (0 : Int)
                                                              (Go.SX.Rd.mk x.1 (x.c - x.d % x.c) (fun _ => (0 : Int))
                                                                (0 : Nat))).fin.f
                                                        (Go.SX.RX.mk x.b x.c (0 : Int)
                                                              (Go.SX.Rd.mk
                                                                (Go.SX.RX.mk x.a x.c (0 : Int)
                                                                      (Go.SX.Rd.mk x.1 (x.c - x.d % x.c)
                                                                        (fun _ => (0 : Int)) (0 : Nat))).fin.1
                                                                (x.c - (Go.SX.w64 (x.d + x.a)).tmod x.c % x.c)
                                                                (fun _ => (0 : Int)) (0 : Nat))).fin.f)
                                                      (Go.SX.RX.mk (Go.SX.w64 (x.a + x.b)) x.c (0 : Int)
                                                            (Go.SX.Rd.mk x.1 (x.c - x.d % x.c) (fun _ => (0 : Int))
                                                              (0 : Nat))).fin.f
                                                      ((Go.SX.RX.mk x.a x.c (0 : Int)
                                                              (Go.SX.Rd.mk x.1 (x.c - x.d % x.c) (fun _ => (0 : Int))
                                                                (0 : Nat))).fin.n +
                                                        (Go.SX.RX.mk x.b x.c (0 : Int)
                                                              (Go.SX.Rd.mk
                                                                (Go.SX.RX.mk x.a x.c (0 : Int)
                                                                      (Go.SX.Rd.mk x.1 (x.c - x.d % x.c)
                                                                        (fun _ => (0 : Int)) (0 : Nat))).fin.1
                                                                (x.c - (Go.SX.w64 (x.d + x.a)).tmod x.c % x.c)
                                                                (fun _ => (0 : Int)) (0 : Nat))).fin.n)
                                                      (Go.SX.RX.mk (Go.SX.w64 (x.a + x.b)) x.c (0 : Int)
                                                            (Go.SX.Rd.mk x.1 (x.c - x.d % x.c) (fun _ => (0 : Int))
                                                              (0 : Nat))).fin.n).f
                                                  j) ∧
                                          (Go.SX.RX.mk (Go.SX.w64 (x.a + x.b)) x.c (0 : Int)
                                                    (Go.SX.Rd.mk x.1 (x.c - x.d % x.c) (fun _ => (0 : Int))
                                                      (0 : Nat))).fin.n =
                                              (Go.SX.RX.mk (Go.SX.w64 (x.a + x.b)) x.c (0 : Int)
                                                    (Go.SX.Rd.mk x.1 (x.c - x.d % x.c) (fun _ => (0 : Int))
                                                      (0 : Nat))).fin.n ∧
                                            ∀ (j : Nat),
                                              j <
                                                  (Go.SX.RX.mk (Go.SX.w64 (x.a + x.b)) x.c (0 : Int)
                                                        (Go.SX.Rd.mk x.1 (x.c - x.d % x.c) (fun _ => (0 : Int))
                                                          (0 : Nat))).fin.n →
                                                (Go.SX.RX.mk (Go.SX.w64 (x.a + x.b)) x.c (0 : Int)
                                                          (Go.SX.Rd.mk x.1 (x.c - x.d % x.c) (fun _ => (0 : Int))
                                                            (0 : Nat))).fin.f
                                                    j =
                                                  (Go.SX.Two.mk
                                                        (Go.SX.catF
                                                          (Go.SX.RX.mk x.a x.c (0 : Int)
                                                                (Go.SX.Rd.mk x.1 (x.c - x.d % x.c) (fun _ => (0 : Int))
                                                                  (0 : Nat))).fin.n
                                                          (Go.SX.RX.mk x.a x.c (0 : Int)
                                                                (Go.SX.Rd.mk x.1 (x.c - x.d % x.c) (fun _ => (0 : Int))
                                                                  (0 : Nat))).fin.f
                                                          (Go.SX.RX.mk x.b x.c (0 : Int)
                                                                (Go.SX.Rd.mk
                                                                  (Go.SX.RX.mk x.a x.c (0 : Int)
                                                                        (Go.SX.Rd.mk x.1 (x.c - x.d % x.c)
                                                                          (fun _ => (0 : Int)) (0 : Nat))).fin.1
                                                                  (x.c - (Go.SX.w64 (x.d + x.a)).tmod x.c % x.c)
                                                                  (fun _ => (0 : Int)) (0 : Nat))).fin.f)
                                                        (Go.SX.RX.mk (Go.SX.w64 (x.a + x.b)) x.c (0 : Int)
                                                              (Go.SX.Rd.mk x.1 (x.c - x.d % x.c) (fun _ => (0 : Int))
                                                                (0 : Nat))).fin.f
                                                        ((Go.SX.RX.mk x.a x.c (0 : Int)
                                                                (Go.SX.Rd.mk x.1 (x.c - x.d % x.c) (fun _ => (0 : Int))
                                                                  (0 : Nat))).fin.n +
                                                          (Go.SX.RX.mk x.b x.c (0 : Int)
                                                                (Go.SX.Rd.mk
                                                                  (Go.SX.RX.mk x.a x.c (0 : Int)
                                                                        (Go.SX.Rd.mk x.1 (x.c - x.d % x.c)
                                                                          (fun _ => (0 : Int)) (0 : Nat))).fin.1
                                                                  (x.c - (Go.SX.w64 (x.d + x.a)).tmod x.c % x.c)
                                                                  (fun _ => (0 : Int)) (0 : Nat))).fin.n)
                                                        (Go.SX.RX.mk (Go.SX.w64 (x.a + x.b)) x.c (0 : Int)
                                                              (Go.SX.Rd.mk x.1 (x.c - x.d % x.c) (fun _ => (0 : Int))
                                                                (0 : Nat))).fin.n).g
                                                    j)
                                    (Go.SX.Out.need
                                      ((Go.SX.Two.mk
                                            (Go.SX.catF
                                              (Go.SX.RX.mk x.a x.c (0 : Int)
                                                    (Go.SX.Rd.mk x.1 (x.c - x.d % x.c) (fun _ => (0 : Int))
                                                      (0 : Nat))).fin.n
                                              (Go.SX.RX.mk x.a x.c (0 : Int)
                                                    (Go.SX.Rd.mk x.1 (x.c - x.d % x.c) (fun _ => (0 : Int))
                                                      (0 : Nat))).fin.f
                                              (Go.SX.RX.mk x.b x.c (0 : Int)
                                                    (Go.SX.Rd.mk
                                                      (Go.SX.RX.mk x.a x.c (0 : Int)
                                                            (Go.SX.Rd.mk x.1 (x.c - x.d % x.c) (fun _ => (0 : Int))
                                                              (0 : Nat))).fin.1
                                                      (x.c - (Go.SX.w64 (x.d + x.a)).tmod x.c % x.c)
                                                      (fun _ => (0 : Int)) (0 : Nat))).fin.f)
                                            (Go.SX.RX.mk (Go.SX.w64 (x.a + x.b)) x.c (0 : Int)
                                                  (Go.SX.Rd.mk x.1 (x.c - x.d % x.c) (fun _ => (0 : Int))
                                                    (0 : Nat))).fin.f
                                            ((Go.SX.RX.mk x.a x.c (0 : Int)
                                                    (Go.SX.Rd.mk x.1 (x.c - x.d % x.c) (fun _ => (0 : Int))
                                                      (0 : Nat))).fin.n +
                                              (Go.SX.RX.mk x.b x.c (0 : Int)
                                                    (Go.SX.Rd.mk
                                                      (Go.SX.RX.mk x.a x.c (0 : Int)
                                                            (Go.SX.Rd.mk x.1 (x.c - x.d % x.c) (fun _ => (0 : Int))
                                                              (0 : Nat))).fin.1
                                                      (x.c - (Go.SX.w64 (x.d + x.a)).tmod x.c % x.c)
                                                      (fun _ => (0 : Int)) (0 : Nat))).fin.n)
                                            (Go.SX.RX.mk (Go.SX.w64 (x.a + x.b)) x.c (0 : Int)
                                                  (Go.SX.Rd.mk x.1 (x.c - x.d % x.c) (fun _ => (0 : Int))
                                                    (0 : Nat))).fin.n).same =
                                        Bool.true)
                                      (Go.SX.Out.leaf Go.SX.Ex.ret (Go.SX.St.mk [] [] (0 : Nat))))))
                                (Go.SX.Out.need (Bool.false = Bool.true)
                                  (Go.SX.Out.leaf Go.SX.Ex.ret (Go.SX.St.mk [] [] (0 : Nat))))))))))))))))))) := by kernel_rfl

end Go.SX
