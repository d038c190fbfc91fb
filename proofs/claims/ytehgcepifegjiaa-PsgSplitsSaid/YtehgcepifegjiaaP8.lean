/- A run of the chip. -/
import Derived.Test.YtehgcepifegjiaaP7
namespace Go.SX
open Go.Proofs
structure RunX where
  s : Sound
  steps : Int
  every : Int
  phase : Int
structure Rd where
  s : Sound
  left : Int
  f : Nat → Int
  n : Nat
def push (f : Nat → Int) (n : Nat) (v : Int) : Nat → Int := catF n f fun _ => v
def Rd.next (every : Int) (r : Rd) : Rd :=
  if r.left = 0 then ⟨r.s.step, r.left, r.f, r.n⟩
  else if r.left - 1 = 0 then ⟨r.s.step, every, push r.f r.n r.s.step.sample, r.n + 1⟩
  else ⟨r.s.step, r.left - 1, r.f, r.n⟩
def runN (every : Int) : Nat → Rd → Rd
  | 0, r => r
  | t + 1, r => runN every t (r.next every)
structure RX where
  steps : Int
  every : Int
  k : Int
  r : Rd
def blank : O psgReg := .agg [.s (.kn .i64 0), .s (.kn .i64 0), .s (.kb false), .s (.kn .i64 0), .s (.kn .i64 0), .s (.kb false), .s (.kn .i64 0), .s (.kn .i64 0), .s (.kb false), .s (.kn .u8 0), .s (.kn .i64 0), .s (.kb false), .s (.kn .u16 0), .s (.kn .u8 0), .s (.kn .u8 0), .s (.kn .u8 0), .s (.kn .u8 0), .s (.kn .u8 0)]
def Rd.ob (r : Rd) : List (O psgReg) := [.agg [.obj PK.sound r.s], blank, .lst (.ai r.f) r.n true 3]
def RX.fin (x : RX) : Rd := runN x.every (x.steps - x.k).toNat x.r
def runL : LoopS psgReg where
  X := RX
  opens := [(10, .ai fun _ => 0, 3)]
  hd := fun x => ⟨slots 45 [(1, oI x.steps), (2, oI x.every), (4, .v (.s (.ptr 0 0))), (8, .v (.s (.ptr 1 0))), (10, .v (.s (.sl 2))), (11, oI x.r.left), (12, oI x.k)], x.r.ob, 3⟩
  dec := fun st => match wI (st.sl.getD 1 .un), wI (st.sl.getD 2 .un), getO st.ob 0, st.sl.getD 10 .un, wI (st.sl.getD 11 .un), wI (st.sl.getD 12 .un) with
    | some steps, some every, .agg c, .v (.s (.sl l)), some left, some k => match getO st.ob l, wO (R := psgReg) PK.sound (.v (.agg c)) with
      | .lst (.ai f) n _ _, some s => some (⟨steps, every, k, ⟨s, left, f, n⟩⟩, [0, 1, l])
      | _, _ => none
    | _, _, _, _, _, _ => none
  inv := fun x => 0 ≤ x.k ∧ (x.r.n : Int) ≤ x.k ∧ x.k ≤ 1099511627776 ∧ x.steps ≤ 1099511627776 ∧ 0 ≤ x.r.left ∧ x.r.left < 1099511627776 ∧ 0 ≤ x.every ∧ x.every < 1099511627776
  μ := fun x => (x.steps - x.k).toNat
  res := fun x => .leaf (.exit 0) ⟨slots 45 [(4, .v (.s (.ptr 0 0))), (8, .v (.s (.ptr 1 0))), (10, .v (.s (.sl 2)))], x.fin.ob, 3⟩
  live := [4, 8, 10]
  liveO := [0, 1, 2]
def cRun : Con psgReg := ⟨RunX, fun x => 0 ≤ x.steps ∧ x.steps ≤ 1099511627776 ∧ 0 < x.every ∧ x.every < 1099511627776 ∧ 0 ≤ x.phase ∧ x.phase < 1099511627776, 0, fun x => [oS x.s, oI x.steps, oI x.every, oI x.phase], fun _ => [], [2],
  fun x => .tup [.agg [.obj PK.sound (RX.fin ⟨x.steps, x.every, 0, ⟨x.s, x.every - x.phase % x.every, fun _ => 0, 0⟩⟩).s], .s (.sl 2)],
  fun x => let r := RX.fin ⟨x.steps, x.every, 0, ⟨x.s, x.every - x.phase % x.every, fun _ => 0, 0⟩⟩; [.lst (.ai r.f) r.n true 3]⟩
theorem run_body (x : RX) : runL.T 0 psgTab calls3 [] (loopAt Try.f6 0) x = Go.SX.Out.ite (Decidable.decide (x.k < x.steps))
  (Go.SX.Out.need (x.r.1 = x.r.1)
    (Go.SX.Out.ite (x.r.left == (0 : Int))
      (Go.SX.Out.need (x.steps = x.steps)
        (Go.SX.Out.need (x.every = x.every)
          (Go.SX.Out.need (x.r.left = x.r.left)
            (Go.SX.Out.need (Go.SX.w64 (x.k + (1 : Int)) = Go.SX.w64 (x.k + (1 : Int)))
              (Go.SX.Out.need
                (Go.SX.Sound.mk x.r.1.t0.step.fst x.r.1.t1.step.fst x.r.1.t2.step.fst (x.r.1.n.step x.r.1.t2.step.snd)
                    x.r.1.q0 x.r.1.q1 x.r.1.q2 x.r.1.q3 x.r.1.l =
                  Go.SX.Sound.mk x.r.1.t0.step.fst x.r.1.t1.step.fst x.r.1.t2.step.fst (x.r.1.n.step x.r.1.t2.step.snd)
                    x.r.1.q0 x.r.1.q1 x.r.1.q2 x.r.1.q3 x.r.1.l)
                (Go.SX.Out.need (x.r.n = x.r.n)
                  (Go.SX.Out.need
                    (∀ (j : Nat),
                      j < x.r.n →
                        x.r.f j =
                          (Go.SX.Rd.mk
                                (Go.SX.Sound.mk x.r.1.t0.step.fst x.r.1.t1.step.fst x.r.1.t2.step.fst
                                  (x.r.1.n.step x.r.1.t2.step.snd) x.r.1.q0 x.r.1.q1 x.r.1.q2 x.r.1.q3 x.r.1.l)
                                x.r.left x.r.f x.r.n).f
                            j)
                    (Go.SX.Out.need
                      (Go.SX.runL.inv
                        (Go.SX.RX.mk x.steps x.every (Go.SX.w64 (x.k + (1 : Int)))
                          (Go.SX.Rd.mk
                            (Go.SX.Sound.mk x.r.1.t0.step.fst x.r.1.t1.step.fst x.r.1.t2.step.fst
                              (x.r.1.n.step x.r.1.t2.step.snd) x.r.1.q0 x.r.1.q1 x.r.1.q2 x.r.1.q3 x.r.1.l)
                            x.r.left x.r.f x.r.n)))
                      (Go.SX.Out.need
                        (Go.SX.runL.μ
                            (Go.SX.RX.mk x.steps x.every (Go.SX.w64 (x.k + (1 : Int)))
                              (Go.SX.Rd.mk
                                (Go.SX.Sound.mk x.r.1.t0.step.fst x.r.1.t1.step.fst x.r.1.t2.step.fst
                                  (x.r.1.n.step x.r.1.t2.step.snd) x.r.1.q0 x.r.1.q1 x.r.1.q2 x.r.1.q3 x.r.1.l)
                                x.r.left x.r.f x.r.n)) <
                          Go.SX.runL.μ x)
                        (Go.SX.Out.need
                          (Go.SX.runL.Imp x
                            (Go.SX.RX.mk x.steps x.every (Go.SX.w64 (x.k + (1 : Int)))
                              (Go.SX.Rd.mk
                                (Go.SX.Sound.mk x.r.1.t0.step.fst x.r.1.t1.step.fst x.r.1.t2.step.fst
                                  (x.r.1.n.step x.r.1.t2.step.snd) x.r.1.q0 x.r.1.q1 x.r.1.q2 x.r.1.q3 x.r.1.l)
                                x.r.left x.r.f x.r.n)))
                          (Go.SX.Out.leaf Go.SX.Ex.normal (Go.SX.St.mk [] [] (0 : Nat)))))))))))))
      (Go.SX.Out.ite (Go.SX.w64 (x.r.left - (1 : Int)) == (0 : Int))
        (Go.SX.Out.need
          (Go.SX.Sound.mk x.r.1.t0.step.fst x.r.1.t1.step.fst x.r.1.t2.step.fst (x.r.1.n.step x.r.1.t2.step.snd)
              x.r.1.q0 x.r.1.q1 x.r.1.q2 x.r.1.q3 x.r.1.l =
            Go.SX.Sound.mk x.r.1.t0.step.fst x.r.1.t1.step.fst x.r.1.t2.step.fst (x.r.1.n.step x.r.1.t2.step.snd)
              x.r.1.q0 x.r.1.q1 x.r.1.q2 x.r.1.q3 x.r.1.l)
          (Go.SX.Out.need (x.r.n + (1 : Nat) ≤ (1099511627776 : Nat))
            (Go.SX.Out.need (x.steps = x.steps)
              (Go.SX.Out.need (x.every = x.every)
                (Go.SX.Out.need (x.every = x.every)
                  (Go.SX.Out.need (Go.SX.w64 (x.k + (1 : Int)) = Go.SX.w64 (x.k + (1 : Int)))
                    (Go.SX.Out.need
                      (Go.SX.Sound.mk x.r.1.t0.step.fst x.r.1.t1.step.fst x.r.1.t2.step.fst
                          (x.r.1.n.step x.r.1.t2.step.snd) x.r.1.q0 x.r.1.q1 x.r.1.q2 x.r.1.q3 x.r.1.l =
                        Go.SX.Sound.mk x.r.1.t0.step.fst x.r.1.t1.step.fst x.r.1.t2.step.fst
                          (x.r.1.n.step x.r.1.t2.step.snd) x.r.1.q0 x.r.1.q1 x.r.1.q2 x.r.1.q3 x.r.1.l)
                      (Go.SX.Out.need (x.r.n + (1 : Nat) = x.r.n + (1 : Nat))
                        (Go.SX.Out.need
                          (∀ (j : Nat),
                            j < x.r.n + (1 : Nat) →
                              Go.SX.catF x.r.n x.r.f
                                  (fun _ =>
                                    (Go.SX.Sound.mk x.r.1.t0.step.fst x.r.1.t1.step.fst x.r.1.t2.step.fst
                                        (x.r.1.n.step x.r.1.t2.step.snd) x.r.1.q0 x.r.1.q1 x.r.1.q2 x.r.1.q3
                                        x.r.1.l).sample)
                                  j =
                                (Go.SX.Rd.mk
                                      (Go.SX.Sound.mk x.r.1.t0.step.fst x.r.1.t1.step.fst x.r.1.t2.step.fst
                                        (x.r.1.n.step x.r.1.t2.step.snd) x.r.1.q0 x.r.1.q1 x.r.1.q2 x.r.1.q3 x.r.1.l)
                                      x.every
                                      (Go.SX.catF x.r.n x.r.f fun _ =>
                                        (Go.SX.Sound.mk x.r.1.t0.step.fst x.r.1.t1.step.fst x.r.1.t2.step.fst
                                            (x.r.1.n.step x.r.1.t2.step.snd) x.r.1.q0 x.r.1.q1 x.r.1.q2 x.r.1.q3
                                            x.r.1.l).sample)
                                      (x.r.n + (1 : Nat))).f
                                  j)
                          (Go.SX.Out.need
                            (Go.SX.runL.inv
                              (Go.SX.RX.mk x.steps x.every (Go.SX.w64 (x.k + (1 : Int)))
                                (Go.SX.Rd.mk
                                  (Go.SX.Sound.mk x.r.1.t0.step.fst x.r.1.t1.step.fst x.r.1.t2.step.fst
                                    (x.r.1.n.step x.r.1.t2.step.snd) x.r.1.q0 x.r.1.q1 x.r.1.q2 x.r.1.q3 x.r.1.l)
                                  x.every
                                  (Go.SX.catF x.r.n x.r.f fun _ =>
                                    (Go.SX.Sound.mk x.r.1.t0.step.fst x.r.1.t1.step.fst x.r.1.t2.step.fst
                                        (x.r.1.n.step x.r.1.t2.step.snd) x.r.1.q0 x.r.1.q1 x.r.1.q2 x.r.1.q3
                                        x.r.1.l).sample)
                                  (x.r.n + (1 : Nat)))))
                            (Go.SX.Out.need
                              (Go.SX.runL.μ
                                  (Go.SX.RX.mk x.steps x.every (Go.SX.w64 (x.k + (1 : Int)))
                                    (Go.SX.Rd.mk
                                      (Go.SX.Sound.mk x.r.1.t0.step.fst x.r.1.t1.step.fst x.r.1.t2.step.fst
                                        (x.r.1.n.step x.r.1.t2.step.snd) x.r.1.q0 x.r.1.q1 x.r.1.q2 x.r.1.q3 x.r.1.l)
                                      x.every
                                      (Go.SX.catF x.r.n x.r.f fun _ =>
                                        (Go.SX.Sound.mk x.r.1.t0.step.fst x.r.1.t1.step.fst x.r.1.t2.step.fst
                                            (x.r.1.n.step x.r.1.t2.step.snd) x.r.1.q0 x.r.1.q1 x.r.1.q2 x.r.1.q3
                                            x.r.1.l).sample)
                                      (x.r.n + (1 : Nat)))) <
                                Go.SX.runL.μ x)
                              (Go.SX.Out.need
                                (Go.SX.runL.Imp x
                                  (Go.SX.RX.mk x.steps x.every (Go.SX.w64 (x.k + (1 : Int)))
                                    (Go.SX.Rd.mk
                                      (Go.SX.Sound.mk x.r.1.t0.step.fst x.r.1.t1.step.fst x.r.1.t2.step.fst
                                        (x.r.1.n.step x.r.1.t2.step.snd) x.r.1.q0 x.r.1.q1 x.r.1.q2 x.r.1.q3 x.r.1.l)
                                      x.every
                                      (Go.SX.catF x.r.n x.r.f fun _ =>
                                        (Go.SX.Sound.mk x.r.1.t0.step.fst x.r.1.t1.step.fst x.r.1.t2.step.fst
                                            (x.r.1.n.step x.r.1.t2.step.snd) x.r.1.q0 x.r.1.q1 x.r.1.q2 x.r.1.q3
                                            x.r.1.l).sample)
                                      (x.r.n + (1 : Nat)))))
                                (Go.SX.Out.leaf Go.SX.Ex.normal (Go.SX.St.mk [] [] (0 : Nat)))))))))))))))
        (Go.SX.Out.need (x.steps = x.steps)
          (Go.SX.Out.need (x.every = x.every)
            (Go.SX.Out.need (Go.SX.w64 (x.r.left - (1 : Int)) = Go.SX.w64 (x.r.left - (1 : Int)))
              (Go.SX.Out.need (Go.SX.w64 (x.k + (1 : Int)) = Go.SX.w64 (x.k + (1 : Int)))
                (Go.SX.Out.need
                  (Go.SX.Sound.mk x.r.1.t0.step.fst x.r.1.t1.step.fst x.r.1.t2.step.fst (x.r.1.n.step x.r.1.t2.step.snd)
                      x.r.1.q0 x.r.1.q1 x.r.1.q2 x.r.1.q3 x.r.1.l =
                    Go.SX.Sound.mk x.r.1.t0.step.fst x.r.1.t1.step.fst x.r.1.t2.step.fst
                      (x.r.1.n.step x.r.1.t2.step.snd) x.r.1.q0 x.r.1.q1 x.r.1.q2 x.r.1.q3 x.r.1.l)
                  (Go.SX.Out.need (x.r.n = x.r.n)
                    (Go.SX.Out.need
                      (∀ (j : Nat),
                        j < x.r.n →
                          x.r.f j =
                            (Go.SX.Rd.mk
                                  (Go.SX.Sound.mk x.r.1.t0.step.fst x.r.1.t1.step.fst x.r.1.t2.step.fst
                                    (x.r.1.n.step x.r.1.t2.step.snd) x.r.1.q0 x.r.1.q1 x.r.1.q2 x.r.1.q3 x.r.1.l)
                                  (Go.SX.w64 (x.r.left - (1 : Int))) x.r.f x.r.n).f
                              j)
                      (Go.SX.Out.need
                        (Go.SX.runL.inv
                          (Go.SX.RX.mk x.steps x.every (Go.SX.w64 (x.k + (1 : Int)))
                            (Go.SX.Rd.mk
                              (Go.SX.Sound.mk x.r.1.t0.step.fst x.r.1.t1.step.fst x.r.1.t2.step.fst
                                (x.r.1.n.step x.r.1.t2.step.snd) x.r.1.q0 x.r.1.q1 x.r.1.q2 x.r.1.q3 x.r.1.l)
                              (Go.SX.w64 (x.r.left - (1 : Int))) x.r.f x.r.n)))
                        (Go.SX.Out.need
                          (Go.SX.runL.μ
                              (Go.SX.RX.mk x.steps x.every (Go.SX.w64 (x.k + (1 : Int)))
                                (Go.SX.Rd.mk
                                  (Go.SX.Sound.mk x.r.1.t0.step.fst x.r.1.t1.step.fst x.r.1.t2.step.fst
                                    (x.r.1.n.step x.r.1.t2.step.snd) x.r.1.q0 x.r.1.q1 x.r.1.q2 x.r.1.q3 x.r.1.l)
                                  (Go.SX.w64 (x.r.left - (1 : Int))) x.r.f x.r.n)) <
                            Go.SX.runL.μ x)
                          (Go.SX.Out.need
                            (Go.SX.runL.Imp x
                              (Go.SX.RX.mk x.steps x.every (Go.SX.w64 (x.k + (1 : Int)))
                                (Go.SX.Rd.mk
                                  (Go.SX.Sound.mk x.r.1.t0.step.fst x.r.1.t1.step.fst x.r.1.t2.step.fst
                                    (x.r.1.n.step x.r.1.t2.step.snd) x.r.1.q0 x.r.1.q1 x.r.1.q2 x.r.1.q3 x.r.1.l)
                                  (Go.SX.w64 (x.r.left - (1 : Int))) x.r.f x.r.n)))
                            (Go.SX.Out.leaf Go.SX.Ex.normal (Go.SX.St.mk [] [] (0 : Nat))))))))))))))))
  (Go.SX.Out.leaf (Go.SX.Ex.exit (0 : Nat))
    (Go.SX.St.mk
      [Go.SX.W.un, Go.SX.W.un, Go.SX.W.un, Go.SX.W.un, Go.SX.W.v (Go.SX.V.s (Go.SX.S.ptr (0 : Nat) (0 : Nat))),
        Go.SX.W.un, Go.SX.W.un, Go.SX.W.un, Go.SX.W.v (Go.SX.V.s (Go.SX.S.ptr (1 : Nat) (0 : Nat))), Go.SX.W.un,
        Go.SX.W.v (Go.SX.V.s (Go.SX.S.sl (2 : Nat))), Go.SX.W.un, Go.SX.W.un, Go.SX.W.un, Go.SX.W.un, Go.SX.W.un,
        Go.SX.W.un, Go.SX.W.un, Go.SX.W.un, Go.SX.W.un, Go.SX.W.un, Go.SX.W.un, Go.SX.W.un, Go.SX.W.un, Go.SX.W.un,
        Go.SX.W.un, Go.SX.W.un, Go.SX.W.un, Go.SX.W.un, Go.SX.W.un, Go.SX.W.un, Go.SX.W.un, Go.SX.W.un, Go.SX.W.un,
        Go.SX.W.un, Go.SX.W.un, Go.SX.W.un, Go.SX.W.un, Go.SX.W.un, Go.SX.W.un, Go.SX.W.un, Go.SX.W.un, Go.SX.W.un,
        Go.SX.W.un, Go.SX.W.un]
      [Go.SX.O.agg [Go.SX.I.obj Go.SX.PK.sound x.r.1],
        Go.SX.O.agg
          [Go.SX.I.s (Go.SX.S.kn Go.IntKind.i64 (0 : Int)), Go.SX.I.s (Go.SX.S.kn Go.IntKind.i64 (0 : Int)),
            Go.SX.I.s (Go.SX.S.kb Bool.false), Go.SX.I.s (Go.SX.S.kn Go.IntKind.i64 (0 : Int)),
            Go.SX.I.s (Go.SX.S.kn Go.IntKind.i64 (0 : Int)), Go.SX.I.s (Go.SX.S.kb Bool.false),
            Go.SX.I.s (Go.SX.S.kn Go.IntKind.i64 (0 : Int)), Go.SX.I.s (Go.SX.S.kn Go.IntKind.i64 (0 : Int)),
            Go.SX.I.s (Go.SX.S.kb Bool.false), Go.SX.I.s (Go.SX.S.kn Go.IntKind.u8 (0 : Int)),
            Go.SX.I.s (Go.SX.S.kn Go.IntKind.i64 (0 : Int)), Go.SX.I.s (Go.SX.S.kb Bool.false),
            Go.SX.I.s (Go.SX.S.kn Go.IntKind.u16 (0 : Int)), Go.SX.I.s (Go.SX.S.kn Go.IntKind.u8 (0 : Int)),
            Go.SX.I.s (Go.SX.S.kn Go.IntKind.u8 (0 : Int)), Go.SX.I.s (Go.SX.S.kn Go.IntKind.u8 (0 : Int)),
            Go.SX.I.s (Go.SX.S.kn Go.IntKind.u8 (0 : Int)), Go.SX.I.s (Go.SX.S.kn Go.IntKind.u8 (0 : Int))],
        Go.SX.O.lst (Go.SX.Arr.ai x.r.f) x.r.n Bool.true (3 : Nat)]
      (3 : Nat))) := by kernel_rfl

theorem f6_tree (x : RunX) : cRun.TL psgTab calls3 [(6, runL.ev 0)] Try.f6 x = Go.SX.Out.ite (Decidable.decide ((0 : Int) < x.every))
  (Go.SX.Out.ite (Decidable.decide ((0 : Int) ≤ x.phase))
    (Go.SX.Out.need (x.every ≠ (0 : Int))
      (Go.SX.Out.need (x.steps = x.steps)
        (Go.SX.Out.need (x.every = x.every)
          (Go.SX.Out.need (Go.SX.w64 (x.every - x.phase.tmod x.every) = Go.SX.w64 (x.every - x.phase.tmod x.every))
            (Go.SX.Out.need ((0 : Int) = (0 : Int))
              (Go.SX.Out.need (x.1 = x.1)
                (Go.SX.Out.need ((0 : Nat) = (0 : Nat))
                  (Go.SX.Out.need
                    (∀ (j : Nat),
                      j < (0 : Nat) →
                        (0 : Int) =
                          (Go.SX.Rd.mk x.1 (Go.SX.w64 (x.every - x.phase.tmod x.every)) (fun _ => (0 : Int))
                                (0 : Nat)).f
                            j)
                    (Go.SX.Out.need
                      (Go.SX.runL.inv
                        (Go.SX.RX.mk x.steps x.every (0 : Int)
                          (Go.SX.Rd.mk x.1 (Go.SX.w64 (x.every - x.phase.tmod x.every)) (fun _ => (0 : Int))
                            (0 : Nat))))
                      (Go.SX.Out.need
                        ((Go.SX.RX.mk x.steps x.every (0 : Int)
                                (Go.SX.Rd.mk x.1 (Go.SX.w64 (x.every - x.phase.tmod x.every)) (fun _ => (0 : Int))
                                  (0 : Nat))).fin.1 =
                          (Go.SX.RX.mk x.steps x.every (0 : Int)
                                (Go.SX.Rd.mk x.s (x.every - x.phase % x.every) (fun _ => (0 : Int)) (0 : Nat))).fin.s)
                        (Go.SX.Out.need
                          ((Go.SX.RX.mk x.steps x.every (0 : Int)
                                  (Go.SX.Rd.mk x.1 (Go.SX.w64 (x.every - x.phase.tmod x.every)) (fun _ => (0 : Int))
                                    (0 : Nat))).fin.n =
                            (Go.SX.RX.mk x.steps x.every (0 : Int)
                                  (Go.SX.Rd.mk x.s (x.every - x.phase % x.every) (fun _ => (0 : Int)) (0 : Nat))).fin.n)
                          (Go.SX.Out.need
                            (∀ (j : Nat),
                              j <
                                  (Go.SX.RX.mk x.steps x.every (0 : Int)
                                        (Go.SX.Rd.mk x.1 (Go.SX.w64 (x.every - x.phase.tmod x.every))
                                          (fun _ => (0 : Int)) (0 : Nat))).fin.n →
                                (Go.SX.RX.mk x.steps x.every (0 : Int)
                                          (Go.SX.Rd.mk x.1 (Go.SX.w64 (x.every - x.phase.tmod x.every))
                                            (fun _ => (0 : Int)) (0 : Nat))).fin.f
                                    j =
                                  (Go.SX.RX.mk x.steps x.every (0 : Int)
                                          (Go.SX.Rd.mk x.s (x.every - x.phase % x.every) (fun _ => (0 : Int))
                                            (0 : Nat))).fin.f
                                    j)
                            (Go.SX.Out.leaf Go.SX.Ex.ret (Go.SX.St.mk [] [] (0 : Nat)))))))))))))))
    (Go.SX.Out.need (x.steps = x.steps)
      (Go.SX.Out.need (x.every = x.every)
        (Go.SX.Out.need ((0 : Int) = (0 : Int))
          (Go.SX.Out.need ((0 : Int) = (0 : Int))
            (Go.SX.Out.need (x.1 = x.1)
              (Go.SX.Out.need ((0 : Nat) = (0 : Nat))
                (Go.SX.Out.need
                  (∀ (j : Nat),
                    j < (0 : Nat) → (0 : Int) = (Go.SX.Rd.mk x.1 (0 : Int) (fun _ => (0 : Int)) (0 : Nat)).f j)
                  (Go.SX.Out.need
                    (Go.SX.runL.inv
                      (Go.SX.RX.mk x.steps x.every (0 : Int)
                        (Go.SX.Rd.mk x.1 (0 : Int) (fun _ => (0 : Int)) (0 : Nat))))
                    (Go.SX.Out.need
                      ((Go.SX.RX.mk x.steps x.every (0 : Int)
                              (Go.SX.Rd.mk x.1 (0 : Int) (fun _ => (0 : Int)) (0 : Nat))).fin.1 =
                        (Go.SX.RX.mk x.steps x.every (0 : Int)
                              (Go.SX.Rd.mk x.s (x.every - x.phase % x.every) (fun _ => (0 : Int)) (0 : Nat))).fin.s)
                      (Go.SX.Out.need
                        ((Go.SX.RX.mk x.steps x.every (0 : Int)
                                (Go.SX.Rd.mk x.1 (0 : Int) (fun _ => (0 : Int)) (0 : Nat))).fin.n =
                          (Go.SX.RX.mk x.steps x.every (0 : Int)
                                (Go.SX.Rd.mk x.s (x.every - x.phase % x.every) (fun _ => (0 : Int)) (0 : Nat))).fin.n)
                        (Go.SX.Out.need
                          (∀ (j : Nat),
                            j <
                                (Go.SX.RX.mk x.steps x.every (0 : Int)
                                      (Go.SX.Rd.mk x.1 (0 : Int) (fun _ => (0 : Int)) (0 : Nat))).fin.n →
                              (Go.SX.RX.mk x.steps x.every (0 : Int)
                                        (Go.SX.Rd.mk x.1 (0 : Int) (fun _ => (0 : Int)) (0 : Nat))).fin.f
                                  j =
                                (Go.SX.RX.mk x.steps x.every (0 : Int)
                                        (Go.SX.Rd.mk x.s (x.every - x.phase % x.every) (fun _ => (0 : Int))
                                          (0 : Nat))).fin.f
                                  j)
                          (Go.SX.Out.leaf Go.SX.Ex.ret (Go.SX.St.mk [] [] (0 : Nat)))))))))))))))
  (Go.SX.Out.need (x.steps = x.steps)
    (Go.SX.Out.need (x.every = x.every)
      (Go.SX.Out.need ((0 : Int) = (0 : Int))
        (Go.SX.Out.need ((0 : Int) = (0 : Int))
          (Go.SX.Out.need (x.1 = x.1)
            (Go.SX.Out.need ((0 : Nat) = (0 : Nat))
              (Go.SX.Out.need
                (∀ (j : Nat),
                  j < (0 : Nat) → (0 : Int) = (Go.SX.Rd.mk x.1 (0 : Int) (fun _ => (0 : Int)) (0 : Nat)).f j)
                (Go.SX.Out.need
                  (Go.SX.runL.inv
                    (Go.SX.RX.mk x.steps x.every (0 : Int) (Go.SX.Rd.mk x.1 (0 : Int) (fun _ => (0 : Int)) (0 : Nat))))
                  (Go.SX.Out.need
                    ((Go.SX.RX.mk x.steps x.every (0 : Int)
                            (Go.SX.Rd.mk x.1 (0 : Int) (fun _ => (0 : Int)) (0 : Nat))).fin.1 =
                      (Go.SX.RX.mk x.steps x.every (0 : Int)
                            (Go.SX.Rd.mk x.s (x.every - x.phase % x.every) (fun _ => (0 : Int)) (0 : Nat))).fin.s)
                    (Go.SX.Out.need
                      ((Go.SX.RX.mk x.steps x.every (0 : Int)
                              (Go.SX.Rd.mk x.1 (0 : Int) (fun _ => (0 : Int)) (0 : Nat))).fin.n =
                        (Go.SX.RX.mk x.steps x.every (0 : Int)
                              (Go.SX.Rd.mk x.s (x.every - x.phase % x.every) (fun _ => (0 : Int)) (0 : Nat))).fin.n)
                      (Go.SX.Out.need
                        (∀ (j : Nat),
                          j <
                              (Go.SX.RX.mk x.steps x.every (0 : Int)
                                    (Go.SX.Rd.mk x.1 (0 : Int) (fun _ => (0 : Int)) (0 : Nat))).fin.n →
                            (Go.SX.RX.mk x.steps x.every (0 : Int)
                                      (Go.SX.Rd.mk x.1 (0 : Int) (fun _ => (0 : Int)) (0 : Nat))).fin.f
                                j =
                              (Go.SX.RX.mk x.steps x.every (0 : Int)
                                      (Go.SX.Rd.mk x.s (x.every - x.phase % x.every) (fun _ => (0 : Int))
                                        (0 : Nat))).fin.f
                                j)
                        (Go.SX.Out.leaf Go.SX.Ex.ret (Go.SX.St.mk [] [] (0 : Nat)))))))))))))) := by kernel_rfl

end Go.SX
