/- The sound chip as a whole. -/
import Derived.Test.YtehgcepifegjiaaP3
namespace Go.SX
open Go.Proofs
def Sound.step (s : Sound) : Sound := ⟨s.t0.step.1, s.t1.step.1, s.t2.step.1, s.n.step s.t2.step.2, s.q0, s.q1, s.q2, s.q3, s.l⟩
def cStep := mk (R := psgReg) Sound (fun s => [oS s]) (fun s => oS s.step)
def volume (q : BitVec 8) : Int := [8191, 6507, 5168, 4105, 3261, 2590, 2057, 1642, 1298, 1031, 819, 650, 516, 410, 326, 0].getD (q &&& 15).toNat 0
def cVolume := mk (R := psgReg) (BitVec 8) (fun s => [o8 s]) (fun s => oI (volume s))
def addV (acc : Int) (b : Bool) (q : BitVec 8) : Int := if b then w64 (acc + volume q) else acc
def Sound.sample (s : Sound) : Int := addV (addV (addV (addV 0 s.t0.o s.q0) s.t1.o s.q1) s.t2.o s.q2) s.n.out s.q3
def cSample := mk (R := psgReg) Sound (fun s => [oS s]) (fun s => oI s.sample)
def Sound.right (s : Sound) : Bool := s.t0.right && s.t1.right && s.t2.right && !(15#8).ult s.q0 && !(15#8).ult s.q1 && !(15#8).ult s.q2 && !(15#8).ult s.q3 && s.n.right && s.l.ule 7#8
def cRight := mk (R := psgReg) Sound (fun s => [oS s]) (fun s => oB s.right)
def sound0 : Sound := ⟨⟨0, 0, false⟩, ⟨0, 0, false⟩, ⟨0, 0, false⟩, ⟨0, 0, false, 0x8000⟩, 15, 15, 15, 15, 0⟩
def cNew := mk (R := psgReg) Unit (fun _ => []) (fun _ => oS sound0)
def sound1 : Sound := ⟨⟨0, 0, false⟩, ⟨0, 0, false⟩, ⟨0, 0, false⟩, ⟨0, 0, false, 0x8000⟩, 0, 15, 15, 15, 1⟩
def sound2 : Sound := ⟨⟨0, 0, false⟩, ⟨0, 0, false⟩, ⟨0, 0, false⟩, ⟨0, 0, false, 0x8000⟩, 0, 15, 15, 15, 5⟩
def wr1 : Bool → BitVec 8
  | false => 0x90
  | true => 223
def wr0 : Bool → Sound
  | false => sound0
  | true => sound1
def wr2 : Bool → Sound
  | false => sound1
  | true => sound2
def cWriteA := mk (R := psgReg) Bool (fun b => [oS (wr0 b), o8 (wr1 b)]) (fun b => oS (wr2 b))
def dWriteA : List (W psgReg) → Option Bool
  | [_, x] => match w8 x with
    | some v => some (v == 223)
    | none => none
  | _ => none
def cAlive := mk (R := psgReg) Unit (fun _ => []) (fun _ => oB true)
def calls2 : List (Nat × Spec psgReg) := (18, sp cNoiseStep (d2 wN wB)) :: (11, sp cVolume (d1 w8)) :: calls1
theorem f14_tree (t : Sound) : cStep.T psgTab calls2 Try.f14 t = Go.SX.Out.need (t.t0 = t.t0)
  (Go.SX.Out.need (t.t1 = t.t1)
    (Go.SX.Out.need (t.t2 = t.t2)
      (Go.SX.Out.need (t.n = t.n ∧ t.t2.step.snd = t.t2.step.snd)
        (Go.SX.Out.need
          (Go.SX.Sound.mk t.t0.step.fst t.t1.step.fst t.t2.step.fst (t.n.step t.t2.step.snd) t.q0 t.q1 t.q2 t.q3 t.l =
            t.step)
          (Go.SX.Out.leaf Go.SX.Ex.ret (Go.SX.St.mk [] [] (0 : Nat))))))) := by kernel_rfl

theorem f11_tree (t : BitVec 8) : cVolume.T psgTab [] Try.f11 t = Go.SX.Out.ite ((↑(t &&& BitVec.ofInt (8 : Nat) (15 : Int)).toNat : Int) == (↑(nat_lit 0) : Int))
  (Go.SX.Out.need ((8191 : Int) = Go.SX.volume t) (Go.SX.Out.leaf Go.SX.Ex.ret (Go.SX.St.mk [] [] (0 : Nat))))
  (Go.SX.Out.ite ((↑(t &&& BitVec.ofInt (8 : Nat) (15 : Int)).toNat : Int) == (↑(nat_lit 1) : Int))
    (Go.SX.Out.need ((6507 : Int) = Go.SX.volume t) (Go.SX.Out.leaf Go.SX.Ex.ret (Go.SX.St.mk [] [] (0 : Nat))))
    (Go.SX.Out.ite ((↑(t &&& BitVec.ofInt (8 : Nat) (15 : Int)).toNat : Int) == (↑(nat_lit 2) : Int))
      (Go.SX.Out.need ((5168 : Int) = Go.SX.volume t) (Go.SX.Out.leaf Go.SX.Ex.ret (Go.SX.St.mk [] [] (0 : Nat))))
      (Go.SX.Out.ite ((↑(t &&& BitVec.ofInt (8 : Nat) (15 : Int)).toNat : Int) == (↑(nat_lit 3) : Int))
        (Go.SX.Out.need ((4105 : Int) = Go.SX.volume t) (Go.SX.Out.leaf Go.SX.Ex.ret (Go.SX.St.mk [] [] (0 : Nat))))
        (Go.SX.Out.ite ((↑(t &&& BitVec.ofInt (8 : Nat) (15 : Int)).toNat : Int) == (↑(nat_lit 4) : Int))
          (Go.SX.Out.need ((3261 : Int) = Go.SX.volume t) (Go.SX.Out.leaf Go.SX.Ex.ret (Go.SX.St.mk [] [] (0 : Nat))))
          (Go.SX.Out.ite ((↑(t &&& BitVec.ofInt (8 : Nat) (15 : Int)).toNat : Int) == (↑(nat_lit 5) : Int))
            (Go.SX.Out.need ((2590 : Int) = Go.SX.volume t) (Go.SX.Out.leaf Go.SX.Ex.ret (Go.SX.St.mk [] [] (0 : Nat))))
            (Go.SX.Out.ite ((↑(t &&& BitVec.ofInt (8 : Nat) (15 : Int)).toNat : Int) == (↑(nat_lit 6) : Int))
              (Go.SX.Out.need ((2057 : Int) = Go.SX.volume t)
                (Go.SX.Out.leaf Go.SX.Ex.ret (Go.SX.St.mk [] [] (0 : Nat))))
              (Go.SX.Out.ite ((↑(t &&& BitVec.ofInt (8 : Nat) (15 : Int)).toNat : Int) == (↑(nat_lit 7) : Int))
                (Go.SX.Out.need ((1642 : Int) = Go.SX.volume t)
                  (Go.SX.Out.leaf Go.SX.Ex.ret (Go.SX.St.mk [] [] (0 : Nat))))
                (Go.SX.Out.ite ((↑(t &&& BitVec.ofInt (8 : Nat) (15 : Int)).toNat : Int) == (↑(nat_lit 8) : Int))
                  (Go.SX.Out.need ((1298 : Int) = Go.SX.volume t)
                    (Go.SX.Out.leaf Go.SX.Ex.ret (Go.SX.St.mk [] [] (0 : Nat))))
                  (Go.SX.Out.ite ((↑(t &&& BitVec.ofInt (8 : Nat) (15 : Int)).toNat : Int) == (↑(nat_lit 9) : Int))
                    (Go.SX.Out.need ((1031 : Int) = Go.SX.volume t)
                      (Go.SX.Out.leaf Go.SX.Ex.ret (Go.SX.St.mk [] [] (0 : Nat))))
                    (Go.SX.Out.ite ((↑(t &&& BitVec.ofInt (8 : Nat) (15 : Int)).toNat : Int) == (↑(nat_lit 10) : Int))
                      (Go.SX.Out.need ((819 : Int) = Go.SX.volume t)
                        (Go.SX.Out.leaf Go.SX.Ex.ret (Go.SX.St.mk [] [] (0 : Nat))))
                      (Go.SX.Out.ite ((↑(t &&& BitVec.ofInt (8 : Nat) (15 : Int)).toNat : Int) == (↑(nat_lit 11) : Int))
                        (Go.SX.Out.need ((650 : Int) = Go.SX.volume t)
                          (Go.SX.Out.leaf Go.SX.Ex.ret (Go.SX.St.mk [] [] (0 : Nat))))
                        (Go.SX.Out.ite
                          ((↑(t &&& BitVec.ofInt (8 : Nat) (15 : Int)).toNat : Int) == (↑(nat_lit 12) : Int))
                          (Go.SX.Out.need ((516 : Int) = Go.SX.volume t)
                            (Go.SX.Out.leaf Go.SX.Ex.ret (Go.SX.St.mk [] [] (0 : Nat))))
                          (Go.SX.Out.ite
                            ((↑(t &&& BitVec.ofInt (8 : Nat) (15 : Int)).toNat : Int) == (↑(nat_lit 13) : Int))
                            (Go.SX.Out.need ((410 : Int) = Go.SX.volume t)
                              (Go.SX.Out.leaf Go.SX.Ex.ret (Go.SX.St.mk [] [] (0 : Nat))))
                            (Go.SX.Out.ite
                              ((↑(t &&& BitVec.ofInt (8 : Nat) (15 : Int)).toNat : Int) == (↑(nat_lit 14) : Int))
                              (Go.SX.Out.need ((326 : Int) = Go.SX.volume t)
                                (Go.SX.Out.leaf Go.SX.Ex.ret (Go.SX.St.mk [] [] (0 : Nat))))
                              (Go.SX.Out.need
                                ((↑(t &&& BitVec.ofInt (8 : Nat) (15 : Int)).toNat : Int) = (↑(nat_lit 15) : Int))
                                (Go.SX.Out.need ((0 : Int) = Go.SX.volume t)
                                  (Go.SX.Out.leaf Go.SX.Ex.ret (Go.SX.St.mk [] [] (0 : Nat))))))))))))))))))) := by kernel_rfl

theorem f10_tree (t : Sound) : cSample.T psgTab calls2 Try.f10 t = Go.SX.Out.need (t.n = t.n)
  (Go.SX.Out.ite t.t0.o
    (Go.SX.Out.need (t.q0 = t.q0)
      (Go.SX.Out.ite t.t1.o
        (Go.SX.Out.need (t.q1 = t.q1)
          (Go.SX.Out.ite t.t2.o
            (Go.SX.Out.need (t.q2 = t.q2)
              (Go.SX.Out.ite t.n.out
                (Go.SX.Out.need (t.q3 = t.q3)
                  (Go.SX.Out.need
                    (Go.SX.w64
                        (Go.SX.w64
                            (Go.SX.w64 (Go.SX.w64 ((0 : Int) + Go.SX.volume t.q0) + Go.SX.volume t.q1) +
                              Go.SX.volume t.q2) +
                          Go.SX.volume t.q3) =
                      t.sample)
                    (Go.SX.Out.leaf Go.SX.Ex.ret (Go.SX.St.mk [] [] (0 : Nat)))))
                (Go.SX.Out.need
                  (Go.SX.w64
                      (Go.SX.w64 (Go.SX.w64 ((0 : Int) + Go.SX.volume t.q0) + Go.SX.volume t.q1) + Go.SX.volume t.q2) =
                    t.sample)
                  (Go.SX.Out.leaf Go.SX.Ex.ret (Go.SX.St.mk [] [] (0 : Nat))))))
            (Go.SX.Out.ite t.n.out
              (Go.SX.Out.need (t.q3 = t.q3)
                (Go.SX.Out.need
                  (Go.SX.w64
                      (Go.SX.w64 (Go.SX.w64 ((0 : Int) + Go.SX.volume t.q0) + Go.SX.volume t.q1) + Go.SX.volume t.q3) =
                    t.sample)
                  (Go.SX.Out.leaf Go.SX.Ex.ret (Go.SX.St.mk [] [] (0 : Nat)))))
              (Go.SX.Out.need (Go.SX.w64 (Go.SX.w64 ((0 : Int) + Go.SX.volume t.q0) + Go.SX.volume t.q1) = t.sample)
                (Go.SX.Out.leaf Go.SX.Ex.ret (Go.SX.St.mk [] [] (0 : Nat)))))))
        (Go.SX.Out.ite t.t2.o
          (Go.SX.Out.need (t.q2 = t.q2)
            (Go.SX.Out.ite t.n.out
              (Go.SX.Out.need (t.q3 = t.q3)
                (Go.SX.Out.need
                  (Go.SX.w64
                      (Go.SX.w64 (Go.SX.w64 ((0 : Int) + Go.SX.volume t.q0) + Go.SX.volume t.q2) + Go.SX.volume t.q3) =
                    t.sample)
                  (Go.SX.Out.leaf Go.SX.Ex.ret (Go.SX.St.mk [] [] (0 : Nat)))))
              (Go.SX.Out.need (Go.SX.w64 (Go.SX.w64 ((0 : Int) + Go.SX.volume t.q0) + Go.SX.volume t.q2) = t.sample)
                (Go.SX.Out.leaf Go.SX.Ex.ret (Go.SX.St.mk [] [] (0 : Nat))))))
          (Go.SX.Out.ite t.n.out
            (Go.SX.Out.need (t.q3 = t.q3)
              (Go.SX.Out.need (Go.SX.w64 (Go.SX.w64 ((0 : Int) + Go.SX.volume t.q0) + Go.SX.volume t.q3) = t.sample)
                (Go.SX.Out.leaf Go.SX.Ex.ret (Go.SX.St.mk [] [] (0 : Nat)))))
            (Go.SX.Out.need (Go.SX.w64 ((0 : Int) + Go.SX.volume t.q0) = t.sample)
              (Go.SX.Out.leaf Go.SX.Ex.ret (Go.SX.St.mk [] [] (0 : Nat))))))))
    (Go.SX.Out.ite t.t1.o
      (Go.SX.Out.need (t.q1 = t.q1)
        (Go.SX.Out.ite t.t2.o
          (Go.SX.Out.need (t.q2 = t.q2)
            (Go.SX.Out.ite t.n.out
              (Go.SX.Out.need (t.q3 = t.q3)
                (Go.SX.Out.need
                  (Go.SX.w64
                      (Go.SX.w64 (Go.SX.w64 ((0 : Int) + Go.SX.volume t.q1) + Go.SX.volume t.q2) + Go.SX.volume t.q3) =
                    t.sample)
                  (Go.SX.Out.leaf Go.SX.Ex.ret (Go.SX.St.mk [] [] (0 : Nat)))))
              (Go.SX.Out.need (Go.SX.w64 (Go.SX.w64 ((0 : Int) + Go.SX.volume t.q1) + Go.SX.volume t.q2) = t.sample)
                (Go.SX.Out.leaf Go.SX.Ex.ret (Go.SX.St.mk [] [] (0 : Nat))))))
          (Go.SX.Out.ite t.n.out
            (Go.SX.Out.need (t.q3 = t.q3)
              (Go.SX.Out.need (Go.SX.w64 (Go.SX.w64 ((0 : Int) + Go.SX.volume t.q1) + Go.SX.volume t.q3) = t.sample)
                (Go.SX.Out.leaf Go.SX.Ex.ret (Go.SX.St.mk [] [] (0 : Nat)))))
            (Go.SX.Out.need (Go.SX.w64 ((0 : Int) + Go.SX.volume t.q1) = t.sample)
              (Go.SX.Out.leaf Go.SX.Ex.ret (Go.SX.St.mk [] [] (0 : Nat)))))))
      (Go.SX.Out.ite t.t2.o
        (Go.SX.Out.need (t.q2 = t.q2)
          (Go.SX.Out.ite t.n.out
            (Go.SX.Out.need (t.q3 = t.q3)
              (Go.SX.Out.need (Go.SX.w64 (Go.SX.w64 ((0 : Int) + Go.SX.volume t.q2) + Go.SX.volume t.q3) = t.sample)
                (Go.SX.Out.leaf Go.SX.Ex.ret (Go.SX.St.mk [] [] (0 : Nat)))))
            (Go.SX.Out.need (Go.SX.w64 ((0 : Int) + Go.SX.volume t.q2) = t.sample)
              (Go.SX.Out.leaf Go.SX.Ex.ret (Go.SX.St.mk [] [] (0 : Nat))))))
        (Go.SX.Out.ite t.n.out
          (Go.SX.Out.need (t.q3 = t.q3)
            (Go.SX.Out.need (Go.SX.w64 ((0 : Int) + Go.SX.volume t.q3) = t.sample)
              (Go.SX.Out.leaf Go.SX.Ex.ret (Go.SX.St.mk [] [] (0 : Nat)))))
          (Go.SX.Out.need ((0 : Int) = t.sample) (Go.SX.Out.leaf Go.SX.Ex.ret (Go.SX.St.mk [] [] (0 : Nat)))))))) := by kernel_rfl

theorem f5_tree (t : Sound) : cRight.T psgTab calls2 Try.f5 t = Go.SX.Out.need (t.t0 = t.t0)
  (Go.SX.Out.ite (!t.t0.right)
    (Go.SX.Out.need (Bool.false = t.right) (Go.SX.Out.leaf Go.SX.Ex.ret (Go.SX.St.mk [] [] (0 : Nat))))
    (Go.SX.Out.need (t.t1 = t.t1)
      (Go.SX.Out.ite (!t.t1.right)
        (Go.SX.Out.need (Bool.false = t.right) (Go.SX.Out.leaf Go.SX.Ex.ret (Go.SX.St.mk [] [] (0 : Nat))))
        (Go.SX.Out.need (t.t2 = t.t2)
          (Go.SX.Out.ite (!t.t2.right)
            (Go.SX.Out.need (Bool.false = t.right) (Go.SX.Out.leaf Go.SX.Ex.ret (Go.SX.St.mk [] [] (0 : Nat))))
            (Go.SX.Out.ite ((BitVec.ofInt (8 : Nat) (15 : Int)).ult t.q0)
              (Go.SX.Out.need (Bool.false = t.right) (Go.SX.Out.leaf Go.SX.Ex.ret (Go.SX.St.mk [] [] (0 : Nat))))
              (Go.SX.Out.ite ((BitVec.ofInt (8 : Nat) (15 : Int)).ult t.q1)
                (Go.SX.Out.need (Bool.false = t.right) (Go.SX.Out.leaf Go.SX.Ex.ret (Go.SX.St.mk [] [] (0 : Nat))))
                (Go.SX.Out.ite ((BitVec.ofInt (8 : Nat) (15 : Int)).ult t.q2)
                  (Go.SX.Out.need (Bool.false = t.right) (Go.SX.Out.leaf Go.SX.Ex.ret (Go.SX.St.mk [] [] (0 : Nat))))
                  (Go.SX.Out.ite ((BitVec.ofInt (8 : Nat) (15 : Int)).ult t.q3)
                    (Go.SX.Out.need (Bool.false = t.right) (Go.SX.Out.leaf Go.SX.Ex.ret (Go.SX.St.mk [] [] (0 : Nat))))
                    (Go.SX.Out.need (t.n = t.n)
                      (Go.SX.Out.ite t.n.right
                        (Go.SX.Out.need (t.l.ule (BitVec.ofInt (8 : Nat) (7 : Int)) = t.right)
                          (Go.SX.Out.leaf Go.SX.Ex.ret (Go.SX.St.mk [] [] (0 : Nat))))
                        (Go.SX.Out.need (Bool.false = t.right)
                          (Go.SX.Out.leaf Go.SX.Ex.ret (Go.SX.St.mk [] [] (0 : Nat))))))))))))))) := by kernel_rfl

theorem f9_tree  : (cNew.T psgTab calls2 Try.f9 ()).walk = Go.SX.Out.need
  (Go.SX.Noise.mk (BitVec.ofInt (8 : Nat) (0 : Int)) (0 : Int) Bool.false (BitVec.ofInt (16 : Nat) (0 : Int)) =
      Go.SX.Noise.mk (BitVec.ofInt (8 : Nat) (0 : Int)) (0 : Int) Bool.false (BitVec.ofInt (16 : Nat) (0 : Int)) ∧
    (0 : Int) = (↑(BitVec.ofInt (8 : Nat) (0 : Int)).toNat : Int))
  (Go.SX.Out.need
    (Go.SX.Sound.mk (Go.SX.Tone.mk (0 : Int) (0 : Int) Bool.false) (Go.SX.Tone.mk (0 : Int) (0 : Int) Bool.false)
        (Go.SX.Tone.mk (0 : Int) (0 : Int) Bool.false)
        ((Go.SX.Noise.mk (BitVec.ofInt (8 : Nat) (0 : Int)) (0 : Int) Bool.false
              (BitVec.ofInt (16 : Nat) (0 : Int))).set
          (BitVec.ofInt (8 : Nat) (0 : Int)))
        (BitVec.ofInt (8 : Nat) (15 : Int)) (BitVec.ofInt (8 : Nat) (15 : Int)) (BitVec.ofInt (8 : Nat) (15 : Int))
        (BitVec.ofInt (8 : Nat) (15 : Int)) (BitVec.ofInt (8 : Nat) (0 : Int)) =
      Go.SX.sound0)
    (Go.SX.Out.leaf Go.SX.Ex.ret (Go.SX.St.mk [] [] (0 : Nat)))) := by kernel_rfl

theorem f8a_tree  : (cWriteA.T psgTab calls2 Try.f8 false).walk = Go.SX.Out.need
  (Go.SX.Sound.mk (Go.SX.wr0 Bool.false).t0 (Go.SX.wr0 Bool.false).t1 (Go.SX.wr0 Bool.false).t2 (Go.SX.wr0 Bool.false).n
      (Go.SX.wr1 Bool.false &&& BitVec.ofInt (8 : Nat) (15 : Int)) (Go.SX.wr0 Bool.false).q1 (Go.SX.wr0 Bool.false).q2
      (Go.SX.wr0 Bool.false).q3 (Go.SX.wr1 Bool.false >>> Int.toNat (4 : Int) &&& BitVec.ofInt (8 : Nat) (7 : Int)) =
    Go.SX.wr2 Bool.false)
  (Go.SX.Out.leaf Go.SX.Ex.ret (Go.SX.St.mk [] [] (0 : Nat))) := by kernel_rfl

theorem f8b_tree  : (cWriteA.T psgTab calls2 Try.f8 true).walk = Go.SX.Out.need
  (Go.SX.Sound.mk (Go.SX.wr0 Bool.true).t0 (Go.SX.wr0 Bool.true).t1 (Go.SX.wr0 Bool.true).t2 (Go.SX.wr0 Bool.true).n
      (Go.SX.wr0 Bool.true).q0 (Go.SX.wr0 Bool.true).q1 (Go.SX.wr1 Bool.true &&& BitVec.ofInt (8 : Nat) (15 : Int))
      (Go.SX.wr0 Bool.true).q3 (Go.SX.wr1 Bool.true >>> Int.toNat (4 : Int) &&& BitVec.ofInt (8 : Nat) (7 : Int)) =
    Go.SX.wr2 Bool.true)
  (Go.SX.Out.leaf Go.SX.Ex.ret (Go.SX.St.mk [] [] (0 : Nat))) := by kernel_rfl

def calls3 : List (Nat × Spec psgReg) := (14, sp cStep (d1 wS)) :: (10, sp cSample (d1 wS)) :: (5, sp cRight (d1 wS)) :: (9, sp cNew d0) :: (8, sp cWriteA dWriteA) :: calls2
theorem f4_tree  : (cAlive.T psgTab calls3 Try.f4 ()).walk = Go.SX.Out.need
  (Go.SX.Sound.mk (Go.SX.Tone.mk (0 : Int) (0 : Int) Bool.false) (Go.SX.Tone.mk (0 : Int) (0 : Int) Bool.false)
        (Go.SX.Tone.mk (0 : Int) (0 : Int) Bool.false)
        (Go.SX.Noise.mk (0 : BitVec (8 : Nat)) (0 : Int) Bool.false (32768 : BitVec (16 : Nat))) (15 : BitVec (8 : Nat))
        (15 : BitVec (8 : Nat)) (15 : BitVec (8 : Nat)) (15 : BitVec (8 : Nat)) (0 : BitVec (8 : Nat)) =
      Go.SX.wr0 (BitVec.ofInt (8 : Nat) (144 : Int) == (223 : BitVec (8 : Nat))) ∧
    (144 : Int) = (↑(Go.SX.wr1 (BitVec.ofInt (8 : Nat) (144 : Int) == (223 : BitVec (8 : Nat)))).toNat : Int))
  (Go.SX.Out.need
    (Go.SX.Sound.mk (Go.SX.Tone.mk (0 : Int) (0 : Int) Bool.false) (Go.SX.Tone.mk (0 : Int) (0 : Int) Bool.false)
          (Go.SX.Tone.mk (0 : Int) (0 : Int) Bool.false)
          (Go.SX.Noise.mk (0 : BitVec (8 : Nat)) (0 : Int) Bool.false (32768 : BitVec (16 : Nat)))
          (0 : BitVec (8 : Nat)) (15 : BitVec (8 : Nat)) (15 : BitVec (8 : Nat)) (15 : BitVec (8 : Nat))
          (1 : BitVec (8 : Nat)) =
        Go.SX.wr0 (BitVec.ofInt (8 : Nat) (223 : Int) == (223 : BitVec (8 : Nat))) ∧
      (223 : Int) = (↑(Go.SX.wr1 (BitVec.ofInt (8 : Nat) (223 : Int) == (223 : BitVec (8 : Nat)))).toNat : Int))
    (Go.SX.Out.need
      (Go.SX.Sound.mk
          (Go.SX.Tone.mk (Go.SX.wr2 (BitVec.ofInt (8 : Nat) (223 : Int) == (223 : BitVec (8 : Nat)))).t0.p
            (Go.SX.wr2 (BitVec.ofInt (8 : Nat) (223 : Int) == (223 : BitVec (8 : Nat)))).t0.c Bool.true)
          (Go.SX.wr2 (BitVec.ofInt (8 : Nat) (223 : Int) == (223 : BitVec (8 : Nat)))).t1
          (Go.SX.wr2 (BitVec.ofInt (8 : Nat) (223 : Int) == (223 : BitVec (8 : Nat)))).t2
          (Go.SX.wr2 (BitVec.ofInt (8 : Nat) (223 : Int) == (223 : BitVec (8 : Nat)))).n
          (Go.SX.wr2 (BitVec.ofInt (8 : Nat) (223 : Int) == (223 : BitVec (8 : Nat)))).q0
          (Go.SX.wr2 (BitVec.ofInt (8 : Nat) (223 : Int) == (223 : BitVec (8 : Nat)))).q1
          (Go.SX.wr2 (BitVec.ofInt (8 : Nat) (223 : Int) == (223 : BitVec (8 : Nat)))).q2
          (Go.SX.wr2 (BitVec.ofInt (8 : Nat) (223 : Int) == (223 : BitVec (8 : Nat)))).q3
          (Go.SX.wr2 (BitVec.ofInt (8 : Nat) (223 : Int) == (223 : BitVec (8 : Nat)))).l =
        Go.SX.Sound.mk
          (Go.SX.Tone.mk (Go.SX.wr2 (BitVec.ofInt (8 : Nat) (223 : Int) == (223 : BitVec (8 : Nat)))).t0.p
            (Go.SX.wr2 (BitVec.ofInt (8 : Nat) (223 : Int) == (223 : BitVec (8 : Nat)))).t0.c Bool.true)
          (Go.SX.wr2 (BitVec.ofInt (8 : Nat) (223 : Int) == (223 : BitVec (8 : Nat)))).t1
          (Go.SX.wr2 (BitVec.ofInt (8 : Nat) (223 : Int) == (223 : BitVec (8 : Nat)))).t2
          (Go.SX.wr2 (BitVec.ofInt (8 : Nat) (223 : Int) == (223 : BitVec (8 : Nat)))).n
          (Go.SX.wr2 (BitVec.ofInt (8 : Nat) (223 : Int) == (223 : BitVec (8 : Nat)))).q0
          (Go.SX.wr2 (BitVec.ofInt (8 : Nat) (223 : Int) == (223 : BitVec (8 : Nat)))).q1
          (Go.SX.wr2 (BitVec.ofInt (8 : Nat) (223 : Int) == (223 : BitVec (8 : Nat)))).q2
          (Go.SX.wr2 (BitVec.ofInt (8 : Nat) (223 : Int) == (223 : BitVec (8 : Nat)))).q3
          (Go.SX.wr2 (BitVec.ofInt (8 : Nat) (223 : Int) == (223 : BitVec (8 : Nat)))).l)
      (Go.SX.Out.need ((1 : Int) = (↑(BitVec.ofInt (8 : Nat) (1 : Int)).toNat : Int))
        (Go.SX.Out.need ((Go.SX.volume (BitVec.ofInt (8 : Nat) (1 : Int)) == (6507 : Int)) = Bool.true)
          (Go.SX.Out.leaf Go.SX.Ex.ret (Go.SX.St.mk [] [] (0 : Nat))))))) := by kernel_rfl

end Go.SX
