/- The sound chip's steps: what the code makes, against plain functions. -/
import Derived.Test.YtehgcepifegjiaaP1
namespace Go.SX
open Go.Proofs
def oT (t : Tone) : W psgReg := oO PK.tone t
def oN (t : Noise) : W psgReg := oO PK.noise t
def oS (t : Sound) : W psgReg := oO PK.sound t
def wT : W psgReg → Option Tone := wO (R := psgReg) PK.tone
def wN : W psgReg → Option Noise := wO (R := psgReg) PK.noise
def wS : W psgReg → Option Sound := wO (R := psgReg) PK.sound
def Tone.step (t : Tone) : Tone × Bool := if 1 < t.c then (⟨t.p, w64 (t.c - 1), t.o⟩, false) else if t.p < 2 then (⟨t.p, max t.p 1, true⟩, false) else (⟨t.p, max t.p 1, !t.o⟩, true)
def cToneStep := mk (R := psgReg) Tone (fun t => [oT t]) (fun t => .tup [.agg [.obj PK.tone t.step.1], .s (.bool t.step.2)])
def Tone.right (t : Tone) : Bool := decide (0 ≤ t.p ∧ t.p ≤ 1023 ∧ 0 ≤ t.c ∧ t.c ≤ 1023)
def cToneRight := mk (R := psgReg) Tone (fun t => [oT t]) (fun t => oB t.right)
def Noise.right (t : Noise) : Bool := t.m.ule 7 && decide (0 ≤ t.c) && decide (t.c ≤ 64) && (t.s != 0)
def cNoiseRight := mk (R := psgReg) Noise (fun t => [oN t]) (fun t => oB t.right)
def Noise.set (n : Noise) (m : BitVec 8) : Noise := ⟨m &&& 7, n.c, n.h, 0x8000⟩
def cNoiseSet := mk (R := psgReg) (Noise × BitVec 8) (fun t => [oN t.1, o8 t.2]) (fun t => oN (t.1.set t.2))
def Noise.out (t : Noise) : Bool := t.s &&& 1 == 1
def cNoiseOut := mk (R := psgReg) Noise (fun t => [oN t]) (fun t => oB t.out)
def noiseMove (s : BitVec 16) (w : Bool) : BitVec 16 := s >>> 1 ||| (if w then (s &&& 1) ^^^ (s >>> 3 &&& 1) else s &&& 1) <<< 15
def cNoiseMove := mk (R := psgReg) (BitVec 16 × Bool) (fun t => [o16 t.1, oB t.2]) (fun t => o16 (noiseMove t.1 t.2))
def Noise.turn (n : Noise) (c : Int) : Noise := ⟨n.m, c, !n.h, if n.h then n.s else noiseMove n.s (n.m &&& 4 != 0)⟩
def Noise.step (n : Noise) (b : Bool) : Noise :=
  if n.m &&& 3 == 3 then (if b then n.turn n.c else n) else if 1 < n.c then ⟨n.m, w64 (n.c - 1), n.h, n.s⟩ else n.turn (w64 (16 <<< (n.m &&& 3).toNat))
def cNoiseStep := mk (R := psgReg) (Noise × Bool) (fun t => [oN t.1, oB t.2]) (fun t => oN (t.1.step t.2))

def calls1 : List (Nat × Spec psgReg) := [(17, sp cToneStep (d1 wT)), (12, sp cToneRight (d1 wT)), (13, sp cNoiseRight (d1 wN)), (15, sp cNoiseSet (d2 wN w8)), (16, sp cNoiseOut (d1 wN)), (19, sp cNoiseMove (d2 w16 wB))]

theorem f17_tree (t : Tone) : cToneStep.T psgTab [] Try.f17 t = Go.SX.Out.ite (Decidable.decide ((1 : Int) < t.c))
  (Go.SX.Out.need (Go.SX.Tone.mk t.p (Go.SX.w64 (t.c - (1 : Int))) t.o = t.step.fst)
    (Go.SX.Out.need (Bool.false = t.step.snd) (Go.SX.Out.leaf Go.SX.Ex.ret (Go.SX.St.mk [] [] (0 : Nat)))))
  (Go.SX.Out.ite (Decidable.decide (t.p < (2 : Int)))
    (Go.SX.Out.need (Go.SX.Tone.mk t.p (Max.max t.p (1 : Int)) Bool.true = t.step.fst)
      (Go.SX.Out.need (Bool.false = t.step.snd) (Go.SX.Out.leaf Go.SX.Ex.ret (Go.SX.St.mk [] [] (0 : Nat)))))
    (Go.SX.Out.need ((Go.SX.Tone.mk t.p (Max.max t.p (1 : Int)) !t.o) = t.step.fst)
      (Go.SX.Out.need (Bool.true = t.step.snd) (Go.SX.Out.leaf Go.SX.Ex.ret (Go.SX.St.mk [] [] (0 : Nat)))))) := by kernel_rfl

theorem f12_tree (t : Tone) : cToneRight.T psgTab [] Try.f12 t = Go.SX.Out.ite (Decidable.decide ((0 : Int) ≤ t.p))
  (Go.SX.Out.ite (Decidable.decide (t.p ≤ (1023 : Int)))
    (Go.SX.Out.ite (Decidable.decide ((0 : Int) ≤ t.c))
      (Go.SX.Out.need (Decidable.decide (t.c ≤ (1023 : Int)) = t.right)
        (Go.SX.Out.leaf Go.SX.Ex.ret (Go.SX.St.mk [] [] (0 : Nat))))
      (Go.SX.Out.need (Bool.false = t.right) (Go.SX.Out.leaf Go.SX.Ex.ret (Go.SX.St.mk [] [] (0 : Nat)))))
    (Go.SX.Out.need (Bool.false = t.right) (Go.SX.Out.leaf Go.SX.Ex.ret (Go.SX.St.mk [] [] (0 : Nat)))))
  (Go.SX.Out.need (Bool.false = t.right) (Go.SX.Out.leaf Go.SX.Ex.ret (Go.SX.St.mk [] [] (0 : Nat)))) := by kernel_rfl

theorem f13_tree (t : Noise) : cNoiseRight.T psgTab [] Try.f13 t = Go.SX.Out.ite (t.m.ule (BitVec.ofInt (8 : Nat) (7 : Int)))
  (Go.SX.Out.ite (Decidable.decide ((0 : Int) ≤ t.c))
    (Go.SX.Out.ite (Decidable.decide (t.c ≤ (64 : Int)))
      (Go.SX.Out.need ((t.s != BitVec.ofInt (16 : Nat) (0 : Int)) = t.right)
        (Go.SX.Out.leaf Go.SX.Ex.ret (Go.SX.St.mk [] [] (0 : Nat))))
      (Go.SX.Out.need (Bool.false = t.right) (Go.SX.Out.leaf Go.SX.Ex.ret (Go.SX.St.mk [] [] (0 : Nat)))))
    (Go.SX.Out.need (Bool.false = t.right) (Go.SX.Out.leaf Go.SX.Ex.ret (Go.SX.St.mk [] [] (0 : Nat)))))
  (Go.SX.Out.need (Bool.false = t.right) (Go.SX.Out.leaf Go.SX.Ex.ret (Go.SX.St.mk [] [] (0 : Nat)))) := by kernel_rfl

theorem f15_tree (t : Noise × BitVec 8) : cNoiseSet.T psgTab [] Try.f15 t = Go.SX.Out.need
  (Go.SX.Noise.mk (t.snd &&& BitVec.ofInt (8 : Nat) (7 : Int)) t.fst.c t.fst.h (BitVec.ofInt (16 : Nat) (32768 : Int)) =
    t.fst.set t.snd)
  (Go.SX.Out.leaf Go.SX.Ex.ret (Go.SX.St.mk [] [] (0 : Nat))) := by kernel_rfl

theorem f16_tree (t : Noise) : cNoiseOut.T psgTab [] Try.f16 t = Go.SX.Out.need ((t.s &&& BitVec.ofInt (16 : Nat) (1 : Int) == BitVec.ofInt (16 : Nat) (1 : Int)) = t.out)
  (Go.SX.Out.leaf Go.SX.Ex.ret (Go.SX.St.mk [] [] (0 : Nat))) := by kernel_rfl

theorem f19_tree (t : BitVec 16 × Bool) : cNoiseMove.T psgTab [] Try.f19 t = Go.SX.Out.ite t.snd
  (Go.SX.Out.need
    (t.fst >>> Int.toNat (1 : Int) |||
        (t.fst &&& BitVec.ofInt (16 : Nat) (1 : Int) ^^^
            t.fst >>> Int.toNat (3 : Int) &&& BitVec.ofInt (16 : Nat) (1 : Int)) <<<
          Int.toNat (15 : Int) =
      Go.SX.noiseMove t.fst t.snd)
    (Go.SX.Out.leaf Go.SX.Ex.ret (Go.SX.St.mk [] [] (0 : Nat))))
  (Go.SX.Out.need
    (t.fst >>> Int.toNat (1 : Int) ||| (t.fst &&& BitVec.ofInt (16 : Nat) (1 : Int)) <<< Int.toNat (15 : Int) =
      Go.SX.noiseMove t.fst t.snd)
    (Go.SX.Out.leaf Go.SX.Ex.ret (Go.SX.St.mk [] [] (0 : Nat)))) := by kernel_rfl

theorem f18_tree (t : Noise × Bool) : cNoiseStep.T psgTab calls1 Try.f18 t = Go.SX.Out.ite (t.fst.m &&& BitVec.ofInt (8 : Nat) (3 : Int) == BitVec.ofInt (8 : Nat) (3 : Int))
  (Go.SX.Out.ite (!t.snd)
    (Go.SX.Out.need (t.1 = t.fst.step t.snd) (Go.SX.Out.leaf Go.SX.Ex.ret (Go.SX.St.mk [] [] (0 : Nat))))
    (Go.SX.Out.ite (t.fst.m &&& BitVec.ofInt (8 : Nat) (3 : Int) == BitVec.ofInt (8 : Nat) (3 : Int))
      (Go.SX.Out.ite (!t.fst.h)
        (Go.SX.Out.need
          (t.fst.s = t.fst.s ∧
            (t.fst.m &&& BitVec.ofInt (8 : Nat) (4 : Int) != BitVec.ofInt (8 : Nat) (0 : Int)) =
              (t.fst.m &&& BitVec.ofInt (8 : Nat) (4 : Int) != BitVec.ofInt (8 : Nat) (0 : Int)))
          (Go.SX.Out.need
            (Go.SX.Noise.mk t.fst.m t.fst.c (!t.fst.h)
                (Go.SX.noiseMove t.fst.s
                  (t.fst.m &&& BitVec.ofInt (8 : Nat) (4 : Int) != BitVec.ofInt (8 : Nat) (0 : Int))) =
              t.fst.step t.snd)
            (Go.SX.Out.leaf Go.SX.Ex.ret (Go.SX.St.mk [] [] (0 : Nat)))))
        (Go.SX.Out.need (Go.SX.Noise.mk t.fst.m t.fst.c (!t.fst.h) t.fst.s = t.fst.step t.snd)
          (Go.SX.Out.leaf Go.SX.Ex.ret (Go.SX.St.mk [] [] (0 : Nat)))))
      (Go.SX.Out.ite (Decidable.decide ((1 : Int) < t.fst.c))
        (Go.SX.Out.need (Go.SX.Noise.mk t.fst.m (Go.SX.w64 (t.fst.c - (1 : Int))) t.fst.h t.fst.s = t.fst.step t.snd)
          (Go.SX.Out.leaf Go.SX.Ex.ret (Go.SX.St.mk [] [] (0 : Nat))))
        (Go.SX.Out.ite (!t.fst.h)
          (Go.SX.Out.need
            (t.fst.s = t.fst.s ∧
              (t.fst.m &&& BitVec.ofInt (8 : Nat) (4 : Int) != BitVec.ofInt (8 : Nat) (0 : Int)) =
                (t.fst.m &&& BitVec.ofInt (8 : Nat) (4 : Int) != BitVec.ofInt (8 : Nat) (0 : Int)))
            (Go.SX.Out.need
              (Go.SX.Noise.mk t.fst.m
                  (Go.SX.w64
                    ((16 : Int) * (2 : Int) ^ Min.min (t.fst.m &&& BitVec.ofInt (8 : Nat) (3 : Int)).toNat (64 : Nat)))
                  (!t.fst.h)
                  (Go.SX.noiseMove t.fst.s
                    (t.fst.m &&& BitVec.ofInt (8 : Nat) (4 : Int) != BitVec.ofInt (8 : Nat) (0 : Int))) =
                t.fst.step t.snd)
              (Go.SX.Out.leaf Go.SX.Ex.ret (Go.SX.St.mk [] [] (0 : Nat)))))
          (Go.SX.Out.need
            (Go.SX.Noise.mk t.fst.m
                (Go.SX.w64
                  ((16 : Int) * (2 : Int) ^ Min.min (t.fst.m &&& BitVec.ofInt (8 : Nat) (3 : Int)).toNat (64 : Nat)))
                (!t.fst.h) t.fst.s =
              t.fst.step t.snd)
            (Go.SX.Out.leaf Go.SX.Ex.ret (Go.SX.St.mk [] [] (0 : Nat))))))))
  (Go.SX.Out.ite (t.fst.m &&& BitVec.ofInt (8 : Nat) (3 : Int) == BitVec.ofInt (8 : Nat) (3 : Int))
    (Go.SX.Out.ite (!t.fst.h)
      (Go.SX.Out.need
        (t.fst.s = t.fst.s ∧
          (t.fst.m &&& BitVec.ofInt (8 : Nat) (4 : Int) != BitVec.ofInt (8 : Nat) (0 : Int)) =
            (t.fst.m &&& BitVec.ofInt (8 : Nat) (4 : Int) != BitVec.ofInt (8 : Nat) (0 : Int)))
        (Go.SX.Out.need
          (Go.SX.Noise.mk t.fst.m t.fst.c (!t.fst.h)
              (Go.SX.noiseMove t.fst.s
                (t.fst.m &&& BitVec.ofInt (8 : Nat) (4 : Int) != BitVec.ofInt (8 : Nat) (0 : Int))) =
            t.fst.step t.snd)
          (Go.SX.Out.leaf Go.SX.Ex.ret (Go.SX.St.mk [] [] (0 : Nat)))))
      (Go.SX.Out.need (Go.SX.Noise.mk t.fst.m t.fst.c (!t.fst.h) t.fst.s = t.fst.step t.snd)
        (Go.SX.Out.leaf Go.SX.Ex.ret (Go.SX.St.mk [] [] (0 : Nat)))))
    (Go.SX.Out.ite (Decidable.decide ((1 : Int) < t.fst.c))
      (Go.SX.Out.need (Go.SX.Noise.mk t.fst.m (Go.SX.w64 (t.fst.c - (1 : Int))) t.fst.h t.fst.s = t.fst.step t.snd)
        (Go.SX.Out.leaf Go.SX.Ex.ret (Go.SX.St.mk [] [] (0 : Nat))))
      (Go.SX.Out.ite (!t.fst.h)
        (Go.SX.Out.need
          (t.fst.s = t.fst.s ∧
            (t.fst.m &&& BitVec.ofInt (8 : Nat) (4 : Int) != BitVec.ofInt (8 : Nat) (0 : Int)) =
              (t.fst.m &&& BitVec.ofInt (8 : Nat) (4 : Int) != BitVec.ofInt (8 : Nat) (0 : Int)))
          (Go.SX.Out.need
            (Go.SX.Noise.mk t.fst.m
                (Go.SX.w64
                  ((16 : Int) * (2 : Int) ^ Min.min (t.fst.m &&& BitVec.ofInt (8 : Nat) (3 : Int)).toNat (64 : Nat)))
                (!t.fst.h)
                (Go.SX.noiseMove t.fst.s
                  (t.fst.m &&& BitVec.ofInt (8 : Nat) (4 : Int) != BitVec.ofInt (8 : Nat) (0 : Int))) =
              t.fst.step t.snd)
            (Go.SX.Out.leaf Go.SX.Ex.ret (Go.SX.St.mk [] [] (0 : Nat)))))
        (Go.SX.Out.need
          (Go.SX.Noise.mk t.fst.m
              (Go.SX.w64
                ((16 : Int) * (2 : Int) ^ Min.min (t.fst.m &&& BitVec.ofInt (8 : Nat) (3 : Int)).toNat (64 : Nat)))
              (!t.fst.h) t.fst.s =
            t.fst.step t.snd)
          (Go.SX.Out.leaf Go.SX.Ex.ret (Go.SX.St.mk [] [] (0 : Nat))))))) := by kernel_rfl

end Go.SX
