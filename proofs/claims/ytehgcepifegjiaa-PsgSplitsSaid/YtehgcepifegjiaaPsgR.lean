/- The records of the sound chip. -/
import Derived.Test.YtehgcepifegjiaaSYC
namespace Go.SX
structure Tone where
  p : Int
  c : Int
  o : Bool
structure Noise where
  m : BitVec 8
  c : Int
  h : Bool
  s : BitVec 16
structure Sound where
  t0 : Tone
  t1 : Tone
  t2 : Tone
  n : Noise
  q0 : BitVec 8
  q1 : BitVec 8
  q2 : BitVec 8
  q3 : BitVec 8
  l : BitVec 8
inductive PK where
  | tone | noise | sound
  deriving DecidableEq
def PK.T : PK → Type
  | .tone => Tone
  | .noise => Noise
  | .sound => Sound
def toneC (t : Tone) : List S := [.int t.p, .int t.c, .bool t.o]
def noiseC (n : Noise) : List S := [.b8 n.m, .int n.c, .bool n.h, .b16 n.s]
def soundC (s : Sound) : List S := [.int s.t0.p, .int s.t0.c, .bool s.t0.o, .int s.t1.p, .int s.t1.c, .bool s.t1.o, .int s.t2.p, .int s.t2.c, .bool s.t2.o,
  .b8 s.n.m, .int s.n.c, .bool s.n.h, .b16 s.n.s, .b8 s.q0, .b8 s.q1, .b8 s.q2, .b8 s.q3, .b8 s.l]
def psgReg : Reg where
  K := PK
  T := PK.T
  sz := fun k => match k with
    | .tone => 3
    | .noise => 4
    | .sound => 18
  cells := fun k => match k with
    | .tone => toneC
    | .noise => noiseC
    | .sound => soundC
  len := fun k x => by cases k <;> rfl
instance : DecidableEq psgReg.K := inferInstanceAs (DecidableEq PK)
instance : RegC psgReg := ⟨fun k x J J' => by cases k <;> rfl⟩
def pkTone : List S → Option Tone
  | [.int a, .int b, .bool c] => some ⟨a, b, c⟩
  | _ => none
def pkNoise : List S → Option Noise
  | [.b8 a, .int b, .bool c, .b16 d] => some ⟨a, b, c, d⟩
  | _ => none
def pkSound : List S → Option Sound
  | [.int a0, .int a1, .bool a2, .int b0, .int b1, .bool b2, .int c0, .int c1, .bool c2, .b8 n0, .int n1, .bool n2, .b16 n3, .b8 q0, .b8 q1, .b8 q2, .b8 q3, .b8 l] =>
      some ⟨⟨a0, a1, a2⟩, ⟨b0, b1, b2⟩, ⟨c0, c1, c2⟩, ⟨n0, n1, n2, n3⟩, q0, q1, q2, q3, l⟩
  | _ => none
theorem pkTone_ok {l : List S} {x : Tone} (h : pkTone l = some x) : l = toneC x := by
  unfold pkTone at h; split at h <;> cases h; rfl
theorem pkNoise_ok {l : List S} {x : Noise} (h : pkNoise l = some x) : l = noiseC x := by
  unfold pkNoise at h; split at h <;> cases h; rfl
theorem pkSound_ok {l : List S} {x : Sound} (h : pkSound l = some x) : l = soundC x := by
  unfold pkSound at h; split at h <;> cases h; rfl
instance : RegP psgReg where
  pk := fun k cs => match k with
    | .tone => pkTone (cs.map nrm)
    | .noise => pkNoise (cs.map nrm)
    | .sound => pkSound (cs.map nrm)
  ok := by
    intro k cs x h J
    rw [← nrms_ok]
    cases k with
    | tone => rw [pkTone_ok h]; rfl
    | noise => rw [pkNoise_ok h]; rfl
    | sound => rw [pkSound_ok h]; rfl
end Go.SX
