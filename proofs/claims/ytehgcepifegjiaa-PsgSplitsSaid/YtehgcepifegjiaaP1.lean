/- A part of the proof. -/
import Derived.Test.YtehgcepifegjiaaPsgR
import Derived.Test.YtehgcepifegjiaaChecked
namespace Go.SX
open Go.Proofs
def i0 : I psgReg := .s (.kn .i64 0)
def b0 : I psgReg := .s (.kb false)
def u0 : I psgReg := .s (.kn .u8 0)
def toneZ : List (I psgReg) := [i0, i0, b0]
def noiseZ : List (I psgReg) := [u0, i0, b0, .s (.kn .u16 0)]
def kTone : Ks := [some .i64, some .i64, none]
def kNoise : Ks := [some .u8, some .i64, none, some .u16]
def k8 : Option IntKind := some .u8
def psgTab : List (Nat × TI psgReg) := [
  (3, ⟨1, false, .int .i64, [i0], none⟩),
  (4, ⟨1, false, .bool, [b0], none⟩),
  (5, ⟨1, false, .int .u8, [u0], none⟩),
  (25, ⟨1, false, .int .u16, [.s (.kn .u16 0)], none⟩),
  (23, ⟨3, true, .struct [(0,1,false),(1,1,false),(2,1,false)], toneZ, some kTone⟩),
  (24, ⟨9, true, .array 3 3 true, toneZ ++ toneZ ++ toneZ, some (kTone ++ kTone ++ kTone)⟩),
  (27, ⟨4, true, .struct [(0,1,false),(1,1,false),(2,1,false),(3,1,false)], noiseZ, some kNoise⟩),
  (28, ⟨4, true, .array 4 1 false, [u0, u0, u0, u0], some [k8, k8, k8, k8]⟩),
  (30, ⟨18, true, .struct [(0,9,true),(9,4,true),(13,4,true),(17,1,false)], toneZ ++ toneZ ++ toneZ ++ noiseZ ++ [u0, u0, u0, u0, u0], some (kTone ++ kTone ++ kTone ++ kNoise ++ [k8, k8, k8, k8, k8])⟩),
  (31, ⟨4, true, .array 4 1 false, [i0, i0, i0, i0], none⟩),
  (34, ⟨1, false, .slice 3 1 false 8, [.s .nils], none⟩),
  (48, ⟨4, true, .array 4 1 false, [b0, b0, b0, b0], none⟩),
  (49, ⟨16, true, .array 16 1 false, [i0, i0, i0, i0, i0, i0, i0, i0, i0, i0, i0, i0, i0, i0, i0, i0], none⟩)]
theorem psgTab_ok : tabB Try.prog psgTab = true := by kernel_rfl
end Go.SX
