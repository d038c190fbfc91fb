/- The operations together, regions, and code. -/
import Derived.Test.YtehgcepifegjiaaSXI
namespace Go.SX
variable {R : Reg} {P : Program}

/-- one thing as a list of one -/
def arr1 : W R → Option (Arr R)
  | .v (.s (.b8 x)) => some (.a8 fun _ => x)
  | .v (.s (.b32 x)) => some (.a32 fun _ => x)
  | .v (.s (.int x)) => some (.ai fun _ => x)
  | .v (.s (.bool x)) => some (.ab fun _ => x)
  | .v (.s (.kn .i64 x)) => some (.ai fun _ => x)
  | .v (.agg [.obj k x]) => some (.rows k fun _ => x)
  | _ => none

theorem arr1_ok {x : W R} {a : Arr R} (h : arr1 x = some a) {ids : Nm} {v : Value} (hx : WOk ids x v) {J : Tot} (hJ : Le ids J) : v.cells.toList = lcells J a 1 ∧ (a.at 0).length = a.esz := by
  refine ⟨?_, at_len _ _⟩
  unfold arr1 at h
  split at h <;> simp only [Option.some.injEq, reduceCtorEq] at h <;> subst h <;> have hv := hx.v hJ <;> subst hv <;>
    simp [denV, den, Value.cells, lcells, Arr.at, List.range_succ, flat, flatI]

def doSlice1 (ti : TI R) (x : W R) (nb : Nat) : Option (Res R) :=
  match ti.k, arr1 x with
  | .slice e esz _ _, some a => match Nat.beq a.esz esz, Nat.ble esz 1024, Nat.blt 0 esz with
    | true, true, true => some ⟨none, .v (.s (.sl nb)), [], [.lst a 1 true e]⟩
    | _, _, _ => none
  | _, _ => none

theorem fold_set (off : Nat) : ∀ (vs : List Value) (k : Nat) (acc : Array Value), off + k + vs.length ≤ acc.size →
    ((vs.zipIdx k).foldl (fun cs (p : Value × Nat) => cs.setIfInBounds (off + p.2) p.1) acc).toList = acc.toList.take (off + k) ++ vs ++ acc.toList.drop (off + k + vs.length)
  | [], k, acc, h => by simp
  | x :: l, k, acc, h => by
    simp only [List.zipIdx_cons, List.foldl_cons, List.length_cons] at h ⊢
    rw [fold_set off l (k + 1) _ (by simp; omega), Array.toList_setIfInBounds]
    have := list_seg_step acc.toList (off + k) x l (by simp; omega)
    rw [show off + (k + 1) = off + k + 1 by omega]
    exact this

theorem fill_step (place : Nat → Option (Nat × Nat)) (i off size : Nat) (hp : place i = some (off, size)) (cells : Array Value) (v : Value) (hv : v.cells.size = size) (hfit : off + size ≤ cells.size) (rest : List (Nat × Value)) :
    Instr.fill place cells ((i, v) :: rest) = Instr.fill place (cells.toList.take off ++ (v.cells.toList ++ cells.toList.drop (off + size))).toArray rest := by
  have h1 : ¬ (v.cells.size ≠ size ∨ off + v.cells.size > cells.size) := by omega
  have h2 : v.cells.zipIdx.foldl (fun cs (p : Value × Nat) => cs.setIfInBounds (off + p.2) p.1) cells = (cells.toList.take off ++ (v.cells.toList ++ cells.toList.drop (off + size))).toArray := by
    rw [← Array.foldl_toList, Array.toList_zipIdx]
    apply Array.ext'
    rw [fold_set off v.cells.toList 0 cells (by simp; omega)]
    simp [hv]
  simp only [Instr.fill, hp]
  rw [if_neg (by simpa using h1)]
  rw [← h2]

theorem doSlice1_ok {t : Nat} {ti : TI R} (hti : TIok P t ti) {ids : Nm} {ob : Ob R} {nb : Nat} (hfree : ids nb = none) {w : World} (ho : ObOk ids ob w) {x : W R} {v : Value} (hx : WOk ids x v) {r : Res R}
    (h : doSlice1 ti x nb = some r) : ResOk ids ob nb w r ((do pure (.value (← Instr.buildSlice t 1 #[(0, v)])) : Sem Next).run P w) := by
  unfold doSlice1 at h
  obtain ⟨d, hd, ha, hdk⟩ := hti.desc
  split at h
  · rename_i e esz eagg eb a hk ha1
    rw [hk] at hdk
    cases d <;> simp only [TKok] at hdk
    obtain ⟨rfl, h2, h3, h4, z, hz, hzs⟩ := hdk
    split at h
    · rename_i hbe hle hpos
      have hpos' : 0 < esz := Nat.le_of_ble_eq_true hpos
      have hbe' : a.esz = esz := Nat.eq_of_beq_eq_true hbe
      have hle' : esz ≤ 1024 := Nat.le_of_ble_eq_true hle
      simp only [Option.some.injEq] at h; subst h
      have hcells := fun {J : Tot} (hJ : Le ids J) => (arr1_ok ha1 hx hJ).1
      have hsz : v.cells.size = esz := by
        have := congrArg List.length (hcells (Le_tot ids)); rw [lcells_len] at this; simp at this; omega
      have hrow : ((Array.range (1 * esz)).map (z.cells[· % z.cells.size]!)).size = esz := by simp
      refine pushRes hfree ho (o := .cells v.cells e) (pl := ⟨0, some ⟨w.heap.size, 0, none⟩, 1, 1⟩) (v := .slice (some ⟨w.heap.size, 0, none⟩) 1 1) ?_ ?_ ?_ ?_
      · refine ⟨v.cells.toList, ⟨by simp [hsz, hbe'], .inr ⟨w.heap.size, 1, v.cells, rfl, Nat.zero_le _, heap_alloc_new w _, Nat.le_refl _, by unfold maxLen; omega, by rw [hsz, hbe']; omega, ?_⟩⟩, fun J hJ => ?_⟩
        · rw [List.take_of_length_le]; simp [hsz, hbe']
        · exact hcells ((LeN.setN hfree _).le hJ)
      · intro b hb; simp only [O.blk, Pl.val, Value.ownBlock, Option.some.injEq] at hb; exact hb.symm
      · intro J hJ; simp only [den, hJ.at_setN]; rfl
      · have hne : ¬ (1 * esz = 0) := by omega
        have hlim : ¬ (1 * esz > 2 ^ 24) := by omega
        have hfill : ∀ zero : Array Value, zero.size = 1 * esz → Instr.fill (fun i => some (i * esz, esz)) zero [(0, v)] = some v.cells := by
          intro zero hzz
          rw [fill_step _ 0 (0 * esz) esz rfl zero v hsz (by omega)]
          simp only [Instr.fill, Option.some.injEq]
          apply Array.ext'
          simp; omega
        have hsz2 : ∀ zero : Array Value, ((Array.range (1 * esz)).map (zero[· % zero.size]!)).size = 1 * esz := by intro zero; simp
        simp only [Instr.buildSlice, Sem.run_bind, run_underlying hd, Result.andThen_ok, run_sizeOf h2, if_neg hlim, if_neg hne, run_zero hz, Sem.run_pure]
        rw [hfill _ (hsz2 _)]
        simp [newRow]
    · cases h
  · cases h
end Go.SX
