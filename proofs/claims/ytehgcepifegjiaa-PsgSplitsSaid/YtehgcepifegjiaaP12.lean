/- The row. -/
import Derived.Test.YtehgcepifegjiaaSYE
import Derived.Test.YtehgcepifegjiaaP11
import Derived.Test.YtehgcepifegjiaaRows
namespace Go.Proofs.Ytehgcepifegjiaa
open Go.SX
open Go.ChangeShapes Go.WideShapes Go.ChangeAt Go.RowKit
theorem own : ownKnob Try.prog.godebug = none := by kernel_rfl
theorem laidOut : laidOutB Try.prog = true := by kernel_rfl
theorem cells30 : Try.prog.cellsOf 30 = 18 := by kernel_rfl
theorem cells31 : Try.prog.cellsOf 31 = 4 := by kernel_rfl
theorem ks30 : ksOf Try.prog 9 30 = some (kTone ++ kTone ++ kTone ++ kNoise ++ [k8, k8, k8, k8, k8]) := by kernel_rfl
theorem ks31 : ksOf Try.prog 9 31 = some [some .i64, some .i64, some .i64, some .i64] := by kernel_rfl
theorem read30 : Try.prog.readableRec 30 = true := by kernel_rfl
theorem read31 : Try.prog.readableRec 31 = true := by kernel_rfl

theorem sound_of {cs : List Value} (h : CellsFit (kTone ++ kTone ++ kTone ++ kNoise ++ [k8, k8, k8, k8, k8]) cs) : ∃ s : Sound, ∀ J, cs = (soundC s).map (den J) := by
  simp only [kTone, kNoise, k8, List.cons_append, List.nil_append] at h
  cases h with | cons a0 h => cases h with | cons a1 h => cases h with | cons a2 h => cases h with | cons b0 h => cases h with | cons b1 h => cases h with | cons b2 h =>
  cases h with | cons c0 h => cases h with | cons c1 h => cases h with | cons c2 h => cases h with | cons n0 h => cases h with | cons n1 h => cases h with | cons n2 h => cases h with | cons n3 h =>
  cases h with | cons q0 h => cases h with | cons q1 h => cases h with | cons q2 h => cases h with | cons q3 h => cases h with | cons l h => cases h with | nil =>
  obtain ⟨a0, rfl, _⟩ := a0; obtain ⟨a1, rfl, _⟩ := a1; obtain ⟨a2, rfl⟩ := a2
  obtain ⟨b0, rfl, _⟩ := b0; obtain ⟨b1, rfl, _⟩ := b1; obtain ⟨b2, rfl⟩ := b2
  obtain ⟨c0, rfl, _⟩ := c0; obtain ⟨c1, rfl, _⟩ := c1; obtain ⟨c2, rfl⟩ := c2
  obtain ⟨n0, rfl, w0⟩ := n0; obtain ⟨n1, rfl, _⟩ := n1; obtain ⟨n2, rfl⟩ := n2; obtain ⟨n3, rfl, w3⟩ := n3
  obtain ⟨q0, rfl, v0⟩ := q0; obtain ⟨q1, rfl, v1⟩ := q1; obtain ⟨q2, rfl, v2⟩ := q2; obtain ⟨q3, rfl, v3⟩ := q3; obtain ⟨l, rfl, v4⟩ := l
  obtain ⟨m0, e0⟩ := wf_b8 w0; obtain ⟨m3, e3⟩ := wf_b16 w3
  obtain ⟨p0, f0⟩ := wf_b8 v0; obtain ⟨p1, f1⟩ := wf_b8 v1; obtain ⟨p2, f2⟩ := wf_b8 v2; obtain ⟨p3, f3⟩ := wf_b8 v3; obtain ⟨p4, f4⟩ := wf_b8 v4
  rw [e0, e3, f0, f1, f2, f3, f4]
  exact ⟨⟨⟨a0, a1, a2⟩, ⟨b0, b1, b2⟩, ⟨c0, c1, c2⟩, ⟨m0, n1, n2, m3⟩, p0, p1, p2, p3, p4⟩, fun J => rfl⟩
theorem four_of {cs : List Value} (h : CellsFit [some .i64, some .i64, some .i64, some .i64] cs) : ∃ a b c d : Int, cs = [.int .i64 a, .int .i64 b, .int .i64 c, .int .i64 d] := by
  cases h with | cons a h => cases h with | cons b h => cases h with | cons c h => cases h with | cons d h => cases h with | nil =>
  obtain ⟨a, rfl, _⟩ := a; obtain ⟨b, rfl, _⟩ := b; obtain ⟨c, rfl, _⟩ := c; obtain ⟨d, rfl, _⟩ := d
  exact ⟨a, b, c, d, rfl⟩
theorem okWide_array {P : Program} {w : World} {r : Reach} {base : Nat} {t : TypeId} {v : Value} {n : Nat} {e : TypeId} (ht : P.underlying t = some (.array n e)) (h : Value.okWide P w r base t v) : ∃ cs, v = .agg cs ∧ cs.size = P.cellsOf t := by
  simp only [Value.okWide, ht] at h
  obtain ⟨cs, h1, h2, _⟩ := h
  exact ⟨cs, h1, h2⟩

theorem walk (s : Sound) (a b c d : Int) (w : World) (c0 : Array Value) (h0 : ∀ J, c0.toList = (soundC s).map (den J)) :
    Calls Try.prog 3 #[.agg c0, .agg #[.int .i64 a, .int .i64 b, .int .i64 c, .int .i64 d]] w fun e w' => e = .returned (.bool true) ∧ Kept w w' := by
  have e0 : ∀ J, c0 = ((soundC s).map (den J)).toArray := fun J => by rw [← h0 J]
  have h := k3 ⟨s, a, b, c, d⟩ trivial (fun _ => none) w [.agg c0, .agg #[.int .i64 a, .int .i64 b, .int .i64 c, .int .i64 d]]
    ⟨fun o x h hn => absurd h.symm (by simpa [getO, cSpl, mk] using hn), fun o o' p p' b' _ h => by cases h⟩ (fun _ _ => rfl)
    ⟨fun J _ => by rw [e0 J]; simp [denW, denV, flat, flatI, psgReg, oS, oO], fun J _ => rfl, trivial⟩
  rcases h with ⟨_, h⟩ | ⟨v, w', h, _⟩
  · refine h.mono fun e w' ⟨v, he, ids', hv, _, _, _, hf⟩ => ?_
    have : v = .bool true := hv (tot ids') (Le_tot ids')
    subst this
    exact ⟨he, fr_kept hf (fun b ⟨o, p, h1, _⟩ => by cases h1)⟩
  · rw [Try.call3] at h; cases h

set_option maxRecDepth 100000 in
theorem lifted (os : Os) (started : os.Started) (H : Type) (enc : TypeId × Value → H) :
    ReturnsInHanded {} Try.checked os 3 .any (Rows.psgSplitsSpec.pre6 enc Try.prog Try.f3 Rows.psgSplitsRow.domain false) (Rows.psgSplitsSpec.post enc Try.prog Try.f3 false true false false) := by
  refine returnsInHanded_of_change (C := Try.checked) own started (by kernel_rfl) Try.func3
    (ChangeSpec.witness6 (enc := enc) (C := Try.checked) false ⟨#[], #[.agg #[.int .i64 0, .int .i64 0, .bool false, .int .i64 0, .int .i64 0, .bool false, .int .i64 0, .int .i64 0, .bool false, .int .u8 0, .int .i64 0, .bool false, .int .u16 0, .int .u8 0, .int .u8 0, .int .u8 0, .int .u8 0, .int .u8 0], .agg #[.int .i64 0, .int .i64 0, .int .i64 0, .int .i64 0]], []⟩ 8 (by kernel_rfl) (by kernel_rfl) (by kernel_rfl) (by kernel_rfl)) ?_
  intro W base args ds gs before hval0 hW hcnd _
  have hval : ∀ (j : Nat) t v, Try.f3.params[j]? = some t → args[j]? = some v → Value.okWide Try.prog W .any base t v := hval0
  have hW' := hW
  obtain ⟨p, q, hA0, hV, rfl, hfz, hnd⟩ := hW
  have hA : DataW.TrodAll enc Try.prog W 0 (fun _ => true) true Try.f3.params.toList args.toList ds p := hA0
  rw [Try.params3] at hA hval
  obtain ⟨v0, vs0, d0, ds0, p0, q0, hargs, rfl, rfl, h0, r0⟩ := trodAll_cons hA
  obtain ⟨v1, vs1, d1, ds1, p1, q1, rfl, rfl, rfl, h1, r1⟩ := trodAll_cons r0
  obtain ⟨rfl, rfl, rfl⟩ := trodAll_nil r1
  obtain rfl : args = #[v0, v1] := by cases args; simp_all
  obtain ⟨rfl, rfl⟩ := trodVars_none hV
  obtain ⟨c0, rfl, z0⟩ := okWide_struct Try.underlying30 (hval 0 30 v0 rfl rfl)
  obtain ⟨c1, rfl, z1⟩ := okWide_array Try.underlying31 (hval 1 31 v1 rfl rfl)
  rw [cells30] at z0
  rw [cells31] at z1
  obtain ⟨fu0, f0⟩ := id h0
  obtain ⟨fu1, f1⟩ := id h1
  obtain ⟨e0, k0⟩ := trod_ks 9 30 _ ks30 cells30 fu0 _ _ z0 f0
  obtain ⟨e1, k1⟩ := trod_ks 9 31 _ ks31 cells31 fu1 _ _ z1 f1
  simp only at e0 e1
  subst e0; subst e1
  obtain ⟨s, hs⟩ := sound_of k0
  obtain ⟨a, b, c, d, hn⟩ := four_of k1
  have hn' : c1 = #[.int .i64 a, .int .i64 b, .int .i64 c, .int .i64 d] := by
    cases c1; simp only at hn; simp only [hn]
  subst hn'
  clear hA0 hval0
  refine (walk s a b c d W c0 hs).mono fun e W' ⟨he, hg⟩ => ?_
  subst he
  refine ⟨_, rfl, post_of_kept (pa := []) (pv := []) hW' (fun _ _ _ => trodAll_cons_mk (shut_bool Try.underlying4 _) trodAll_mk0) (fun sp _ => ?_) (fun _ _ => rfl) rfl hg (ok_one (by kernel_rfl) rfl (okWide_bool_mk Try.underlying4 _))⟩
  exact trodAll_cons_mk (WideElems.Trod_stays laidOut read30 (of_decide_eq_true (by kernel_rfl)) h0 (fun p hp => by cases hp) (fun p hp => by cases hp)) (trodAll_cons_mk (WideElems.Trod_stays laidOut read31 (of_decide_eq_true (by kernel_rfl)) h1 (fun p hp => by cases hp) (fun p hp => by cases hp)) trodAll_mk0)

theorem over : Rows.psgSplitsRow.holds Try.pinned (OpenSpec.ofChange Rows.psgSplitsSpec) :=
  OpenClaim.holds_of_wide 3 Try.f3 rfl rfl rfl rfl rfl rfl rfl ⟨rfl, rfl, rfl, rfl, rfl⟩ rfl rfl rfl rfl rfl (by kernel_rfl) Try.func3 (by kernel_rfl)
    (of_decide_eq_true (by kernel_rfl)) (by unfold Func.isWrapper; first | (rw [if_pos (by decide +kernel)]; kernel_rfl) | (rw [if_neg (by decide +kernel)]; exact ⟨rfl, rfl⟩))
    (fun os started H enc _ => lifted os started H enc)

/-- steps in two parts: for every input the law returns true -/
theorem psgSplits_holds : Rows.PsgSplitsSaid :=
  over
#print axioms psgSplits_holds
end Go.Proofs.Ytehgcepifegjiaa
