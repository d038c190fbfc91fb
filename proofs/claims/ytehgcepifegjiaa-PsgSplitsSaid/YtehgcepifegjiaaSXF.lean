/- Stores and new memory. -/
import Derived.Test.YtehgcepifegjiaaSXE
namespace Go.SX
variable {R : Reg} {P : Program}

def updF {α : Type} (f : Nat → α) (i : Nat) (v : α) (j : Nat) : α := if j = i then v else f j

def Arr.set (a : Arr R) (i : Nat) (y : S) : Option (Arr R) :=
  match a with
  | .a8 f => match y.u8? with
    | some v => some (.a8 (updF f i v))
    | none => none
  | .ai f => match y.int? with
    | some v => some (.ai (updF f i v))
    | none => none
  | .a32 f => match y.u32? with
    | some v => some (.a32 (updF f i v))
    | none => none
  | .ab f => match y.bool? with
    | some v => some (.ab (updF f i v))
    | none => none
  | .rows _ _ => none

theorem set_ok {a a' : Arr R} {i : Nat} {y : S} (h : a.set i y = some a') : a.esz = 1 ∧ a'.esz = 1 ∧ (∀ j, j ≠ i → a'.at j = a.at j) ∧ ∀ I, (a'.at i).map (den I) = [den I y] := by
  cases a <;> simp only [Arr.set, reduceCtorEq] at h
  case a8 f =>
    cases hy : y.u8? <;> simp only [hy, reduceCtorEq, Option.some.injEq] at h
    subst h
    exact ⟨rfl, rfl, fun j hj => by simp [Arr.at, updF, hj], fun I => by rw [u8?_ok hy I]; simp [Arr.at, updF, den]⟩
  case ai f =>
    cases hy : y.int? <;> simp only [hy, reduceCtorEq, Option.some.injEq] at h
    subst h
    exact ⟨rfl, rfl, fun j hj => by simp [Arr.at, updF, hj], fun I => by rw [int?_ok hy I]; simp [Arr.at, updF, den]⟩
  case a32 f =>
    cases hy : y.u32? <;> simp only [hy, reduceCtorEq, Option.some.injEq] at h
    subst h
    exact ⟨rfl, rfl, fun j hj => by simp [Arr.at, updF, hj], fun I => by rw [u32?_ok hy I]; simp [Arr.at, updF, den]⟩
  case ab f =>
    cases hy : y.bool? <;> simp only [hy, reduceCtorEq, Option.some.injEq] at h
    subst h
    exact ⟨rfl, rfl, fun j hj => by simp [Arr.at, updF, hj], fun I => by rw [bool?_ok hy I]; simp [Arr.at, updF, den]⟩

theorem flat_big_set (J : Tot) {a a' : Arr R} {i n : Nat} {y : S} (h : a.set i y = some a') (hi : i < n) :
    ∃ A o B, flatI J (.big n a) = A ++ (o :: B) ∧ flatI J (.big n a') = A ++ (den J y :: B) ∧ A.length = i := by
  obtain ⟨h1, h2, hne, heq⟩ := set_ok h
  have hr : List.range n = List.range i ++ i :: (List.range' (i + 1) (n - (i + 1))) := by
    have h1 : List.range' 0 n = List.range' 0 (i + (n - i)) := by congr 1; omega
    rw [List.range_eq_range', List.range_eq_range', h1, ← List.range'_append_1, Nat.zero_add, show n - i = (n - (i + 1)) + 1 by omega, List.range'_succ]
  have hone : ∃ y0, a.at i = [y0] := by
    have := at_len a i
    rw [h1] at this
    exact List.length_eq_one_iff.1 this
  obtain ⟨y0, hy0⟩ := hone
  refine ⟨(List.range i).flatMap fun j => (a.at j).map (den J), den J y0, (List.range' (i + 1) (n - (i + 1))).flatMap fun j => (a.at j).map (den J), ?_, ?_, ?_⟩
  · simp only [flatI]; rw [hr, List.flatMap_append, List.flatMap_cons, hy0]; rfl
  · simp only [flatI]; rw [hr, List.flatMap_append, List.flatMap_cons, heq J]
    have e1 : (List.range i).flatMap (fun j => (a'.at j).map (den J)) = (List.range i).flatMap (fun j => (a.at j).map (den J)) := by
      simp only [List.flatMap_def]
      congr 1; apply List.map_congr_left; intro j hj; rw [hne j (by simp at hj; omega)]
    have e2 : (List.range' (i + 1) (n - (i + 1))).flatMap (fun j => (a'.at j).map (den J)) = (List.range' (i + 1) (n - (i + 1))).flatMap (fun j => (a.at j).map (den J)) := by
      simp only [List.flatMap_def]
      congr 1; apply List.map_congr_left; intro j hj; rw [hne j (by simp [List.mem_range'] at hj; omega)]
    rw [e1, e2]; rfl
  · have := flatI_len J (.big i a)
    simpa [flatI, I.size, h1] using this

def isz : List (I R) → Nat
  | [] => 0
  | x :: xs => x.size + isz xs
theorem isz_ok (J : Tot) (is : List (I R)) : (flat J is).length = isz is := by
  induction is with
  | nil => rfl
  | cons x xs ih => simp [isz, ih, flatI_len]

def wItems : W R → Option (List (I R))
  | .v (.s y) => some [.s y]
  | .v (.agg js) => some js
  | _ => none

theorem cells_one {v : Value} (h : v.oneCell' = true) : v.cells = #[v] := by
  cases v <;> first | rfl | (simp [Value.oneCell'] at h)

theorem wItems_ok {x : W R} {js : List (I R)} (h : wItems x = some js) {ids : Nm} {v : Value} (hx : WOk ids x v) {J : Tot} (hJ : Le ids J) : v.cells.toList = flat J js := by
  cases x with
  | un => simp [wItems] at h
  | tup vs => simp [wItems] at h
  | v y =>
    have hv := hx.v hJ
    subst hv
    cases y with
    | s y => simp only [wItems, Option.some.injEq] at h; subst h; simp [denV, cells_one (den_one _ y), flatI]
    | agg is => simp only [wItems, Option.some.injEq] at h; subst h; simp [denV, Value.cells]

def doStore (ti : TI R) (x y : W R) (ob : Ob R) : Option (Res R) :=
  match x with
  | .v (.s (.ptr o off)) =>
    match ob o with
    | .agg is =>
      match wItems y with
      | some js =>
        match Nat.beq (isz js) ti.size, put is off ti.size js with
        | true, some is' => some ⟨none, .un, [(o, .agg is')], []⟩
        | _, _ => none
      | none => none
    | _ => none
  | .v (.s (.ptri o off i)) =>
    match Nat.beq ti.size 1, ob o, y with
    | true, .agg is, .v (.s y) =>
      match spl is off with
      | some (pre, .big n a :: post) =>
        match a.set i y with
        | some a' => some ⟨some (i < n), .un, [(o, .agg (pre ++ .big n a' :: post))], []⟩
        | none => none
      | _ => none
    | _, _, _ => none
  | .v (.s (.lp o sz i)) =>
    match Nat.beq ti.size 1, Nat.beq sz 1, ob o, y with
    | true, true, .lst a n true e, .v (.s y) =>
      match a.set i y with
      | some a' => some ⟨some (i < n), .un, [(o, .lst a' n true e)], []⟩
      | none => none
    | _, _, _, _ => none
  | _ => none

theorem run_storeVar {t : Nat} {s : Nat} (hs : sizeIs P t s) (w : World) (ad : Addr) (v : Value) (hv : v.cells.toList.length = s) :
    (storeVar t ad v).run P w = (storeCells ad v.cells.toList).run P w := by
  unfold storeVar
  have : ¬ v.cells.size ≠ s := by simpa using hv
  simp only [Sem.run_bind, run_sizeOf hs, Result.andThen_ok, if_neg this]

theorem storeRes {ids : Nm} {ob : Ob R} {nb : Nat} {w w' : World} (ho : ObOk ids ob w) {o : Nat} {p : Pl} {y y' : O R} (hob : ob o = y) (hpl : ids o = some p) (hex : y.excl = true)
    (hblk : y'.blk p = y.blk p) (h1 : w'.os = w.os) (h2 : w'.tape = w.tape) (h3 : w'.output = w.output) (hs : w'.heap.size = w.heap.size)
    (hsame : ∀ b, y.blk p ≠ some b → w'.heap[b]? = w.heap[b]?) (hy : OOk ids p w' y') {q : Option Prop} {run : Result Next} (hrun : run = .ok .skip w') :
    ResOk ids ob nb w ⟨q, .un, [(o, y')], []⟩ run := by
  subst hob
  refine ⟨undef, w', ids, .inr ⟨hrun, rfl⟩, trivial, ?_, LeN.refl ids, fun _ => .inl rfl, ?_⟩
  · exact ho.set rfl hpl hex hblk (by omega) hsame hy
  · refine ⟨h1, h2, h3, by omega, fun b _ hn => hsame b fun hc => hn ⟨o, p, hpl, hex, hc⟩, fun b hb => .inl (exB_set hpl hex hblk b hb)⟩

theorem doStore_ok {t : Nat} {ti : TI R} (hti : TIok P t ti) {ids : Nm} {ob : Ob R} {nb : Nat} {w : World} (ho : ObOk ids ob w) {x y : W R} {v u : Value} (hx : WOk ids x v) (hy : WOk ids y u) {r : Res R}
    (h : doStore ti x y ob = some r) (hp : NeedP r.need) : ResOk ids ob nb w r ((do Instr.storeAt t v u; pure .skip : Sem Next).run P w) := by
  have h0 := Le_tot ids
  unfold doStore at h
  split at h
  · rename_i o off
    cases hob : ob o <;> simp only [hob, reduceCtorEq] at h
    rename_i is
    cases hj : wItems y with
    | none => simp [hj] at h
    | some js =>
      simp only [hj] at h
      split at h
      · rename_i is' hsz hput
        have hsz' : isz js = ti.size := Nat.eq_of_beq_eq_true hsz
        simp only [Option.some.injEq] at h; subst h
        obtain ⟨hpl, hpl2, c, e, hg, hc⟩ := ho.here hob (by simp)
        have hv := hx.v0
        simp only [denV, den] at hv
        subst hv
        have hu := fun {J : Tot} (hJ : Le ids J) => wItems_ok hj hy hJ
        have hone : ∀ z ∈ u.cells.toList, z.oneCell' = true := by rw [hu h0]; exact flat_one _ _
        have hlen : u.cells.toList.length = ti.size := by rw [hu h0, isz_ok, hsz']
        obtain ⟨A, ol, B, e1, e2, l1, l2⟩ := put_ok hput (tot ids)
        rw [← hc _ h0] at e1
        have hst := run_store_seg (P := P) w (tot ids o).blk off c e A ol B u.cells.toList hg e1 l1 (by rw [l2, hlen]) hone
        refine storeRes (y' := .agg is') ho hob hpl rfl rfl rfl rfl rfl (size_setRow _ _ _) (fun b hb => setRow_other _ _ _ _ (fun e => hb (by simp [O.blk, e]))) ?_
          (w' := w.setRow (tot ids o).blk (A ++ (u.cells.toList ++ B)).toArray) ?_
        · refine ⟨_, e, setRow_heap w _ c _ e _ hg, fun J hJ => ?_⟩
          obtain ⟨A', ol', B', e1', e2', l1', l2'⟩ := put_ok hput J
          rw [← hc J hJ] at e1'
          rw [e2', ← hu hJ]
          have hA : A = A' := by
            have := congrArg (List.take off) (e1.symm.trans e1')
            rwa [← l1, List.take_left, l1, ← l1', List.take_left] at this
          have hB : B = B' := by
            have := congrArg (List.drop (off + ti.size)) (e1.symm.trans e1')
            rw [← List.append_assoc, ← List.append_assoc, List.drop_left' (by simp [l1, l2]), List.drop_left' (by simp [l1', l2'])] at this
            exact this
          rw [hA, hB]
        · simp [Instr.storeAt, Instr.sureAddr, run_storeVar hti.size w _ u hlen, hst]
      · cases h
  · rename_i o off i
    split at h
    · rename_i is y hsz hob
      split at h
      · rename_i pre n a post hspl
        cases hset : a.set i y with
        | none => simp [hset] at h
        | some a' =>
          simp only [hset, Option.some.injEq] at h; subst h
          simp only [NeedP] at hp
          obtain ⟨hpl, hpl2, c, e, hg, hc⟩ := ho.here hob (by simp)
          have hv := hx.v0
          simp only [denV, den] at hv
          subst hv
          have hs1 : ti.size = 1 := Nat.eq_of_beq_eq_true hsz
          have hu' : ∀ {J : Tot}, Le ids J → u.cells.toList = [den J y] := fun {J} hJ => by rw [wItems_ok (x := .v (.s y)) (js := [.s y]) rfl hy hJ]; simp [flatI]
          have dec : ∀ {J : Tot}, Le ids J → ∃ A q B, c.toList = A ++ (q :: B) ∧ flat J (pre ++ .big n a' :: post) = A ++ (den J y :: B) ∧ A.length = off + i := by
            intro J hJ
            obtain ⟨e1, l1⟩ := spl_ok is off _ _ hspl J
            obtain ⟨A2, q, B2, f1, f2, l2⟩ := flat_big_set J hset hp
            refine ⟨flat J pre ++ A2, q, B2 ++ flat J post, ?_, ?_, by simp [l1, l2]⟩
            · rw [hc J hJ, e1, flat_cons, f1]; simp
            · simp [f2]
          obtain ⟨A, q, B, e1, e2, l1⟩ := dec h0
          have hst := run_store_seg (P := P) w (tot ids o).blk (off + i) c e A [q] B u.cells.toList hg (by simpa using e1) l1 (by rw [hu' h0]; rfl) (by rw [hu' h0]; intro z hz; simp at hz; subst hz; exact den_one _ _)
          refine storeRes (y' := .agg (pre ++ .big n a' :: post)) ho hob hpl rfl rfl rfl rfl rfl (size_setRow _ _ _) (fun b hb => setRow_other _ _ _ _ (fun e => hb (by simp [O.blk, e]))) ?_
            (w' := w.setRow (tot ids o).blk (A ++ (u.cells.toList ++ B)).toArray) ?_
          · refine ⟨_, e, setRow_heap w _ c _ e _ hg, fun J hJ => ?_⟩
            obtain ⟨A', q', B', e1', e2', l1'⟩ := dec hJ
            rw [e2', hu' hJ]
            have hA : A = A' := by
              have := congrArg (List.take (off + i)) (e1.symm.trans e1')
              rwa [← l1, List.take_left, l1, ← l1', List.take_left] at this
            have hB : B = B' := by
              have := congrArg (List.drop (off + i)) (e1.symm.trans e1')
              rw [List.drop_left' l1, List.drop_left' l1'] at this
              exact (List.cons.inj this).2
            rw [hA, hB]; simp
          · simp [Instr.storeAt, Instr.sureAddr, run_storeVar hti.size w _ u (by rw [hu' h0, hs1]; rfl), hst]
      · cases h
    · cases h
  · rename_i o sz i
    split at h
    · rename_i a n et y hsz hsz1 hob
      cases hset : a.set i y with
      | none => simp [hset] at h
      | some a' =>
        simp only [hset, Option.some.injEq] at h; subst h
        simp only [NeedP] at hp
        have hs1 : ti.size = 1 := Nat.eq_of_beq_eq_true hsz
        have hs2 : sz = 1 := Nat.eq_of_beq_eq_true hsz1
        subst hs2
        have hu' : ∀ {J : Tot}, Le ids J → u.cells.toList = [den J y] := fun {J} hJ => by rw [wItems_ok (x := .v (.s y)) (js := [.s y]) rfl hy hJ]; simp [flatI]
        obtain ⟨hpl, hpl2, xs, h1, h2⟩ := ho.here hob (by simp)
        obtain ⟨a1, a2, _, _⟩ := set_ok hset
        have hv := hx.v0
        simp only [denV, den] at hv
        rcases h1.2 with ⟨_, hn0⟩ | ⟨g, cap, cur, hval, hb, hg, hn, hc, hcs, ht⟩
        · omega
        · rw [hval] at hv
          simp only [slAddr, Nat.mul_one, add_flat, Nat.zero_add] at hv
          subst hv
          rw [a1, Nat.mul_one] at hcs ht
          have dec : ∀ {J : Tot}, Le ids J → ∃ A q B, xs = A ++ (q :: B) ∧ lcells J a' n = A ++ (den J y :: B) ∧ A.length = i := by
            intro J hJ
            obtain ⟨A2, q, B2, f1, f2, l2⟩ := flat_big_set J hset hp
            exact ⟨A2, q, B2, by rw [h2 J hJ]; exact f1, f2, l2⟩
          obtain ⟨A, q, B, e1, e2, l1⟩ := dec h0
          have hcur : cur.toList = A ++ ([q] ++ (B ++ cur.toList.drop n)) := by
            have := List.take_append_drop n cur.toList
            rw [ht, e1] at this
            exact this.symm.trans (by simp)
          have hst := run_store_seg (P := P) w g i cur et A [q] (B ++ cur.toList.drop n) u.cells.toList hg hcur l1 (by rw [hu' h0]; rfl) (by rw [hu' h0]; intro z hz; simp at hz; subst hz; exact den_one _ _)
          refine storeRes (y' := .lst a' n true et) ho hob hpl rfl rfl rfl rfl rfl (size_setRow _ _ _) (fun b hb => setRow_other _ _ _ _ (fun e => hb (by simp [O.blk, hval, Value.ownBlock, e]))) ?_
            (w' := w.setRow g (A ++ (u.cells.toList ++ (B ++ cur.toList.drop n))).toArray) ?_
          · refine ⟨A ++ (den (tot ids) y :: B), ⟨?_, .inr ⟨g, cap, _, hval, hb, setRow_heap w g cur _ et _ hg, hn, hc, ?_, ?_⟩⟩, fun J hJ => ?_⟩
            · have := h1.1; rw [e1] at this; rw [a1] at this; rw [a2]; simpa using this
            · rw [a2]; have := congrArg List.length hcur; simp at this; rw [hu' h0]; simp; omega
            · rw [a2, hu' h0, Nat.mul_one]
              have hl : (A ++ (den (tot ids) y :: B)).length = n := by have := h1.1; rw [e1, a1] at this; simpa using this
              rw [show (A ++ ([den (tot ids) y] ++ (B ++ cur.toList.drop n))).toArray.toList = (A ++ (den (tot ids) y :: B)) ++ cur.toList.drop n by simp, ← hl, List.take_left]
            · obtain ⟨A', q', B', e1', e2', l1'⟩ := dec hJ
              rw [e2']
              have hA : A = A' := by
                have := congrArg (List.take i) (e1.symm.trans e1')
                rwa [← l1, List.take_left, l1, ← l1', List.take_left] at this
              have hB : B = B' := by
                have := congrArg (List.drop i) (e1.symm.trans e1')
                rw [List.drop_left' l1, List.drop_left' l1'] at this
                exact (List.cons.inj this).2
              rw [hA, hB]
              have q1 := hu' h0; have q2 := hu' hJ
              rw [q1] at q2; rw [(List.cons.inj q2).1]
          · simp [Instr.storeAt, Instr.sureAddr, run_storeVar hti.size w _ u (by rw [hu' h0, hs1]; rfl), hst]
    · cases h
  · cases h

def doBox (y : W R) (nb : Nat) : Option (Res R) :=
  match wItems y with
  | some js => some ⟨none, .v (.s (.ptr nb 0)), [], [.agg js]⟩
  | none => none

/-- a result that is one new object in new memory -/
theorem pushRes {ids : Nm} {ob : Ob R} {nb : Nat} (hfree : ids nb = none) {w : World} (ho : ObOk ids ob w) {x : O R} {z : S} {o : Go.Obj} {pl : Pl} {v : Value} {p : Option Prop} {run : Result Next}
    (hok : OOk (setN ids nb pl) pl (w.alloc o) x) (hb : ∀ b, x.blk pl = some b → b = w.heap.size) (hv : ∀ J, Le (setN ids nb pl) J → v = den J z)
    (hrun : run = .ok (.value v) (w.alloc o)) : ResOk ids ob nb w ⟨p, .v (.s z), [], [x]⟩ run := by
  refine ⟨v, _, setN ids nb pl, .inl hrun, fun J hJ => hv J hJ, ?_, LeN.setN hfree pl, fun o => ?_, ?_⟩
  · exact ho.push hfree _ _ (by simp) (fun b hb => heap_alloc_old w _ b hb) hok fun b h => by rw [hb b h]; exact Nat.le_refl _
  · simp only [setN, List.length_singleton]
    split
    · exact .inr (by omega)
    · exact .inl rfl
  · refine ⟨rfl, rfl, rfl, by simp, fun b hb _ => heap_alloc_old w _ b hb, fun b hb' => ?_⟩
    rcases exB_push hb' with h | h
    · exact .inl h
    · exact .inr (by rw [hb b h]; exact Nat.le_refl _)

theorem newRes {ids : Nm} {ob : Ob R} {nb : Nat} (hfree : ids nb = none) {w : World} (ho : ObOk ids ob w) {js : List (I R)} {cs : Array Value} {t : TypeId} (hc : ∀ J, Le ids J → cs.toList = flat J js) {run : Result Next} {p : Option Prop}
    (hrun : run = .ok (.value (.pointer (some ⟨w.heap.size, 0, none⟩))) (w.alloc (.cells cs t))) :
    ResOk ids ob nb w ⟨p, .v (.s (.ptr nb 0)), [], [.agg js]⟩ run := by
  refine pushRes hfree ho (pl := ⟨w.heap.size, none, 0, 0⟩) ⟨cs, t, heap_alloc_new w _, fun J hJ => hc J ((LeN.setN hfree _).le hJ)⟩ ?_ (fun J hJ => ?_) hrun
  · intro b hb; simp only [O.blk, Option.some.injEq] at hb; exact hb.symm
  · simp only [den, hJ.at_setN]

theorem doBox_ok {t : Nat} {ids : Nm} {ob : Ob R} {nb : Nat} (hfree : ids nb = none) {w : World} (ho : ObOk ids ob w) {y : W R} {u : Value} (hy : WOk ids y u) {r : Res R} (h : doBox y nb = some r) :
    ResOk ids ob nb w r ((do pure (.value (← Instr.box t u)) : Sem Next).run P w) := by
  unfold doBox at h
  cases hj : wItems y with
  | none => simp [hj] at h
  | some js =>
    simp only [hj, Option.some.injEq] at h; subst h
    exact newRes hfree ho (fun J hJ => wItems_ok hj hy hJ) (t := t) (by simp [Instr.box, newVar, newRow])

theorem doAlloc_ok {t : Nat} {ti : TI R} (hti : TIok P t ti) {ids : Nm} {ob : Ob R} {nb : Nat} (hfree : ids nb = none) {w : World} (ho : ObOk ids ob w) :
    ResOk ids ob nb w ⟨none, .v (.s (.ptr nb 0)), [], [.agg ti.zero]⟩ ((do pure (.value (← Instr.alloc t true (.tuple #[]))) : Sem Next).run P w) := by
  obtain ⟨z, hz, hc⟩ := hti.zero
  exact newRes hfree ho (fun J _ => hc J) (t := t) (by simp [Instr.alloc, run_zero hz, newVar, newRow])
end Go.SX
