/- One operation: what it makes of a state. -/
import Derived.Test.YtehgcepifegjiaaSXJ
import Derived.Test.YtehgcepifegjiaaSXBe
namespace Go.SX
variable {R : Reg} {P : Program}

def placeK (k : TK) (i : Nat) : Option (Nat × Nat) :=
  match k with
  | .struct fs => match fs[i]? with
    | some (o, s, _) => some (o, s)
    | none => none
  | .array _ esz _ => some (i * esz, esz)
  | _ => none

def buildI (k : TK) : List (I R) → List (Nat × W R) → Option (List (I R))
  | cur, [] => some cur
  | cur, (i, x) :: rest =>
    match placeK k i, wItems x with
    | some (o, s), some js => match Nat.beq (isz js) s, put cur o s js with
      | true, some cur' => buildI k cur' rest
      | _, _ => none
    | _, _ => none

def doBuild (ti : TI R) (parts : List (Nat × W R)) : Option (Res R) :=
  match ti.k with
  | .struct _ | .array _ _ _ => match buildI ti.k ti.zero parts with
    | some is => ok none (.v (.agg is))
    | none => none
  | _ => none

/-- parts, and what they are -/
def PartsOk (ids : Nm) : List (Nat × W R) → List (Nat × Value) → Prop
  | [], [] => True
  | (i, x) :: r, (j, v) :: s => i = j ∧ WOk ids x v ∧ PartsOk ids r s
  | _, _ => False

theorem put_len {is js is' : List (I R)} {o s : Nat} (h : put is o s js = some is') (J : Tot) : o + s ≤ (flat J is).length := by
  obtain ⟨A, B, C, e1, _, l1, l2⟩ := put_ok h J
  rw [e1]; simp; omega

theorem buildI_ok {k : TK} (place : Nat → Option (Nat × Nat)) (hplace : ∀ i q, placeK k i = some q → place i = some q) {ids : Nm} :
    ∀ (ps : List (Nat × W R)) (vs : List (Nat × Value)) (cur is : List (I R)) (c : Array Value), PartsOk ids ps vs → buildI k cur ps = some is → (∀ J, Le ids J → c.toList = flat J cur) →
      ∃ c', Instr.fill place c vs = some c' ∧ ∀ J, Le ids J → c'.toList = flat J is
  | [], [], cur, is, c, _, h, hc => by simp only [buildI, Option.some.injEq] at h; subst h; exact ⟨c, rfl, hc⟩
  | [], _ :: _, _, _, _, hp, _, _ => by simp [PartsOk] at hp
  | _ :: _, [], _, _, _, hp, _, _ => by simp [PartsOk] at hp
  | (i, x) :: r, (j, v) :: s, cur, is, c, hp, h, hc => by
    obtain ⟨rfl, hx, hr⟩ := hp
    simp only [buildI] at h
    cases hpl : placeK k i with
    | none => simp [hpl] at h
    | some q =>
      obtain ⟨o, sz⟩ := q
      cases hj : wItems x with
      | none => simp [hpl, hj] at h
      | some js =>
        simp only [hpl, hj] at h
        split at h
        · rename_i cur' hsz hput
          have hsz' : isz js = sz := Nat.eq_of_beq_eq_true hsz
          have hv := fun {J : Tot} (hJ : Le ids J) => wItems_ok hj hx hJ
          have h0 := Le_tot ids
          have hvs : v.cells.size = sz := by have := congrArg List.length (hv h0); rw [isz_ok] at this; simp at this; omega
          have hfit : o + sz ≤ c.size := by have := put_len hput (tot ids); rw [← hc _ h0] at this; simpa using this
          rw [fill_step place i o sz (hplace i _ hpl) c v hvs hfit]
          refine buildI_ok place hplace r s cur' is _ hr h fun J hJ => ?_
          obtain ⟨A, B, C, e1, e2, l1, l2⟩ := put_ok hput J
          rw [← hc J hJ] at e1
          rw [e2, e1, hv hJ, ← l1, List.take_left, ← List.append_assoc A B C, List.drop_left' (by simp [l2])]
        · cases h

theorem mapM_places {gs : Array Field} {fs : List (Nat × Nat × Bool)} (hlen : fs.length = gs.size)
    (h : ∀ (i o s : Nat) (g : Bool), fs[i]? = some (o, s, g) → ∃ f, gs[i]? = some f ∧ f.offset = o ∧ sizeIs P f.type s ∧ aggIs P f.type g ∧ s ≠ 0) :
    gs.toList.mapM (fun f => (P.info? f.type).map fun i => (f.offset, i.size)) = some (fs.map fun q => (q.1, q.2.1)) := by
  have gen : ∀ (l : List Field) (fs : List (Nat × Nat × Bool)), fs.length = l.length → (∀ (i o s : Nat) (g : Bool), fs[i]? = some (o, s, g) → ∃ f, l[i]? = some f ∧ f.offset = o ∧ sizeIs P f.type s) →
      l.mapM (fun f => (P.info? f.type).map fun i => (f.offset, i.size)) = some (fs.map fun q => (q.1, q.2.1)) := by
    intro l
    induction l with
    | nil => intro fs hl _; simp at hl; subst hl; rfl
    | cons f l ih =>
      intro fs hl hh
      cases fs with
      | nil => simp at hl
      | cons q fs =>
        obtain ⟨o, s, g⟩ := q
        obtain ⟨f', h1, h2, h3⟩ := hh 0 o s g rfl
        simp at h1; subst h1
        have hi : (P.info? f.type).map (fun i => (f.offset, i.size)) = some (o, s) := by
          unfold sizeIs at h3
          cases hq : P.info? f.type <;> simp_all
        have := ih fs (by simpa using hl) (fun i o s g hi => hh (i + 1) o s g hi)
        simp only [List.mapM_cons, hi, this, List.map_cons]
        rfl
  exact gen gs.toList fs (by simpa using hlen) fun i o s g hi => by
    obtain ⟨f, h1, h2, h3, _⟩ := h i o s g hi
    exact ⟨f, by simpa using h1, h2, h3⟩

theorem doBuild_ok {t : Nat} {ti : TI R} (hti : TIok P t ti) (hall : ∀ fs gs, ti.k = .struct fs → P.underlying t = some (.struct gs) → fs.length = gs.size) {ids : Nm} {ob : Ob R} {nb : Nat} {w : World} (ho : ObOk ids ob w) {ps : List (Nat × W R)} {vs : List (Nat × Value)} (hps : PartsOk ids ps vs) {r : Res R}
    (h : doBuild ti ps = some r) : ResOk ids ob nb w r ((do pure (.value (← Instr.build t vs.toArray)) : Sem Next).run P w) := by
  obtain ⟨d, hd, ha, hdk⟩ := hti.desc
  obtain ⟨z, hz, hc⟩ := hti.zero
  have fin : ∀ is c', buildI ti.k ti.zero ps = some is → P.built t vs = some c' → (∀ J, Le ids J → c'.toList = flat J is) →
      ResOk ids ob nb w ⟨none, .v (.agg is), [], []⟩ ((do pure (.value (← Instr.build t vs.toArray)) : Sem Next).run P w) := by
    intro is c' _ hb hcc
    have hrun := run_build (P := P) w t vs.toArray c' (by simpa using hb)
    refine ResOk.pure ho (v := .agg c') (by simp [hrun]) fun J hJ => ?_
    simp only [denW, denV]; rw [← hcc J hJ]
  unfold doBuild at h
  cases hi : P.info? t with
  | none => simp [hi] at hz
  | some it =>
    have hiz : it.zero = some z := by simpa [hi] using hz
    split at h
    · rename_i fs hk
      cases hb : buildI ti.k ti.zero ps with
      | none => simp [hb] at h
      | some is =>
        simp only [hb, ok, Option.some.injEq] at h; subst h
        have hdk' := hdk
        rw [hk] at hdk'
        cases d <;> simp only [TKok] at hdk'
        rename_i gs
        have hm := mapM_places (P := P) (hall fs gs hk hd) hdk'
        obtain ⟨c', q1, q2⟩ := buildI_ok (R := R) (((fs.map fun q => (q.1, q.2.1)).toArray)[·]?) (fun i q hq => by
          rw [hk] at hq
          simp only [placeK] at hq
          cases hf : fs[i]? with
          | none => simp [hf] at hq
          | some p => obtain ⟨o, s, g⟩ := p; simp only [hf, Option.some.injEq] at hq; subst hq; simp [hf]) ps vs ti.zero is z.cells hps hb (fun J _ => hc J)
        exact fin is c' hb (by simp only [Program.built, hi, hd, hiz, hm]; exact q1) q2
    · rename_i len esz eagg hk
      cases hb : buildI ti.k ti.zero ps with
      | none => simp [hb] at h
      | some is =>
        simp only [hb, ok, Option.some.injEq] at h; subst h
        have hdk' := hdk
        rw [hk] at hdk'
        cases d <;> simp only [TKok] at hdk'
        rename_i l e
        obtain ⟨rfl, h2, h3⟩ := hdk'
        cases hie : P.info? e with
        | none => simp [sizeIs, hie] at h2
        | some ie =>
          have hie2 : ie.size = esz := by simpa [sizeIs, hie] using h2
          obtain ⟨c', q1, q2⟩ := buildI_ok (R := R) (fun i => some (i * ie.size, ie.size)) (fun i q hq => by
            rw [hk] at hq
            simp only [placeK, Option.some.injEq] at hq; subst hq; rw [hie2]) ps vs ti.zero is z.cells hps hb (fun J _ => hc J)
          exact fin is c' hb (by simp only [Program.built, hi, hd, hiz, hie]; exact q1) q2
    · cases h

/-! ### Calls -/
def ArgsOk (ids : Nm) : List (W R) → List Value → Prop
  | [], [] => True
  | x :: r, v :: s => WOk ids x v ∧ ArgsOk ids r s
  | _, _ => False

/-- what a call comes to -/
def Goes (P : Program) (f : FuncId) (args : Array Value) (w : World) (Rl : Value → World → Prop) : Prop :=
  ((callFunc f args).run P w = .ok (.enter f args) w ∧ Calls P f args w fun e w' => ∃ v, e = .returned v ∧ Rl v w') ∨
    ∃ v w', (callFunc f args).run P w = .ok (.value v) w' ∧ Rl v w'

/-- a call's answer, and what the model does -/
def CallOk (P : Program) (f : FuncId) (sp : Spec R) : Prop :=
  ∀ args ob nb r, sp args ob nb = some r → NeedP r.need → ∀ ids w cargs, ObOk ids ob w → (∀ j, j < r.new.length → ids (nb + j) = none) → ArgsOk ids args cargs →
    Goes P f cargs.toArray w fun v w' => ∃ ids', WOk ids' r.val v ∧ ObOk ids' (r.ap nb ob) w' ∧ LeN ids ids' ∧ (∀ o, ids' o = ids o ∨ nb ≤ o ∧ o < nb + r.new.length) ∧ Fr ids ob w ids' (r.ap nb ob) w'

structure EnvOk (P : Program) (E : Env R) : Prop where
  ti : ∀ t i, E.ti t = some i → TIok P t i ∧ ∀ fs gs, i.k = .struct fs → P.underlying t = some (.struct gs) → fs.length = gs.size
  call : ∀ f sp, E.call f = some sp → CallOk P f sp
  eqs : ∀ t i ks, E.ti t = some i → i.eq = some ks → ksOf P 9 t = some ks ∧ P.eqGuardType P.depth t = false

/-! ### Equality of aggregates -/
def flatS : List (I R) → Option (List S)
  | [] => some []
  | .s x :: r => match flatS r with
    | some l => some (x :: l)
    | none => none
  | .obj k x :: r => match flatS r with
    | some l => some (R.cells k x ++ l)
    | none => none
  | .big _ _ :: _ => none
theorem flatS_ok : ∀ {is : List (I R)} {l : List S}, flatS is = some l → ∀ J, flat J is = l.map (den J)
  | [], l, h, J => by simp [flatS] at h; subst h; rfl
  | .s x :: r, l, h, J => by
    simp only [flatS] at h
    cases hr : flatS r with
    | none => simp [hr] at h
    | some q => simp only [hr, Option.some.injEq] at h; subst h; rw [flat_cons, flatS_ok hr J]; rfl
  | .obj k x :: r, l, h, J => by
    simp only [flatS] at h
    cases hr : flatS r with
    | none => simp [hr] at h
    | some q => simp only [hr, Option.some.injEq] at h; subst h; rw [flat_cons, flatS_ok hr J, List.map_append]; rfl
  | .big _ _ :: _, _, h, _ => by cases h
def ckS : S → Option (Option IntKind)
  | .bool _ | .kb _ => some none
  | .b8 _ => some (some .u8)
  | .b16 _ => some (some .u16)
  | .b32 _ => some (some .u32)
  | .b64 _ => some (some .u64)
  | .i8 _ => some (some .i8)
  | .int _ => some (some .i64)
  | .kn k _ => some (some k)
  | _ => none
theorem ckS_ok {s : S} {k : Option IntKind} (h : ckS s = some k) (J : Tot) : ckOf (den J s) = some k := by
  cases s <;> simp only [ckS, Option.some.injEq, reduceCtorEq] at h <;> subst h <;> rfl
def ikB : IntKind → IntKind → Bool
  | .i64, .i64 | .u8, .u8 | .u16, .u16 | .u32, .u32 | .u64, .u64 | .i8, .i8 | .i16, .i16 | .i32, .i32 => true
  | _, _ => false
def ckB : Option IntKind → Option IntKind → Bool
  | none, none => true
  | some a, some b => ikB a b
  | _, _ => false
theorem ckB_ok {a b : Option IntKind} (h : ckB a b = true) : a = b := by
  cases a with
  | none => cases b <;> first | rfl | cases h
  | some a => cases b with
    | none => cases h
    | some b => cases a <;> cases b <;> first | rfl | cases h
def fitS : List S → Ks → Bool
  | [], [] => true
  | s :: r, k :: ks => (match ckS s with
    | some k' => ckB k' k
    | none => false) && fitS r ks
  | _, _ => false
theorem fitS_ok : ∀ {l : List S} {ks : Ks}, fitS l ks = true → ∀ J, (l.map (den J)).map ckOf = ks.map some
  | [], [], _, _ => rfl
  | [], _ :: _, h, _ => by cases h
  | _ :: _, [], h, _ => by cases h
  | s :: r, k :: ks, h, J => by
    simp only [fitS, Bool.and_eq_true] at h
    obtain ⟨h1, h2⟩ := h
    cases hc : ckS s with
    | none => simp [hc] at h1
    | some k' =>
      simp only [hc] at h1
      have := ckB_ok h1; subst this
      simp only [List.map_cons, fitS_ok h2 J, ckS_ok hc J]
def eqSb (a b : S) : Option Bool :=
  match a, b with
  | .bool x, .bool y => some (x == y)
  | .bool x, .kb y => some (x == y)
  | .kb x, .bool y => some (x == y)
  | .kb x, .kb y => some (x == y)
  | .b8 x, .b8 y => some (x == y)
  | .b16 x, .b16 y => some (x == y)
  | .b32 x, .b32 y => some (x == y)
  | .b64 x, .b64 y => some (x == y)
  | .int x, .int y => some (x == y)
  | .int x, .kn _ y => some (x == y)
  | .kn _ x, .int y => some (x == y)
  | .kn _ x, .b8 y => some (x == (y.toNat : Int))
  | .b8 x, .kn _ y => some ((x.toNat : Int) == y)
  | .kn _ x, .b16 y => some (x == (y.toNat : Int))
  | .b16 x, .kn _ y => some ((x.toNat : Int) == y)
  | .kn _ x, .b32 y => some (x == (y.toNat : Int))
  | .b32 x, .kn _ y => some ((x.toNat : Int) == y)
  | .kn _ x, .kn _ y => some (x == y)
  | _, _ => none
theorem bv_beq {n : Nat} (x y : BitVec n) : ((x.toNat : Int) == (y.toNat : Int)) = (x == y) := by
  rw [Bool.eq_iff_iff]; simp only [beq_iff_eq]
  exact ⟨fun h => BitVec.eq_of_toNat_eq (by omega), fun h => by rw [h]⟩
theorem eqSb_ok {a b : S} {r : Bool} (h : eqSb a b = some r) (J : Tot) : veq (den J a) (den J b) = r := by
  unfold eqSb at h
  split at h <;> simp only [Option.some.injEq, reduceCtorEq] at h <;> subst h <;> first
    | rfl
    | exact bv_beq _ _
def eqAll : List S → List S → Option Bool
  | [], [] => some true
  | [a], [b] => eqSb a b
  | a :: r, b :: s => match eqSb a b, eqAll r s with
    | some x, some y => some (x && y)
    | _, _ => none
  | _, _ => none
theorem eqAll_ok : ∀ {as bs : List S} {r : Bool}, eqAll as bs = some r → ∀ J, cellsEq (as.map (den J)) (bs.map (den J)) = r
  | [], [], r, h, J => by simp [eqAll] at h; subst h; rfl
  | [], _ :: _, _, h, _ => by simp [eqAll] at h
  | _ :: _, [], _, h, _ => by simp [eqAll] at h
  | a :: as, b :: bs, r, h, J => by
    have gen : (∃ x y, eqSb a b = some x ∧ eqAll as bs = some y ∧ r = (x && y)) := by
      unfold eqAll at h
      split at h
      · rename_i e; cases e
      · rename_i e1 e2; cases e1; cases e2; exact ⟨r, true, h, rfl, by simp⟩
      · rename_i e1 e2; cases e1; cases e2
        split at h
        · rename_i x y hx hy; simp only [Option.some.injEq] at h; exact ⟨x, y, hx, hy, h.symm⟩
        · cases h
      · cases h
    obtain ⟨x, y, h1, h2, rfl⟩ := gen
    simp only [List.map_cons, cellsEq, eqSb_ok h1 J, eqAll_ok h2 J]

def doEq (ti : TI R) (as bs : List (I R)) : Option Bool :=
  match ti.eq, ti.agg, flatS as, flatS bs with
  | some ks, true, some x, some y => match fitS x ks && fitS y ks with
    | true => eqAll x y
    | false => none
  | _, _, _, _ => none

def capS (p : Nat × Nat) : W R := .v (.s (.ptr p.1 p.2))

/-- One operation. -/
def opv [DecidableEq R.K] (E : Env R) (op : Op) (ev : Operand → W R) (ob : Ob R) (nb : Nat) : Option (Res R) :=
  match op with
  | .move x | .assign x => ok none (ev x)
  | .pick c a b => match ev c with
    | .v (.s (.kb true)) => ok none (ev a)
    | .v (.s (.kb false)) => ok none (ev b)
    | _ => none
  | .alloc t => match E.ti t with
    | some i => some ⟨none, .v (.s (.ptr nb 0)), [], [.agg i.zero]⟩
    | none => none
  | .box _ x => doBox (ev x) nb
  | .build t ps => match E.ti t with
    | some i => doBuild i (ps.toList.map fun p => (p.1, ev p.2))
    | none => none
  | .buildSlice t n ps => match n, E.ti t, ps.toList with
    | 1, some i, [(0, x)] => doSlice1 i (ev x) nb
    | _, _, _ => none
  | .load t x => match E.ti t with
    | some i => doLoad i (ev x) ob
    | none => none
  | .store t x y => match E.ti t with
    | some i => doStore i (ev x) (ev y) ob
    | none => none
  | .nilCheck x => match ev x with
    | .v (.s (.ptr o n)) => ok none (.v (.s (.ptr o n)))
    | .v (.s (.ptri o n j)) => ok none (.v (.s (.ptri o n j)))
    | .v (.s (.lp o n j)) => ok none (.v (.s (.lp o n j)))
    | _ => none
  | .binOp op t x y _ => match ev x, ev y, E.ti t with
    | .v (.s a), .v (.s b), some i => match tyFit i.k a b with
      | true => match binS op a b with
        | some (p, z) => ok p (.v (.s z))
        | none => none
      | false => none
    | .v (.agg a), .v (.agg b), some i => match op with
      | .eql => match doEq i a b with
        | some r => ok none (.v (.s (.bool r)))
        | none => none
      | .neq => match doEq i a b with
        | some r => ok none (.v (.s (.bool (!r))))
        | none => none
      | _ => none
    | _, _, _ => none
  | .unOp op _ x => match ev x with
    | .v (.s a) => match unS op a with
      | some z => ok none (.v (.s z))
      | none => none
    | _ => none
  | .convert s d x => match E.ti s, E.ti d, ev x with
    | some i, some j, .v (.s a) => match i.k, j.k with
      | .int _, .int k => match convI k a with
        | some z => ok none (.v (.s z))
        | none => none
      | _, _ => none
    | _, _, _ => none
  | .fieldAddr t x f => match E.ti t with
    | some i => doFieldAddr i (ev x) f
    | none => none
  | .field t x f => match E.ti t with
    | some i => doField i (ev x) f
    | none => none
  | .indexAddr t x y => match E.ti t with
    | some i => doIndexAddr i (ev x) (ev y) ob
    | none => none
  | .index t x y => match E.ti t with
    | some i => doIndex i (ev x) (ev y)
    | none => none
  | .extract x i => match ev x with
    | .tup vs => match vs[i]? with
      | some v => ok none (.v v)
      | none => none
    | _ => none
  | .call c => match c.callee with
    | .value (.func f) => match E.call f with
      | some sp => sp (c.args.toList.map ev) ob nb
      | none => none
    | .builtin .append => match c.args.toList, c.argTypes.toList with
      | [x, y], [t, t'] => match Nat.beq t t', E.ti t with
        | true, some i => doAppend i (ev x) (ev y) ob nb
        | _, _ => none
      | _, _ => none
    | .builtin .len => match c.args.toList, c.argTypes.toList with
      | [x], [t] => match E.ti t, ev x with
        | some i, .v (.s (.sl o)) => match i.k, ob o with
          | .slice _ _ _ _, .lst _ n _ _ => ok none (.v (.s (.int n)))
          | _, _ => none
        | some i, .v (.s .nils) => match i.k with
          | .slice _ _ _ _ => ok none (.v (.s (.kn .i64 0)))
          | _ => none
        | _, _ => none
      | _, _ => none
    | .builtin .max => match c.args.toList with
      | [x, y] => match ev x, ev y with
        | .v (.s p), .v (.s q) => match p.int?, q.int? with
          | some m, some n => ok none (.v (.s (.int (max m n))))
          | _, _ => none
        | _, _ => none
      | _ => none
    | .builtin .min => match c.args.toList with
      | [x, y] => match ev x, ev y with
        | .v (.s p), .v (.s q) => match p.int?, q.int? with
          | some m, some n => ok none (.v (.s (.int (min m n))))
          | _, _ => none
        | _, _ => none
      | _ => none
    | _ => none
  | _ => none
end Go.SX
