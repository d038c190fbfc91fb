/- Addresses, parts, elements. -/
import Derived.Test.YtehgcepifegjiaaSXF
namespace Go.SX
variable {R : Reg} {P : Program}

def doFieldAddr (ti : TI R) (x : W R) (f : Nat) : Option (Res R) :=
  match x, ti.k with
  | .v (.s (.ptr o off)), .struct fs => match fs[f]? with
    | some (o', _, _) => ok none (.v (.s (.ptr o (off + o'))))
    | none => none
  | _, _ => none

theorem doFieldAddr_ok {t : Nat} {ti : TI R} (hti : TIok P t ti) {ids : Nm} {ob : Ob R} {nb : Nat} {w : World} (ho : ObOk ids ob w) {x : W R} {v : Value} (hx : WOk ids x v) {f : Nat} {r : Res R}
    (h : doFieldAddr ti x f = some r) : ResOk ids ob nb w r ((do pure (.value (← Instr.fieldAt t v f)) : Sem Next).run P w) := by
  unfold doFieldAddr at h
  split at h
  · rename_i o off fs hk
    cases hf : fs[f]? with
    | none => simp [hf] at h
    | some q =>
      obtain ⟨o', s, g⟩ := q
      simp only [hf, ok, Option.some.injEq] at h; subst h
      obtain ⟨d, hd, ha, hdk⟩ := hti.desc
      rw [hk] at hdk
      cases d <;> simp only [TKok] at hdk
      rename_i gs
      obtain ⟨fl, h1, h2, h3, h4, h5⟩ := hdk f o' s g hf
      have hv := hx.v0
      simp only [denV, den] at hv; subst hv
      refine ResOk.pure ho (v := .pointer (some ⟨(tot ids o).blk, off + o', none⟩)) ?_ fun J hJ => ?_
      · simp [Instr.fieldAt, run_underlying hd, h1, Instr.sureAddr, fieldPlace, run_sizeOf h3, h5, add_flat, h2]
      · have hve := hx.v hJ
        simp only [denV, den, Value.pointer.injEq, Option.some.injEq, Addr.mk.injEq, and_true] at hve
        simp only [denW, denV, den, Value.pointer.injEq, Option.some.injEq, Addr.mk.injEq, and_true]; omega
  · cases h

def aggOr (g : Bool) (m : List (I R)) : Option (W R) :=
  match g with
  | true => some (.v (.agg m))
  | false => match m with
    | [.s y] => some (.v (.s y))
    | _ => none

def doField (ti : TI R) (x : W R) (f : Nat) : Option (Res R) :=
  match x, ti.k with
  | .v (.agg is), .struct fs => match fs[f]? with
    | some (o, s, g) => match seg is o s with
      | some m => match aggOr g m with
        | some v => ok none v
        | none => none
      | none => none
    | none => none
  | _, _ => none

theorem extract_seg (A m B : List Value) (off len : Nat) (hA : A.length = off) (hm : m.length = len) : ((A ++ (m ++ B)).toArray.extract off (off + len)) = m.toArray := by
  subst hA; subst hm
  simp [List.extract_eq_take_drop]

/-- a part of an aggregate, by place and size -/
theorem run_part {t : Nat} {s : Nat} {g : Bool} (hs : sizeIs P t s) (hg : aggIs P t g) {is m : List (I R)} {off : Nat} (hseg : seg is off s = some m) {v : W R} (hv : aggOr g m = some v)
    {ids : Nm} {cs : Array Value} (hc : ∀ J, Le ids J → cs = (flat J is).toArray) (w : World) : ∃ u, (part t cs off).run P w = .ok u w ∧ WOk ids v u := by
  obtain ⟨l1, A, B, e1, l2⟩ := seg_ok hseg (tot ids)
  have h0 := Le_tot ids
  have hc0 := hc _ h0
  unfold part
  cases g with
  | true =>
    simp only [aggOr, Option.some.injEq] at hv; subst hv
    refine ⟨.agg (flat (tot ids) m).toArray, ?_, fun J hJ => ?_⟩
    · simp only [Sem.run_bind, run_isAgg hg, Result.andThen_ok, if_true, run_sizeOf hs, Sem.run_pure]
      rw [hc0, e1, extract_seg A _ B off s l2 l1]
    · obtain ⟨l1', A', B', e1', l2'⟩ := seg_ok hseg J
      have h1 : flat (tot ids) is = flat J is := by
        have := hc0.symm.trans (hc J hJ); simpa using this
      simp only [denW, denV]
      have q1 := extract_seg A _ B off s l2 l1
      have q2 := extract_seg A' _ B' off s l2' l1'
      rw [← e1] at q1; rw [← e1'] at q2; rw [← q1, ← q2, h1]
  | false =>
    simp only [aggOr] at hv
    split at hv
    · rename_i y
      simp only [Option.some.injEq] at hv; subst hv
      have e1' : flat (tot ids) is = A ++ (den (tot ids) y :: B) := by simpa [flatI] using e1
      have hget : cs[off]? = some (den (tot ids) y) := by
        rw [hc0, List.getElem?_toArray, e1', List.getElem?_append_right (by omega), l2]; simp
      refine ⟨den (tot ids) y, ?_, fun J hJ => ?_⟩
      · simp only [Sem.run_bind, run_isAgg hg, Result.andThen_ok, Bool.false_eq_true, if_false, hget, Sem.run_pure]
      · obtain ⟨_, A', B', f1, l2'⟩ := seg_ok hseg J
        have f1' : flat J is = A' ++ (den J y :: B') := by simpa [flatI] using f1
        have hget' : cs[off]? = some (den J y) := by
          rw [hc J hJ, List.getElem?_toArray, f1', List.getElem?_append_right (by omega), l2']; simp
        rw [hget] at hget'
        exact Option.some.inj hget'
    · cases hv

theorem doField_ok {t : Nat} {ti : TI R} (hti : TIok P t ti) {ids : Nm} {ob : Ob R} {nb : Nat} {w : World} (ho : ObOk ids ob w) {x : W R} {v : Value} (hx : WOk ids x v) {f : Nat} {r : Res R}
    (h : doField ti x f = some r) : ResOk ids ob nb w r ((do pure (.value (← Instr.field t v f)) : Sem Next).run P w) := by
  unfold doField at h
  split at h
  · rename_i is fs hk
    cases hf : fs[f]? with
    | none => simp [hf] at h
    | some q =>
      obtain ⟨o', s, g⟩ := q
      simp only [hf] at h
      cases hseg : seg is o' s with
      | none => simp [hseg] at h
      | some m =>
        simp only [hseg] at h
        cases hv : aggOr g m with
        | none => simp [hv] at h
        | some z =>
          simp only [hv, ok, Option.some.injEq] at h; subst h
          obtain ⟨d, hd, ha, hdk⟩ := hti.desc
          rw [hk] at hdk
          cases d <;> simp only [TKok] at hdk
          rename_i gs
          obtain ⟨fl, h1, h2, h3, h4, h5⟩ := hdk f o' s g hf
          have hx0 := hx.v0
          simp only [denV] at hx0; subst hx0
          obtain ⟨u, hu, hok⟩ := run_part h3 h4 hseg hv (cs := (flat (tot ids) is).toArray) (ids := ids) (fun J hJ => by have := hx.v hJ; simpa [denV] using this) w
          refine ResOk.pure ho (v := u) ?_ hok
          simp [Instr.field, run_underlying hd, h1, asAgg, h2, hu]
  · cases h

/-- an index as a number -/
def idxI : S → Option Int
  | .int n => some n
  | .kn _ n => some n
  | .b8 x => some x.toNat
  | .b16 x => some x.toNat
  | .b32 x => some x.toNat
  | .b64 x => some x.toNat
  | _ => none

theorem idxI_ok {s : S} {n : Int} (h : idxI s = some n) : ∃ k, ∀ J, den J s = .int k n := by
  cases s <;> simp only [idxI, Option.some.injEq, reduceCtorEq] at h <;> subst h <;> exact ⟨_, fun _ => rfl⟩

def known : S → Option Nat
  | .kn _ n => match decide (0 ≤ n) with
    | true => some n.toNat
    | false => none
  | _ => none

theorem known_ok {s : S} {n : Nat} (h : known s = some n) : ∃ k, ∀ J, den J s = .int k n := by
  cases s <;> simp only [known, reduceCtorEq] at h
  rename_i k m
  cases hd : decide (0 ≤ m) <;> simp only [hd, reduceCtorEq, Option.some.injEq] at h
  subst h
  have : 0 ≤ m := by simpa using hd
  exact ⟨k, fun J => by simp only [den, Value.int.injEq, true_and]; omega⟩

def doIndexAddr (ti : TI R) (x ix : W R) (ob : Ob R) : Option (Res R) :=
  match ix with
  | .v (.s i) =>
    match x, ti.k with
    | .v (.s (.ptr o off)), .array len esz _ =>
      match known i with
      | some n => match Nat.blt n len with
        | true => ok none (.v (.s (.ptr o (off + n * esz))))
        | false => none
      | none => match idxI i, Nat.beq esz 1 with
        | some n, true => ok (some (0 ≤ n ∧ n < (len : Int))) (.v (.s (.ptri o off n.toNat)))
        | _, _ => none
    | .v (.s (.sl o)), .slice _ esz _ _ =>
      match ob o with
      | .lst a n _ _ => match idxI i, Nat.beq esz a.esz with
        | some m, true => ok (some (0 ≤ m ∧ m < (n : Int))) (.v (.s (.lp o esz m.toNat)))
        | _, _ => none
      | _ => none
    | _, _ => none
  | _ => none

theorem run_indexAt_array {t len esz : Nat} {eagg : Bool} {d : TypeDesc} (hd : P.underlying t = some d) (hk : TKok P (.array len esz eagg) d) (w : World) (a : Addr) (k : IntKind) (i : Int) (h : 0 ≤ i ∧ i < (len : Int)) :
    (Instr.indexAt t (.pointer (some a)) (.int k i)).run P w = .ok (.pointer (some (a.add (i.toNat * esz)))) w := by
  cases d <;> simp only [TKok] at hk
  rename_i l e
  obtain ⟨rfl, h2, h3⟩ := hk
  simp [Instr.indexAt, asIntOf, run_underlying hd, Instr.sureAddr, h, run_sizeOf h2]

theorem doIndexAddr_ok {t : Nat} {ti : TI R} (hti : TIok P t ti) {ids : Nm} {ob : Ob R} {nb : Nat} {w : World} (ho : ObOk ids ob w) {x y : W R} {v u : Value} (hx : WOk ids x v) (hy : WOk ids y u) {r : Res R}
    (h : doIndexAddr ti x y ob = some r) (hp : NeedP r.need) : ResOk ids ob nb w r ((do pure (.value (← Instr.indexAt t v u)) : Sem Next).run P w) := by
  unfold doIndexAddr at h
  obtain ⟨d, hd, ha, hdk⟩ := hti.desc
  split at h
  · rename_i i
    have hu := hy.v0
    simp only [denV] at hu
    split at h
    · rename_i o off len esz eagg hk
      rw [hk] at hdk
      have hv := hx.v0
      simp only [denV, den] at hv
      split at h
      · rename_i n hn
        obtain ⟨k, hkn⟩ := known_ok hn
        split at h
        · rename_i hlt
          have hlt' : n < len := by
            have := Nat.le_of_ble_eq_true (show Nat.ble (n + 1) len = true from hlt); omega
          simp only [ok, Option.some.injEq] at h; subst h
          rw [hkn] at hu; subst hu; subst hv
          refine ResOk.pure ho (v := .pointer (some ⟨(tot ids o).blk, off + n * esz, none⟩)) ?_ fun J hJ => ?_
          · have := run_indexAt_array hd hdk w ⟨(tot ids o).blk, off, none⟩ k n ⟨by omega, by omega⟩
            simp only [Sem.run_bind, this, Result.andThen_ok, Sem.run_pure, add_flat, Int.toNat_natCast]
          · have hve := hx.v hJ
            simp only [denV, den, Value.pointer.injEq, Option.some.injEq, Addr.mk.injEq, and_true] at hve
            simp only [denW, denV, den, Value.pointer.injEq, Option.some.injEq, Addr.mk.injEq, and_true]; omega
        · cases h
      · split at h
        · rename_i n hn he
          obtain ⟨k, hkn⟩ := idxI_ok hn
          have he1 : esz = 1 := Nat.eq_of_beq_eq_true he
          subst he1
          simp only [ok, Option.some.injEq] at h; subst h
          simp only [NeedP] at hp
          rw [hkn] at hu; subst hu; subst hv
          refine ResOk.pure ho (v := .pointer (some ⟨(tot ids o).blk, off + n.toNat, none⟩)) ?_ fun J hJ => ?_
          · have := run_indexAt_array hd hdk w ⟨(tot ids o).blk, off, none⟩ k n hp
            simp only [Sem.run_bind, this, Result.andThen_ok, Sem.run_pure, add_flat, Nat.mul_one]
          · have hve := hx.v hJ
            simp only [denV, den, Value.pointer.injEq, Option.some.injEq, Addr.mk.injEq, and_true] at hve
            simp only [denW, denV, den, Value.pointer.injEq, Option.some.injEq, Addr.mk.injEq, and_true]; omega
        · cases h
    · rename_i o e esz eagg eb hk
      rw [hk] at hdk
      have hv := hx.v0
      simp only [denV, den] at hv
      cases hob : ob o <;> simp only [hob, reduceCtorEq] at h
      rename_i a n own et
      split at h
      · rename_i m hm he
        obtain ⟨k, hkn⟩ := idxI_ok hm
        have he1 : esz = a.esz := Nat.eq_of_beq_eq_true he
        simp only [ok, Option.some.injEq] at h; subst h
        simp only [NeedP] at hp
        obtain ⟨_, hpl, hok⟩ := ho.here hob (by simp)
        obtain ⟨ad, cap, e1, e2, e3, e4, e5⟩ := lst_cells hok m.toNat (by omega) (Le_tot ids)
        rw [hkn] at hu; subst hu; rw [e1] at hv; subst hv
        cases d <;> simp only [TKok] at hdk
        obtain ⟨rfl, h2, h3, _⟩ := hdk
        refine ResOk.pure ho (v := .pointer (some (ad.add (m.toNat * esz)))) ?_ fun J hJ => ?_
        · simp [Instr.indexAt, asIntOf, run_underlying hd, hp, run_sizeOf h2]
        · simp only [denW, denV, den, hpl J hJ, e1, slAddr]
      · cases h
    · cases h
  · cases h

/-- a row of known ints -/
def tblI : List (I R) → Option (List Int)
  | [] => some []
  | .s (.kn .i64 n) :: r => match tblI r with
    | some l => some (n :: l)
    | none => none
  | _ => none

theorem tblI_ok : ∀ {is : List (I R)} {l : List Int}, tblI is = some l → ∀ J, flat J is = l.map (Value.int .i64)
  | [], l, h, J => by simp [tblI] at h; subst h; rfl
  | x :: xs, l, h, J => by
    unfold tblI at h
    split at h
    · simp_all
    · rename_i n r heq
      cases heq
      cases hr : tblI xs with
      | none => simp [hr] at h
      | some l' =>
        simp only [hr, Option.some.injEq] at h; subst h
        simp [flatI, tblI_ok hr J, den]
    · cases h

def doIndex (ti : TI R) (x ix : W R) : Option (Res R) :=
  match ix, x, ti.k with
  | .v (.s i), .v (.agg is), .array len esz eagg =>
    match known i with
    | some n => match Nat.blt n len, seg is (n * esz) esz with
      | true, some m => match aggOr eagg m with
        | some v => ok none v
        | none => none
      | _, _ => none
    | none => match idxI i, Nat.beq esz 1, eagg with
      | some n, true, false => match is with
        | [.big m a] => match Nat.beq m len, a.esz, a.at n.toNat with
          | true, 1, [y] => ok (some (0 ≤ n ∧ n < (len : Int))) (.v (.s y))
          | _, _, _ => none
        | _ => match tblI is with
          | some l => match Nat.beq l.length len with
            | true => ok (some (0 ≤ n ∧ n < (len : Int))) (.v (.s (.int (l.getD n.toNat 0))))
            | false => none
          | none => none
      | _, _, _ => none
  | _, _, _ => none

theorem doIndex_ok {t : Nat} {ti : TI R} (hti : TIok P t ti) {ids : Nm} {ob : Ob R} {nb : Nat} {w : World} (ho : ObOk ids ob w) {x y : W R} {v u : Value} (hx : WOk ids x v) (hy : WOk ids y u) {r : Res R}
    (h : doIndex ti x y = some r) (hp : NeedP r.need) : ResOk ids ob nb w r ((do pure (.value (← Instr.index t v u)) : Sem Next).run P w) := by
  unfold doIndex at h
  obtain ⟨d, hd, ha, hdk⟩ := hti.desc
  split at h
  · rename_i i is len esz eagg hk
    rw [hk] at hdk
    cases d <;> simp only [TKok] at hdk
    rename_i l e
    obtain ⟨rfl, h2, h3⟩ := hdk
    have hu := hy.v0
    simp only [denV] at hu
    have hv := hx.v0
    simp only [denV] at hv; subst hv
    have hcs : ∀ J, Le ids J → (flat (tot ids) is).toArray = (flat J is).toArray := fun J hJ => by have := hx.v hJ; simpa [denV] using this
    split at h
    · rename_i n hn
      obtain ⟨k, hkn⟩ := known_ok hn
      split at h
      · rename_i m hlt hseg
        have hlt' : n < len := by
          have := Nat.le_of_ble_eq_true (show Nat.ble (n + 1) len = true from hlt); omega
        cases hv : aggOr eagg m with
        | none => simp [hv] at h
        | some z =>
          simp only [hv, ok, Option.some.injEq] at h; subst h
          rw [hkn] at hu; subst hu
          obtain ⟨q, hq, hok⟩ := run_part h2 h3 hseg hv hcs w
          refine ResOk.pure ho (v := q) ?_ hok
          have hin : (0 : Int) ≤ (n : Int) ∧ (n : Int) < (len : Int) := ⟨by omega, by omega⟩
          simp [Instr.index, asIntOf, run_underlying hd, run_sizeOf h2, hq, hlt']
      · cases h
    · split at h
      · rename_i n hn he
        have he1 : esz = 1 := Nat.eq_of_beq_eq_true he
        subst he1
        obtain ⟨k, hkn⟩ := idxI_ok hn
        rw [hkn] at hu; subst hu
        have go : ∀ (z : Value), (flat (tot ids) is)[n.toNat]? = some z → (0 ≤ n ∧ n < (len : Int)) → ((do pure (.value (← Instr.index t (.agg (flat (tot ids) is).toArray) (.int k n))) : Sem Next).run P w) = .ok (.value z) w := by
          intro z hz hp
          simp [Instr.index, asIntOf, run_underlying hd, hp, run_sizeOf h2, part, run_isAgg h3, hz]
        split at h
        · rename_i m a
          split at h
          · rename_i y hm h1 hy1
            have hm' : m = len := Nat.eq_of_beq_eq_true hm
            subst hm'
            simp only [ok, Option.some.injEq] at h; subst h
            simp only [NeedP] at hp
            have dec : ∀ J, (flat J [I.big m a])[n.toNat]? = some (den J y) := by
              intro J
              obtain ⟨A, B, e1, l1⟩ := big_cell J m a n.toNat (by omega) y hy1 h1
              simp only [flat_cons, flat_nil, List.append_nil]
              rw [e1, List.getElem?_append_right (by omega), l1]; simp
            refine ResOk.pure ho (go _ (dec (tot ids)) hp) fun J hJ => ?_
            have q1 := dec (tot ids)
            have q2 := dec J
            have q3 : flat (tot ids) [I.big m a] = flat J [I.big m a] := by have := hcs J hJ; simpa using this
            rw [q3, q2] at q1
            simp only [denW, denV]; exact (Option.some.inj q1).symm
          · cases h
        · cases ht : tblI is with
          | none => simp [ht] at h
          | some l =>
            simp only [ht] at h
            split at h
            · rename_i hl
              have hl' : l.length = len := Nat.eq_of_beq_eq_true hl
              simp only [ok, Option.some.injEq] at h; subst h
              simp only [NeedP] at hp
              have hlt : n.toNat < l.length := by omega
              refine ResOk.pure ho (go (.int .i64 (l.getD n.toNat 0)) ?_ hp) fun _ _ => rfl
              rw [tblI_ok ht (tot ids)]
              simp [List.getD, List.getElem?_eq_getElem hlt]
            · cases h
      · cases h
  · cases h
end Go.SX
