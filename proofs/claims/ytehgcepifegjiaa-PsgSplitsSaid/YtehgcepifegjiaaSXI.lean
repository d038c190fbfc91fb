/- Lists of one's own: made, appended to, asked for their length. -/
import Derived.Test.YtehgcepifegjiaaSXH
namespace Go.SX
variable {R : Reg} {P : Program}

/-- an owned list goes on as another one -/
theorem ObOk.move {ids : Nm} {ob : Ob R} {n : Nat} (hfree : ids n = none) {w w' : World} (h : ObOk ids ob w) {o : Nat} {q : Pl} {x : O R} (ho : ob o = x) (hq : ids o = some q) (hex : x.excl = true) (p : Pl) (y : O R)
    (hs : w.heap.size ≤ w'.heap.size) (hb : ∀ b, b < w.heap.size → x.blk q ≠ some b → w'.heap[b]? = w.heap[b]?) (hy : OOk (setN ids n p) p w' y)
    (hn : ∀ b, y.blk p = some b → x.blk q = some b ∨ w.heap.size ≤ b) : ObOk (setN ids n p) (upd1 (upd1 ob o .none) n y) w' := by
  subst ho
  have hno : o ≠ n := fun e => by rw [e, hfree] at hq; cases hq
  have old : ∀ (i : Nat) (r : Pl), i ≠ o → ids i = some r → ∀ b, (ob i).blk r = some b → (ob o).blk q ≠ some b := fun i r hne hr b hzb hxb =>
    h.dist o i q r b (Ne.symm hne) hq hr hex hxb hzb
  refine ⟨fun i z hi hz => ?_, fun i j r r' b hne hr hr' hez hzb => ?_⟩
  · by_cases e : i = n
    · subst e; simp only [upd1, if_true] at hi; subst hi
      exact ⟨p, by simp [setN], hy⟩
    · simp only [upd1, if_neg e] at hi
      by_cases e2 : i = o
      · subst e2; simp only [if_true] at hi; exact absurd hi.symm hz
      · simp only [if_neg e2] at hi
        obtain ⟨r, hr, hok⟩ := h.ok i z hi hz
        exact ⟨r, by simp [setN, e, hr], (hok.keep hs fun b hzb => hb b (hok.blk_lt hzb) (old i r e2 hr b (by rw [hi]; exact hzb))).ext (LeN.setN hfree p)⟩
  · by_cases e : i = n
    · have e' : j ≠ n := fun h => hne (e.trans h.symm)
      subst e
      simp only [setN, if_true, Option.some.injEq, if_neg e'] at hr hr'
      subst hr
      simp only [upd1, if_true] at hzb
      simp only [upd1, if_neg e']
      by_cases e2 : j = o
      · simp only [if_pos e2]; simp [O.blk]
      · simp only [if_neg e2]; intro hb2
        rcases hn b hzb with h1 | h1
        · exact old j r' e2 hr' b hb2 h1
        · have := h.blk_lt hr' hb2; omega
    · simp only [setN, if_neg e] at hr
      simp only [upd1, if_neg e] at hez hzb
      by_cases e2 : i = o
      · simp only [if_pos e2] at hez; simp [O.excl] at hez
      · simp only [if_neg e2] at hez hzb
        by_cases e' : j = n
        · subst e'
          simp only [setN, if_true, Option.some.injEq] at hr'; subst hr'
          simp only [upd1, if_true]; intro hb2
          rcases hn b hb2 with h1 | h1
          · exact old i r e2 hr b hzb h1
          · have := h.blk_lt hr hzb; omega
        · simp only [setN, if_neg e'] at hr'
          simp only [upd1, if_neg e']
          by_cases e3 : j = o
          · simp only [if_pos e3]; simp [O.blk]
          · simp only [if_neg e3]; exact h.dist i j r r' b hne hr hr' hez hzb

/-- a slice value as a place -/
def plOf : Value → Pl
  | .slice b l c => ⟨0, b, l, c⟩
  | _ => default

theorem ownsRow_val {w : World} {base e size n : Nat} {v : Value} {xs : List Value} (h : w.ownsRow base e size v n xs) : (plOf v).val = v := by
  rcases h.2 with ⟨rfl, _⟩ | ⟨g, cap, cur, rfl, _⟩ <;> rfl

def doAppend [DecidableEq R.K] (ti : TI R) (x y : W R) (ob : Ob R) (nb : Nat) : Option (Res R) :=
  match ti.k, y with
  | .slice e esz _ eb, .v (.s (.sl o2)) =>
    match ob o2 with
    | .lst b m _ _ =>
      match Nat.ble eb 128, Nat.blt 0 esz with
      | true, true =>
        match x with
        | .v (.s .nils) => match Nat.beq b.esz esz with
          | true => some ⟨some (m ≤ 1099511627776), .v (.s (.sl nb)), [], [.lst b m true e]⟩
          | false => none
        | .v (.s (.sl o)) =>
          match ob o with
          | .lst a n true e' =>
            match a.cat n b, Nat.beq e e', Nat.beq a.esz esz with
            | some c, true, true => some ⟨some (n + m ≤ 1099511627776), .v (.s (.sl nb)), [(o, .none)], [.lst c (n + m) true e]⟩
            | _, _, _ => none
          | _ => none
        | _ => none
      | _, _ => none
    | _ => none
  | _, _ => none

theorem lcells_len (J : Tot) (a : Arr R) (n : Nat) : (lcells J a n).length = n * a.esz := by
  have := flatI_len J (.big n a); simpa [flatI, I.size, lcells] using this

theorem lcells_one (J : Tot) (a : Arr R) (n : Nat) : ∀ v ∈ lcells J a n, v.oneCell' = true := flatI_one J (.big n a)

/-- the cells of a list that is read, at their address -/
theorem lst_read {ids : Nm} {p : Pl} {w : World} {a : Arr R} {n : Nat} {own : Bool} {e : Nat} (h : OOk ids p w (.lst a n own e)) :
    ∃ xs, (∀ J, Le ids J → xs = lcells J a n) ∧ ((p.val = .slice none 0 0 ∧ n = 0) ∨ ∃ ad cap, p.val = .slice (some ad) n cap ∧ ∀ j v, xs[j]? = some v → w.cell? (ad.add j) = some v) := by
  cases own with
  | true =>
    obtain ⟨xs, h1, h2⟩ := h
    refine ⟨xs, h2, ?_⟩
    rcases h1.2 with ⟨hv, h0⟩ | ⟨g, cap, cur, hv, hb, hg, hn, hc, hcs, ht⟩
    · exact .inl ⟨hv, h0⟩
    · exact .inr ⟨⟨g, 0, none⟩, cap, hv, fun j v hj => h1.cells (g := g) (by simp [hv, Value.ownBlock]) j v hj⟩
  | false =>
    rcases h with ⟨hv, h0⟩ | ⟨ad, cap, xs, hv, hs, hlt, hn, hc, hx, h1⟩
    · exact ⟨[], fun J _ => by subst h0; rfl, .inl ⟨hv, h0⟩⟩
    · exact ⟨xs, hx, .inr ⟨ad, cap, hv, h1⟩⟩

theorem append_nil_src {t ty e : Nat} {i : TypeInfo} (ht : P.underlying t = some (.slice e)) (hi : P.info? e = some i) (w : World) (b : Option Addr) (n c : Nat) (hnc : n ≤ c) :
    (Builtin.append_ #[t, t] ty #[.slice b n c, .slice none 0 0]).run P w = .ok (.slice b n c) w := by
  cases b <;> simp [Builtin.append_, run_underlying ht, sizeOf, typeInfo, hi, Builtin.lenOf, hnc, Builtin.firstCells, storeCells]

theorem doAppend_ok [DecidableEq R.K] {t ty : Nat} {ti : TI R} (hti : TIok P t ti) {ids : Nm} {ob : Ob R} {nb : Nat} (hfree : ids nb = none) {w : World} (ho : ObOk ids ob w) {x y : W R} {v u : Value} (hx : WOk ids x v) (hy : WOk ids y u) {r : Res R}
    (h : doAppend ti x y ob nb = some r) (hp : NeedP r.need) : ResOk ids ob nb w r ((do pure (.value (← Builtin.append_ #[t, t] ty #[v, u])) : Sem Next).run P w) := by
  have h0 := Le_tot ids
  unfold doAppend at h
  obtain ⟨d, hd, ha, hdk⟩ := hti.desc
  split at h
  · rename_i e esz eagg eb o2 hk
    rw [hk] at hdk
    cases d <;> simp only [TKok] at hdk
    obtain ⟨rfl, h2, h3, h4, z, hz, hzs⟩ := hdk
    cases hob2 : ob o2 <;> simp only [hob2, reduceCtorEq] at h
    rename_i b m own2 e2
    split at h
    · rename_i heb hesz
      have heb' : eb ≤ 128 := Nat.le_of_ble_eq_true heb
      have hesz' : 0 < esz := Nat.le_of_ble_eq_true hesz
      have hu := hy.v0
      simp only [denV, den] at hu
      obtain ⟨ys, hys, hsrc⟩ := lst_read (ho.here hob2 (by simp)).2.2
      cases hi : P.info? e with
      | none => simp [sizeIs, hi] at h2
      | some i =>
        have hisz : i.size = esz := by simpa [sizeIs, hi] using h2
        have hiz : i.zero = some z := by simpa [hi] using hz
        have hib : i.bytes = eb := by simpa [hi] using h4
        -- the general step: an owned row, and what comes behind it
        have core : ∀ (v : Value) (n : Nat) (xs : List Value), w.ownsRow 0 e esz v n xs → n + m ≤ 1099511627776 → b.esz = esz →
            ∃ v' w', (Builtin.append_ #[t, t] ty #[v, u]).run P w = .ok v' w' ∧ w'.ownsRow 0 e esz v' (n + m) (xs ++ ys) ∧ w.grownBy w' v.ownBlock ∧
              ∀ b, v'.ownBlock = some b → v.ownBlock = some b ∨ w.heap.size ≤ b := by
          intro v n xs hown hbd hbe
          have hyl : ys.length = m * esz := by rw [hys (tot ids) h0, lcells_len, hbe]
          have nosrc : m = 0 → ys = [] → u = .slice none 0 0 → ∃ v' w', (Builtin.append_ #[t, t] ty #[v, u]).run P w = .ok v' w' ∧ w'.ownsRow 0 e esz v' (n + m) (xs ++ ys) ∧ w.grownBy w' v.ownBlock ∧
              ∀ b, v'.ownBlock = some b → v.ownBlock = some b ∨ w.heap.size ≤ b := by
            intro h0 hy0 hu
            subst hu; subst hy0; subst h0
            refine ⟨v, w, ?_, by simpa using hown, ⟨rfl, rfl, rfl, Nat.le_refl _, fun _ _ _ => rfl⟩, fun b hb => .inl hb⟩
            rcases hown.2 with ⟨rfl, _⟩ | ⟨g, cap, cur, rfl, _, _, hnc, _⟩
            · exact append_nil_src hd hi w _ _ _ (Nat.le_refl _)
            · exact append_nil_src hd hi w _ _ _ hnc
          rcases hsrc with ⟨hval, h0⟩ | ⟨ad, cap, hval, hcell⟩
          · rw [hval] at hu
            exact nosrc h0 (List.eq_nil_of_length_eq_zero (by rw [hyl, h0]; simp)) hu
          · rw [hval] at hu; subst hu
            have h63 : n + m ≤ maxLen := by unfold maxLen; omega
            have hby : (n + m) * eb ≤ 140737488355328 := Nat.le_trans (Nat.mul_le_mul hbd heb') (by omega)
            obtain ⟨v', w', q1, q2, q3, q4⟩ := run_append_own (P := P) w 0 t ty e i z esz eb hd hi hiz hisz hib hzs hesz' v n xs hown ad m cap ys hyl hcell
              (by rw [hys (tot ids) h0]; exact lcells_one _ _ _) h63 hby (Nat.zero_le _)
            refine ⟨v', w', q1, q2, q3, fun b hb => ?_⟩
            subst hisz
            subst hib
            rcases hown.2 with ⟨rfl, rfl⟩ | ⟨g, cp, cur, rfl, _, hg, hnc, hcm, hcs, htake⟩
            · by_cases hm : m = 0
              · subst hm
                have : v' = .slice none 0 0 := (q4.2 ⟨rfl, rfl⟩)
                subst this; simp [Value.ownBlock] at hb
              · have hr := run_append_nil (P := P) w t ty e i z hd hi hiz ad m cap ys hyl hcell (by omega) (by omega) (by simp only [Nat.zero_add] at hby; omega)
                rw [hr] at q1
                have := (Result.ok.inj q1).1; subst this
                simp only [Value.ownBlock, Option.some.injEq] at hb; exact .inr (by omega)
            · by_cases hroom : n + m ≤ cp
              · have hr := run_append_room (P := P) w t ty e i hd hi g n cp cur hg ad m cap ys hyl hcell (by rw [hys (tot ids) h0]; exact lcells_one _ _ _) hroom
                  (by rw [hyl, hcs, ← Nat.add_mul]; exact Nat.mul_le_mul_right _ hroom)
                rw [hr] at q1
                have := (Result.ok.inj q1).1; subst this
                simp only [Value.ownBlock, Option.some.injEq] at hb ⊢; exact .inl hb
              · have hr := run_append_grow (P := P) w t ty e i z hd hi hiz ⟨g, 0, none⟩ n cp xs hown.1 (hown.cells (g := g) rfl) ad m cap ys hyl hcell (by omega) (by omega) (growslice_fits (by omega) hby)
                rw [hr] at q1
                have := (Result.ok.inj q1).1; subst this
                simp only [Value.ownBlock, Option.some.injEq] at hb; exact .inr (by omega)
        split at h
        · split at h
          · rename_i hbe
            have hbe' : b.esz = esz := Nat.eq_of_beq_eq_true hbe
            simp only [Option.some.injEq] at h; subst h
            simp only [NeedP] at hp
            have hv := hx.v0
            simp only [denV, den] at hv; subst hv
            obtain ⟨v', w', q1, q2, q3, q4⟩ := core (.slice none 0 0) 0 [] (World.ownsRow_nil w 0 e esz) (by omega) hbe'
            have hval := ownsRow_val q2
            simp only [Nat.zero_add, List.nil_append] at q2
            have hblk : ∀ b', (O.lst b m true e).blk (plOf v') = some b' → w.heap.size ≤ b' := by
              intro b' hb'
              simp only [O.blk, hval] at hb'
              rcases q4 b' hb' with h | h
              · simp [Value.ownBlock] at h
              · exact h
            refine ⟨v', w', setN ids nb (plOf v'), .inl (by simp [q1]), fun J hJ => ?_, ?_, LeN.setN hfree _, fun o => ?_, ?_⟩
            · simp only [denW, denV, den, hJ.at_setN, hval]
            · exact ho.push hfree _ _ q3.size (fun b hb => q3.block b hb (by simp [Value.ownBlock])) ⟨ys, by rw [hval, hbe']; exact q2, fun J hJ => hys J ((LeN.setN hfree _).le hJ)⟩ hblk
            · simp only [setN, List.length_singleton]
              split
              · exact .inr (by omega)
              · exact .inl rfl
            · refine ⟨q3.os, q3.tape, q3.output, q3.size, fun b hb _ => q3.block b hb (by simp [Value.ownBlock]), fun b hb => ?_⟩
              rcases exB_push hb with h | h
              · exact .inl h
              · exact .inr (hblk b h)
          · cases h
        · rename_i o
          cases hob : ob o <;> simp only [hob, reduceCtorEq] at h
          rename_i a n own e'
          cases own <;> simp only [reduceCtorEq] at h
          split at h
          · rename_i c hcat hee hae
            have hee' : e = e' := Nat.eq_of_beq_eq_true hee
            have hae' : a.esz = esz := Nat.eq_of_beq_eq_true hae
            subst hee'
            simp only [Option.some.injEq] at h; subst h
            simp only [NeedP] at hp
            obtain ⟨k1, k2, k3⟩ := cat_ok (m := m) hcat
            have hv := hx.v0
            simp only [denV, den] at hv; subst hv
            obtain ⟨hpl, _, xs, g1, g2⟩ := ho.here hob (by simp)
            obtain ⟨v', w', q1, q2, q3, q4⟩ := core (tot ids o).val n xs (by rw [← hae']; exact g1) hp (by rw [k2, hae'])
            have hval := ownsRow_val q2
            have hblk : ∀ b', (O.lst c (n + m) true e).blk (plOf v') = some b' → (O.lst a n true e).blk (tot ids o) = some b' ∨ w.heap.size ≤ b' := by
              intro b' hb'
              simp only [O.blk, hval] at hb'
              exact q4 b' hb'
            refine ⟨v', w', setN ids nb (plOf v'), .inl (by simp [q1]), fun J hJ => ?_, ?_, LeN.setN hfree _, fun o => ?_, ?_⟩
            · simp only [denW, denV, den, hJ.at_setN, hval]
            · refine ho.move hfree hob hpl rfl _ _ q3.size (fun b hb hne => q3.block b hb (fun hc => hne (by simp only [O.blk]; exact hc.symm))) ⟨xs ++ ys, by rw [hval, k1, hae']; exact q2, fun J hJ => ?_⟩ hblk
              have hJ' := (LeN.setN hfree _).le hJ
              rw [k3, ← g2 J hJ', ← hys J hJ']
            · simp only [setN, List.length_singleton]
              split
              · exact .inr (by omega)
              · exact .inl rfl
            · refine ⟨q3.os, q3.tape, q3.output, q3.size, fun b hb hne => q3.block b hb (fun hc => hne ⟨o, _, hpl, by rw [hob]; rfl, by rw [hob]; simp only [O.blk]; exact hc.symm⟩), fun b hb => ?_⟩
              rcases exB_push hb with h | h
              · obtain ⟨i, q, f1, f2, f3⟩ := h
                by_cases e1 : i = o
                · simp only [apU, upd1, if_pos e1] at f2; simp [O.excl] at f2
                · simp only [apU, upd1, if_neg e1] at f2 f3
                  exact .inl ⟨i, q, f1, f2, f3⟩
              · rcases hblk b h with h | h
                · exact .inl ⟨o, _, hpl, by rw [hob]; rfl, by rw [hob]; exact h⟩
                · exact .inr h
          · cases h
        · cases h
    · cases h
  · cases h
end Go.SX
