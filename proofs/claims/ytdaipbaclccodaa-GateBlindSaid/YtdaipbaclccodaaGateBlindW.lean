/- GateBlind: the walk. -/
import Derived.Test.YtdaipbaclccodaaCall14
set_option linter.all false
namespace Go.Proofs.Ytdaipbaclccodaa.gateBlind
open Go.ChangeShapes Go.WideShapes Go.ChangeAt Go.RowKit
open Go.ChangeMaps (open_string shut_string)
set_option linter.unusedVariables false
set_option linter.unusedSimpArgs false

/-- two gates beside one another -/
structure Two (w wr : World) (ga ma gb mb : Nat) (ra rb : List (Int × GR)) : Prop where
  a : GateIs wr ga ma 0 ra
  b : GateIs wr gb mb 0 rb
  oka : GOk ra
  okb : GOk rb
  k : Kept [] w wr
structure Apart (w : World) (ga ma gb mb : Nat) : Prop where
  la : w.heap.size ≤ ma
  lb : w.heap.size ≤ mb
  n1 : ga ≠ mb
  n2 : ma ≠ mb
  n3 : gb ≠ ma
theorem Two.openA {w wr wr' : World} {ga ma gb mb : Nat} {ra rb ra' : List (Int × GR)} (h : Two w wr ga ma gb mb ra rb) (hap : Apart w ga ma gb mb) (hg : GateIs wr' ga ma 0 ra') (hk : Kept [ma] wr wr') (hok : GOk ra') : Two w wr' ga ma gb mb ra' rb :=
  ⟨hg, h.b.kept hk (by simp; exact hap.n3) (by simp; exact fun e => hap.n2 e.symm), hok, h.okb, h.k.trans hk (fun x hx => .inr (by simp at hx; subst hx; exact hap.la))⟩
theorem Two.openB {w wr wr' : World} {ga ma gb mb : Nat} {ra rb rb' : List (Int × GR)} (h : Two w wr ga ma gb mb ra rb) (hap : Apart w ga ma gb mb) (hg : GateIs wr' gb mb 0 rb') (hk : Kept [mb] wr wr') (hok : GOk rb') : Two w wr' ga ma gb mb ra rb' :=
  ⟨h.a.kept hk (by simp; exact hap.n1) (by simp; exact hap.n2), hg, h.oka, hok, h.k.trans hk (fun x hx => .inr (by simp at hx; subst hx; exact hap.lb))⟩
theorem Two.kept {w wr wr' : World} {ga ma gb mb : Nat} {ra rb : List (Int × GR)} (h : Two w wr ga ma gb mb ra rb) (hk : Kept [] wr wr') : Two w wr' ga ma gb mb ra rb :=
  ⟨h.a.kept hk (by simp) (by simp), h.b.kept hk (by simp) (by simp), h.oka, h.okb, h.k.trans hk (by simp)⟩

/-- the same transactions, with the same masks and releases -/
def Shape (ra rb : List (Int × GR)) : Prop := ∀ tx, (aget tx ra).map (fun r => (r.mask, r.rel)) = (aget tx rb).map (fun r => (r.mask, r.rel))
theorem aget_aput {α β : Type} [DecidableEq α] (x y : α) (v : β) : ∀ l : List (α × β), aget y (aput x v l) = if x = y then some v else aget y l
  | [] => by simp [aput, aget]
  | p :: r => by
    by_cases h : p.1 = x
    · by_cases h2 : x = y
      · simp [aput, h, aget, h2]
      · have : ¬ p.1 = y := fun e => h2 (h ▸ e)
        simp [aput, h, aget, h2]
    · by_cases h2 : p.1 = y
      · have : ¬ x = y := fun e => h (h2.trans e.symm)
        rw [aput, if_neg h, aget, if_pos h2, if_neg this, aget, if_pos h2]
      · simp [aput, h, aget, h2, aget_aput x y v r]
theorem shape_set (rows : List (Int × GR)) (tx : Int) (y : Bool) : Shape (gSet rows tx y).2 rows := by
  intro t
  unfold gSet
  cases hr : aget tx rows with
  | none => rfl
  | some r =>
    simp only
    by_cases hc : r.out ≠ 0 ∧ r.out ≠ if y then 2 else 1
    · rw [if_pos hc]
    · rw [if_neg hc]
      simp only [aget_aput]
      by_cases h : tx = t
      · subst h; simp [hr]
      · simp [h]
theorem Shape.symm {ra rb : List (Int × GR)} (h : Shape ra rb) : Shape rb ra := fun t => (h t).symm
theorem Shape.trans {ra rb rc : List (Int × GR)} (h : Shape ra rb) (h' : Shape rb rc) : Shape ra rc := fun t => (h t).trans (h' t)
theorem Shape.refl (ra : List (Int × GR)) : Shape ra ra := fun t => rfl
theorem blind {ra rb : List (Int × GR)} (h : Shape ra rb) (tx part now : Int) (hn : ¬ (gMask ra tx).2 ≤ now) : ∃ c : Int, c ≠ 0 ∧ gRead ra tx part now = (0, c) ∧ gRead rb tx part now = (0, c) := by
  have ht := h tx
  unfold gRead gMask at *
  cases ha : aget tx ra with
  | none =>
    rw [ha] at ht
    cases hb : aget tx rb with
    | none => exact ⟨12, by decide, rfl, rfl⟩
    | some r => rw [hb] at ht; simp at ht
  | some r =>
    rw [ha] at ht hn
    cases hb : aget tx rb with
    | none => rw [hb] at ht; simp at ht
    | some q =>
      rw [hb] at ht
      simp at ht hn
      obtain ⟨h1, h2⟩ := ht
      simp only [← h1, ← h2]
      by_cases hh : hasB r.mask part = false
      · exact ⟨12, by decide, by rw [if_pos hh], by rw [if_pos hh]⟩
      · exact ⟨17, by decide, by rw [if_neg hh, if_pos (.inl hn)], by rw [if_neg hh, if_pos (.inl hn)]⟩
set_option maxRecDepth 100000 in
set_option maxHeartbeats 4000000 in
theorem walk (v0 : Value) (l : List Call14) (tx part now first second : Int) (w : World) (h0 : SlAt w v0 Call14.ps.length l.length (l.flatMap Call14.f)) (hl : ∀ x ∈ l, x.ok)
    (_w1 : IntKind.i64.min ≤ tx ∧ tx ≤ IntKind.i64.max) (_w2 : IntKind.i64.min ≤ part ∧ part ≤ IntKind.i64.max) (_w3 : IntKind.i64.min ≤ now ∧ now ≤ IntKind.i64.max) (_w4 : IntKind.i64.min ≤ first ∧ first ≤ IntKind.i64.max) (_w5 : IntKind.i64.min ≤ second ∧ second ≤ IntKind.i64.max) :
    Calls Try.prog 4 #[v0, .int .i64 tx, .int .i64 part, .int .i64 now, .int .i64 first, .int .i64 second] w fun e w' => e = .returned (.bool true) ∧ Kept [] w w' := by
  clear _w1 _w2 _w3 _w4 _w5
  obtain ⟨a, cap, rfl, hmax, _, hc⟩ := h0.ex
  have HC := hid hc
  have HL := hid hl
  clear h0 hc hl
  by_cases hlen : 100 < l.length
  · go_enter Try.func4, Try.ntmps4
    go_wp2_with (go_at_call 8; refine (alive_any _).mono ?_; rintro e wa ⟨rfl, hka⟩)
    go_ret
    exact ⟨rfl, hka⟩
  · go_enter Try.func4, Try.ntmps4
    go_wp2_with fail
    refine (alive_any _).mono ?_
    rintro e wa ⟨rfl, hka⟩
    go_wp2_with fail
    refine (gnew_any 0 _).mono ?_
    rintro e wb ⟨rfl, hGa, hkb⟩
    go_wp2_with fail
    refine (gnew_any 0 _).mono ?_
    rintro e wc ⟨rfl, hGb, hkc⟩
    have hap : Apart w (wa.heap.size + 1) wa.heap.size (wb.heap.size + 1) wb.heap.size := by
      have h1 := hka.size
      have h2 := hkb.size
      have h3 := hGa.lt
      exact ⟨by omega, by omega, by omega, by omega, by omega⟩
    have htwo : Two w wc (wa.heap.size + 1) wa.heap.size (wb.heap.size + 1) wb.heap.size [] [] :=
      ⟨hGa.kept hkc (by simp) (by simp), hGb, by intro p hp; simp at hp, by intro p hp; simp at hp, (hka.trans hkb (by simp)).trans hkc (by simp)⟩
    have HA := hid hap
    have HT := hid htwo
    clear hGa hGb hkc hkb hka hap htwo
    generalize wa.heap.size + 1 = ga at *
    generalize wa.heap.size = ma at *
    generalize wb.heap.size + 1 = gb at *
    generalize wb.heap.size = mb at *
    go_wp2_with fail
    go_loopw [15] (fun i wr => ∃ (k : Nat) (rows : List (Int × GR)), k ≤ l.length ∧ i = .int .i64 k ∧ Two w wr ga ma gb mb rows rows) (fun i _ => l.length - (intOf i).toNat)
    case atStart => exact ⟨0, [], Nat.zero_le _, rfl, HT.out⟩
    case round =>
      obtain ⟨k, rows, hk, rfl, htwo⟩ := hrel
      have HW := hid htwo
      clear htwo
      by_cases hlt : k < l.length
      · obtain ⟨b, off, rfl, hbl, hcs⟩ := HC.out (by omega)
        obtain ⟨d0, d1, d2, d3, d4, d5⟩ := Call14.cells hcs hlt
        have hmk : (l[k]).mask < 65536 := HL.out _ (List.getElem_mem hlt)
        generalize l[k] = c at *
        have d0 := HW.out.k.cell d0 (by simp)
        have d1 := HW.out.k.cell d1 (by simp)
        have d2 := HW.out.k.cell d2 (by simp)
        have d3 := HW.out.k.cell d3 (by simp)
        have d4 := HW.out.k.cell d4 (by simp)
        have d5 := HW.out.k.cell d5 (by simp)
        have hbl2 : b < wr.heap.size := Nat.lt_of_lt_of_le hbl HW.out.k.size
        clear hcs
        have hbw : ∀ w', Kept [] wr w' → Two w w' ga ma gb mb rows rows := fun w' h => HW.out.kept h
        have HBW := hid hbw
        have hma : wr.heap.size ∉ [ma] := by have := HW.out.a.lt; simp; omega
        have hmb : wr.heap.size ∉ [mb] := by have := HW.out.b.lt; simp; omega
        have HMA := hid hma
        have HMB := hid hmb
        clear hbw hma hmb
        by_cases hw0 : c.what = 0
        · have hwb : (c.what == 0) = true := by simp [hw0]
          have hwb3 : (c.what == 3) = false := by simp [hw0]
          clear hw0
          go_wp2_with fail
          have h1 := HBW.out _ ((Kept.refl [] wr).alloc (.cells c.f.toArray 35))
          refine (gopen_any ga ma 0 rows c.tx c.n c.mask hmk _ h1.a).mono ?_
          rintro e w1 ⟨rfl, hG1, hk1⟩
          have h2 := h1.openA HA.out hG1 hk1 (GOk.open h1.oka c.tx c.mask c.n)
          obtain ⟨e0, e1, e2, e3, e4, e5⟩ := Call14.copy hk1 HMA.out
          have H2 := hid h2
          have HK1 := hid hk1
          clear h1 h2 hG1 hk1 d0 d1 d2 d3 d4 d5
          go_wp2_with fail
          refine (gopen_any gb mb 0 rows c.tx c.n c.mask hmk _ H2.out.b).mono ?_
          rintro e w2 ⟨rfl, hG2, hk2⟩
          have h3 := H2.out.openB HA.out hG2 hk2 (GOk.open H2.out.okb c.tx c.mask c.n)
          obtain ⟨e0, e1, e2, e3, e4, e5⟩ := Call14.copy (S := [ma, mb]) ((HK1.out.mono (by simp)).trans hk2 (by simp)) (by have h1 := HMA.out; have h2 := HMB.out; simp at h1 h2 ⊢; exact ⟨h1, h2⟩)
          have H3 := hid h3
          clear h3 hG2 hk2
          go_wp2
          go_roundw
          case rel => exact ⟨k + 1, _, by omega, by go_num, H3.out⟩
          case measure => simp [intOf]; omega
        · by_cases hw3 : c.what = 3
          · have hwb : (c.what == 0) = false := by simp [hw3]
            have hwb3 : (c.what == 3) = true := by simp [hw3]
            clear hw0 hw3
            go_wp2_with fail
            have h1 := HBW.out _ ((Kept.refl [] wr).alloc (.cells c.f.toArray 35))
            refine (gclose_any ga ma 0 rows c.tx _ h1.a).mono ?_
            rintro e w1 ⟨rfl, hG1, hk1⟩
            have h2 := h1.openA HA.out hG1 hk1 (GOk.del h1.oka c.tx)
            obtain ⟨e0, e1, e2, e3, e4, e5⟩ := Call14.copy hk1 HMA.out
            have H2 := hid h2
            clear h1 h2 hG1 hk1 d0 d1 d2 d3 d4 d5
            go_wp2_with fail
            refine (gclose_any gb mb 0 rows c.tx _ H2.out.b).mono ?_
            rintro e w2 ⟨rfl, hG2, hk2⟩
            have h3 := H2.out.openB HA.out hG2 hk2 (GOk.del H2.out.okb c.tx)
            have H3 := hid h3
            clear h3 hG2 hk2
            go_wp2
            go_roundw
            case rel => exact ⟨k + 1, _, by omega, by go_num, H3.out⟩
            case measure => simp [intOf]; omega
          · have hwb : (c.what == 0) = false := by simp [hw0]
            have hwb3 : (c.what == 3) = false := by simp [hw3]
            clear hw0 hw3
            go_wp2
            go_roundw
            case rel => exact ⟨k + 1, rows, by omega, by go_num, HBW.out _ ((Kept.refl [] wr).alloc _)⟩
            case measure => simp [intOf]; omega
      · by_cases hf : 0 < first
        all_goals by_cases hs : 0 < second
        · go_wp2_with fail
          refine (gset_any ga ma 0 rows tx _ _ HW.out.a).mono ?_
          rintro e w1 ⟨rfl, hG1, hk1⟩
          have h2 := HW.out.openA HA.out hG1 hk1 (GOk.set HW.out.oka tx _)
          have HX1 := hid h2
          clear h2 hG1 hk1
          go_wp2_with fail
          refine (gset_any gb mb 0 rows tx _ _ HX1.out.b).mono ?_
          rintro e w2 ⟨rfl, hG2, hk2⟩
          have h3 := HX1.out.openB HA.out hG2 hk2 (GOk.set HX1.out.okb tx _)
          have HX := hid h3
          have HS := hid ((shape_set rows tx (first == 1)).trans (shape_set rows tx (second == 1)).symm)
          clear h3 hG2 hk2 HX1
          go_wp2_with fail
          refine (gmask_any ga ma 0 _ tx _ HX.out.a).mono ?_
          rintro e w3 ⟨rfl, hk3⟩
          have h3 := HX.out.kept hk3
          have H3 := hid h3
          have hb := blind HS.out tx part now
          have HB := hid hb
          clear h3 hk3 hb
          generalize gMask _ tx = gm at *
          by_cases hn : gm.2 ≤ now
          · go_wp2
            go_ret
            exact ⟨rfl, H3.out.k⟩
          · obtain ⟨c, hc, e1, e2⟩ := HB.out hn
            have hc1 : (c == 0) = false := by simpa using hc
            have hc2 : (c != 0) = true := by simpa using hc
            have E1 := hid e1
            have E2 := hid e2
            clear e1 e2
            go_wp2_with fail
            refine (gread_any ga ma 0 _ tx part now _ H3.out.a H3.out.oka).mono ?_
            rw [E1.out]
            rintro e w4 ⟨rfl, hk4⟩
            have H4 := hid (H3.out.kept hk4)
            clear hk4
            go_wp2_with fail
            refine (gread_any gb mb 0 _ tx part now _ H4.out.b H4.out.okb).mono ?_
            rw [E2.out]
            rintro e w5 ⟨rfl, hk5⟩
            have H5 := hid (H4.out.kept hk5)
            clear hk5
            go_wp2
            go_ret
            exact ⟨rfl, H5.out.k⟩
        · go_wp2_with fail
          refine (gset_any ga ma 0 rows tx _ _ HW.out.a).mono ?_
          rintro e w1 ⟨rfl, hG1, hk1⟩
          have h2 := HW.out.openA HA.out hG1 hk1 (GOk.set HW.out.oka tx _)
          have HX := hid h2
          have HS := hid (shape_set rows tx (first == 1))
          clear h2 hG1 hk1
          go_wp2_with fail
          refine (gmask_any ga ma 0 _ tx _ HX.out.a).mono ?_
          rintro e w3 ⟨rfl, hk3⟩
          have h3 := HX.out.kept hk3
          have H3 := hid h3
          have hb := blind HS.out tx part now
          have HB := hid hb
          clear h3 hk3 hb
          generalize gMask _ tx = gm at *
          by_cases hn : gm.2 ≤ now
          · go_wp2
            go_ret
            exact ⟨rfl, H3.out.k⟩
          · obtain ⟨c, hc, e1, e2⟩ := HB.out hn
            have hc1 : (c == 0) = false := by simpa using hc
            have hc2 : (c != 0) = true := by simpa using hc
            have E1 := hid e1
            have E2 := hid e2
            clear e1 e2
            go_wp2_with fail
            refine (gread_any ga ma 0 _ tx part now _ H3.out.a H3.out.oka).mono ?_
            rw [E1.out]
            rintro e w4 ⟨rfl, hk4⟩
            have H4 := hid (H3.out.kept hk4)
            clear hk4
            go_wp2_with fail
            refine (gread_any gb mb 0 _ tx part now _ H4.out.b H4.out.okb).mono ?_
            rw [E2.out]
            rintro e w5 ⟨rfl, hk5⟩
            have H5 := hid (H4.out.kept hk5)
            clear hk5
            go_wp2
            go_ret
            exact ⟨rfl, H5.out.k⟩
        · go_wp2_with fail
          refine (gset_any gb mb 0 rows tx _ _ HW.out.b).mono ?_
          rintro e w2 ⟨rfl, hG2, hk2⟩
          have h3 := HW.out.openB HA.out hG2 hk2 (GOk.set HW.out.okb tx _)
          have HX := hid h3
          have HS := hid (shape_set rows tx (second == 1)).symm
          clear h3 hG2 hk2
          go_wp2_with fail
          refine (gmask_any ga ma 0 _ tx _ HX.out.a).mono ?_
          rintro e w3 ⟨rfl, hk3⟩
          have h3 := HX.out.kept hk3
          have H3 := hid h3
          have hb := blind HS.out tx part now
          have HB := hid hb
          clear h3 hk3 hb
          generalize gMask _ tx = gm at *
          by_cases hn : gm.2 ≤ now
          · go_wp2
            go_ret
            exact ⟨rfl, H3.out.k⟩
          · obtain ⟨c, hc, e1, e2⟩ := HB.out hn
            have hc1 : (c == 0) = false := by simpa using hc
            have hc2 : (c != 0) = true := by simpa using hc
            have E1 := hid e1
            have E2 := hid e2
            clear e1 e2
            go_wp2_with fail
            refine (gread_any ga ma 0 _ tx part now _ H3.out.a H3.out.oka).mono ?_
            rw [E1.out]
            rintro e w4 ⟨rfl, hk4⟩
            have H4 := hid (H3.out.kept hk4)
            clear hk4
            go_wp2_with fail
            refine (gread_any gb mb 0 _ tx part now _ H4.out.b H4.out.okb).mono ?_
            rw [E2.out]
            rintro e w5 ⟨rfl, hk5⟩
            have H5 := hid (H4.out.kept hk5)
            clear hk5
            go_wp2
            go_ret
            exact ⟨rfl, H5.out.k⟩
        · have HX := hid HW.out
          have HS := hid (Shape.refl rows)
          go_wp2_with fail
          refine (gmask_any ga ma 0 _ tx _ HX.out.a).mono ?_
          rintro e w3 ⟨rfl, hk3⟩
          have h3 := HX.out.kept hk3
          have H3 := hid h3
          have hb := blind HS.out tx part now
          have HB := hid hb
          clear h3 hk3 hb
          generalize gMask _ tx = gm at *
          by_cases hn : gm.2 ≤ now
          · go_wp2
            go_ret
            exact ⟨rfl, H3.out.k⟩
          · obtain ⟨c, hc, e1, e2⟩ := HB.out hn
            have hc1 : (c == 0) = false := by simpa using hc
            have hc2 : (c != 0) = true := by simpa using hc
            have E1 := hid e1
            have E2 := hid e2
            clear e1 e2
            go_wp2_with fail
            refine (gread_any ga ma 0 _ tx part now _ H3.out.a H3.out.oka).mono ?_
            rw [E1.out]
            rintro e w4 ⟨rfl, hk4⟩
            have H4 := hid (H3.out.kept hk4)
            clear hk4
            go_wp2_with fail
            refine (gread_any gb mb 0 _ tx part now _ H4.out.b H4.out.okb).mono ?_
            rw [E2.out]
            rintro e w5 ⟨rfl, hk5⟩
            have H5 := hid (H4.out.kept hk5)
            clear hk5
            go_wp2
            go_ret
            exact ⟨rfl, H5.out.k⟩
end Go.Proofs.Ytdaipbaclccodaa.gateBlind
