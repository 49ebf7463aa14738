/- GateOnce: the walk. -/
import Derived.Test.YtdaipbaclccodaaCall14
set_option linter.all false
namespace Go.Proofs.Ytdaipbaclccodaa.gateOnce
open Go.ChangeShapes Go.WideShapes Go.ChangeAt Go.RowKit
set_option linter.unusedVariables false
set_option linter.unusedSimpArgs false

theorem aget_aput {α β : Type} [DecidableEq α] (x y : α) (v : β) : ∀ l : List (α × β), aget y (aput x v l) = if x = y then some v else aget y l
  | [] => by simp [aput, aget]
  | p :: r => by
    by_cases h : p.1 = x
    · by_cases h2 : x = y
      · simp [aput, h, aget, h2]
      · have : ¬ p.1 = y := fun e => h2 (h ▸ e)
        simp [aput, h, aget, h2]
    · by_cases h2 : p.1 = y
      · have : ¬ x = y := fun e => h (h2.trans e.symm)
        rw [aput, if_neg h, aget, if_pos h2, if_neg this, aget, if_pos h2]
      · simp [aput, h, aget, h2, aget_aput x y v r]
theorem aget_adel {α β : Type} [DecidableEq α] (x y : α) (h : x ≠ y) : ∀ l : List (α × β), aget y (adel x l) = aget y l
  | [] => rfl
  | p :: r => by
    by_cases hp : p.1 = x
    · have : ¬ p.1 = y := fun e => h (hp.symm.trans e)
      rw [adel, if_pos hp, aget, if_neg this]
    · rw [adel, if_neg hp, aget, aget, aget_adel x y h r]
/-- what is read again -/
def Fixed (rows : List (Int × GR)) (tx : Int) (r : GR) : Prop := aget tx rows = some r ∧ r.out ≠ 0
theorem Fixed.open {rows : List (Int × GR)} {tx : Int} {r : GR} (h : Fixed rows tx r) (t : Int) (m : Nat) (n : Int) : Fixed (gOpen rows t m n).2 tx r := by
  refine ⟨?_, h.2⟩
  unfold gOpen
  by_cases h1 : t < 1 ∨ 1048576 < t ∨ n < 0 ∨ 1099511627776 < n
  · rw [if_pos h1]; exact h.1
  · rw [if_neg h1]
    by_cases h2 : m = 0 ∨ 63 < m
    · rw [if_pos h2]; exact h.1
    · rw [if_neg h2]
      by_cases h3 : (aget t rows).isSome = true
      · rw [if_pos h3]; exact h.1
      · rw [if_neg h3]
        by_cases h4 : 64 ≤ rows.length
        · rw [if_pos h4]; exact h.1
        · rw [if_neg h4]
          simp only [aget_aput]
          rw [if_neg (fun e => h3 (by rw [e, h.1]; rfl))]; exact h.1
theorem Fixed.set {rows : List (Int × GR)} {tx : Int} {r : GR} (h : Fixed rows tx r) (t : Int) (y : Bool) : Fixed (gSet rows t y).2 tx r := by
  refine ⟨?_, h.2⟩
  unfold gSet
  cases hr : aget t rows with
  | none => exact h.1
  | some q =>
    simp only
    by_cases hc : q.out ≠ 0 ∧ q.out ≠ if y then 2 else 1
    · rw [if_pos hc]; exact h.1
    · rw [if_neg hc]
      simp only [aget_aput]
      by_cases e : t = tx
      · subst e
        rw [h.1] at hr
        cases hr
        have : r.out = if y then 2 else 1 := Classical.byContradiction fun hne => hc ⟨h.2, hne⟩
        rw [if_pos rfl, ← this]
      · rw [if_neg e]; exact h.1
theorem Fixed.del {rows : List (Int × GR)} {tx : Int} {r : GR} (h : Fixed rows tx r) (t : Int) (ht : t ≠ tx) : Fixed (adel t rows) tx r :=
  ⟨by rw [aget_adel t tx ht]; exact h.1, h.2⟩
theorem Fixed.read {rows rows' : List (Int × GR)} {tx : Int} {r : GR} (h : Fixed rows tx r) (h' : Fixed rows' tx r) (part now : Int) : gRead rows tx part now = gRead rows' tx part now := by
  unfold gRead; rw [h.1, h'.1]
theorem read_none {rows : List (Int × GR)} {tx part now : Int} (h : (gRead rows tx part now).2 ≠ 0) : (gRead rows tx part now).1 = 0 := by
  unfold gRead at h ⊢
  cases hr : aget tx rows with
  | none => rfl
  | some r =>
    rw [hr] at h
    simp only at h ⊢
    by_cases h1 : hasB r.mask part = false
    · rw [if_pos h1]
    · rw [if_neg h1] at h ⊢
      by_cases h2 : now < r.rel ∨ r.out = 0
      · rw [if_pos h2]
      · rw [if_neg h2] at h; exact absurd rfl h
theorem read_ok {rows : List (Int × GR)} {tx part now : Int} (h : (gRead rows tx part now).2 = 0) : (∃ r, Fixed rows tx r) ∧ ((gRead rows tx part now).1 = 0 ∨ (gRead rows tx part now).1 = 1) := by
  unfold gRead at h ⊢
  cases hr : aget tx rows with
  | none => rw [hr] at h; simp at h
  | some r =>
    rw [hr] at h
    simp only at h ⊢
    by_cases h1 : hasB r.mask part = false
    · rw [if_pos h1] at h; simp at h
    · rw [if_neg h1] at h ⊢
      by_cases h2 : now < r.rel ∨ r.out = 0
      · rw [if_pos h2] at h; simp at h
      · rw [if_neg h2]
        refine ⟨⟨r, hr, fun e => h2 (.inr e)⟩, ?_⟩
        simp only
        by_cases h3 : r.out = 2
        · rw [if_pos h3]; exact .inr rfl
        · rw [if_neg h3]; exact .inl rfl

set_option maxRecDepth 100000 in
set_option maxHeartbeats 4000000 in
theorem walk (v0 : Value) (l : List Call14) (tx part now : Int) (v4 : Value) (l4 : List Call14) (w : World) (h0 : SlAt w v0 Call14.ps.length l.length (l.flatMap Call14.f)) (hl : ∀ x ∈ l, x.ok)
    (_w1 : IntKind.i64.min ≤ tx ∧ tx ≤ IntKind.i64.max) (_w2 : IntKind.i64.min ≤ part ∧ part ≤ IntKind.i64.max) (_w3 : IntKind.i64.min ≤ now ∧ now ≤ IntKind.i64.max)
    (h4 : SlAt w v4 Call14.ps.length l4.length (l4.flatMap Call14.f)) (hl4 : ∀ x ∈ l4, x.ok) :
    Calls Try.prog 5 #[v0, .int .i64 tx, .int .i64 part, .int .i64 now, v4] w fun e w' => e = .returned (.bool true) ∧ Kept [] w w' := by
  clear _w1 _w2 _w3
  obtain ⟨a, cap, rfl, hmax, _, hc⟩ := h0.ex
  obtain ⟨a4, cap4, rfl, hmax4, _, hc4⟩ := h4.ex
  have HC := hid hc
  have HL := hid hl
  have HC4 := hid hc4
  have HL4 := hid hl4
  clear h0 hc hl h4 hc4 hl4
  by_cases hlen : 100 < l.length ∨ 100 < l4.length
  · go_enter Try.func5, Try.ntmps5
    go_wp2_with (go_at_call 8; refine (alive_any _).mono ?_; rintro e wa ⟨rfl, hka⟩)
    all_goals go_ret
    all_goals exact ⟨rfl, by assumption⟩
  · go_enter Try.func5, Try.ntmps5
    go_wp2_with fail
    refine (alive_any _).mono ?_
    rintro e wa ⟨rfl, hka⟩
    go_wp2_with fail
    refine (gnew_any 0 _).mono ?_
    rintro e wb ⟨rfl, hGa, hkb⟩
    have HG := hid hGa
    have HK := hid (hka.trans hkb (by simp))
    have hmw : w.heap.size ≤ wa.heap.size := hka.size
    clear hGa hkb hka
    generalize wa.heap.size + 1 = ga at *
    generalize wa.heap.size = ma at *
    go_wp2_with fail
    go_loopw [12] (fun i wr => ∃ (k : Nat) (rows : List (Int × GR)), k ≤ l.length ∧ i = .int .i64 k ∧ GateIs wr ga ma 0 rows ∧ GOk rows ∧ Kept [] w wr) (fun i _ => l.length - (intOf i).toNat)
    case atStart => exact ⟨0, [], Nat.zero_le _, rfl, HG.out, by intro p hp; simp at hp, HK.out⟩
    case round =>
      obtain ⟨k, rows, hk, rfl, hG, hok, hkw⟩ := hrel
      have HG2 := hid hG
      have HOK := hid hok
      have HK2 := hid hkw
      clear hG hok hkw
      by_cases hlt : k < l.length
      · obtain ⟨b, off, rfl, hbl, hcs⟩ := HC.out (by omega)
        obtain ⟨d0, d1, d2, d3, d4, d5⟩ := Call14.cells hcs hlt
        have hmk : (l[k]).mask < 65536 := HL.out _ (List.getElem_mem hlt)
        generalize l[k] = c at *
        have d0 := HK2.out.cell d0 (by simp)
        have d1 := HK2.out.cell d1 (by simp)
        have d2 := HK2.out.cell d2 (by simp)
        have d3 := HK2.out.cell d3 (by simp)
        have d4 := HK2.out.cell d4 (by simp)
        have d5 := HK2.out.cell d5 (by simp)
        have hbl2 : b < wr.heap.size := Nat.lt_of_lt_of_le hbl HK2.out.size
        have H1 := hid (HG2.out.kept ((Kept.refl [] wr).alloc (.cells c.f.toArray 35)) (by simp) (by simp))
        have fin : ∀ w', Kept [ma] (wr.alloc (.cells c.f.toArray 35)) w' → Kept [] w w' := fun w' h => (HK2.out.alloc _).trans h (fun x hx => .inr (by simp at hx; omega))
        have HF := hid fin
        clear hcs fin
        by_cases hw0 : c.what = 0
        · have hwb : (c.what == 0) = true := by simp [hw0]
          clear hw0
          go_wp2_with (go_at_call 10; refine (gopen_any ga ma 0 rows c.tx c.n c.mask hmk _ H1.out).mono ?_; rintro e w1 ⟨rfl, hG1, hk1⟩)
          have H2 := hid hG1
          have H3 := hid (HF.out _ hk1)
          clear hG1 hk1
          go_roundw
          case rel => exact ⟨k + 1, _, by omega, by go_num, H2.out, GOk.open HOK.out _ _ _, H3.out⟩
          case measure => simp [intOf]; omega
        · have hwb : (c.what == 0) = false := by simp [hw0]
          clear hw0
          by_cases hw1 : c.what = 1
          · have hwb1 : (c.what == 1) = true := by simp [hw1]
            clear hw1
            go_wp2_with (go_at_call 12; refine (gset_any ga ma 0 rows c.tx c.commit _ H1.out).mono ?_; rintro e w1 ⟨rfl, hG1, hk1⟩)
            have H2 := hid hG1
            have H3 := hid (HF.out _ hk1)
            clear hG1 hk1
            go_roundw
            case rel => exact ⟨k + 1, _, by omega, by go_num, H2.out, GOk.set HOK.out _ _, H3.out⟩
            case measure => simp [intOf]; omega
          · have hwb1 : (c.what == 1) = false := by simp [hw1]
            clear hw1
            by_cases hw3 : c.what = 3
            · have hwb3 : (c.what == 3) = true := by simp [hw3]
              clear hw3
              go_wp2_with (go_at_call 16; refine (gclose_any ga ma 0 rows c.tx _ H1.out).mono ?_; rintro e w1 ⟨rfl, hG1, hk1⟩)
              have H2 := hid hG1
              have H3 := hid (HF.out _ hk1)
              clear hG1 hk1
              go_roundw
              case rel => exact ⟨k + 1, _, by omega, by go_num, H2.out, GOk.del HOK.out _, H3.out⟩
              case measure => simp [intOf]; omega
            · have hwb3 : (c.what == 3) = false := by simp [hw3]
              clear hw3
              go_wp2
              go_roundw
              case rel => exact ⟨k + 1, _, by omega, by go_num, H1.out, HOK.out, HF.out _ (Kept.refl _ _)⟩
              case measure => simp [intOf]; omega
      · go_wp2_with fail
        refine (gread_any ga ma 0 _ tx part now _ HG2.out HOK.out).mono ?_
        rintro e w3 ⟨rfl, hk3⟩
        have HG3 := hid (HG2.out.kept hk3 (by simp) (by simp))
        have HK3 := hid (HK2.out.trans hk3 (by simp))
        clear hk3
        have hn := read_none (rows := rows) (tx := tx) (part := part) (now := now)
        have ho := read_ok (rows := rows) (tx := tx) (part := part) (now := now)
        have hfx : ∀ rows', ∀ r, Fixed rows tx r → Fixed rows' tx r → gRead rows' tx part now = gRead rows tx part now := fun rows' r h h' => h'.read h part now
        have HN := hid hn
        have HO := hid ho
        have HX := hid hfx
        clear hn ho hfx
        generalize gRead rows tx part now = g at *
        obtain ⟨x, ee⟩ := g
        by_cases he : ee = 0
        · subst he
          obtain ⟨⟨r, hr⟩, hx⟩ := HO.out rfl
          have HR := hid hr
          have HXX := hid hx
          clear hr hx
          go_wp2_with fail
          go_loopw [16] (fun i wr => ∃ (k : Nat) (rows' : List (Int × GR)), k ≤ l4.length ∧ i = .int .i64 k ∧ GateIs wr ga ma 0 rows' ∧ GOk rows' ∧ Fixed rows' tx r ∧ Kept [] w wr) (fun i _ => l4.length - (intOf i).toNat)
          case atStart => exact ⟨0, rows, Nat.zero_le _, rfl, HG3.out, HOK.out, HR.out, HK3.out⟩
          case round =>
            obtain ⟨k, rows', hk, rfl, hG, hok, hfr, hkw⟩ := hrel
            have HG4 := hid hG
            have HOK4 := hid hok
            have HFR := hid hfr
            have HK4 := hid hkw
            clear hG hok hkw hfr
            by_cases hlt : k < l4.length
            · obtain ⟨b, off, rfl, hbl, hcs⟩ := HC4.out (by omega)
              obtain ⟨d0, d1, d2, d3, d4, d5⟩ := Call14.cells hcs hlt
              have hmk : (l4[k]).mask < 65536 := HL4.out _ (List.getElem_mem hlt)
              generalize l4[k] = c at *
              have d0 := HK4.out.cell d0 (by simp)
              have d1 := HK4.out.cell d1 (by simp)
              have d2 := HK4.out.cell d2 (by simp)
              have d3 := HK4.out.cell d3 (by simp)
              have d4 := HK4.out.cell d4 (by simp)
              have d5 := HK4.out.cell d5 (by simp)
              have hbl2 : b < wr.heap.size := Nat.lt_of_lt_of_le hbl HK4.out.size
              have H1 := hid (HG4.out.kept ((Kept.refl [] wr).alloc (.cells c.f.toArray 35)) (by simp) (by simp))
              have fin : ∀ w', Kept [ma] (wr.alloc (.cells c.f.toArray 35)) w' → Kept [] w w' := fun w' h => (HK4.out.alloc _).trans h (fun x hx => .inr (by simp at hx; omega))
              have HF := hid fin
              clear hcs fin
              by_cases hw0 : c.what = 0
              · have hwb : (c.what == 0) = true := by simp [hw0]
                clear hw0
                go_wp2_with fail
                refine (gopen_any ga ma 0 rows' c.tx c.n c.mask hmk _ H1.out).mono ?_
                rintro e w1 ⟨rfl, hG1, hk1⟩
                have H2 := hid hG1
                have H3 := hid (HF.out _ hk1)
                have HFX := hid (HFR.out.open c.tx c.mask c.n)
                have HOK5 := hid (GOk.open HOK4.out c.tx c.mask c.n)
                clear hG1 hk1
                go_wp2_with fail
                refine (gread_any ga ma 0 _ tx part now _ H2.out HOK5.out).mono ?_
                rw [HX.out _ _ HR.out HFX.out]
                rintro e w5 ⟨rfl, hk5⟩
                have H5 := hid (H2.out.kept hk5 (by simp) (by simp))
                have HK5 := hid (H3.out.trans hk5 (by simp))
                clear hk5
                go_wp2
                go_roundw
                case rel => exact ⟨k + 1, _, by omega, by go_num, H5.out, HOK5.out, HFX.out, HK5.out⟩
                case measure => simp [intOf]; omega
              · have hwb : (c.what == 0) = false := by simp [hw0]
                clear hw0
                by_cases hw1 : c.what = 1
                · have hwb1 : (c.what == 1) = true := by simp [hw1]
                  clear hw1
                  go_wp2_with fail
                  refine (gset_any ga ma 0 rows' c.tx c.commit _ H1.out).mono ?_
                  rintro e w1 ⟨rfl, hG1, hk1⟩
                  have H2 := hid hG1
                  have H3 := hid (HF.out _ hk1)
                  have HFX := hid (HFR.out.set c.tx c.commit)
                  have HOK5 := hid (GOk.set HOK4.out c.tx c.commit)
                  clear hG1 hk1
                  go_wp2_with fail
                  refine (gread_any ga ma 0 _ tx part now _ H2.out HOK5.out).mono ?_
                  rw [HX.out _ _ HR.out HFX.out]
                  rintro e w5 ⟨rfl, hk5⟩
                  have H5 := hid (H2.out.kept hk5 (by simp) (by simp))
                  have HK5 := hid (H3.out.trans hk5 (by simp))
                  clear hk5
                  go_wp2
                  go_roundw
                  case rel => exact ⟨k + 1, _, by omega, by go_num, H5.out, HOK5.out, HFX.out, HK5.out⟩
                  case measure => simp [intOf]; omega
                · have hwb1 : (c.what == 1) = false := by simp [hw1]
                  clear hw1
                  by_cases hw3 : c.what = 3 ∧ c.tx ≠ tx
                  · have hwb3 : (c.what == 3) = true := by simp [hw3.1]
                    have hwb4 : (c.tx != tx) = true := by simp [hw3.2]
                    have HNE := hid hw3.2
                    clear hw3
                    go_wp2_with fail
                    refine (gclose_any ga ma 0 rows' c.tx _ H1.out).mono ?_
                    rintro e w1 ⟨rfl, hG1, hk1⟩
                    have H2 := hid hG1
                    have H3 := hid (HF.out _ hk1)
                    have HFX := hid (HFR.out.del c.tx HNE.out)
                    have HOK5 := hid (GOk.del HOK4.out c.tx)
                    clear hG1 hk1
                    go_wp2_with fail
                    refine (gread_any ga ma 0 _ tx part now _ H2.out HOK5.out).mono ?_
                    rw [HX.out _ _ HR.out HFX.out]
                    rintro e w5 ⟨rfl, hk5⟩
                    have H5 := hid (H2.out.kept hk5 (by simp) (by simp))
                    have HK5 := hid (H3.out.trans hk5 (by simp))
                    clear hk5
                    go_wp2
                    go_roundw
                    case rel => exact ⟨k + 1, _, by omega, by go_num, H5.out, HOK5.out, HFX.out, HK5.out⟩
                    case measure => simp [intOf]; omega
                  · have hk1 : Kept [ma] (wr.alloc (.cells c.f.toArray 35)) (wr.alloc (.cells c.f.toArray 35)) := Kept.refl _ _
                    have hG1 := H1.out
                    by_cases hw5 : c.what = 3
                    · have hwb3 : (c.what == 3) = true := by simp [hw5]
                      have hwb4 : (c.tx != tx) = false := by
                        have : c.tx = tx := Classical.byContradiction fun h => hw3 ⟨hw5, h⟩
                        simp [this]
                      clear hw3 hw5
                      have H2 := hid hG1
                      have H3 := hid (HF.out _ hk1)
                      have HFX := hid (HFR.out)
                      have HOK5 := hid (HOK4.out)
                      clear hG1 hk1
                      go_wp2_with fail
                      refine (gread_any ga ma 0 _ tx part now _ H2.out HOK5.out).mono ?_
                      rw [HX.out _ _ HR.out HFX.out]
                      rintro e w5 ⟨rfl, hk5⟩
                      have H5 := hid (H2.out.kept hk5 (by simp) (by simp))
                      have HK5 := hid (H3.out.trans hk5 (by simp))
                      clear hk5
                      go_wp2
                      go_roundw
                      case rel => exact ⟨k + 1, _, by omega, by go_num, H5.out, HOK5.out, HFX.out, HK5.out⟩
                      case measure => simp [intOf]; omega
                    · have hwb3 : (c.what == 3) = false := by simp [hw5]
                      clear hw3 hw5
                      have H2 := hid hG1
                      have H3 := hid (HF.out _ hk1)
                      have HFX := hid (HFR.out)
                      have HOK5 := hid (HOK4.out)
                      clear hG1 hk1
                      go_wp2_with fail
                      refine (gread_any ga ma 0 _ tx part now _ H2.out HOK5.out).mono ?_
                      rw [HX.out _ _ HR.out HFX.out]
                      rintro e w5 ⟨rfl, hk5⟩
                      have H5 := hid (H2.out.kept hk5 (by simp) (by simp))
                      have HK5 := hid (H3.out.trans hk5 (by simp))
                      clear hk5
                      go_wp2
                      go_roundw
                      case rel => exact ⟨k + 1, _, by omega, by go_num, H5.out, HOK5.out, HFX.out, HK5.out⟩
                      case measure => simp [intOf]; omega
            · rcases HXX.out with hx | hx
              all_goals subst hx
              all_goals go_wp2
              all_goals go_ret
              all_goals exact ⟨rfl, HK4.out⟩
        · have hx := HN.out he
          simp only at hx
          subst hx
          have heb : (ee != 0) = true := by simpa using he
          clear he
          go_wp2
          go_ret
          exact ⟨rfl, HK3.out⟩
end Go.Proofs.Ytdaipbaclccodaa.gateOnce
