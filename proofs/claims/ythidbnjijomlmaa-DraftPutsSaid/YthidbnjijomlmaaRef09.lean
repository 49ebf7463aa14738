/- References of layer 9 and what the statements share: pairs the same, right values, keys in order, numbers. -/
import Derived.Test.YthidbnjijomlmaaRecs
set_option linter.all false
namespace Go.Proofs.Ythidbnjijomlmaa
open Go.RowKit Go.Shelf Go.Lib Go.Sort Go.Proofs
set_option linter.unusedVariables false
set_option linter.unusedSimpArgs false

--@@ concordatref00.SamePairs
set_option maxRecDepth 100000 in
set_option maxHeartbeats 4000000 in
theorem samePairs_any (v1 v2 : Value) (xs ys : List Pr) (w : World) (h1 : SlAt w v1 6 xs.length (xs.flatMap Pr.f)) (h2 : SlAt w v2 6 ys.length (ys.flatMap Pr.f)) :
    Calls Try.prog 16 #[v1, v2] w fun e w' => e = .returned (.bool (decide (xs = ys))) ∧ Kept [] w w' := by
  obtain ⟨a1, cap1, rfl, m1, _, c1⟩ := h1.ex
  obtain ⟨a2, cap2, rfl, m2, _, c2⟩ := h2.ex
  clear h1 h2
  have HC1 := hid c1
  have HC2 := hid c2
  clear c1 c2
  by_cases hl : xs.length = ys.length
  · have hb : ((xs.length : Int) != (ys.length : Int)) = false := by simp [hl]
    have HL := hid hl
    clear hl
    go_enter Try.func16, Try.ntmps16
    go_wp2
    go_loopw [5] (fun i wr => ∃ k : Nat, k ≤ xs.length ∧ i = .int .i64 k ∧ xs.take k = ys.take k ∧ ∃ n, wr = w.drewN n) (fun i _ => xs.length - (intOf i).toNat)
    case atStart => exact ⟨0, Nat.zero_le _, rfl, rfl, 0, rfl⟩
    case round =>
      obtain ⟨k, hk, rfl, ht, n, rfl⟩ := hrel
      have HT := hid ht
      clear ht
      by_cases hlt : k < xs.length
      · have hlt2 : k < ys.length := by rw [← HL.out]; exact hlt
        obtain ⟨b1, o1, rfl, _, d1⟩ := HC1.out (by omega)
        obtain ⟨b2, o2, rfl, _, d2⟩ := HC2.out (by omega)
        obtain ⟨e0, e1, e2, e3, e4, e5⟩ := pair_cells d1 hlt
        obtain ⟨f0, f1, f2, f3, f4, f5⟩ := pair_cells d2 hlt2
        clear d1 d2
        have HX := hid (show xs.take (k + 1) = xs.take k ++ [xs[k]] by rw [List.take_succ_eq_append_getElem hlt])
        have HY := hid (show ys.take (k + 1) = ys.take k ++ [ys[k]] by rw [List.take_succ_eq_append_getElem hlt2])
        have HXE := hid (show xs[k]? = some xs[k] by simp [hlt])
        have HYE := hid (show ys[k]? = some ys[k] by simp [hlt2])
        generalize xs[k] = x at *
        generalize ys[k] = y at *
        by_cases hxy : x = y
        · have hq := fun (w : World) => neP w x y
          rw [show (!decide (x = y)) = false by simp [hxy]] at hq
          have HXY := hid hxy
          clear hxy
          obtain ⟨⟨x1, x2, x3, x4⟩, ⟨x5, x6⟩⟩ := x
          obtain ⟨⟨y1, y2, y3, y4⟩, ⟨y5, y6⟩⟩ := y
          dsimp only at e0 e1 e2 e3 e4 e5 f0 f1 f2 f3 f4 f5
          simp only [Pr.v] at hq
          go_wp2_with fail
          go_quiet (fail)
          go_wp2
          go_roundw
          case rel => exact ⟨k + 1, by omega, by go_num, by rw [HX.out, HY.out, HT.out, HXY.out], _, rfl⟩
          case measure => simp [intOf]; omega
        · have hq := fun (w : World) => neP w x y
          rw [show (!decide (x = y)) = true by simp [hxy]] at hq
          have HXY := hid hxy
          clear hxy
          obtain ⟨⟨x1, x2, x3, x4⟩, ⟨x5, x6⟩⟩ := x
          obtain ⟨⟨y1, y2, y3, y4⟩, ⟨y5, y6⟩⟩ := y
          dsimp only at e0 e1 e2 e3 e4 e5 f0 f1 f2 f3 f4 f5
          simp only [Pr.v] at hq
          go_wp2_with fail
          go_quiet (fail)
          go_wp2
          go_ret
          refine ⟨ret_bool ?_, ((Kept.refl [] w).drewN _).drewN _⟩
          symm
          refine decide_eq_false fun h => HXY.out ?_
          have := HXE.out
          rw [h, HYE.out] at this
          exact (Option.some.inj this).symm
      · go_wp2
        go_ret
        obtain rfl : k = xs.length := by omega
        refine ⟨ret_bool ?_, (Kept.refl [] w).drewN _⟩
        have := HT.out
        rw [List.take_length, HL.out, List.take_length] at this
        simp [this]
  · have hb : ((xs.length : Int) != (ys.length : Int)) = true := by simp; omega
    have HL := hid hl
    clear hl
    go_enter Try.func16, Try.ntmps16
    go_wp2
    go_ret
    exact ⟨ret_bool (by symm; exact decide_eq_false fun h => HL.out (by rw [h])), Kept.refl _ _⟩
--@@ concordatref09.Right
theorem rright_any (v : V) (w : World) :
    Calls Try.prog 29 #[v.v] w fun e w' => e = .returned (.bool v.right) ∧ Kept [] w w' := by
  obtain ⟨b, n⟩ := v
  simp only [V.v]
  cases b
  all_goals
    go_enter Try.func29, Try.ntmps29
    go_wp2
    go_ret
    exact ⟨ret_bool (by simp [V.right]; try rfl), (Kept.refl _ _).alloc _⟩
--@@ concordatlaw09.num
theorem num_any (n : Int) (w : World) :
    Calls Try.prog 30 #[.int .i64 n] w fun e w' => e = .returned (V.v ⟨true, n⟩) ∧ Kept [] w w' ∧ w' = w.alloc (.cells #[.bool true, .int .i64 n] 32) := by
  go_enter Try.func30, Try.ntmps30
  go_wp2
  go_returns
  exact ⟨rfl, (Kept.refl _ _).alloc _, rfl⟩
--@@ concordatref00.Below
set_option maxRecDepth 100000 in
set_option maxHeartbeats 4000000 in
theorem below_any (x y : K4) (w : World) :
    Calls Try.prog 27 #[x.v, y.v] w fun e w' => e = .returned (.bool (decide (x.num < y.num))) ∧ Kept [] w w' := by
  obtain ⟨x1, x2, x3, x4⟩ := x
  obtain ⟨y1, y2, y3, y4⟩ := y
  have HN := hid (show decide ((⟨x1, x2, x3, x4⟩ : K4).num < (⟨y1, y2, y3, y4⟩ : K4).num) = decide (((x1.toNat * 256 + x2.toNat) * 256 + x3.toNat) * 256 + x4.toNat < ((y1.toNat * 256 + y2.toNat) * 256 + y3.toNat) * 256 + y4.toNat) from rfl)
  rw [HN.out]
  clear HN
  simp only [K4.v]
  have hx1 := x1.toNat_lt; have hx2 := x2.toNat_lt; have hx3 := x3.toNat_lt; have hx4 := x4.toNat_lt
  have hy1 := y1.toNat_lt; have hy2 := y2.toNat_lt; have hy3 := y3.toNat_lt; have hy4 := y4.toNat_lt
  generalize x1.toNat = a1 at *; generalize x2.toNat = a2 at *; generalize x3.toNat = a3 at *; generalize x4.toNat = a4 at *
  generalize y1.toNat = b1 at *; generalize y2.toNat = b2 at *; generalize y3.toNat = b3 at *; generalize y4.toNat = b4 at *
  have HSa := hid (show ∀ n, ((w.alloc (.cells #[.int .u8 (a1 : Int), .int .u8 (a2 : Int), .int .u8 (a3 : Int), .int .u8 (a4 : Int)] 24)).alloc (.cells #[.int .u8 (b1 : Int), .int .u8 (b2 : Int), .int .u8 (b3 : Int), .int .u8 (b4 : Int)] 24)).drewN n = ((w.alloc (.cells #[.int .u8 (a1 : Int), .int .u8 (a2 : Int), .int .u8 (a3 : Int), .int .u8 (a4 : Int)] 24)).alloc (.cells #[.int .u8 (b1 : Int), .int .u8 (b2 : Int), .int .u8 (b3 : Int), .int .u8 (b4 : Int)] 24)).drewN n from fun n => rfl)
  clear HSa
  go_enter Try.func27, Try.ntmps27
  go_wp2
  go_loopw [5] (fun i wr => ∃ k : Nat, k ≤ 4 ∧ i = .int .i64 k ∧ (k ≥ 1 → a1 = b1) ∧ (k ≥ 2 → a2 = b2) ∧ (k ≥ 3 → a3 = b3) ∧ (k ≥ 4 → a4 = b4) ∧ ∃ n, wr = ((w.alloc (.cells #[.int .u8 (a1 : Int), .int .u8 (a2 : Int), .int .u8 (a3 : Int), .int .u8 (a4 : Int)] 24)).alloc (.cells #[.int .u8 (b1 : Int), .int .u8 (b2 : Int), .int .u8 (b3 : Int), .int .u8 (b4 : Int)] 24)).drewN n) (fun i _ => 4 - (intOf i).toNat)
  case atStart => exact ⟨0, Nat.zero_le _, rfl, by omega, by omega, by omega, by omega, 0, rfl⟩
  case round =>
    obtain ⟨k, hk, rfl, p1, p2, p3, p4, n, rfl⟩ := hrel
    have hk' : k = 0 ∨ k = 1 ∨ k = 2 ∨ k = 3 ∨ k = 4 := by omega
    rcases hk' with rfl | rfl | rfl | rfl | rfl
    · have HA := hid p1; have HB := hid p2; have HC := hid p3; have HD := hid p4
      clear p1 p2 p3 p4
      by_cases he : a1 = b1
      · have hb : ((a1 : Int) != (b1 : Int)) = false := by simp [he]
        have HE := hid he
        clear he
        go_wp2_with fail
        go_quiet (fail)
        go_wp2
        go_roundw
        case rel => exact ⟨1, by omega, by go_num, fun h => HE.out, fun h => by omega, fun h => by omega, fun h => by omega, _, rfl⟩
        case measure => simp [intOf]
      · have hb : ((a1 : Int) != (b1 : Int)) = true := by simp; omega
        have HE := hid he
        clear he
        go_wp2_with fail
        go_quiet (fail)
        go_wp2_with fail
        go_quiet (fail)
        go_wp2
        go_ret
        refine ⟨ret_bool ?_, ((((((Kept.refl [] w).alloc _).alloc _).drewN _).drewN _).drewN _)⟩
        have h1 := HA.out; have h2 := HB.out; have h3 := HC.out; have h4 := HD.out; have h5 := HE.out
        clear HA HB HC HD HE
        simp only [decide_eq_decide]
        omega
    · have HA := hid p1; have HB := hid p2; have HC := hid p3; have HD := hid p4
      clear p1 p2 p3 p4
      by_cases he : a2 = b2
      · have hb : ((a2 : Int) != (b2 : Int)) = false := by simp [he]
        have HE := hid he
        clear he
        go_wp2_with fail
        go_quiet (fail)
        go_wp2
        go_roundw
        case rel => exact ⟨2, by omega, by go_num, fun h => HA.out (by omega), fun h => HE.out, fun h => by omega, fun h => by omega, _, rfl⟩
        case measure => simp [intOf]
      · have hb : ((a2 : Int) != (b2 : Int)) = true := by simp; omega
        have HE := hid he
        clear he
        go_wp2_with fail
        go_quiet (fail)
        go_wp2_with fail
        go_quiet (fail)
        go_wp2
        go_ret
        refine ⟨ret_bool ?_, ((((((Kept.refl [] w).alloc _).alloc _).drewN _).drewN _).drewN _)⟩
        have h1 := HA.out; have h2 := HB.out; have h3 := HC.out; have h4 := HD.out; have h5 := HE.out
        clear HA HB HC HD HE
        simp only [decide_eq_decide]
        omega
    · have HA := hid p1; have HB := hid p2; have HC := hid p3; have HD := hid p4
      clear p1 p2 p3 p4
      by_cases he : a3 = b3
      · have hb : ((a3 : Int) != (b3 : Int)) = false := by simp [he]
        have HE := hid he
        clear he
        go_wp2_with fail
        go_quiet (fail)
        go_wp2
        go_roundw
        case rel => exact ⟨3, by omega, by go_num, fun h => HA.out (by omega), fun h => HB.out (by omega), fun h => HE.out, fun h => by omega, _, rfl⟩
        case measure => simp [intOf]
      · have hb : ((a3 : Int) != (b3 : Int)) = true := by simp; omega
        have HE := hid he
        clear he
        go_wp2_with fail
        go_quiet (fail)
        go_wp2_with fail
        go_quiet (fail)
        go_wp2
        go_ret
        refine ⟨ret_bool ?_, ((((((Kept.refl [] w).alloc _).alloc _).drewN _).drewN _).drewN _)⟩
        have h1 := HA.out; have h2 := HB.out; have h3 := HC.out; have h4 := HD.out; have h5 := HE.out
        clear HA HB HC HD HE
        simp only [decide_eq_decide]
        omega
    · have HA := hid p1; have HB := hid p2; have HC := hid p3; have HD := hid p4
      clear p1 p2 p3 p4
      by_cases he : a4 = b4
      · have hb : ((a4 : Int) != (b4 : Int)) = false := by simp [he]
        have HE := hid he
        clear he
        go_wp2_with fail
        go_quiet (fail)
        go_wp2
        go_roundw
        case rel => exact ⟨4, by omega, by go_num, fun h => HA.out (by omega), fun h => HB.out (by omega), fun h => HC.out (by omega), fun h => HE.out, _, rfl⟩
        case measure => simp [intOf]
      · have hb : ((a4 : Int) != (b4 : Int)) = true := by simp; omega
        have HE := hid he
        clear he
        go_wp2_with fail
        go_quiet (fail)
        go_wp2_with fail
        go_quiet (fail)
        go_wp2
        go_ret
        refine ⟨ret_bool ?_, ((((((Kept.refl [] w).alloc _).alloc _).drewN _).drewN _).drewN _)⟩
        have h1 := HA.out; have h2 := HB.out; have h3 := HC.out; have h4 := HD.out; have h5 := HE.out
        clear HA HB HC HD HE
        simp only [decide_eq_decide]
        omega
    · go_wp2
      go_ret
      refine ⟨ret_bool ?_, ((((Kept.refl [] w).alloc _).alloc _).drewN _)⟩
      symm
      have h1 := p1 (by omega); have h2 := p2 (by omega); have h3 := p3 (by omega); have h4 := p4 (by omega)
      exact decide_eq_false (by omega)
--@@ end
end Go.Proofs.Ythidbnjijomlmaa
