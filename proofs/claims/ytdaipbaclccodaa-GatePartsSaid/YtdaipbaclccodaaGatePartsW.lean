/- GateParts: the walk. -/
import Derived.Test.YtdaipbaclccodaaAlive14
import Derived.Test.YtdaipbaclccodaaOpen
import Derived.Deep.DeepCutAuto
set_option linter.all false
namespace Go.Proofs.Ytdaipbaclccodaa.gateParts
open Go.ChangeShapes Go.WideShapes Go.ChangeAt Go.RowKit
set_option linter.unusedVariables false
set_option linter.unusedSimpArgs false

theorem shr16 (s k : Nat) (hs : s < 65536) : (bits .and .u16 ((s : Int) / 2 ^ k) 1 == 1) = s.testBit k := by
  have h1 : ((s : Int) / 2 ^ k) = ((s / 2 ^ k : Nat) : Int) := by simp
  have h2 := u16_and_nat (s / 2 ^ k) 1 (Nat.lt_of_le_of_lt (Nat.div_le_self _ _) hs) (by omega)
  have h3 : ((1 : Nat) : Int) = 1 := rfl
  rw [h1]
  rw [h3] at h2
  rw [h2, Nat.testBit_eq_decide_div_mod_eq, Nat.and_one_is_mod]
  rw [Bool.eq_iff_iff]; simp; omega
theorem and15 (k : Nat) (hk : k < 16) : bits .and .i64 (k : Int) 15 = (k : Int) := by
  have : k = 0 ∨ k = 1 ∨ k = 2 ∨ k = 3 ∨ k = 4 ∨ k = 5 ∨ k = 6 ∨ k = 7 ∨ k = 8 ∨ k = 9 ∨ k = 10 ∨ k = 11 ∨ k = 12 ∨ k = 13 ∨ k = 14 ∨ k = 15 := by omega
  rcases this with rfl | rfl | rfl | rfl | rfl | rfl | rfl | rfl | rfl | rfl | rfl | rfl | rfl | rfl | rfl | rfl <;> decide
theorem hasB_out {m : Nat} {c : Int} (hm : m < 65536) (h : ¬ (0 ≤ c ∧ c < 16)) : hasB m c = false := by
  by_cases h0 : 0 ≤ c
  · obtain ⟨k, rfl⟩ := Int.eq_ofNat_of_zero_le h0
    have : m.testBit k = false := Nat.testBit_lt_two_pow (Nat.lt_of_lt_of_le hm (by
      have : (2:Nat) ^ 16 ≤ 2 ^ k := Nat.pow_le_pow_right (by omega) (by omega)
      omega))
    simp [hasB, this]
  · simp [hasB]; omega
theorem hasB_in {m k : Nat} (hk : k < 16) : hasB m (k : Int) = m.testBit k := by simp [hasB]; omega

set_option maxRecDepth 100000 in
set_option maxHeartbeats 4000000 in
theorem walk (m0 rel : Int) (commit : Bool) (a b : Int) (w : World) (w0 : IntKind.u16.min ≤ m0 ∧ m0 ≤ IntKind.u16.max) (_w1 : IntKind.i64.min ≤ rel ∧ rel ≤ IntKind.i64.max)
    (_w3 : IntKind.i64.min ≤ a ∧ a ≤ IntKind.i64.max) (_w4 : IntKind.i64.min ≤ b ∧ b ≤ IntKind.i64.max) :
    Calls Try.prog 7 #[.int .u16 m0, .int .i64 rel, .bool commit, .int .i64 a, .int .i64 b] w fun e w' => e = .returned (.bool true) ∧ Kept [] w w' := by
  obtain ⟨mask, rfl, hm⟩ := u16_of w0
  clear w0 _w1 _w3 _w4
  have hm0 : ((mask : Int) == 0) = decide (mask = 0) := by rw [Bool.eq_iff_iff]; simp
  by_cases hbad : mask = 0 ∨ 63 < mask ∨ rel < 0 ∨ 1099511627776 < rel
  · have e : ∃ c : Int, c ≠ 0 ∧ gOpen [] 1 mask rel = (c, []) := by
      unfold gOpen
      by_cases h1 : (1 : Int) < 1 ∨ 1048576 < (1 : Int) ∨ rel < 0 ∨ 1099511627776 < rel
      · exact ⟨11, by decide, by rw [if_pos h1]⟩
      · exact ⟨10, by decide, by rw [if_neg h1, if_pos (by omega)]⟩
    obtain ⟨c, hc, e⟩ := e
    have HE := hid e
    have hcb : (c != 0) = true := by simpa using hc
    clear e
    go_enter Try.func7, Try.ntmps7
    go_wp2_with fail
    refine (alive_any _).mono ?_
    rintro e wa ⟨rfl, hka⟩
    go_wp2_with fail
    refine (gnew_any 0 _).mono ?_
    rintro e wb ⟨rfl, hG, hkb⟩
    go_wp2_with fail
    refine (gopen_any _ _ _ [] 1 rel mask hm _ hG).mono ?_
    rw [HE.out]
    rintro e wc ⟨rfl, hG1, hk1⟩
    have hk := (hka.trans hkb (by simp)).trans hk1 (fun x hx => .inr (by have := hka.size; simp at hx; omega))
    have HK := hid hk
    clear hG hkb hka hG1 hk1 hk HE
    go_wp2
    all_goals go_ret
    all_goals refine ⟨?_, HK.out⟩
    all_goals first | rfl | (refine ret_bool ?_; simp; omega)
  · have e : gOpen [] 1 mask rel = (0, [(1, ⟨mask, rel, 0⟩)]) := by
      unfold gOpen
      rw [if_neg (by omega), if_neg (by omega), if_neg (by simp [aget]), if_neg (by simp)]
      rfl
    have HE := hid e
    clear e hm0
    go_enter Try.func7, Try.ntmps7
    go_wp2_with fail
    refine (alive_any _).mono ?_
    rintro e wa ⟨rfl, hka⟩
    go_wp2_with fail
    refine (gnew_any 0 _).mono ?_
    rintro e wb ⟨rfl, hG, hkb⟩
    go_wp2_with fail
    refine (gopen_any _ _ _ [] 1 rel mask hm _ hG).mono ?_
    rw [HE.out]
    rintro e wc ⟨rfl, hG1, hk1⟩
    have hk := (hka.trans hkb (by simp)).trans hk1 (fun x hx => .inr (by have := hka.size; simp at hx; omega))
    have hmw : w.heap.size ≤ wa.heap.size := hka.size
    have HK := hid hk
    have HG := hid hG1
    clear hG hkb hka hG1 hk1 hk HE
    generalize wa.heap.size + 1 = ga at *
    generalize wa.heap.size = ma at *
    go_upto_region 6 with (fail)
    go_cut [12] (fun s wx => s = .bool (hasB mask a) ∧ wx = wc)
    case first =>
      by_cases ha : 0 ≤ a ∧ a < 16
      · obtain ⟨k, rfl⟩ := Int.eq_ofNat_of_zero_le ha.1
        have hk16 : k < 16 := by omega
        have e1 := and15 k hk16
        have e2 := shr16 mask k hm
        have HH := hid (hasB_in (m := mask) hk16)
        clear ha
        go_wp2
        go_meet
        exact ⟨congrArg Value.bool (by rw [HH.out]), rfl⟩
      · have HH := hid (hasB_out hm ha)
        by_cases h0 : 0 ≤ a
        · have h1 : ¬ a < 16 := fun h => ha ⟨h0, h⟩
          clear ha
          go_wp2
          go_meet
          exact ⟨congrArg Value.bool (by rw [HH.out]), rfl⟩
        · clear ha
          go_wp2
          go_meet
          exact ⟨congrArg Value.bool (by rw [HH.out]), rfl⟩
    case rest =>
    obtain ⟨rfl, rfl⟩ := hcut
    go_upto_region 7 with (fail)
    go_cut [13] (fun s wx => s = .bool (hasB mask b) ∧ wx = wc)
    case first =>
      by_cases ha : 0 ≤ b ∧ b < 16
      · obtain ⟨k, rfl⟩ := Int.eq_ofNat_of_zero_le ha.1
        have hk16 : k < 16 := by omega
        have e1 := and15 k hk16
        have e2 := shr16 mask k hm
        have HH := hid (hasB_in (m := mask) hk16)
        clear ha
        go_wp2
        go_meet
        exact ⟨congrArg Value.bool (by rw [HH.out]), rfl⟩
      · have HH := hid (hasB_out hm ha)
        by_cases h0 : 0 ≤ b
        · have h1 : ¬ b < 16 := fun h => ha ⟨h0, h⟩
          clear ha
          go_wp2
          go_meet
          exact ⟨congrArg Value.bool (by rw [HH.out]), rfl⟩
        · clear ha
          go_wp2
          go_meet
          exact ⟨congrArg Value.bool (by rw [HH.out]), rfl⟩
    case rest =>
    obtain ⟨rfl, rfl⟩ := hcut
    have hrb : 0 ≤ rel ∧ rel ≤ 1099511627776 := by omega
    have hmask : mask < 64 := by omega
    obtain ⟨hr1, hr2⟩ := hrb
    clear hbad
    generalize hA : hasB mask a = A
    generalize hB : hasB mask b = B
    have HA := hid hA
    have HB := hid hB
    clear hA hB
    have hok : ∀ o, GOk [(1, ⟨mask, rel, o⟩)] := fun o p hp => by simp at hp; subst hp; exact hmask
    have HOK := hid hok
    clear hok
    go_wp2_with fail
    go_loopw [14] (fun i wr => ∃ (k : Nat) (o : Int), k ≤ 2 ∧ i = .int .i64 k ∧ GateIs wr ga ma 0 [(1, ⟨mask, rel, o⟩)] ∧ (o = 0 ∨ o = if commit then 2 else 1) ∧ Kept [] w wr) (fun i _ => 2 - (intOf i).toNat)
    case atStart => exact ⟨0, 0, by omega, rfl, HG.out, .inl rfl, HK.out⟩
    case round =>
      obtain ⟨k, o, hk, rfl, hG, ho, hkw⟩ := hrel
      have HG2 := hid hG
      have HK2 := hid hkw
      have HO := hid ho
      clear hG hkw ho
      by_cases hlt : k < 2
      · have hltb : decide ((k : Int) < 2) = true := by simp; omega
        go_wp2_with fail
        go_loopw [15] (fun t wx => ∃ now : Int, rel - 1 ≤ now ∧ now ≤ rel + 2 ∧ t = .int .i64 now ∧ GateIs wx ga ma 0 [(1, ⟨mask, rel, o⟩)] ∧ Kept [] w wx) (fun t _ => (rel + 2 - intOf t).toNat)
        case atStart => exact ⟨rel - 1, by omega, by omega, rfl, HG2.out, HK2.out⟩
        case round =>
          obtain ⟨now, hn1, hn2, rfl, hG, hkw⟩ := hrel
          have HG3 := hid hG
          have HK3 := hid hkw
          clear hG hkw
          by_cases hle : now ≤ rel + 1
          · obtain ⟨x, e, hx⟩ : ∃ x e : Int, ∀ part, gRead [(1, ⟨mask, rel, o⟩)] 1 part now = if hasB mask part = false then (0, 12) else (x, e) := by
              by_cases hc : now < rel ∨ o = 0
              · exact ⟨0, 17, fun part => by simp [gRead, aget, hc]⟩
              · exact ⟨if o = 2 then 1 else 0, 0, fun part => by simp [gRead, aget, hc]⟩
            have ea := hx a
            have eb := hx b
            rw [HA.out] at ea
            rw [HB.out] at eb
            have EA := hid ea
            have EB := hid eb
            clear hx ea eb
            cases A
            all_goals cases B
            all_goals simp only [if_true, if_false, Bool.true_eq_false] at EA EB
            all_goals go_wp2_with fail
            all_goals refine (gread_any ga ma 0 _ 1 a now _ HG3.out (HOK.out _)).mono ?_
            all_goals rw [EA.out]
            all_goals rintro e' w5 ⟨rfl, hk5⟩
            all_goals have HG4 := hid (HG3.out.kept hk5 (by simp) (by simp))
            all_goals have HK4 := hid (HK3.out.trans hk5 (by simp))
            all_goals clear hk5
            all_goals go_wp2_with fail
            all_goals refine (gread_any ga ma 0 _ 1 b now _ HG4.out (HOK.out _)).mono ?_
            all_goals rw [EB.out]
            all_goals rintro e' w6 ⟨rfl, hk6⟩
            all_goals have HG5 := hid (HG4.out.kept hk6 (by simp) (by simp))
            all_goals have HK5 := hid (HK4.out.trans hk6 (by simp))
            all_goals clear hk6 HG4 HK4
            all_goals go_wp2
            all_goals go_roundw
            all_goals first
              | exact ⟨now + 1, by omega, by omega, rfl, HG5.out, HK5.out⟩
              | (simp [intOf]; omega)
              | ((repeat apply Exists.intro); exact ⟨⟨now + 1, by omega, by omega, rfl, HG5.out, HK5.out⟩, rfl⟩)
          · go_wp2_with fail
            refine (gset_any ga ma 0 _ 1 commit _ HG3.out).mono ?_
            have hset : gSet [(1, ⟨mask, rel, o⟩)] 1 commit = (0, [(1, ⟨mask, rel, if commit then 2 else 1⟩)]) := by
              rcases HO.out with rfl | rfl
              · simp [gSet, aget, aput]
              · cases commit <;> simp [gSet, aget, aput]
            rw [hset]
            rintro e' w5 ⟨rfl, hG5, hk5⟩
            have HG5 := hid hG5
            have HK5 := hid (HK3.out.trans hk5 (fun x hx => .inr (by simp at hx; omega)))
            clear hG5 hk5 hset
            go_wp2
            go_roundw
            case rel => exact ⟨k + 1, _, by omega, by go_num, HG5.out, .inr rfl, HK5.out⟩
            case measure => simp [intOf]; omega
      · go_wp2
        go_ret
        exact ⟨rfl, HK2.out⟩
end Go.Proofs.Ytdaipbaclccodaa.gateParts
