/- Contracts of packages set, label and of their references: each computes on 64-bit words only. -/
import Derived.Test.YtdaipbaclccodaaBits
set_option linter.all false
namespace Go.Proofs.Ytdaipbaclccodaa
open Go.RowKit
set_option linter.unusedVariables false

--@@ set.there
set_option maxHeartbeats 400000 in
theorem there_any (c : Int) (w : World) :
    Calls Try.prog 35 #[.int .i64 c] w fun e w' => e = .returned (.bool (decide (0 ≤ c ∧ c < 64))) ∧ w = w' := by
  go_enter Try.func35, Try.ntmps35
  go_wp2
  all_goals go_ret
  all_goals refine ⟨?_, rfl⟩
  all_goals simp
  all_goals omega
--@@ set.Has
set_option maxHeartbeats 400000 in
theorem has_any (s : Nat) (c : Int) (w : World) (hs : U64 s) :
    Calls Try.prog 28 #[.int .u64 s, .int .i64 c] w fun e w' => e = .returned (.bool (hasB s c)) ∧ w = w' := by
  go_enter Try.func28, Try.ntmps28
  go_wp2_with (go_at_call 35; refine (there_any _ _).mono ?_; rintro e w' ⟨rfl, rfl⟩)
  all_goals go_ret
  all_goals refine ⟨?_, rfl⟩
  · obtain ⟨k, rfl⟩ := Int.eq_ofNat_of_zero_le (show 0 ≤ c by omega)
    have h := shr_bit s k hs
    simp [hasB, h]
    omega
  · simp [hasB]
    omega
--@@ set.Minus
set_option maxHeartbeats 400000 in
theorem minus_any (a b : Nat) (w : World) (ha : U64 a) (hb : U64 b) :
    Calls Try.prog 45 #[.int .u64 a, .int .u64 b] w fun e w' => e = .returned (.int .u64 (minusN a b : Nat)) ∧ w = w' := by
  go_enter Try.func45, Try.ntmps45
  go_wp2
  go_ret
  refine ⟨?_, rfl⟩
  exact congrArg (fun x => Ending.returned (.int .u64 x)) (u64_bits ha hb).2.2
--@@ set.Within
set_option maxHeartbeats 400000 in
theorem within_any (a b : Nat) (w : World) (ha : U64 a) (hb : U64 b) :
    Calls Try.prog 39 #[.int .u64 a, .int .u64 b] w fun e w' => e = .returned (.bool (decide (minusN a b = 0))) ∧ w = w' := by
  go_enter Try.func39, Try.ntmps39
  go_wp2
  go_ret
  refine ⟨?_, rfl⟩
  refine ret_bool ?_
  rw [(u64_bits ha hb).2.2]
  exact minus_zero a b
--@@ label.Need
def needN (s t s' t' : Nat) : Nat := minusN s s' ||| minusN t' t
theorem U64.need {s t s' t' : Nat} (h1 : U64 s) (h4 : U64 t') : U64 (needN s t s' t') := h1.minus.or h4.minus
set_option maxHeartbeats 400000 in
theorem need_any (s t s' t' : Nat) (w : World) (h1 : U64 s) (h2 : U64 t) (h3 : U64 s') (h4 : U64 t') :
    Calls Try.prog 40 #[.agg #[.int .u64 s, .int .u64 t], .agg #[.int .u64 s', .int .u64 t']] w fun e w' => e = .returned (.int .u64 (needN s t s' t' : Nat)) ∧ Below w.heap.size w w' := by
  go_enter Try.func40, Try.ntmps40
  go_wp2_with fail
  go_quiet ((go_at_call 45; exact (minus_any _ _ _ (by assumption) (by assumption)).mono fun _ _ ⟨h1, h2⟩ => ⟨h1, _, h2.symm⟩))
  go_wp2
  go_ret
  refine ⟨?_, ?_⟩
  · exact congrArg (fun x => Ending.returned (.int .u64 x)) (u64_bits h1.minus h4.minus).2.1
  · exact below_drewN (((Below.refl _ _).alloc (Nat.le_refl _) _).alloc (by simp) _) _
--@@ label.With
set_option maxHeartbeats 400000 in
theorem with_any (s t s' t' o : Nat) (w : World) (h1 : U64 s) (h2 : U64 t) (h3 : U64 s') (h4 : U64 t') (h5 : U64 o) :
    Calls Try.prog 32 #[.agg #[.int .u64 s, .int .u64 t], .agg #[.int .u64 s', .int .u64 t'], .int .u64 o] w fun e w' =>
      e = .returned (.bool (decide (minusN (needN s t s' t') o = 0))) ∧ Below w.heap.size w w' := by
  go_enter Try.func32, Try.ntmps32
  go_wp2_with fail
  refine (need_any s t s' t' _ h1 h2 h3 h4).mono ?_
  rintro e w1 ⟨rfl, hb⟩
  go_wp2_with fail
  refine (within_any _ o _ (U64.need h1 h4) h5).mono ?_
  rintro e w2 ⟨rfl, rfl⟩
  go_wp2_with fail
  go_ret
  refine ⟨rfl, ?_⟩
  exact (((Below.refl _ _).alloc (Nat.le_refl _) _).alloc (by simp) _).trans (hb.mono (by simp; omega))
--@@ ref06.one
set_option maxHeartbeats 400000 in
theorem one_any (c : Nat) (w : World) (hc : c < 64) :
    Calls Try.prog 41 #[.int .i64 c] w fun e w' => e = .returned (.int .u64 ((2 ^ c : Nat) : Int)) ∧ w = w' := by
  go_enter Try.func41, Try.ntmps41
  go_wp2
  go_loop [3, 4] (fun u i => ∃ k : Nat, k ≤ c ∧ i = .int .i64 k ∧ u = .int .u64 ((2 ^ k : Nat) : Int)) (fun _ i => c - (intOf i).toNat)
  case atStart => exact ⟨0, Nat.zero_le _, rfl, rfl⟩
  case round =>
    obtain ⟨k, hk, rfl, rfl⟩ := hrel
    generalize hu : 2 ^ k = u
    have H := hid hu
    clear hu
    by_cases hlt : k < c
    · go_wp2
      go_round
      case rel => exact ⟨k + 1, by omega, by go_num, by rw [← H.out, wrap_two_pow k (by omega)]⟩
      case measure => simp [intOf]; omega
    · go_wp2
      go_ret
      refine ⟨?_, rfl⟩
      obtain rfl : k = c := by omega
      exact ret_int (by rw [← H.out]; rfl)
--@@ ref06.Has
set_option maxHeartbeats 400000 in
theorem rhas_any (s : Nat) (c : Int) (w : World) (hs : U64 s) :
    Calls Try.prog 33 #[.int .u64 s, .int .i64 c] w fun e w' => e = .returned (.bool (hasB s c)) ∧ w = w' := by
  by_cases h0 : 0 ≤ c ∧ c < 64
  · obtain ⟨k, rfl⟩ := Int.eq_ofNat_of_zero_le h0.1
    have hk : k < 64 := by omega
    clear h0
    have Hv : Hid (hasB s k = s.testBit k) := by simp [Hid, hasB]; omega
    go_enter Try.func33, Try.ntmps33
    go_wp2_with fail
    refine (one_any k _ hk).mono ?_
    rintro e w1 ⟨rfl, rfl⟩
    have hp : 0 < ((2 ^ k : Nat) : Int) := by have := Nat.two_pow_pos k; omega
    generalize hu : ((2 ^ k : Nat) : Int) = u at *
    have H := hid hu
    clear hu
    go_wp2_with fail
    go_ret
    refine ⟨?_, rfl⟩
    exact ret_bool (by rw [Hv.out, ← div_bit s k hs, H.out])
  · have Hv : Hid (hasB s c = false) := by simp [Hid, hasB]; omega
    go_enter Try.func33, Try.ntmps33
    by_cases h1 : c < 0
    · go_wp2
      go_ret
      refine ⟨?_, rfl⟩
      rw [Hv.out]; rfl
    · have h2 : 63 < c := by omega
      clear h0
      go_wp2
      go_ret
      refine ⟨?_, rfl⟩
      rw [Hv.out]; rfl
--@@ ref06.Minus
theorem hasB_nat (s k : Nat) (hk : k < 64) : hasB s (k : Int) = s.testBit k := by simp [hasB]; omega
theorem minus_add (a b k : Nat) (ha : U64 a) (hb : U64 b) (hk : k < 64) (h : hasB a k = true) (h' : hasB b k = false) :
    IntKind.u64.wrap (((minusN a b % 2 ^ k : Nat) : Int) + ((2 ^ k : Nat) : Int)) = ((minusN a b % 2 ^ (k + 1) : Nat) : Int) := by
  have e := minus_step a b k ha hb hk
  rw [hasB_nat _ _ hk] at h h'
  have h3 := mod_lt_64 (minusN a b) (k + 1) (by omega)
  rw [if_pos ⟨h, h'⟩] at e
  rw [IntKind.wrap_u64]
  omega
theorem minus_keep (a b k : Nat) (ha : U64 a) (hb : U64 b) (hk : k < 64) (h : hasB a k = false ∨ hasB b k = true) :
    minusN a b % 2 ^ k = minusN a b % 2 ^ (k + 1) := by
  have e := minus_step a b k ha hb hk
  rw [hasB_nat _ _ hk, hasB_nat _ _ hk] at h
  rw [if_neg (by rintro ⟨h1, h2⟩; simp [h1, h2] at h)] at e
  omega
set_option maxHeartbeats 400000 in
theorem rminus_any (a b : Nat) (w : World) (ha : U64 a) (hb : U64 b) :
    Calls Try.prog 34 #[.int .u64 a, .int .u64 b] w fun e w' => e = .returned (.int .u64 (minusN a b : Nat)) ∧ w = w' := by
  go_enter Try.func34, Try.ntmps34
  go_wp2
  go_loop [5, 6] (fun u i => ∃ k : Nat, k ≤ 64 ∧ i = .int .i64 k ∧ u = .int .u64 ((minusN a b % 2 ^ k : Nat) : Int)) (fun _ i => 64 - (intOf i).toNat)
  case atStart => exact ⟨0, Nat.zero_le _, rfl, by simp⟩
  case round =>
    obtain ⟨k, hk, rfl, rfl⟩ := hrel
    by_cases hlt : k < 64
    · cases h1 : hasB a k
      · have H := hid (minus_keep a b k ha hb hlt (.inl h1))
        generalize minusN a b % 2 ^ k = u at *
        go_wp2_with (go_at_call 33; refine (rhas_any _ _ _ (by assumption)).mono ?_; rintro e w' ⟨rfl, rfl⟩)
        go_round
        case rel => exact ⟨k + 1, by omega, by go_num, by rw [H.out]⟩
        case measure => simp [intOf]; omega
      · cases h2 : hasB b k
        · have H := hid (minus_add a b k ha hb hlt h1 h2)
          generalize minusN a b % 2 ^ k = u at *
          go_wp2_with (first | (go_at_call 33; refine (rhas_any _ _ _ (by assumption)).mono ?_; rintro e w' ⟨rfl, rfl⟩) | (go_at_call 41; refine (one_any _ _ hlt).mono ?_; rintro e w' ⟨rfl, rfl⟩))
          go_round
          case rel => exact ⟨k + 1, by omega, by go_num, by rw [← H.out]; rfl⟩
          case measure => simp [intOf]; omega
        · have H := hid (minus_keep a b k ha hb hlt (.inr h2))
          generalize minusN a b % 2 ^ k = u at *
          go_wp2_with (go_at_call 33; refine (rhas_any _ _ _ (by assumption)).mono ?_; rintro e w' ⟨rfl, rfl⟩)
          go_round
          case rel => exact ⟨k + 1, by omega, by go_num, by rw [H.out]⟩
          case measure => simp [intOf]; omega
    · go_wp2
      go_ret
      refine ⟨?_, rfl⟩
      obtain rfl : k = 64 := by omega
      exact ret_int (congrArg (fun n : Nat => (n : Int)) (mod_64 ha.minus))
--@@ ref07.With
theorem with_iff (s t s' t' o : Nat) (h1 : U64 s) (h2 : U64 t) (h3 : U64 s') (h4 : U64 t') (h5 : U64 o) :
    minusN (needN s t s' t') o = 0 ↔ ∀ k, k < 64 → o.testBit k = false → ¬ (s.testBit k = true ∧ s'.testBit k = false ∨ t'.testBit k = true ∧ t.testBit k = false) := by
  constructor
  · intro h k hk ho hc
    have e : (minusN (needN s t s' t') o).testBit k = true := by
      rw [testBit_minusN _ _ _ (U64.need h1 h4) h5]
      unfold needN
      rw [Nat.testBit_or, testBit_minusN _ _ _ h1 h3, testBit_minusN _ _ _ h4 h2, ho]
      rcases hc with ⟨a, b⟩ | ⟨a, b⟩ <;> simp [a, b]
    rw [h] at e
    simp at e
  · intro h
    refine u64_ext ((U64.need h1 h4).minus) (by unfold U64; omega) fun k hk => ?_
    have hh := h k hk
    rw [testBit_minusN _ _ _ (U64.need h1 h4) h5]
    unfold needN
    rw [Nat.testBit_or, testBit_minusN _ _ _ h1 h3, testBit_minusN _ _ _ h4 h2]
    revert hh
    cases o.testBit k <;> cases s.testBit k <;> cases s'.testBit k <;> cases t.testBit k <;> cases t'.testBit k <;> simp
def okAt (s t s' t' o k : Nat) : Prop := o.testBit k = false → ¬ (s.testBit k = true ∧ s'.testBit k = false ∨ t'.testBit k = true ∧ t.testBit k = false)
set_option maxHeartbeats 1000000 in
theorem rwith_any (s t s' t' o : Nat) (w : World) (h1 : U64 s) (h2 : U64 t) (h3 : U64 s') (h4 : U64 t') (h5 : U64 o) :
    Calls Try.prog 24 #[.agg #[.int .u64 s, .int .u64 t], .agg #[.int .u64 s', .int .u64 t'], .int .u64 o] w fun e w' =>
      e = .returned (.bool (decide (minusN (needN s t s' t') o = 0))) ∧ Below w.heap.size w w' := by
  have HI := hid (with_iff s t s' t' o h1 h2 h3 h4 h5)
  go_enter Try.func24, Try.ntmps24
  go_wp2
  go_loopw [7] (fun i wr => ∃ k : Nat, k ≤ 64 ∧ i = .int .i64 k ∧ (∀ j, j < k → okAt s t s' t' o j) ∧ ∃ n, wr = World.drewN ((w.alloc (.cells #[.int .u64 s, .int .u64 t] 25)).alloc (.cells #[.int .u64 s', .int .u64 t'] 25)) n) (fun i _ => 64 - (intOf i).toNat)
  case atStart => exact ⟨0, Nat.zero_le _, rfl, fun _ h => by omega, 0, rfl⟩
  case round =>
    obtain ⟨k, hk, rfl, hj, n, rfl⟩ := hrel
    have HJ := hid hj
    clear hj
    by_cases hlt : k < 64
    · have e1 := hasB_nat o k hlt
      have e2 := hasB_nat s k hlt
      have e3 := hasB_nat s' k hlt
      have e4 := hasB_nat t k hlt
      have e5 := hasB_nat t' k hlt
      have next : okAt s t s' t' o k → ∀ j, j < k + 1 → okAt s t s' t' o j := fun hk j hj => by
        by_cases e : j = k
        · exact e ▸ hk
        · exact HJ.out j (by omega)
      have HN := hid next
      clear next
      cases b1 : o.testBit k <;> rw [b1] at e1
      · cases b2 : s.testBit k <;> cases b3 : s'.testBit k <;> cases b4 : t.testBit k <;> cases b5 : t'.testBit k <;> rw [b2] at e2 <;> rw [b3] at e3 <;> rw [b4] at e4 <;> rw [b5] at e5 <;> have HB := hid (And.intro b1 (And.intro b2 (And.intro b3 (And.intro b4 b5)))) <;> clear b1 b2 b3 b4 b5
        all_goals go_wp2_with (go_at_call 33; refine (rhas_any _ _ _ (by assumption)).mono ?_; rintro e w' ⟨rfl, rfl⟩)
        all_goals first
          | (go_roundw
             case rel => exact ⟨k + 1, by omega, by go_num, HN.out (by unfold okAt; simp [HB.out]), n, rfl⟩
             case measure => simp [intOf]; omega)
          | (go_ret
             refine ⟨ret_bool (decide_eq_false (fun h => HI.out.1 h k hlt HB.out.1 (by simp [HB.out]))).symm, ?_⟩
             exact below_drewN (((Below.refl _ _).alloc (Nat.le_refl _) _).alloc (by simp) _) _)
      · have HB := hid b1
        clear b1
        go_wp2_with (go_at_call 33; refine (rhas_any _ _ _ (by assumption)).mono ?_; rintro e w' ⟨rfl, rfl⟩)
        go_roundw
        case rel => exact ⟨k + 1, by omega, by go_num, HN.out (fun h => by rw [HB.out] at h; cases h), n, rfl⟩
        case measure => simp [intOf]; omega
    · go_wp2
      go_ret
      obtain rfl : k = 64 := by omega
      refine ⟨ret_bool (decide_eq_true (HI.out.2 HJ.out)).symm, ?_⟩
      exact below_drewN (((Below.refl _ _).alloc (Nat.le_refl _) _).alloc (by simp) _) _
--@@ ref14.Has
set_option maxHeartbeats 400000 in
theorem ghas_any (s : Nat) (c : Int) (w : World) (hs : U64 s) (h16 : s < 65536) :
    Calls Try.prog 29 #[.int .u16 s, .int .i64 c] w fun e w' => e = .returned (.bool (hasB s c)) ∧ w = w' := by
  have hz : ¬ c < 16 → hasB s c = false := fun h => by
    by_cases h0 : 0 ≤ c
    · obtain ⟨k, rfl⟩ := Int.eq_ofNat_of_zero_le h0
      have : s.testBit k = false := Nat.testBit_lt_two_pow (Nat.lt_of_lt_of_le h16 (by
        have : (2:Nat) ^ 16 ≤ 2 ^ k := Nat.pow_le_pow_right (by omega) (by omega)
        omega))
      simp [hasB, this]
    · simp [hasB]; omega
  have hn : ¬ 0 ≤ c → hasB s c = false := fun h => by simp [hasB]; omega
  have HZ := hid hz
  have HN := hid hn
  clear hz hn
  go_enter Try.func29, Try.ntmps29
  by_cases h0 : 0 ≤ c
  · by_cases h1 : c < 16
    · go_wp2_with (go_at_call 33; refine (rhas_any _ _ _ hs).mono ?_; rintro e w' ⟨rfl, rfl⟩)
      go_ret
      exact ⟨rfl, rfl⟩
    · go_wp2
      go_ret
      exact ⟨ret_bool (HZ.out h1).symm, rfl⟩
  · go_wp2
    go_ret
    exact ⟨ret_bool (HN.out h0).symm, rfl⟩
--@@ ref14.Give
theorem give_eq (g o w : Nat) (h1 : U64 g) (h2 : U64 o) (h3 : U64 w) : minusN w (minusN (minusN w o) g) = w &&& (o ||| g) := by
  refine u64_ext h3.minus h3.and fun k hk => ?_
  rw [testBit_minusN _ _ _ h3 h3.minus.minus, testBit_minusN _ _ _ h3.minus h1, testBit_minusN _ _ _ h3 h2, Nat.testBit_and, Nat.testBit_or]
  cases w.testBit k <;> cases o.testBit k <;> cases g.testBit k <;> rfl
set_option maxHeartbeats 400000 in
theorem rgive_any (g o want : Nat) (w : World) (h1 : U64 g) (h2 : U64 o) (h3 : U64 want) :
    Calls Try.prog 26 #[.int .u64 g, .int .u64 o, .int .u64 want] w fun e w' => e = .returned (.int .u64 (want &&& (o ||| g) : Nat)) ∧ w = w' := by
  have HG := hid (give_eq g o want h1 h2 h3)
  go_enter Try.func26, Try.ntmps26
  go_wp2_with fail
  refine (rminus_any _ _ _ h3 h2).mono ?_
  rintro e w1 ⟨rfl, rfl⟩
  go_wp2_with fail
  refine (rminus_any _ _ _ h3.minus h1).mono ?_
  rintro e w1 ⟨rfl, rfl⟩
  go_wp2_with fail
  refine (rminus_any _ _ _ h3 h3.minus.minus).mono ?_
  rintro e w1 ⟨rfl, rfl⟩
  go_wp2_with fail
  go_ret
  exact ⟨ret_int (by rw [HG.out]), rfl⟩
--@@ end
end Go.Proofs.Ytdaipbaclccodaa
