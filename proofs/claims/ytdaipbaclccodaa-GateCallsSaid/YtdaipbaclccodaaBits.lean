/- Plain facts on 64-bit words as natural numbers. No program text. -/
import Derived.Test.YtdaipbaclccodaaBase
set_option linter.all false
namespace Go.Proofs.Ytdaipbaclccodaa
open Go.RowKit

def hasB (s : Nat) (c : Int) : Bool := decide (0 ≤ c) && decide (c < 64) && s.testBit c.toNat
def minusN (a b : Nat) : Nat := a &&& (18446744073709551615 - b)

theorem testBit_mask (b i : Nat) (hb : U64 b) : (18446744073709551615 - b).testBit i = (decide (i < 64) && !b.testBit i) := by
  have h := hb.lt
  have e : 18446744073709551615 - b = 2 ^ 64 - (b + 1) := by omega
  rw [e, Nat.testBit_two_pow_sub_succ (by omega)]
theorem testBit_minusN (a b i : Nat) (ha : U64 a) (hb : U64 b) : (minusN a b).testBit i = (a.testBit i && !b.testBit i) := by
  unfold minusN
  rw [Nat.testBit_and, testBit_mask b i hb]
  by_cases h : i < 64
  · simp [h]
  · have : a.testBit i = false := Nat.testBit_lt_two_pow (Nat.lt_of_lt_of_le ha.lt (by
      have : (2:Nat) ^ 64 ≤ 2 ^ i := Nat.pow_le_pow_right (by omega) (by omega)
      omega))
    simp [this]
theorem testBit_high {a i : Nat} (ha : U64 a) (h : 64 ≤ i) : a.testBit i = false :=
  Nat.testBit_lt_two_pow (Nat.lt_of_lt_of_le ha.lt (by
      have : (2:Nat) ^ 64 ≤ 2 ^ i := Nat.pow_le_pow_right (by omega) h
      omega))
theorem U64.and {a b : Nat} (ha : U64 a) : U64 (a &&& b) := Nat.lt_of_le_of_lt Nat.and_le_left ha.lt
theorem U64.or {a b : Nat} (ha : U64 a) (hb : U64 b) : U64 (a ||| b) := Nat.or_lt_two_pow (n := 64) ha.lt hb.lt
theorem U64.minus {a b : Nat} (ha : U64 a) : U64 (minusN a b) := ha.and
theorem u64_ext {a b : Nat} (ha : U64 a) (hb : U64 b) (h : ∀ i, i < 64 → a.testBit i = b.testBit i) : a = b := by
  refine Nat.eq_of_testBit_eq fun i => ?_
  by_cases hi : i < 64
  · exact h i hi
  · rw [testBit_high ha (by omega), testBit_high hb (by omega)]
/-- the bit as Go reads it: s >> c & 1 == 1 -/
theorem shr_bit (s k : Nat) (hs : U64 s) : (bits .and .u64 ((s : Int) / 2 ^ k) 1 == 1) = s.testBit k := by
  have h1 : ((s : Int) / 2 ^ k) = ((s / 2 ^ k : Nat) : Int) := by simp
  rw [h1]
  have h2 := u64_and_nat (s / 2 ^ k) 1 (Nat.lt_of_le_of_lt (Nat.div_le_self _ _) hs.lt) (by omega)
  have h3 : ((1 : Nat) : Int) = 1 := rfl
  rw [h3] at h2
  rw [h2, Nat.testBit_eq_decide_div_mod_eq, Nat.and_one_is_mod]
  rw [Bool.eq_iff_iff]; simp; omega
/-- .. and as the reference does: s / 2^c % 2 == 1 -/
theorem div_bit (s k : Nat) (hs : U64 s) : ((IntKind.u64.wrap ((s : Int) / ((2 ^ k : Nat) : Int))).tmod 2 == 1) = s.testBit k := by
  have h1 : ((s : Int) / ((2 ^ k : Nat) : Int)) = ((s / 2 ^ k : Nat) : Int) := by omega
  have h2 := hs.lt
  have h3 := Nat.div_le_self s (2 ^ k)
  rw [h1, IntKind.wrap_u64, Nat.testBit_eq_decide_div_mod_eq]
  generalize s / 2 ^ k = q at *
  have h4 : (q : Int) % 18446744073709551616 = q := by omega
  rw [h4, Int.tmod_eq_emod_of_nonneg (by omega), Bool.eq_iff_iff]
  simp
  omega
theorem minus_zero (a b : Nat) : ((minusN a b : Int) == 0) = decide (minusN a b = 0) := by
  rw [Bool.eq_iff_iff]; simp
theorem wrap_two_pow (k : Nat) (h : k < 63) : IntKind.u64.wrap (((2 ^ k : Nat) : Int) * 2) = ((2 ^ (k + 1) : Nat) : Int) := by
  have h2 : 2 ^ (k + 1) < 2 ^ 64 := Nat.pow_lt_pow_right (by omega) (by omega)
  have h3 : 2 ^ (k + 1) = 2 ^ k * 2 := Nat.pow_succ 2 k
  rw [IntKind.wrap_u64]
  omega
/-- what 'Minus' has put together of the first k categories -/
theorem minus_step (a b k : Nat) (ha : U64 a) (hb : U64 b) (hk : k < 64) :
    minusN a b % 2 ^ (k + 1) = minusN a b % 2 ^ k + (if a.testBit k = true ∧ b.testBit k = false then 2 ^ k else 0) := by
  have h := testBit_minusN a b k ha hb
  rw [Nat.mod_pow_succ]
  rw [Nat.testBit_eq_decide_div_mod_eq] at h
  have h2 : minusN a b / 2 ^ k % 2 < 2 := Nat.mod_lt _ (by omega)
  cases e1 : a.testBit k <;> cases e2 : b.testBit k <;> rw [e1, e2] at h <;> simp at h ⊢ <;> simp [h]
theorem mod_64 {a : Nat} (ha : U64 a) : a % 2 ^ 64 = a := Nat.mod_eq_of_lt ha.lt
theorem mod_lt_64 (a k : Nat) (hk : k ≤ 64) : a % 2 ^ k < 18446744073709551616 := by
  have h1 : a % 2 ^ k < 2 ^ k := Nat.mod_lt _ (Nat.two_pow_pos k)
  have h2 : (2:Nat) ^ k ≤ 2 ^ 64 := Nat.pow_le_pow_right (by omega) hk
  omega
theorem u64_of {a : Int} (h : IntKind.u64.min ≤ a ∧ a ≤ IntKind.u64.max) : ∃ n : Nat, a = (n : Int) ∧ U64 n := by
  have h' : 0 ≤ a ∧ a ≤ 18446744073709551615 := by simpa [IntKind.min, IntKind.max, IntKind.signed, IntKind.bits] using h
  exact ⟨a.toNat, by omega, by unfold U64; omega⟩
theorem u16_of {a : Int} (h : IntKind.u16.min ≤ a ∧ a ≤ IntKind.u16.max) : ∃ n : Nat, a = (n : Int) ∧ n < 65536 := by
  have h' : 0 ≤ a ∧ a ≤ 65535 := by simpa [IntKind.min, IntKind.max, IntKind.signed, IntKind.bits] using h
  exact ⟨a.toNat, by omega, by omega⟩
theorem i64_of {a : Int} (h : IntKind.i64.min ≤ a ∧ a ≤ IntKind.i64.max) : -9223372036854775808 ≤ a ∧ a ≤ 9223372036854775807 := by
  simpa [IntKind.min, IntKind.max, IntKind.signed, IntKind.bits] using h
end Go.Proofs.Ytdaipbaclccodaa
