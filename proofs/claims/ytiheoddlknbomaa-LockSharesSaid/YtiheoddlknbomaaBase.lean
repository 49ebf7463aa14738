/- General facts for the walks: 64-bit words as natural numbers, worlds that keep blocks, maps as lists of pairs. No program text. -/
import Derived.Test.YtiheoddlknbomaaRows
import Derived.WalkKit
import Derived.BigQuiet
import Derived.Deep.QuietTactic
import Derived.Outline
import Derived.WalkSpells
import Derived.WalkLawsBesides
import Derived.Laws.BitsAllLaws
set_option linter.all false
namespace Go.Proofs.Ytiheoddlknbomaa
open Go.RowKit

theorem hid {p : Prop} (h : p) : Hid p := h

theorem ret_int {k : IntKind} {a b : Int} (h : a = b) : Ending.returned (.int k a) = .returned (.int k b) := by rw [h]
theorem ret_bool {a b : Bool} (h : a = b) : Ending.returned (.bool a) = .returned (.bool b) := by rw [h]

def U64 (n : Nat) : Prop := n < 18446744073709551616
theorem U64.lt {n : Nat} (h : U64 n) : n < 18446744073709551616 := h
theorem u64_bits {a b : Nat} (ha : U64 a) (hb : U64 b) :
    bits .and .u64 (a : Int) (b : Int) = ((a &&& b : Nat) : Int) ∧ bits .or .u64 (a : Int) (b : Int) = ((a ||| b : Nat) : Int) ∧
    bits .andNot .u64 (a : Int) (b : Int) = ((a &&& (18446744073709551615 - b) : Nat) : Int) :=
  ⟨u64_and_nat a b ha.lt hb.lt, u64_or_nat a b ha.lt hb.lt, u64_andNot_nat a b ha.lt hb.lt⟩
end Go.Proofs.Ytiheoddlknbomaa
