/- Is a record right? -/
import Derived.Test.YtpcpeoejcnndhaaGreatM2
import Derived.Test.YtpcpeoejcnndhaaGreatM1
import Derived.Deep.RegionHeld3
set_option linter.all false
namespace Go.Proofs.YtpcpeoejcnndhaaGreat
open Go.RowKit
--@@ rec.value
theorem recvalue_any (v : V) (w : World) :
    Calls Tryz.prog 49 #[v.v] w fun e w' => e = .returned (.bool v.right) ∧ Kept [] w w' := by
  obtain ⟨b, n⟩ := v
  simp only [V.v]
  cases b
  · by_cases hn : n = 0
    · subst hn
      go_enter Tryz.func49, Tryz.ntmps49
      go_wp2
      go_ret
      exact ⟨rfl, (Kept.refl [] w).alloc _⟩
    · have hn' : (n == 0) = false := by simp [hn]
      go_enter Tryz.func49, Tryz.ntmps49
      go_wp2
      go_ret
      exact ⟨ret_bool (by simp [V.right, hn]), (Kept.refl [] w).alloc _⟩
  · go_enter Tryz.func49, Tryz.ntmps49
    go_wp2
    go_ret
    exact ⟨rfl, (Kept.refl [] w).alloc _⟩
--@@ rec.part
set_option maxHeartbeats 4000000 in
set_option maxRecDepth 100000 in
theorem recpart_any (r : Rc) (w : World) :
    Calls Tryz.prog 48 #[r.v] w fun e w' => e = .returned r.part.v ∧ Kept [] w w' := by
  obtain ⟨kind, tx, mask, ⟨k1, k2, k3, k4⟩, ⟨o1, o2⟩, ⟨n1, n2⟩⟩ := r
  unfold Rc.part
  simp only [Rc.v]
  by_cases h1 : kind = 1
  · subst h1
    rw [if_pos rfl]
    go_enter Tryz.func48, Tryz.ntmps48
    go_wp2_with fail
    go_region
    go_wp2
    go_returns
    exact ⟨rfl, by repeat (first | exact Kept.refl _ _ | refine Kept.drew ?_ | refine Kept.alloc ?_ _)⟩
  · rw [if_neg h1]
    have b1 : (kind == 1) = false := by simpa using h1
    by_cases h2 : kind = 2
    · subst h2
      rw [if_pos rfl]
      clear b1 h1
      go_enter Tryz.func48, Tryz.ntmps48
      go_wp2_with fail
      go_region
      go_wp2
      go_returns
      exact ⟨rfl, by repeat (first | exact Kept.refl _ _ | refine Kept.drew ?_ | refine Kept.alloc ?_ _)⟩
    · rw [if_neg h2]
      have b2 : (kind == 2) = false := by simpa using h2
      by_cases h7 : kind = 7
      · subst h7
        rw [if_pos rfl]
        clear b1 h1 b2 h2
        go_enter Tryz.func48, Tryz.ntmps48
        go_wp2_with fail
        go_region
        go_wp2
        go_returns
        exact ⟨rfl, by repeat (first | exact Kept.refl _ _ | refine Kept.drew ?_ | refine Kept.alloc ?_ _)⟩
      · rw [if_neg h7]
        have b7 : (kind == 7) = false := by simpa using h7
        by_cases h8 : kind = 8
        · subst h8
          rw [if_pos rfl]
          clear b1 h1 b2 h2 b7 h7
          go_enter Tryz.func48, Tryz.ntmps48
          go_wp2
          go_returns
          exact ⟨rfl, by repeat (first | exact Kept.refl _ _ | refine Kept.drew ?_ | refine Kept.alloc ?_ _)⟩
        · rw [if_neg h8]
          have b8 : (kind == 8) = false := by simpa using h8
          clear h1 h2 h7 h8
          go_enter Tryz.func48, Tryz.ntmps48
          go_wp2
          go_returns
          exact ⟨rfl, by repeat (first | exact Kept.refl _ _ | refine Kept.drew ?_ | refine Kept.alloc ?_ _)⟩
--@@ end
end Go.Proofs.YtpcpeoejcnndhaaGreat
