/- Contracts of package concordatref00: lists that are the same. -/
import Derived.Test.YtiheoddlknbomaaSl
set_option linter.all false
namespace Go.Proofs.Ytiheoddlknbomaa
open Go.RowKit
set_option linter.unusedVariables false
set_option linter.unusedSimpArgs false

/-- a slice of n elements, xs its cells, as it may be read -/
structure SlAt (w : World) (v : Value) (size n : Nat) (xs : List Value) : Prop where
  ex : ∃ a cap, v = .slice a n cap ∧ n ≤ 9223372036854775807 ∧ xs.length = n * size ∧ (0 < n → ∃ b off, a = some ⟨b, off, none⟩ ∧ b < w.heap.size ∧ ∀ j u, xs[j]? = some u → w.cell? ⟨b, off + j, none⟩ = some u)
theorem SlAt.of_own {w : World} {base : Nat} {e : TypeId} {size n : Nat} {v : Value} {xs : List Value} (h : w.ownsRow base e size v n xs) : SlAt w v size n xs := by
  rcases h.2 with ⟨rfl, rfl⟩ | ⟨g, cap, cur, rfl, _, hg, hle, hcm, _⟩
  · exact ⟨none, 0, rfl, by omega, h.1, fun h => by omega⟩
  · refine ⟨_, cap, rfl, by unfold maxLen at hcm; omega, h.1, fun _ => ⟨g, 0, rfl, (Array.getElem?_eq_some_iff.1 hg).1, fun j u hu => ?_⟩⟩
    have := h.cells (g := g) rfl _ _ hu
    have hadd : (⟨g, 0, none⟩ : Addr).add j = ⟨g, j, none⟩ := by unfold Addr.add; split <;> simp_all
    rw [hadd] at this
    rw [Nat.zero_add]; exact this
theorem SlAt.kept {w w' : World} {size n : Nat} {v : Value} {xs : List Value} (h : SlAt w v size n xs) (hk : Kept [] w w') : SlAt w' v size n xs := by
  obtain ⟨a, cap, h1, h2, h3, h4⟩ := h.ex
  refine ⟨a, cap, h1, h2, h3, fun hn => ?_⟩
  obtain ⟨b, off, h5, h6, h7⟩ := h4 hn
  exact ⟨b, off, h5, Nat.lt_of_lt_of_le h6 hk.size, fun j u hu => hk.cell (h7 j u hu) (by simp)⟩
--@@ ref00.SameInts
set_option maxRecDepth 100000 in
set_option maxHeartbeats 1000000 in
theorem sameInts_any (v1 v2 : Value) (xs ys : List Int) (w : World) (h1 : SlAt w v1 1 xs.length (xs.map (Value.int .i64))) (h2 : SlAt w v2 1 ys.length (ys.map (Value.int .i64))) :
    Calls Try.prog 21 #[v1, v2] w fun e w' => e = .returned (.bool (decide (xs = ys))) ∧ Kept [] w w' := by
  obtain ⟨a1, cap1, rfl, m1, _, c1⟩ := h1.ex
  obtain ⟨a2, cap2, rfl, m2, _, c2⟩ := h2.ex
  clear h1 h2
  have HC1 := hid c1
  have HC2 := hid c2
  clear c1 c2
  by_cases hl : xs.length = ys.length
  · have hb : ((xs.length : Int) != (ys.length : Int)) = false := by simp [hl]
    have HL := hid hl
    clear hl
    go_enter Try.func21, Try.ntmps21
    go_wp2
    go_loopw [5] (fun i wr => ∃ k : Nat, k ≤ xs.length ∧ i = .int .i64 k ∧ xs.take k = ys.take k ∧ ∃ n, wr = w.drewN n) (fun i _ => xs.length - (intOf i).toNat)
    case atStart => exact ⟨0, Nat.zero_le _, rfl, rfl, 0, rfl⟩
    case round =>
      obtain ⟨k, hk, rfl, ht, n, rfl⟩ := hrel
      have HT := hid ht
      clear ht
      by_cases hlt : k < xs.length
      · have hlt2 : k < ys.length := by rw [← HL.out]; exact hlt
        obtain ⟨b1, o1, rfl, _, d1⟩ := HC1.out (by omega)
        obtain ⟨b2, o2, rfl, _, d2⟩ := HC2.out (by omega)
        have e1 := d1 k (.int .i64 xs[k]) (by simp [hlt])
        have e2 := d2 k (.int .i64 ys[k]) (by simp [hlt2])
        clear d1 d2
        have HX := hid (show xs.take (k + 1) = xs.take k ++ [xs[k]] by rw [List.take_succ_eq_append_getElem hlt])
        have HY := hid (show ys.take (k + 1) = ys.take k ++ [ys[k]] by rw [List.take_succ_eq_append_getElem hlt2])
        have HXE := hid (show xs[k]? = some xs[k] by simp [hlt])
        have HYE := hid (show ys[k]? = some ys[k] by simp [hlt2])
        generalize xs[k] = x at *
        generalize ys[k] = y at *
        go_wp2_with fail
        go_quiet (fail)
        go_wp2
        · have hne : x ≠ y := by simpa using ‹(x != y) = true›
          go_ret
          refine ⟨ret_bool ?_, ((Kept.refl [] w).drewN _).drewN _⟩
          symm
          refine decide_eq_false fun h => hne ?_
          have := HXE.out
          rw [h, HYE.out] at this
          exact (Option.some.inj this).symm
        · have he : x = y := by simpa using ‹(x != y) = false›
          go_roundw
          case rel => exact ⟨k + 1, by omega, by go_num, by rw [HX.out, HY.out, HT.out, he], _, rfl⟩
          case measure => simp [intOf]; omega
      · go_wp2
        go_ret
        obtain rfl : k = xs.length := by omega
        refine ⟨ret_bool ?_, (Kept.refl [] w).drewN _⟩
        have := HT.out
        rw [List.take_length, HL.out, List.take_length] at this
        simp [this]
  · have hb : ((xs.length : Int) != (ys.length : Int)) = true := by simp; omega
    have HL := hid hl
    clear hl
    go_enter Try.func21, Try.ntmps21
    go_wp2
    go_ret
    exact ⟨ret_bool (by symm; exact decide_eq_false fun h => HL.out (by rw [h])), Kept.refl _ _⟩
--@@ end
end Go.Proofs.Ytiheoddlknbomaa
