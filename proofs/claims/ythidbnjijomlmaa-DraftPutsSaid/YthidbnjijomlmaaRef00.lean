/- Contracts of package concordatref00: lists that are the same. -/
import Derived.Test.YthidbnjijomlmaaSl
set_option linter.all false
namespace Go.Proofs.Ythidbnjijomlmaa
open Go.RowKit
set_option linter.unusedVariables false
set_option linter.unusedSimpArgs false

/-- a slice of n elements, xs its cells, as it may be read -/
structure SlAt (w : World) (v : Value) (size n : Nat) (xs : List Value) : Prop where
  ex : ∃ a cap, v = .slice a n cap ∧ n ≤ 9223372036854775807 ∧ xs.length = n * size ∧ (0 < n → ∃ b off, a = some ⟨b, off, none⟩ ∧ b < w.heap.size ∧ ∀ j u, xs[j]? = some u → w.cell? ⟨b, off + j, none⟩ = some u)
theorem SlAt.of_own {w : World} {base : Nat} {e : TypeId} {size n : Nat} {v : Value} {xs : List Value} (h : w.ownsRow base e size v n xs) : SlAt w v size n xs := by
  rcases h.2 with ⟨rfl, rfl⟩ | ⟨g, cap, cur, rfl, _, hg, hle, hcm, _⟩
  · exact ⟨none, 0, rfl, by omega, h.1, fun h => by omega⟩
  · refine ⟨_, cap, rfl, by unfold maxLen at hcm; omega, h.1, fun _ => ⟨g, 0, rfl, (Array.getElem?_eq_some_iff.1 hg).1, fun j u hu => ?_⟩⟩
    have := h.cells (g := g) rfl _ _ hu
    have hadd : (⟨g, 0, none⟩ : Addr).add j = ⟨g, j, none⟩ := by unfold Addr.add; split <;> simp_all
    rw [hadd] at this
    rw [Nat.zero_add]; exact this
theorem SlAt.kept {w w' : World} {size n : Nat} {v : Value} {xs : List Value} (h : SlAt w v size n xs) (hk : Kept [] w w') : SlAt w' v size n xs := by
  obtain ⟨a, cap, h1, h2, h3, h4⟩ := h.ex
  refine ⟨a, cap, h1, h2, h3, fun hn => ?_⟩
  obtain ⟨b, off, h5, h6, h7⟩ := h4 hn
  exact ⟨b, off, h5, Nat.lt_of_lt_of_le h6 hk.size, fun j u hu => hk.cell (h7 j u hu) (by simp)⟩
--@@ end
end Go.Proofs.Ythidbnjijomlmaa
