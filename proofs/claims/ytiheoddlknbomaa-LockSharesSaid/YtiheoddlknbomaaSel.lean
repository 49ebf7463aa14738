/- What is kept of a row, in order: slices.CompactFunc and slices.DeleteFunc at pairs. -/
import Derived.Test.YtiheoddlknbomaaRow
import Derived.Test.YtiheoddlknbomaaStable
set_option linter.all false
namespace Go.Proofs.Ytiheoddlknbomaa
open Go.RowKit Go.Shelf Go.Lib Go.Sort Go.Proofs
set_option linter.unusedVariables false
set_option linter.unusedSimpArgs false

section
variable {α : Type} [Inhabited α]
def selN (keep : Nat → Bool) (d : Array α) : Nat → List α
  | 0 => []
  | n + 1 => selN keep d n ++ (if keep n = true then [d[n]!] else [])
def LaidAt (dk : Array α) (i : Nat) (l : List α) : Prop := l.length = i ∧ ∀ x, x < i → dk[x]! = l[x]!
theorem LaidAt.snoc {dk : Array α} {i : Nat} {l : List α} (h : LaidAt dk i l) (hi : i < dk.size) (y : α) : LaidAt (dk.setIfInBounds i y) (i + 1) (l ++ [y]) := by
  refine ⟨by simp [h.1], fun x hx => ?_⟩
  rw [get_setIf _ _ _ hi]
  by_cases c : x = i
  · subst c; rw [if_pos rfl, getElem!_pos _ _ (by simp [h.1]), List.getElem_append_right (by rw [h.1]; exact Nat.le_refl _)]; simp
  · rw [if_neg c, h.2 x (by omega), getElem!_pos l x (by rw [h.1]; omega), getElem!_pos _ x (by simp [h.1]; omega), List.getElem_append_left]
theorem selN_skip {keep : Nat → Bool} {d : Array α} {n : Nat} (h : keep n = false) : selN keep d (n + 1) = selN keep d n := by simp [selN, h]
theorem selN_take {keep : Nat → Bool} {d : Array α} {n : Nat} (h : keep n = true) : selN keep d (n + 1) = selN keep d n ++ [d[n]!] := by simp [selN, h]
theorem selN_all {keep : Nat → Bool} {d : Array α} : ∀ {n : Nat}, n ≤ d.size → (∀ j, j < n → keep j = true) → LaidAt d n (selN keep d n)
  | 0, _, _ => ⟨rfl, fun x hx => by omega⟩
  | n + 1, h, hk => by
    rw [selN_take (hk n (by omega))]
    have := (selN_all (n := n) (d := d) (keep := keep) (by omega) fun j hj => hk j (by omega)).snoc (by omega) d[n]!
    rwa [show d.setIfInBounds n d[n]! = d from Array.ext (by simp) fun x h1 h2 => by
      rw [Array.getElem_setIfInBounds]
      split
      · rename_i e; subst e; rw [getElem!_pos d n h2]
      · rfl] at this
theorem LaidAt.zfill {dk : Array α} {i : Nat} {l : List α} (h : LaidAt dk i l) (hi : i ≤ dk.size) (zr : α) : LaidAt (zfill zr i dk) i l :=
  ⟨h.1, fun x hx => by rw [get_zfill zr i dk hi x (by omega), if_pos hx]; exact h.2 x hx⟩
end
--@@ end
end Go.Proofs.Ytiheoddlknbomaa
