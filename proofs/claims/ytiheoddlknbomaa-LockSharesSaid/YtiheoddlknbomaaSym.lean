/- The library's stable sort, in plain Lean: exchanges of two stretches, rotation, merging in place. No program text. -/
import Derived.Sort.AssemblyPlain
set_option linter.all false
namespace Go.Proofs.Ytiheoddlknbomaa
open Go.Sort
set_option linter.unusedVariables false
set_option linter.unusedSimpArgs false

section
variable {α : Type} [Inhabited α]
def swapLoop (a b n i : Nat) (d : Array α) : Array α := if i < n then swapLoop a b n (i + 1) (swp d (a + i) (b + i)) else d
termination_by n - i
theorem size_swapLoop (a b n i : Nat) (d : Array α) : (swapLoop a b n i d).size = d.size := by
  unfold swapLoop
  split
  · rw [size_swapLoop a b n (i + 1)]; exact size_swp _ _ _
  · rfl
termination_by n - i
def rotLoop (m i j : Nat) (d : Array α) : Array α :=
  if i = j ∨ i = 0 ∨ j = 0 then swapLoop (m - i) m i 0 d
  else if j < i then rotLoop m (i - j) j (swapLoop (m - i) m j 0 d)
  else rotLoop m i (j - i) (swapLoop (m - i) (m + j - i) i 0 d)
termination_by i + j
theorem size_rotLoop (m i j : Nat) (d : Array α) : (rotLoop m i j d).size = d.size := by
  unfold rotLoop
  split
  · exact size_swapLoop _ _ _ _ _
  · split
    · rw [size_rotLoop m (i - j) j]; exact size_swapLoop _ _ _ _ _
    · rw [size_rotLoop m i (j - i)]; exact size_swapLoop _ _ _ _ _
termination_by i + j
end
section
variable {α : Type} [Inhabited α]
def bs (p : Nat → Bool) (i j : Nat) : Nat := if i < j then (if p ((i + j) / 2) = true then bs p ((i + j) / 2 + 1) j else bs p i ((i + j) / 2)) else i
termination_by j - i
def upLoop (e x : Nat) (d : Array α) : Array α := if x < e then upLoop e (x + 1) (swp d x (x + 1)) else d
termination_by e - x
def dnLoop (i x : Nat) (d : Array α) : Array α := if i < x then dnLoop i (x - 1) (swp d x (x - 1)) else d
termination_by x
def symM (lt : α → α → Bool) : Nat → Array α → Nat → Nat → Nat → Array α
  | 0, d, _, _, _ => d
  | f + 1, d, a, m, b =>
    if m - a = 1 then upLoop (bs (fun h => lt d[h]! d[a]!) m b - 1) a d
    else if b - m = 1 then dnLoop (bs (fun h => !lt d[m]! d[h]!) a m) m d
    else
      let mid := (a + b) / 2
      let n := mid + m
      let s := bs (fun c => !lt d[n - 1 - c]! d[c]!) (if mid < m then n - b else a) (if mid < m then mid else m)
      let e := n - s
      let d1 := if s < m ∧ m < e then rotLoop m (m - s) (e - m) d else d
      let d2 := if a < s ∧ s < mid then symM lt f d1 a s mid else d1
      if mid < e ∧ e < b then symM lt f d2 mid e b else d2
theorem size_upLoop (e x : Nat) (d : Array α) : (upLoop e x d).size = d.size := by
  unfold upLoop
  split
  · rw [size_upLoop e (x + 1)]; exact size_swp _ _ _
  · rfl
termination_by e - x
theorem size_dnLoop (i x : Nat) (d : Array α) : (dnLoop i x d).size = d.size := by
  unfold dnLoop
  split
  · rw [size_dnLoop i (x - 1)]; exact size_swp _ _ _
  · rfl
termination_by x
theorem size_symM (lt : α → α → Bool) : ∀ (f : Nat) (d : Array α) (a m b : Nat), (symM lt f d a m b).size = d.size
  | 0, d, _, _, _ => rfl
  | f + 1, d, a, m, b => by
    unfold symM
    split
    · exact size_upLoop _ _ _
    · split
      · exact size_dnLoop _ _ _
      · simp only
        have h1 : ∀ (c : Prop) [Decidable c] (x y z : Nat) (d : Array α), (if c then symM lt f d x y z else d).size = d.size := fun c _ x y z d => by
          split
          · exact size_symM lt f d x y z
          · rfl
        have h2 : ∀ (c : Prop) [Decidable c] (x y z : Nat) (d : Array α), (if c then rotLoop x y z d else d).size = d.size := fun c _ x y z d => by
          split
          · exact size_rotLoop x y z d
          · rfl
        rw [h1, h1, h2]
end
theorem bs_le (p : Nat → Bool) (i j : Nat) (h : i ≤ j) : i ≤ bs p i j ∧ bs p i j ≤ j := by
  unfold bs
  split
  · split
    · have := bs_le p ((i + j) / 2 + 1) j (by omega); omega
    · have := bs_le p i ((i + j) / 2) (by omega); omega
  · omega
termination_by j - i
theorem symM_rest {α : Type} [Inhabited α] (lt : α → α → Bool) (f : Nat) (d : Array α) (a m b : Nat) (h1 : ¬ m - a = 1) (h2 : ¬ b - m = 1) (mid n s e : Nat) (hmid : mid = (a + b) / 2) (hn : n = mid + m)
    (hs : s = bs (fun c => !lt d[n - 1 - c]! d[c]!) (if mid < m then n - b else a) (if mid < m then mid else m)) (he : e = n - s) (d1 d2 : Array α)
    (hd1 : d1 = if s < m ∧ m < e then rotLoop m (m - s) (e - m) d else d) (hd2 : d2 = if a < s ∧ s < mid then symM lt f d1 a s mid else d1) :
    symM lt (f + 1) d a m b = if mid < e ∧ e < b then symM lt f d2 mid e b else d2 := by
  subst hd2 hd1 he hs hn hmid
  rw [symM, if_neg h1, if_neg h2]

section
variable {α : Type} [Inhabited α]
def blkLoop (lt : α → α → Bool) (n a : Nat) (d : Array α) : Array α := if a + 20 ≤ n then blkLoop lt n (a + 20) (insertionSort lt d a (a + 20)) else insertionSort lt d a n
termination_by n - a
def mergePass (lt : α → α → Bool) (s n a : Nat) (d : Array α) : Array α :=
  if 0 < s ∧ a + 2 * s ≤ n then mergePass lt s n (a + 2 * s) (symM lt (2 * s) d a (a + s) (a + 2 * s)) else if a + s < n then symM lt (n - a) d a (a + s) n else d
termination_by n - a
def mergeLoop (lt : α → α → Bool) (n s : Nat) (d : Array α) : Array α := if 0 < s ∧ s < n then mergeLoop lt n (2 * s) (mergePass lt s n 0 d) else d
termination_by n - s
def stab (lt : α → α → Bool) (n : Nat) (d : Array α) : Array α := mergeLoop lt n 20 (blkLoop lt n 0 d)
theorem size_insInner (lt : α → α → Bool) (a : Nat) : ∀ (j : Nat) (d : Array α), (insInner lt a j d).size = d.size
  | 0, d => rfl
  | j + 1, d => by
    unfold insInner
    split
    · rw [size_insInner lt a j]; exact size_swp _ _ _
    · rfl
theorem size_insOuter (lt : α → α → Bool) (a b i : Nat) (d : Array α) : (insOuter lt a b i d).size = d.size := by
  unfold insOuter
  split
  · rw [size_insOuter lt a b (i + 1)]; exact size_insInner _ _ _ _
  · rfl
termination_by b - i
theorem size_insertionSort' (lt : α → α → Bool) (d : Array α) (a b : Nat) : (insertionSort lt d a b).size = d.size := size_insOuter _ _ _ _ _
theorem size_blkLoop (lt : α → α → Bool) (n a : Nat) (d : Array α) : (blkLoop lt n a d).size = d.size := by
  unfold blkLoop
  split
  · rw [size_blkLoop lt n (a + 20)]; exact size_insertionSort' _ _ _ _
  · exact size_insertionSort' _ _ _ _
termination_by n - a
theorem size_mergePass (lt : α → α → Bool) (s n a : Nat) (d : Array α) : (mergePass lt s n a d).size = d.size := by
  unfold mergePass
  split
  · rw [size_mergePass lt s n (a + 2 * s)]; exact size_symM _ _ _ _ _ _
  · split
    · exact size_symM _ _ _ _ _ _
    · rfl
termination_by n - a
theorem size_mergeLoop (lt : α → α → Bool) (n s : Nat) (d : Array α) : (mergeLoop lt n s d).size = d.size := by
  unfold mergeLoop
  split
  · rw [size_mergeLoop lt n (2 * s)]; exact size_mergePass _ _ _ _ _
  · rfl
termination_by n - s
theorem size_stab (lt : α → α → Bool) (n : Nat) (d : Array α) : (stab lt n d).size = d.size := by
  unfold stab; rw [size_mergeLoop, size_blkLoop]
end
end Go.Proofs.Ytiheoddlknbomaa
