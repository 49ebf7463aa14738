/- The library's stable sort, in plain Lean: of keys it makes the one row that is sorted and keeps the order of what is alike. No program text. -/
import Derived.Test.YtpcpeoejcnndhaaGreatSymLaw
import Derived.Sort.LotA
set_option linter.all false
namespace Go.Proofs.YtpcpeoejcnndhaaGreat
open Go.Sort
section
variable {α : Type} [Inhabited α] {K T : α → Nat}
def Inc (T : α → Nat) (d : Array α) (lo hi : Nat) : Prop := ∀ i j, lo ≤ i → i < j → j < hi → T d[i]! < T d[j]!
theorem insInner_perm (lt : α → α → Bool) (a hi : Nat) : ∀ (j : Nat) (d : Array α), j < hi → hi ≤ d.size → PermIn a hi d (insInner lt a j d)
  | 0, d, _, _ => permIn_refl _ _ _
  | j + 1, d, h, hs => by
    unfold insInner
    split
    · rename_i hc
      simp only [Bool.and_eq_true, decide_eq_true_eq] at hc
      exact permIn_trans _ _ _ _ _ (swp_permIn d a hi (j + 1) j (by omega) h (by omega) (by omega) hs) (insInner_perm lt a hi j _ (by omega) (by rw [size_swp]; exact hs))
    · exact permIn_refl _ _ _
theorem insInner_eq (lt lt' : α → α → Bool) (hl : ∀ x y, T y < T x → lt x y = lt' x y) (a : Nat) : ∀ (j : Nat) (d : Array α), j < d.size → (∀ p, a ≤ p → p < j → T d[p]! < T d[j]!) → insInner lt a j d = insInner lt' a j d
  | 0, d, _, _ => rfl
  | j + 1, d, hs, h => by
    unfold insInner
    by_cases hj : j + 1 > a
    · rw [hl _ _ (h j (by omega) (by omega))]
      split
      · refine insInner_eq lt lt' hl a j _ (by rw [size_swp]; omega) fun p h1 h2 => ?_
        rw [swp_other _ _ _ _ (by omega) (by omega), swp_right _ _ _ (by omega)]
        exact h p h1 (by omega)
      · rfl
    · simp [hj]
theorem insOuter_eq (lt lt' : α → α → Bool) (hl : ∀ x y, T y < T x → lt x y = lt' x y) (a b i : Nat) (d : Array α) (hai : a ≤ i) (hb : b ≤ d.size) (h : ∀ p q, a ≤ p → i ≤ q → p < q → q < b → T d[p]! < T d[q]!) : insOuter lt a b i d = insOuter lt' a b i d := by
  rw [insOuter]
  conv => rhs; rw [insOuter]
  split
  · rename_i hlt
    rw [← insInner_eq lt lt' hl a i d (by omega) (fun p h1 h2 => h p i h1 (Nat.le_refl _) h2 hlt)]
    have P := insInner_perm lt a (i + 1) i d (by omega) (by omega)
    have z : (insInner lt a i d).size = d.size := P.1
    refine insOuter_eq lt lt' hl a b (i + 1) _ (by omega) (by omega) fun p q h1 h2 h3 h4 => ?_
    rw [P.2.1 q (.inr h2)]
    by_cases c : p < i + 1
    · exact permIn_all d _ a (i + 1) (fun x => T x < T d[q]!) (by omega) P (fun y y1 y2 => h y q y1 (by omega) (by omega) h4) p h1 c
    · rw [P.2.1 p (.inr (by omega))]
      exact h p q h1 (by omega) h3 h4
  · rfl
termination_by b - i
theorem swo_LK : SWO (fun x y => decide (K x < K y ∨ K x = K y ∧ T x < T y) : α → α → Bool) where
  irrefl x := by simp
  trans x y z h1 h2 := by simp only [decide_eq_true_eq] at *; omega
  ntrans x y z h1 h2 := by simp only [decide_eq_false_iff_not] at *; omega
theorem ins_law (lt : α → α → Bool) (hlt : ∀ x y, lt x y = decide (K x < K y)) (d : Array α) (a b : Nat) (hab : a ≤ b) (hb : b ≤ d.size) (h : Inc T d a b) :
    PermIn a b d (insertionSort lt d a b) ∧ SrtIn K T (insertionSort lt d a b) a b := by
  have e : insertionSort lt d a b = insertionSort (fun x y => decide (K x < K y ∨ K x = K y ∧ T x < T y)) d a b := by
    refine insOuter_eq (T := T) lt _ (fun x y hxy => ?_) a b (a + 1) d (by omega) hb fun p q h1 h2 h3 h4 => h p q h1 h3 h4
    rw [hlt]
    exact decide_eq_decide.2 ⟨.inl, fun h => by omega⟩
  rw [e]
  obtain ⟨P, S⟩ := insertionSort_holds (swo_LK (K := K) (T := T)) d a b hab hb
  refine ⟨P, fun i j h1 h2 h3 => ?_⟩
  have := S i j h1 h2 h3
  simp only [decide_eq_false_iff_not] at this
  unfold LK; omega
variable (K T)
def Blk (s : Nat) (d : Array α) (lo hi : Nat) : Prop := ∀ i j, lo ≤ i → i < j → j < hi → (i / s = j / s → LK K T d[i]! d[j]!) ∧ (i / s ≠ j / s → T d[i]! < T d[j]!)
variable {K T}
theorem div_in {s k lo i : Nat} (h : lo = k * s) (h1 : lo ≤ i) (h2 : i < lo + s) : i / s = k :=
  Nat.div_eq_of_lt_le (by omega) (by rw [Nat.succ_mul]; omega)
theorem div_apart {s k lo i j : Nat} (hs : 0 < s) (h : lo = k * s) (h1 : i < lo) (h2 : lo ≤ j) : i / s ≠ j / s := by
  have g1 : i / s < k := (Nat.div_lt_iff_lt_mul hs).2 (by omega)
  have g2 : k ≤ j / s := (Nat.le_div_iff_mul_le hs).2 (by omega)
  omega
theorem pass_step (S : Nat) (hS : 0 < S) (d d' : Array α) (a b n q : Nat) (ha : a = q * S) (hab : a ≤ b) (hbS : b ≤ a + S) (hbn : b ≤ n) (hn : n ≤ d.size)
    (B : Blk K T S d 0 a) (C : TagsIn T d 0 a n) (P : PermIn a b d d') (Q : SrtIn K T d' a b) : Blk K T S d' 0 b := by
  intro i j h1 h2 h3
  by_cases ci : a ≤ i
  · have e : i / S = j / S := (div_in ha ci (by omega)).trans (div_in ha (by omega) (by omega)).symm
    exact ⟨fun _ => Q i j ci h2 h3, fun h => absurd e h⟩
  · rw [P.2.1 i (.inl (by omega))]
    by_cases cj : j < a
    · rw [P.2.1 j (.inl cj)]; exact B i j h1 h2 cj
    · exact ⟨fun h => absurd h (div_apart hS ha (by omega) (by omega)), fun _ => permIn_all d d' a b (fun x => T d[i]! < T x) (by omega) P (fun y y1 y2 => C i y (by omega) (by omega) y1 (by omega)) j (by omega) h3⟩
theorem tags_step (d d' : Array α) (a b n : Nat) (hab : a ≤ b) (hbn : b ≤ n) (hn : n ≤ d.size) (C : TagsIn T d 0 a n) (D : TagsIn T d a b n) (P : PermIn a b d d') : TagsIn T d' 0 b n := by
  intro i j h1 h2 h3 h4
  rw [P.2.1 j (.inr h3)]
  by_cases ci : i < a
  · rw [P.2.1 i (.inl ci)]; exact C i j h1 ci (by omega) h4
  · exact permIn_all d d' a b (fun x => T x < T d[j]!) (by omega) P (fun y y1 y2 => D y j y1 y2 h3 h4) i (by omega) h2
theorem mergePass_law (lt : α → α → Bool) (hlt : ∀ x y, lt x y = decide (K x < K y)) (s : Nat) (hs : 0 < s) (n a q : Nat) (d : Array α) (ha : a = q * (2 * s)) (han : a ≤ n) (hn : n ≤ d.size)
    (B : Blk K T (2 * s) d 0 a) (C : TagsIn T d 0 a n) (D : Blk K T s d a n) : PermIn 0 n d (mergePass lt s n a d) ∧ Blk K T (2 * s) (mergePass lt s n a d) 0 n := by
  have ha2 : a = 2 * q * s := by rw [ha, Nat.mul_left_comm, Nat.mul_assoc]
  have ha3 : a + s = (2 * q + 1) * s := by rw [ha2, Nat.add_mul (2 * q) 1 s, Nat.one_mul]
  have M : ∀ b f, a + s < b → b ≤ a + 2 * s → b ≤ n → b - a ≤ f → PermIn a b d (symM lt f d a (a + s) b) ∧ SrtIn K T (symM lt f d a (a + s) b) a b := fun b f h1 h2 h3 h4 =>
    symM_law lt hlt f d a (a + s) b (by omega) h1 (by omega) h4
      (fun i j i1 i2 i3 => (D i j i1 i2 (by omega)).1 ((div_in ha2 i1 (by omega)).trans (div_in ha2 (by omega) i3).symm))
      (fun i j i1 i2 i3 => (D i j (by omega) i2 (by omega)).1 ((div_in ha3 i1 (by omega)).trans (div_in ha3 (by omega) (by omega)).symm))
      (fun i j i1 i2 i3 i4 => (D i j i1 (by omega) (by omega)).2 (div_apart hs ha3 i2 i3))
  unfold mergePass
  split
  · rename_i hc
    obtain ⟨P, Q⟩ := M (a + 2 * s) (2 * s) (by omega) (by omega) hc.2 (by omega)
    generalize symM lt (2 * s) d a (a + s) (a + 2 * s) = d' at P Q ⊢
    have z : d'.size = d.size := P.1
    have e : a + 2 * s = (q + 1) * (2 * s) := by rw [ha, Nat.add_mul q 1 (2 * s), Nat.one_mul]
    have ea : a + 2 * s = (2 * q + 2) * s := by rw [ha2, Nat.add_mul]
    have := mergePass_law lt hlt s hs n (a + 2 * s) (q + 1) d' e hc.2 (by omega)
      (pass_step (2 * s) (by omega) d d' a _ n q ha (by omega) (by omega) hc.2 hn B C P Q)
      (tags_step d d' a _ n (by omega) hc.2 hn C (fun i j i1 i2 i3 i4 => (D i j i1 (by omega) i4).2 (div_apart hs ea i2 i3)) P)
      (fun i j i1 i2 i3 => by rw [P.2.1 i (.inr i1), P.2.1 j (.inr (by omega))]; exact D i j (by omega) i2 i3)
    exact ⟨permIn_trans _ _ _ _ _ (permIn_wide (by omega) hc.2 hn P) this.1, this.2⟩
  · rename_i hc
    split
    · rename_i hd
      obtain ⟨P, Q⟩ := M n (n - a) hd (by omega) (Nat.le_refl _) (Nat.le_refl _)
      exact ⟨permIn_wide (by omega) (Nat.le_refl _) hn P, pass_step (2 * s) (by omega) d _ a n n q ha han (by omega) (Nat.le_refl _) hn B C P Q⟩
    · rename_i hd
      refine ⟨permIn_refl _ _ _, pass_step (2 * s) (by omega) d _ a n n q ha han (by omega) (Nat.le_refl _) hn B C (permIn_refl _ _ _) fun i j i1 i2 i3 => (D i j i1 i2 i3).1 ((div_in ha2 i1 (by omega)).trans (div_in ha2 (by omega) (by omega)).symm)⟩
termination_by n - a
theorem mergeLoop_law (lt : α → α → Bool) (hlt : ∀ x y, lt x y = decide (K x < K y)) (n s : Nat) (hs : 0 < s) (d : Array α) (hn : n ≤ d.size) (D : Blk K T s d 0 n) :
    PermIn 0 n d (mergeLoop lt n s d) ∧ SrtIn K T (mergeLoop lt n s d) 0 n := by
  unfold mergeLoop
  split
  · rename_i hc
    obtain ⟨P, Q⟩ := mergePass_law lt hlt s hs n 0 0 d (by omega) (by omega) hn (fun i j h1 h2 h3 => by omega) (fun i j h1 h2 h3 h4 => by omega) D
    have z : (mergePass lt s n 0 d).size = d.size := P.1
    obtain ⟨P', Q'⟩ := mergeLoop_law lt hlt n (2 * s) (by omega) _ (by omega) Q
    exact ⟨permIn_trans _ _ _ _ _ P P', Q'⟩
  · rename_i hc
    refine ⟨permIn_refl _ _ _, fun i j h1 h2 h3 => (D i j h1 h2 h3).1 ?_⟩
    rw [Nat.div_eq_of_lt (by omega), Nat.div_eq_of_lt (by omega)]
termination_by n - s
theorem blkLoop_law (lt : α → α → Bool) (hlt : ∀ x y, lt x y = decide (K x < K y)) (n a q : Nat) (d : Array α) (ha : a = q * 20) (han : a ≤ n) (hn : n ≤ d.size)
    (B : Blk K T 20 d 0 a) (C : TagsIn T d 0 a n) (D : Inc T d a n) : PermIn 0 n d (blkLoop lt n a d) ∧ Blk K T 20 (blkLoop lt n a d) 0 n := by
  unfold blkLoop
  split
  · rename_i hc
    obtain ⟨P, Q⟩ := ins_law (K := K) lt hlt d a (a + 20) (by omega) (by omega) (fun i j h1 h2 h3 => D i j h1 h2 (by omega))
    generalize insertionSort lt d a (a + 20) = d' at P Q ⊢
    have z : d'.size = d.size := P.1
    have := blkLoop_law lt hlt n (a + 20) (q + 1) d' (by omega) hc (by omega)
      (pass_step 20 (by omega) d d' a _ n q ha (by omega) (by omega) hc hn B C P Q)
      (tags_step d d' a _ n (by omega) hc hn C (fun i j i1 i2 i3 i4 => D i j i1 (by omega) i4) P)
      (fun i j i1 i2 i3 => by rw [P.2.1 i (.inr i1), P.2.1 j (.inr (by omega))]; exact D i j (by omega) i2 i3)
    exact ⟨permIn_trans _ _ _ _ _ (permIn_wide (by omega) hc hn P) this.1, this.2⟩
  · obtain ⟨P, Q⟩ := ins_law (K := K) lt hlt d a n han hn D
    exact ⟨permIn_wide (by omega) (Nat.le_refl _) hn P, pass_step 20 (by omega) d _ a n n q ha han (by omega) (Nat.le_refl _) hn B C P Q⟩
termination_by n - a
theorem stab_law (lt : α → α → Bool) (hlt : ∀ x y, lt x y = decide (K x < K y)) (n : Nat) (d : Array α) (hn : n ≤ d.size) (D : Inc T d 0 n) :
    PermIn 0 n d (stab lt n d) ∧ SrtIn K T (stab lt n d) 0 n := by
  obtain ⟨P, Q⟩ := blkLoop_law (K := K) lt hlt n 0 0 d rfl (by omega) hn (fun i j h1 h2 h3 => by omega) (fun i j h1 h2 h3 h4 => by omega) D
  have z : (blkLoop lt n 0 d).size = d.size := P.1
  obtain ⟨P', Q'⟩ := mergeLoop_law lt hlt n 20 (by omega) _ (by omega) Q
  exact ⟨permIn_trans _ _ _ _ _ P P', Q'⟩
end
end Go.Proofs.YtpcpeoejcnndhaaGreat
