/- The library's stable merging, in plain Lean: it is a permutation, and of keys and tags it makes a sorted row. No program text. -/
import Derived.Test.YtpcpeoejcnndhaaGreatM1
set_option linter.all false
namespace Go.Proofs.YtpcpeoejcnndhaaGreat
open Go.Sort
section
variable {α : Type} [Inhabited α]
theorem swapLoop_get (a b n i : Nat) (d : Array α) (h : a + n ≤ b) (hb : b + n ≤ d.size) (x : Nat) :
    (swapLoop a b n i d)[x]! = if a + i ≤ x ∧ x < a + n then d[x - a + b]! else if b + i ≤ x ∧ x < b + n then d[x - b + a]! else d[x]! := by
  unfold swapLoop
  split
  · rename_i hlt
    rw [swapLoop_get a b n (i + 1) _ h (by rw [size_swp]; exact hb)]
    have g := fun k => swp_get d (i := a + i) (j := b + i) (by omega) (by omega) k
    by_cases h1 : x = a + i
    · rw [if_neg (by omega), if_neg (by omega), if_pos (by omega)]
      subst h1
      rw [swp_left _ _ _ (by omega) (by omega)]
      congr 1; omega
    · by_cases h2 : x = b + i
      · rw [if_neg (by omega), if_neg (by omega), if_neg (by omega), if_pos (by omega)]
        subst h2
        rw [swp_right _ _ _ (by omega)]
        congr 1; omega
      · have o : ∀ k, k ≠ a + i → k ≠ b + i → (swp d (a + i) (b + i))[k]! = d[k]! := fun k e1 e2 => swp_other d _ _ _ e1 e2
        by_cases c1 : a + i ≤ x ∧ x < a + n
        · rw [if_pos (by omega), if_pos c1, o _ (by omega) (by omega)]
        · rw [if_neg (by omega), if_neg c1]
          by_cases c2 : b + i ≤ x ∧ x < b + n
          · rw [if_pos (by omega), if_pos c2, o _ (by omega) (by omega)]
          · rw [if_neg (by omega), if_neg c2, o _ h1 h2]
  · rw [if_neg (by omega), if_neg (by omega)]
termination_by n - i
theorem swapLoop_perm (lo hi a b n i : Nat) (d : Array α) (h : a + n ≤ b) (hlo : lo ≤ a) (hhi : b + n ≤ hi) (hb : hi ≤ d.size) : PermIn lo hi d (swapLoop a b n i d) := by
  unfold swapLoop
  split
  · exact permIn_trans _ _ _ _ _ (swp_permIn d lo hi (a + i) (b + i) (by omega) (by omega) (by omega) (by omega) hb) (swapLoop_perm lo hi a b n (i + 1) _ h hlo hhi (by rw [size_swp]; exact hb))
  · exact permIn_refl _ _ _
termination_by n - i
theorem rotLoop_get (m i j : Nat) (d : Array α) (hi : 0 < i) (hj : 0 < j) (him : i ≤ m) (hb : m + j ≤ d.size) (x : Nat) :
    (rotLoop m i j d)[x]! = if m - i ≤ x ∧ x < m - i + j then d[x + i]! else if m - i + j ≤ x ∧ x < m + j then d[x - j]! else d[x]! := by
  unfold rotLoop
  split
  · rename_i e
    obtain rfl : i = j := by omega
    rw [swapLoop_get _ _ _ _ _ (by omega) (by omega)]
    by_cases c1 : m - i ≤ x ∧ x < m - i + i
    · rw [if_pos (by omega), if_pos c1]; congr 1; omega
    · rw [if_neg (by omega), if_neg c1]
      by_cases c2 : m - i + i ≤ x ∧ x < m + i
      · rw [if_pos (by omega), if_pos c2]; congr 1; omega
      · rw [if_neg (by omega), if_neg c2]
  · split
    · rename_i hlt
      rw [rotLoop_get m (i - j) j _ (by omega) hj (by omega) (by rw [size_swapLoop]; exact hb)]
      simp only [swapLoop_get (m - i) m j 0 d (by omega) (by omega)]
      by_cases c1 : m - i ≤ x ∧ x < m - i + j
      · rw [if_neg (by omega), if_neg (by omega), if_pos (by omega), if_pos c1]; congr 1; omega
      · rw [if_neg c1]
        by_cases c2 : m - i + j ≤ x ∧ x < m + j
        · rw [if_pos c2]
          by_cases c3 : x < m - (i - j) + j
          · rw [if_pos (by omega), if_neg (by omega), if_pos (by omega)]; congr 1; omega
          · rw [if_neg (by omega), if_pos (by omega), if_neg (by omega), if_neg (by omega)]
        · rw [if_neg (by omega), if_neg (by omega), if_neg (by omega), if_neg (by omega), if_neg c2]
    · rename_i hne hge
      rw [rotLoop_get m i (j - i) _ hi (by omega) (by omega) (by rw [size_swapLoop]; omega)]
      simp only [swapLoop_get (m - i) (m + j - i) i 0 d (by omega) (by omega)]
      by_cases c1 : m - i ≤ x ∧ x < m - i + j
      · rw [if_pos c1]
        by_cases c3 : x < m - i + (j - i)
        · rw [if_pos (by omega), if_neg (by omega), if_neg (by omega)]
        · rw [if_neg (by omega)]
          by_cases c4 : x < m + (j - i)
          · rw [if_pos (by omega), if_pos (by omega)]; congr 1; omega
          · omega
      · rw [if_neg c1]
        by_cases c2 : m - i + j ≤ x ∧ x < m + j
        · rw [if_pos c2]
          rw [if_neg (by omega), if_neg (by omega), if_neg (by omega), if_pos (by omega)]; congr 1; omega
        · rw [if_neg c2, if_neg (by omega), if_neg (by omega), if_neg (by omega), if_neg (by omega)]
termination_by i + j
theorem rotLoop_perm (lo hi m i j : Nat) (d : Array α) (him : i ≤ m) (hlo : lo ≤ m - i) (hhi : m + j ≤ hi) (hb : hi ≤ d.size) (hj : i = j ∨ 0 < i ∧ 0 < j) : PermIn lo hi d (rotLoop m i j d) := by
  unfold rotLoop
  split
  · exact swapLoop_perm _ _ _ _ _ _ _ (by omega) hlo (by omega) hb
  · split
    · exact permIn_trans _ _ _ _ _ (swapLoop_perm lo hi (m - i) m j 0 d (by omega) hlo (by omega) hb) (rotLoop_perm lo hi m (i - j) j _ (by omega) (by omega) hhi (by rw [size_swapLoop]; exact hb) (by omega))
    · exact permIn_trans _ _ _ _ _ (swapLoop_perm lo hi (m - i) (m + j - i) i 0 d (by omega) hlo (by omega) hb) (rotLoop_perm lo hi m i (j - i) _ him hlo (by omega) (by rw [size_swapLoop]; exact hb) (by omega))
termination_by i + j
theorem upLoop_get (e x : Nat) (d : Array α) (hb : e < d.size) (hx : x ≤ e) (y : Nat) :
    (upLoop e x d)[y]! = if x ≤ y ∧ y < e then d[y + 1]! else if y = e then d[x]! else d[y]! := by
  unfold upLoop
  split
  · rename_i hlt
    rw [upLoop_get e (x + 1) _ (by rw [size_swp]; exact hb) (by omega)]
    have o : ∀ k, k ≠ x → k ≠ x + 1 → (swp d x (x + 1))[k]! = d[k]! := fun k e1 e2 => swp_other d _ _ _ e1 e2
    by_cases c1 : y = x
    · subst c1
      rw [if_neg (by omega), if_neg (by omega), if_pos (by omega), swp_left _ _ _ (by omega) (by omega)]
    · by_cases c2 : x ≤ y ∧ y < e
      · rw [if_pos (by omega), if_pos c2, o _ (by omega) (by omega)]
      · rw [if_neg (by omega), if_neg c2]
        by_cases c3 : y = e
        · rw [if_pos c3, if_pos c3, swp_right _ _ _ (by omega)]
        · rw [if_neg c3, if_neg c3, o _ (by omega) (by omega)]
  · rw [if_neg (by omega)]
    by_cases c3 : y = e
    · rw [if_pos c3]; congr 1; omega
    · rw [if_neg c3]
termination_by e - x
theorem upLoop_perm (lo hi e x : Nat) (d : Array α) (hlo : lo ≤ x) (hhi : e < hi) (hb : hi ≤ d.size) : PermIn lo hi d (upLoop e x d) := by
  unfold upLoop
  split
  · exact permIn_trans _ _ _ _ _ (swp_permIn d lo hi x (x + 1) (by omega) (by omega) (by omega) (by omega) hb) (upLoop_perm lo hi e (x + 1) _ (by omega) hhi (by rw [size_swp]; exact hb))
  · exact permIn_refl _ _ _
termination_by e - x
theorem dnLoop_get (i x : Nat) (d : Array α) (hb : x < d.size) (hx : i ≤ x) (y : Nat) :
    (dnLoop i x d)[y]! = if i < y ∧ y ≤ x then d[y - 1]! else if y = i then d[x]! else d[y]! := by
  unfold dnLoop
  split
  · rename_i hlt
    rw [dnLoop_get i (x - 1) _ (by rw [size_swp]; omega) (by omega)]
    have o : ∀ k, k ≠ x → k ≠ x - 1 → (swp d x (x - 1))[k]! = d[k]! := fun k e1 e2 => swp_other d _ _ _ e1 e2
    by_cases c1 : y = x
    · subst c1
      rw [if_neg (by omega), if_neg (by omega), if_pos (by omega), swp_left _ _ _ (by omega) (by omega)]
    · by_cases c2 : i < y ∧ y ≤ x
      · rw [if_pos (by omega), if_pos c2, o _ (by omega) (by omega)]
      · rw [if_neg (by omega), if_neg c2]
        by_cases c3 : y = i
        · rw [if_pos c3, if_pos c3, swp_right _ _ _ (by omega)]
        · rw [if_neg c3, if_neg c3, o _ (by omega) (by omega)]
  · rw [if_neg (by omega)]
    by_cases c3 : y = i
    · rw [if_pos c3]; congr 1; omega
    · rw [if_neg c3]
termination_by x
theorem dnLoop_perm (lo hi i x : Nat) (d : Array α) (hlo : lo ≤ i) (hhi : x < hi) (hb : hi ≤ d.size) : PermIn lo hi d (dnLoop i x d) := by
  unfold dnLoop
  split
  · exact permIn_trans _ _ _ _ _ (swp_permIn d lo hi x (x - 1) (by omega) (by omega) (by omega) (by omega) hb) (dnLoop_perm lo hi i (x - 1) _ hlo (by omega) (by rw [size_swp]; exact hb))
  · exact permIn_refl _ _ _
termination_by x
theorem bs_spec (p : Nat → Bool) (i j : Nat) (h : i ≤ j) : (bs p i j = i ∨ p (bs p i j - 1) = true) ∧ (bs p i j = j ∨ p (bs p i j) = false) := by
  unfold bs
  split
  · split
    · rename_i h1 h2
      obtain ⟨g1, g2⟩ := bs_spec p ((i + j) / 2 + 1) j (by omega)
      refine ⟨.inr ?_, g2⟩
      rcases g1 with g1 | g1
      · rw [g1]; simpa using h2
      · exact g1
    · rename_i h1 h2
      obtain ⟨g1, g2⟩ := bs_spec p i ((i + j) / 2) (by omega)
      refine ⟨g1, .inr ?_⟩
      rcases g2 with g2 | g2
      · rw [g2]; simpa using h2
      · exact g2
  · exact ⟨.inl rfl, .inl (by omega)⟩
termination_by j - i
end
section
variable {α : Type} [Inhabited α] (K T : α → Nat)
def LK (x y : α) : Prop := K x < K y ∨ K x = K y ∧ T x ≤ T y
def SrtIn (d : Array α) (a b : Nat) : Prop := ∀ i j, a ≤ i → i < j → j < b → LK K T d[i]! d[j]!
def TagsIn (d : Array α) (a m b : Nat) : Prop := ∀ i j, a ≤ i → i < m → m ≤ j → j < b → T d[i]! < T d[j]!
variable {K T}
theorem LK.le {x y : α} (h : LK K T x y) : K x ≤ K y := by unfold LK at h; omega
theorem SrtIn.le {d : Array α} {a b : Nat} (h : SrtIn K T d a b) {i j : Nat} (h1 : a ≤ i) (h2 : i ≤ j) (h3 : j < b) : K d[i]! ≤ K d[j]! := by
  rcases Nat.lt_or_ge i j with hl | hl
  · exact (h i j h1 hl h3).le
  · have : i = j := by omega
    rw [this]; exact Nat.le_refl _
theorem symM_one (d : Array α) (a b s : Nat) (hb : b ≤ d.size) (S2 : SrtIn K T d (a + 1) b) (C : TagsIn T d a (a + 1) b) (hs1 : a + 1 ≤ s) (hs2 : s ≤ b)
    (l : s = a + 1 ∨ K d[s - 1]! < K d[a]!) (r : s = b ∨ K d[a]! ≤ K d[s]!) : SrtIn K T (upLoop (s - 1) a d) a b := by
  intro i j h1 h2 h3
  have ge := fun y => upLoop_get (s - 1) a d (by omega) (by omega) y
  rw [ge i, ge j]
  by_cases ci : i < s - 1
  · rw [if_pos ⟨h1, ci⟩]
    by_cases cj : j < s - 1
    · rw [if_pos ⟨by omega, cj⟩]
      exact S2 _ _ (by omega) (by omega) (by omega)
    · rw [if_neg (by omega)]
      by_cases c : j = s - 1
      · rw [if_pos c]
        have := S2.le (i := i + 1) (j := s - 1) (by omega) (by omega) (by omega)
        left; omega
      · rw [if_neg c]
        exact S2 _ _ (by omega) (by omega) h3
  · rw [if_neg (by omega)]
    rw [if_neg (show ¬ (a ≤ j ∧ j < s - 1) by omega), if_neg (show ¬ j = s - 1 by omega)]
    by_cases c : i = s - 1
    · rw [if_pos c]
      have h5 := S2.le (i := s) (j := j) (by omega) (by omega) h3
      have h6 := C a j (by omega) (by omega) (by omega) h3
      unfold LK; omega
    · rw [if_neg c]
      exact S2 _ _ (by omega) h2 h3
theorem symM_two (d : Array α) (a m s : Nat) (hb : m + 1 ≤ d.size) (S1 : SrtIn K T d a m) (C : TagsIn T d a m (m + 1)) (hs1 : a ≤ s) (hs2 : s ≤ m)
    (l : s = a ∨ K d[s - 1]! ≤ K d[m]!) (r : s = m ∨ K d[m]! < K d[s]!) : SrtIn K T (dnLoop s m d) a (m + 1) := by
  intro i j h1 h2 h3
  have ge := fun y => dnLoop_get s m d (by omega) (by omega) y
  rw [ge i, ge j]
  by_cases ci : i < s
  · rw [if_neg (by omega), if_neg (by omega)]
    by_cases cj : s < j
    · rw [if_pos ⟨cj, by omega⟩]
      exact S1 _ _ (by omega) (by omega) (by omega)
    · rw [if_neg (by omega)]
      by_cases c : j = s
      · rw [if_pos c]
        have h5 := S1.le (i := i) (j := s - 1) (by omega) (by omega) (by omega)
        have h6 := C i m (by omega) (by omega) (by omega) (by omega)
        unfold LK; omega
      · rw [if_neg c]
        exact S1 _ _ (by omega) (by omega) (by omega)
  · rw [if_pos (show s < j ∧ j ≤ m by omega)]
    by_cases c : s < i
    · rw [if_pos ⟨c, by omega⟩]
      exact S1 _ _ (by omega) (by omega) (by omega)
    · rw [if_neg (by omega), if_pos (by omega)]
      have := S1.le (i := s) (j := j - 1) (by omega) (by omega) (by omega)
      left; omega
theorem SrtIn.congr {d d' : Array α} {a b : Nat} (h : SrtIn K T d a b) (he : ∀ i, a ≤ i → i < b → d'[i]! = d[i]!) : SrtIn K T d' a b := fun i j h1 h2 h3 => by
  rw [he i h1 (by omega), he j (by omega) h3]; exact h i j h1 h2 h3
theorem TagsIn.congr {d d' : Array α} {a m b : Nat} (h : TagsIn T d a m b) (he : ∀ i, a ≤ i → i < b → d'[i]! = d[i]!) : TagsIn T d' a m b := fun i j h1 h2 h3 h4 => by
  rw [he i h1 (by omega), he j (by omega) h4]; exact h i j h1 h2 h3 h4
theorem symM_mid (d d1 : Array α) (a m b mid s e n : Nat) (ham : a < m) (hmb : m < b) (hb : b ≤ d.size) (S1 : SrtIn K T d a m) (S2 : SrtIn K T d m b) (C : TagsIn T d a m b)
    (h1 : a ≤ s) (h2 : s ≤ m) (h3 : m ≤ e) (h4 : e ≤ b) (h5 : s ≤ mid) (h6 : mid ≤ e) (hn : s + e = mid + m)
    (l : s = a ∨ e = b ∨ K d[s - 1]! ≤ K d[e]!) (r : s = m ∨ e = m ∨ K d[e - 1]! < K d[s]!)
    (ge : ∀ x, d1[x]! = if s ≤ x ∧ x < mid then d[x + (m - s)]! else if mid ≤ x ∧ x < e then d[x - (e - m)]! else d[x]!) :
    (∀ x y, a ≤ x → x < mid → mid ≤ y → y < b → LK K T d1[x]! d1[y]!) ∧ SrtIn K T d1 a s ∧ SrtIn K T d1 s mid ∧ TagsIn T d1 a s mid ∧ SrtIn K T d1 mid e ∧ SrtIn K T d1 e b ∧ TagsIn T d1 mid e b := by
  have gA : ∀ x, x < s → d1[x]! = d[x]! := fun x h => by rw [ge, if_neg (by omega), if_neg (by omega)]
  have gB : ∀ x, s ≤ x → x < mid → d1[x]! = d[x + (m - s)]! := fun x h h' => by rw [ge, if_pos ⟨h, h'⟩]
  have gC : ∀ x, mid ≤ x → x < e → d1[x]! = d[x - (e - m)]! := fun x h h' => by rw [ge, if_neg (by omega), if_pos ⟨h, h'⟩]
  have gD : ∀ x, e ≤ x → d1[x]! = d[x]! := fun x h => by rw [ge, if_neg (by omega), if_neg (by omega)]
  refine ⟨fun x y x1 x2 y1 y2 => ?_, fun i j i1 i2 i3 => ?_, fun i j i1 i2 i3 => ?_, fun i j i1 i2 i3 i4 => ?_, fun i j i1 i2 i3 => ?_, fun i j i1 i2 i3 => ?_, fun i j i1 i2 i3 i4 => ?_⟩
  · by_cases cx : x < s
    · rw [gA x cx]
      by_cases cy : y < e
      · rw [gC y y1 cy]
        exact S1 _ _ x1 (by omega) (by omega)
      · rw [gD y (by omega)]
        have g1 := S1.le (i := x) (j := s - 1) (by omega) (by omega) (by omega)
        have g2 := S2.le (i := e) (j := y) (by omega) (by omega) (by omega)
        have g3 := C x y x1 (by omega) (by omega) y2
        unfold LK; omega
    · rw [gB x (by omega) x2]
      by_cases cy : y < e
      · rw [gC y y1 cy]
        have g1 := S2.le (i := x + (m - s)) (j := e - 1) (by omega) (by omega) (by omega)
        have g2 := S1.le (i := s) (j := y - (e - m)) (by omega) (by omega) (by omega)
        left; omega
      · rw [gD y (by omega)]
        exact S2 _ _ (by omega) (by omega) y2
  · rw [gA i (by omega), gA j (by omega)]; exact S1 _ _ i1 i2 (by omega)
  · rw [gB i (by omega) (by omega), gB j (by omega) (by omega)]; exact S2 _ _ (by omega) (by omega) (by omega)
  · rw [gA i (by omega), gB j (by omega) (by omega)]; exact C _ _ (by omega) (by omega) (by omega) (by omega)
  · rw [gC i (by omega) (by omega), gC j (by omega) (by omega)]; exact S1 _ _ (by omega) (by omega) (by omega)
  · rw [gD i (by omega), gD j (by omega)]; exact S2 _ _ (by omega) (by omega) (by omega)
  · rw [gC i (by omega) (by omega), gD j (by omega)]; exact C _ _ (by omega) (by omega) (by omega) (by omega)
theorem permIn_wide {d d' : Array α} {a b a' b' : Nat} (h1 : a' ≤ a) (h2 : b ≤ b') (h3 : b' ≤ d.size) (h : PermIn a b d d') : PermIn a' b' d d' := permIn_mono _ _ _ _ _ _ h1 h2 h3 h
theorem symM_law (lt : α → α → Bool) (hlt : ∀ x y, lt x y = decide (K x < K y)) : ∀ (f : Nat) (d : Array α) (a m b : Nat), a < m → m < b → b ≤ d.size → b - a ≤ f → SrtIn K T d a m → SrtIn K T d m b → TagsIn T d a m b →
    PermIn a b d (symM lt f d a m b) ∧ SrtIn K T (symM lt f d a m b) a b
  | 0, _, _, _, _, h1, h2, _, h4, _, _, _ => by omega
  | f + 1, d, a, m, b, ham, hmb, hb, hf, S1, S2, C => by
    by_cases c1 : m - a = 1
    · have e1 : m = a + 1 := by omega
      subst e1
      rw [symM, if_pos c1]
      obtain ⟨k1, k2⟩ := bs_le (fun h => lt d[h]! d[a]!) (a + 1) b (by omega)
      obtain ⟨s1, s2⟩ := bs_spec (fun h => lt d[h]! d[a]!) (a + 1) b (by omega)
      generalize bs (fun h => lt d[h]! d[a]!) (a + 1) b = s at k1 k2 s1 s2 ⊢
      simp only [hlt, decide_eq_true_eq, decide_eq_false_iff_not, Nat.not_lt] at s1 s2
      exact ⟨upLoop_perm a b _ _ _ (Nat.le_refl _) (by omega) hb, symM_one d a b s hb S2 C k1 k2 s1 s2⟩
    · by_cases c2 : b - m = 1
      · have e1 : b = m + 1 := by omega
        subst e1
        rw [symM, if_neg c1, if_pos c2]
        obtain ⟨k1, k2⟩ := bs_le (fun h => !lt d[m]! d[h]!) a m (by omega)
        obtain ⟨s1, s2⟩ := bs_spec (fun h => !lt d[m]! d[h]!) a m (by omega)
        generalize bs (fun h => !lt d[m]! d[h]!) a m = s at k1 k2 s1 s2 ⊢
        simp only [hlt, Bool.not_eq_true', Bool.not_eq_false', decide_eq_true_eq, decide_eq_false_iff_not, Nat.not_lt] at s1 s2
        exact ⟨dnLoop_perm a (m + 1) _ _ _ k1 (by omega) hb, symM_two d a m s hb S1 C k1 k2 s1 s2⟩
      · obtain ⟨mid, hmid⟩ : ∃ q, q = (a + b) / 2 := ⟨_, rfl⟩
        obtain ⟨n, hn⟩ : ∃ q, q = mid + m := ⟨_, rfl⟩
        obtain ⟨lo, hlo⟩ : ∃ q, q = (if mid < m then n - b else a) := ⟨_, rfl⟩
        obtain ⟨hi, hhi⟩ : ∃ q, q = (if mid < m then mid else m) := ⟨_, rfl⟩
        have hlh : lo ≤ hi := by rw [hlo, hhi]; split <;> omega
        obtain ⟨k1, k2⟩ := bs_le (fun c => !lt d[n - 1 - c]! d[c]!) lo hi hlh
        obtain ⟨s1, s2⟩ := bs_spec (fun c => !lt d[n - 1 - c]! d[c]!) lo hi hlh
        obtain ⟨s, hs⟩ : ∃ q, q = bs (fun c => !lt d[n - 1 - c]! d[c]!) lo hi := ⟨_, rfl⟩
        rw [← hs] at k1 k2 s1 s2
        rw [hlo, hhi] at hs
        simp only [hlt, Bool.not_eq_true', Bool.not_eq_false', decide_eq_true_eq, decide_eq_false_iff_not, Nat.not_lt] at s1 s2
        obtain ⟨e, he⟩ : ∃ q, q = n - s := ⟨_, rfl⟩
        obtain ⟨d1, hd1⟩ : ∃ q, q = if s < m ∧ m < e then rotLoop m (m - s) (e - m) d else d := ⟨_, rfl⟩
        obtain ⟨d2, hd2⟩ : ∃ q, q = if a < s ∧ s < mid then symM lt f d1 a s mid else d1 := ⟨_, rfl⟩
        rw [symM_rest lt f d a m b c1 c2 mid n s e hmid hn hs he d1 d2 hd1 hd2]
        have hlo' : mid < m ∧ lo = n - b ∨ m ≤ mid ∧ lo = a := by rw [hlo]; split <;> omega
        have hhi' : mid < m ∧ hi = mid ∨ m ≤ mid ∧ hi = m := by rw [hhi]; split <;> omega
        clear hs hlo hhi
        have h1 : a ≤ s := by omega
        have h2 : s ≤ m := by omega
        have h3 : m ≤ e := by omega
        have h4 : e ≤ b := by omega
        have h5 : s ≤ mid := by omega
        have h6 : mid ≤ e := by omega
        have hse : s + e = mid + m := by omega
        have P1 : PermIn a b d d1 := by
          rw [hd1]; split
          · exact rotLoop_perm a b m _ _ d (by omega) (by omega) (by omega) hb (.inr ⟨by omega, by omega⟩)
          · exact permIn_refl _ _ _
        have ge : ∀ x, d1[x]! = if s ≤ x ∧ x < mid then d[x + (m - s)]! else if mid ≤ x ∧ x < e then d[x - (e - m)]! else d[x]! := fun x => by
          rw [hd1]
          split
          · rw [rotLoop_get m (m - s) (e - m) d (by omega) (by omega) (by omega) (by omega)]
            rw [show m - (m - s) = s by omega, show s + (e - m) = mid by omega, show m + (e - m) = e by omega]
          · rename_i hc
            by_cases g1 : s = m
            · by_cases q : s ≤ x ∧ x < mid
              · rw [if_pos q]; congr 1; omega
              · rw [if_neg q, if_neg (by omega)]
            · have g2 : e = m := by omega
              rw [if_neg (by omega)]
              by_cases q : mid ≤ x ∧ x < e
              · rw [if_pos q]; congr 1; omega
              · rw [if_neg q]
        have hl : s = a ∨ e = b ∨ K d[s - 1]! ≤ K d[e]! := by
          rcases s1 with s1 | s1
          · omega
          · by_cases z : s = a
            · exact .inl z
            · rw [show n - 1 - (s - 1) = e by omega] at s1
              exact .inr (.inr s1)
        have hr : s = m ∨ e = m ∨ K d[e - 1]! < K d[s]! := by
          rcases s2 with s2 | s2
          · omega
          · rw [show n - 1 - s = e - 1 by omega] at s2
            exact .inr (.inr s2)
        obtain ⟨X, A1, A2, A3, B1, B2, B3⟩ := symM_mid d d1 a m b mid s e n ham hmb hb S1 S2 C h1 h2 h3 h4 h5 h6 hse hl hr ge
        have z1 : d1.size = d.size := P1.1
        have L2 : PermIn a mid d1 d2 ∧ SrtIn K T d2 a mid := by
          rw [hd2]
          split
          · rename_i hc
            exact symM_law lt hlt f d1 a s mid hc.1 hc.2 (by omega) (by omega) A1 A2 A3
          · rename_i hc
            refine ⟨permIn_refl _ _ _, ?_⟩
            by_cases g1 : s = a
            · rw [← g1]; exact A2
            · have g2 : s = mid := by omega
              rw [← g2]; exact A1
        obtain ⟨P2, Q2⟩ := L2
        have z2 : d2.size = d1.size := P2.1
        have o2 : ∀ i, mid ≤ i → d2[i]! = d1[i]! := fun i h => P2.2.1 i (.inr h)
        have L3 : PermIn mid b d2 (if mid < e ∧ e < b then symM lt f d2 mid e b else d2) ∧ SrtIn K T (if mid < e ∧ e < b then symM lt f d2 mid e b else d2) mid b := by
          split
          · rename_i hc
            exact symM_law lt hlt f d2 mid e b hc.1 hc.2 (by omega) (by omega) (B1.congr fun i g _ => o2 i g) (B2.congr fun i g _ => o2 i (by omega)) (B3.congr fun i g _ => o2 i (by omega))
          · rename_i hc
            refine ⟨permIn_refl _ _ _, ?_⟩
            by_cases g1 : e = mid
            · rw [← g1]; exact B2.congr fun i g _ => o2 i (by omega)
            · have g2 : e = b := by omega
              rw [← g2]; exact B1.congr fun i g _ => o2 i (by omega)
        obtain ⟨P3, Q3⟩ := L3
        generalize (if mid < e ∧ e < b then symM lt f d2 mid e b else d2) = d3 at P3 Q3 ⊢
        have hmb' : mid < b := by omega
        have ham' : a < mid := by omega
        refine ⟨permIn_trans _ _ _ _ _ (permIn_trans _ _ _ _ _ P1 (permIn_wide (Nat.le_refl _) (by omega) (by omega) P2)) (permIn_wide (by omega) (Nat.le_refl _) (by omega) P3), fun i j i1 i2 i3 => ?_⟩
        have o3 : ∀ i, i < mid → d3[i]! = d2[i]! := fun i h => P3.2.1 i (.inl h)
        by_cases cj : j < mid
        · rw [o3 i (by omega), o3 j cj]; exact Q2 i j i1 i2 cj
        · by_cases ci : i < mid
          · rw [o3 i ci]
            refine permIn_all d2 d3 mid b (fun y => LK K T d2[i]! y) (by omega) P3 (fun y y1 y2 => ?_) j (by omega) i3
            rw [o2 y y1]
            exact permIn_all d1 d2 a mid (fun x => LK K T x d1[y]!) (by omega) P2 (fun x x1 x2 => X x y x1 x2 y1 y2) i i1 ci
          · exact Q3 i j (by omega) i2 i3
end
end Go.Proofs.YtpcpeoejcnndhaaGreat
