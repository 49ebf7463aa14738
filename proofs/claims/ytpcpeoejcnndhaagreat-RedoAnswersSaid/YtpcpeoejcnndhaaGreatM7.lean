/- What is sorted stably by keys, and then kept once a key, is the map of the pairs, of each key the last one. No program text. -/
import Derived.Test.YtpcpeoejcnndhaaGreatM5
import Derived.Test.YtpcpeoejcnndhaaGreatM6
import Derived.Test.YtpcpeoejcnndhaaGreatSel
set_option linter.all false
namespace Go.Proofs.YtpcpeoejcnndhaaGreat
open Go.RowKit Go.Shelf Go.Lib Go.Sort Go.Proofs
--@@ slices.SortStableFunc
def eqT (x y : Pr × Nat) : Bool := decide (x.1.key = y.1.key)
abbrev KT (x : Pr × Nat) : Nat := x.1.key.num
abbrev TT (x : Pr × Nat) : Nat := x.2
def tagged (l : List Pr) : Array (Pr × Nat) := l.reverse.zipIdx.toArray
theorem tagged_snd (l : List Pr) : l.zipIdx.Pairwise fun x y => x.2 < y.2 := by
  rw [List.pairwise_iff_getElem]
  intro i j hi hj hij
  simp only [List.getElem_zipIdx]
  omega
theorem tagged_size (l : List Pr) : (tagged l).size = l.length := by simp [tagged]
theorem tagged_fst (l : List Pr) : (tagged l).toList.map (·.1) = l.reverse := by
  simp [tagged]
theorem getP_filter (k : K4) : ∀ m : List (Pr × Nat), getP k (m.map (·.1)) = (m.filter fun x => decide (x.1.key = k)).head?.map (·.1.val)
  | [] => rfl
  | x :: m => by
    simp only [List.map_cons, getP]
    by_cases h : x.1.key = k
    · simp [h]
    · rw [if_neg h, getP_filter k m]; simp [h]
theorem stab_get (l : List Pr) (ls : List (Pr × Nat)) (hp : ls.Perm (l.reverse.zipIdx)) (hs : ls.Pairwise (LK KT TT)) (k : K4) : getP k (ls.map (·.1)) = lastP k l := by
  have e : (ls.filter fun x => decide (x.1.key = k)) = (l.reverse.zipIdx).filter fun x => decide (x.1.key = k) := by
    have hz := tagged_snd l.reverse
    refine List.Perm.eq_of_pairwise (le := fun x y => x.2 ≤ y.2) ?_ ?_ ?_ (hp.filter _)
    · intro a b ha hb h1 h2
      have ha' : a ∈ l.reverse.zipIdx := hp.mem_iff.1 (List.mem_filter.1 ha).1
      have hb' : b ∈ l.reverse.zipIdx := (List.mem_filter.1 hb).1
      obtain ⟨i, hi, rfl⟩ := List.mem_iff_getElem.1 ha'
      obtain ⟨j, hj, rfl⟩ := List.mem_iff_getElem.1 hb'
      rw [List.pairwise_iff_getElem] at hz
      rcases Nat.lt_trichotomy i j with h | h | h
      · have := hz i j hi hj h; omega
      · subst h; rfl
      · have := hz j i hj hi h; omega
    · have := hs.filter fun x => decide (x.1.key = k)
      refine List.Pairwise.imp_of_mem (fun {a b} ha hb h => ?_) this
      have h1 := of_decide_eq_true (List.mem_filter.1 ha).2
      have h2 := of_decide_eq_true (List.mem_filter.1 hb).2
      unfold LK at h
      simp only [h1, h2, KT, TT] at h
      omega
    · exact (hz.filter _).imp fun h => Nat.le_of_lt h
  rw [getP_filter, e, ← getP_filter]
  unfold lastP
  congr 1
  simp
theorem compact_law (st : Array (Pr × Nat)) (hs : SrtIn KT TT st 0 st.size) : ∀ n, n ≤ st.size →
    Srt ((selN (fun j => j == 0 || !eqT st[j]! st[j - 1]!) st n).map (·.1)) ∧ (∀ x ∈ selN (fun j => j == 0 || !eqT st[j]! st[j - 1]!) st n, ∃ i, i < n ∧ x = st[i]!) ∧
    ∀ k, getP k ((selN (fun j => j == 0 || !eqT st[j]! st[j - 1]!) st n).map (·.1)) = getP k ((st.toList.take n).map (·.1))
  | 0, _ => ⟨List.Pairwise.nil, fun x hx => by simp [selN] at hx, fun k => rfl⟩
  | n + 1, hn => by
    obtain ⟨h1, h2, h3⟩ := compact_law st hs n (by omega)
    have htake : st.toList.take (n + 1) = st.toList.take n ++ [st[n]!] := by
      rw [List.take_succ_eq_append_getElem (by simp; omega), getElem!_pos st n hn]; simp
    generalize hk : (fun j => j == 0 || !eqT st[j]! st[j - 1]!) = keep at h1 h2 h3 ⊢
    cases hv : keep n with
    | true =>
      rw [selN_take hv]
      refine ⟨?_, ?_, ?_⟩
      · rw [List.map_append]
        refine List.pairwise_append.2 ⟨h1, List.pairwise_singleton _ _, fun a ha b hb => ?_⟩
        simp only [List.map_cons, List.map_nil, List.mem_singleton] at hb
        subst hb
        obtain ⟨x, hx, rfl⟩ := List.mem_map.1 ha
        obtain ⟨i, hi, rfl⟩ := h2 x hx
        have n0 : n ≠ 0 := by omega
        rw [← hk] at hv
        have hne : (n == 0) = false := by simpa using n0
        simp only [hne, Bool.false_or, Bool.not_eq_true', eqT, decide_eq_false_iff_not] at hv
        have q1 := hs.le (i := i) (j := n - 1) (by omega) (by omega) (by omega)
        have q2 := hs (n - 1) n (by omega) (by omega) (by omega)
        have q3 : KT st[n]! ≠ KT st[n - 1]! := fun e => hv (K4.num_inj e)
        have q4 := q2.le
        show KT st[i]! < KT st[n]!
        omega
      · intro x hx
        rcases List.mem_append.1 hx with hx | hx
        · obtain ⟨i, hi, e⟩ := h2 x hx; exact ⟨i, by omega, e⟩
        · exact ⟨n, by omega, by simpa using hx⟩
      · intro k
        rw [htake, List.map_append, List.map_append, getP_append, getP_append, h3]
    | false =>
      rw [selN_skip hv]
      refine ⟨h1, fun x hx => by obtain ⟨i, hi, e⟩ := h2 x hx; exact ⟨i, by omega, e⟩, fun k => ?_⟩
      rw [htake, List.map_append, getP_append, h3]
      have n0 : n ≠ 0 := fun e => by rw [← hk, e] at hv; simp at hv
      rw [← hk] at hv
      have hne : (n == 0) = false := by simpa using n0
      simp only [hne, Bool.false_or, Bool.not_eq_false', eqT, decide_eq_true_eq] at hv
      cases hg : getP k ((st.toList.take n).map (·.1)) with
      | some v => rfl
      | none =>
        rw [getP_none_iff] at hg
        have hm : st[n - 1]!.1 ∈ (st.toList.take n).map (·.1) := by
          refine List.mem_map.2 ⟨st[n - 1]!, ?_, rfl⟩
          rw [getElem!_pos st (n - 1) (by omega)]
          exact List.mem_iff_getElem.2 ⟨n - 1, by simp; omega, by simp⟩
        have := hg _ hm
        simp only [List.map_cons, List.map_nil, getP, Option.none_or]
        rw [if_neg (by rw [hv]; exact this)]
theorem sort_law (l : List Pr) : (selN (fun j => j == 0 || !eqT (stab (ltOf cfT) (tagged l).size (tagged l))[j]! (stab (ltOf cfT) (tagged l).size (tagged l))[j - 1]!) (stab (ltOf cfT) (tagged l).size (tagged l)) (stab (ltOf cfT) (tagged l).size (tagged l)).size).map (·.1) = keysP l := by
  obtain ⟨P, S⟩ := stab_law (K := KT) (T := TT) (ltOf cfT) (fun x y => ordK_neg _ _) (tagged l).size (tagged l) (Nat.le_refl _) (fun i j h1 h2 h3 => by
    have := tagged_snd l.reverse
    rw [List.pairwise_iff_getElem] at this
    have h3' : j < l.reverse.zipIdx.length := by simpa [tagged] using h3
    have := this i j (by omega) h3' h2
    rw [getElem!_pos _ i (by omega), getElem!_pos _ j h3]
    simpa [tagged] using this)
  have z : (stab (ltOf cfT) (tagged l).size (tagged l)).size = (tagged l).size := size_stab _ _ _
  generalize stab (ltOf cfT) (tagged l).size (tagged l) = st at P S z ⊢
  rw [← z] at S P
  obtain ⟨h1, h2, h3⟩ := compact_law st S st.size (Nat.le_refl _)
  refine keysP_of h1 fun k => ?_
  rw [h3, List.take_of_length_le (by simp)]
  have hp := P.2.2
  have e1 : st.extract 0 st.size = st := by simp
  have e2 : (tagged l).extract 0 st.size = tagged l := by rw [z]; simp
  rw [e1, e2] at hp
  refine stab_get l st.toList (by simpa [tagged] using hp) ?_ k
  rw [List.pairwise_iff_getElem]
  intro i j hi hj hij
  have := S i j (Nat.zero_le _) hij (by simpa using hj)
  rw [getElem!_pos st i (by simpa using hi), getElem!_pos st j (by simpa using hj)] at this
  simpa using this
theorem selN_filter {α : Type} [Inhabited α] (q : α → Bool) (d : Array α) : ∀ n, n ≤ d.size → selN (fun j => q d[j]!) d n = (d.toList.take n).filter q
  | 0, _ => rfl
  | n + 1, hn => by
    rw [List.take_succ_eq_append_getElem (by simp; omega), List.filter_append, ← selN_filter q d n (by omega)]
    have e : d.toList[n]'(by simp; omega) = d[n]! := by rw [getElem!_pos d n hn]; simp
    rw [e]
    cases hv : q d[n]! with
    | true => rw [selN_take hv]; simp [hv]
    | false => rw [selN_skip hv]; simp [hv]
--@@ end
end Go.Proofs.YtpcpeoejcnndhaaGreat
