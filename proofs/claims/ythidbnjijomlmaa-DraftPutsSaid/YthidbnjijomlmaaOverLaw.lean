/- Plain laws of a draft over a base. -/
import Derived.Test.YthidbnjijomlmaaArgs09
set_option linter.all false
namespace Go.Proofs.Ythidbnjijomlmaa
set_option linter.unusedVariables false
set_option linter.unusedSimpArgs false

theorem aget_mem {k : K4} {v : V} : ∀ {l : List (K4 × V)}, aget k l = some v → (k, v) ∈ l
  | [], h => by simp [aget] at h
  | p :: l, h => by
    obtain ⟨q, u⟩ := p
    simp only [aget] at h
    by_cases hq : q = k
    · rw [if_pos hq] at h
      obtain rfl := hq
      obtain rfl := Option.some.inj h
      exact List.mem_cons_self
    · rw [if_neg hq] at h
      exact List.mem_cons_of_mem _ (aget_mem h)
theorem aput_mem {k : K4} {v : V} {p : K4 × V} : ∀ {l : List (K4 × V)}, p ∈ aput k v l → p = (k, v) ∨ p ∈ l
  | [], h => by simp [aput] at h; exact .inl h
  | q :: l, h => by
    obtain ⟨q, u⟩ := q
    simp only [aput] at h
    by_cases hq : q = k
    · rw [if_pos hq] at h
      rcases List.mem_cons.1 h with h | h
      · subst hq; exact .inl h
      · exact .inr (List.mem_cons_of_mem _ h)
    · rw [if_neg hq] at h
      rcases List.mem_cons.1 h with h | h
      · exact .inr (h ▸ List.mem_cons_self)
      · exact (aput_mem h).imp_right (List.mem_cons_of_mem _)
theorem dPut_right (d : List (K4 × V)) (k : K4) (v : V) (h : ∀ p ∈ d, V.right p.2 = true) : ∀ p ∈ (dPut d k v).2, V.right p.2 = true := by
  unfold dPut
  split
  · exact h
  · rename_i h1
    split
    · exact h
    · intro p hp
      rcases aput_mem hp with rfl | hp
      · simpa using h1
      · exact h p hp
theorem putsD_right (l : List Pr) : ∀ p ∈ putsD [] l, V.right p.2 = true := by
  have key : ∀ (l : List Pr) (d : List (K4 × V)), (∀ p ∈ d, V.right p.2 = true) → ∀ p ∈ putsD d l, V.right p.2 = true := fun l => by
    induction l with
    | nil => intro d h; exact h
    | cons p l ih => intro d h; exact ih _ (dPut_right d p.key p.val h)
  exact key l [] (fun p hp => by cases hp)
theorem getP_toPr (k : K4) : ∀ D : List (K4 × V), getP k (D.map toPr) = aget k D
  | [] => rfl
  | p :: D => by
    obtain ⟨q, u⟩ := p
    simp only [List.map_cons, toPr, getP, aget]
    rw [getP_toPr k D]
theorem lastP_D (D : List (K4 × V)) (hn : (D.map (·.1)).Nodup) (k : K4) : lastP k (keysP (D.map toPr)) = aget k D := by
  rw [srt_lastP (keysP_srt _), keysP_get]
  unfold lastP
  rw [← getP_toPr]
  exact perm_getP (List.reverse_perm _) (by rw [List.map_reverse, (List.reverse_perm _).nodup_iff, List.map_map]; exact hn) k
theorem over_got (lb : List Pr) (D : List (K4 × V)) (hn : (D.map (·.1)).Nodup) (k : K4) :
    findP (sortP (lb ++ keysP (D.map toPr))) k = (((aget k D).or (lastP k lb)).filter fun v => v.there).getD V.zero := by
  unfold findP
  rw [srt_lastP (sortP_srt _), sortP_get, lastP_append, lastP_D D hn]
theorem over_again (lb ps : List Pr) : sortP (sortP (lb ++ ps) ++ ps) = sortP (lb ++ ps) := by
  refine srt_ext (sortP_srt _) (sortP_srt _) fun k => ?_
  rw [sortP_get, sortP_get, lastP_append, lastP_append, srt_lastP (sortP_srt _), sortP_get, lastP_append]
  cases h : lastP k ps with
  | some v => rfl
  | none =>
    simp only [Option.none_or]
    cases lastP k lb with
    | none => rfl
    | some u => cases hu : u.there <;> simp [Option.filter, hu]
theorem sortP_there (l : List Pr) : ∀ p ∈ sortP l, p.val.there = true := fun p hp => by
  have := (List.mem_filter.1 hp).2
  simpa using this
theorem right_zero {v : V} (h : V.right v = true) (ht : v.there = false) : v = V.zero := by
  obtain ⟨t, n⟩ := v
  simp only [V.right] at h
  dsimp only at ht
  subst ht
  simp at h
  subst h
  rfl
/-- what the statement says of a key, of plain lists -/
theorem over_law (lb : List Pr) (l : List Pr) (k : K4) (g : Option V) (got was : V) (hg : aget k (putsD [] l) = g)
    (h1 : got = findP (sortP (lb ++ keysP ((putsD [] l).map toPr))) k) (h2 : was = findP lb k) :
    (∀ v, g = some v → got = v) ∧ (g = none → (was.there = true → got = was) ∧ (was.there = false → got.there = false)) := by
  have hn := (putsD_ok l).1
  have hr := putsD_right l
  rw [over_got lb _ hn k, hg] at h1
  subst h1
  refine ⟨fun v hv => ?_, fun hv => ?_⟩
  · subst hv
    have := hr _ (aget_mem hg)
    cases ht : v.there with
    | true => simp [Option.filter, ht]
    | false => simp only [Option.filter, Option.some_or, ht]; exact (right_zero this ht).symm
  · subst hv
    subst h2
    unfold findP
    simp only [Option.none_or]
    cases h : lastP k lb with
    | none => simp [V.zero]
    | some u => cases hu : u.there <;> simp [Option.filter, hu, V.zero]
end Go.Proofs.Ythidbnjijomlmaa
