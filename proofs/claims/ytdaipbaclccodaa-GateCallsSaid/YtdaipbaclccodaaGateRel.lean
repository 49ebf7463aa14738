/- The gate's rows and the reference's: the plain law. No program text. -/
import Derived.Test.YtdaipbaclccodaaRefGate3
set_option linter.all false
namespace Go.Proofs.Ytdaipbaclccodaa
set_option linter.unusedVariables false
set_option linter.unusedSimpArgs false

section
variable {α β : Type} [DecidableEq α]
theorem aget_none_iff {x : α} : ∀ {l : List (α × β)}, aget x l = none ↔ x ∉ l.map (·.1)
  | [] => by simp [aget]
  | p :: r => by
    unfold aget
    by_cases h : p.1 = x
    · simp [h]
    · have : ¬ x = p.1 := fun e => h e.symm
      simp [h, this, aget_none_iff (l := r)]
theorem aget_some_mem {x : α} {v : β} {l : List (α × β)} (hn : (l.map (·.1)).Nodup) : aget x l = some v ↔ (x, v) ∈ l := by
  induction l with
  | nil => simp [aget]
  | cons p r ih =>
    simp only [List.map_cons, List.nodup_cons] at hn
    unfold aget
    by_cases h : p.1 = x
    · subst h
      simp only [if_true, Option.some.injEq, List.mem_cons]
      constructor
      · rintro rfl; exact .inl rfl
      · rintro (h | h)
        · rw [← h]
        · exact absurd (List.mem_map_of_mem (f := (·.1)) h) hn.1
    · rw [if_neg h, ih hn.2, List.mem_cons]
      constructor
      · exact .inr
      · rintro (e | e)
        · rw [← e] at h; exact absurd rfl h
        · exact e
theorem aget_perm {x : α} {l l' : List (α × β)} (h : l.Perm l') (hn : (l.map (·.1)).Nodup) : aget x l = aget x l' := by
  have hn' : (l'.map (·.1)).Nodup := (h.map _).nodup_iff.1 hn
  cases e : aget x l with
  | none =>
    rw [aget_none_iff] at e
    symm; rw [aget_none_iff]
    exact fun hm => e ((h.map _).mem_iff.2 hm)
  | some v =>
    rw [aget_some_mem hn] at e
    symm; rw [aget_some_mem hn']
    exact h.mem_iff.1 e
theorem aput_new {x : α} {v : β} {l : List (α × β)} (h : aget x l = none) : aput x v l = l ++ [(x, v)] := by
  cases hf : afind x l 0 with
  | none => exact (afind_none hf).2.2 v
  | some q => obtain ⟨j, u⟩ := q; obtain ⟨k, h1, h2, h3, _⟩ := afind_some hf; rw [h3] at h; cases h
theorem aput_old {x : α} {v : β} : ∀ {l : List (α × β)}, (l.map (·.1)).Nodup → aget x l ≠ none → aput x v l = l.map fun p => if p.1 = x then (x, v) else p
  | [], _, h => absurd rfl h
  | p :: r, hn, h => by
    simp only [List.map_cons, List.nodup_cons] at hn
    unfold aput aget at *
    by_cases hp : p.1 = x
    · simp only [hp, if_true, List.map_cons]
      congr 1
      symm
      refine (List.map_congr_left fun q hq => ?_).trans (List.map_id r)
      have : ¬ q.1 = x := fun e => hn.1 (by rw [hp, ← e]; exact List.mem_map_of_mem (f := (·.1)) hq)
      simp [this]
    · simp only [hp, if_false, List.map_cons] at h ⊢
      rw [aput_old hn.2 h]
theorem adel_filter {x : α} : ∀ {l : List (α × β)}, (l.map (·.1)).Nodup → adel x l = l.filter fun p => decide (p.1 ≠ x)
  | [], _ => rfl
  | p :: r, hn => by
    simp only [List.map_cons, List.nodup_cons] at hn
    unfold adel
    by_cases hp : p.1 = x
    · rw [if_pos hp, List.filter_cons_of_neg (by simp [hp])]
      symm
      refine List.filter_eq_self.2 fun q hq => ?_
      have : ¬ q.1 = x := fun e => hn.1 (by rw [hp, ← e]; exact List.mem_map_of_mem (f := (·.1)) hq)
      simp [this]
    · rw [if_neg hp, List.filter_cons_of_pos (by simp [hp]), adel_filter hn.2]
theorem keys_aput_old {x : α} {v : β} {l : List (α × β)} (hn : (l.map (·.1)).Nodup) (h : aget x l ≠ none) : (aput x v l).map (·.1) = l.map (·.1) := by
  rw [aput_old hn h, List.map_map]
  refine List.map_congr_left fun p hp => ?_
  simp only [Function.comp]
  split <;> simp [*]
end

def Sorted (l : List RR) : Prop := l.Pairwise fun p q => p.1 < q.1
def OutOk (l : List RR) : Prop := ∀ p, p ∈ l → 0 ≤ p.2.out ∧ p.2.out ≤ 2
structure GRel (rows rrows : List RR) : Prop where
  perm : rrows.Perm rows
  sorted : Sorted rrows
  wf : GWf rows
  ok : GOk rows
  out : OutOk rows
namespace GRel
variable {rows rrows : List RR}
theorem nil : GRel [] [] := ⟨.refl _, List.Pairwise.nil, ⟨by simp, by simp, by simp⟩, by intro p hp; simp at hp, by intro p hp; simp at hp⟩
theorem rnodup (h : GRel rows rrows) : (rrows.map (·.1)).Nodup := (h.perm.map _).nodup_iff.2 h.wf.nodup
theorem get (h : GRel rows rrows) (x : Int) : aget x rrows = aget x rows := aget_perm h.perm h.rnodup
theorem len (h : GRel rows rrows) : rrows.length = rows.length := h.perm.length_eq
theorem rok (h : GRel rows rrows) : GOk rrows := fun p hp => h.ok p (h.perm.mem_iff.1 hp)
theorem rout (h : GRel rows rrows) : OutOk rrows := fun p hp => h.out p (h.perm.mem_iff.1 hp)
theorem read (h : GRel rows rrows) (tx part now : Int) : gRead rrows tx part now = gRead rows tx part now := by unfold gRead; rw [h.get]
theorem mask (h : GRel rows rrows) (tx : Int) : gMask rrows tx = gMask rows tx := by unfold gMask; rw [h.get]
theorem txs (h : GRel rows rrows) : srt (rows.map (·.1)) = rrows.map (·.1) := by
  rw [← srt_perm (h.perm.map (·.1))]
  unfold srt
  refine List.mergeSort_of_pairwise ?_
  refine List.pairwise_map.2 (h.sorted.imp fun hlt => ?_)
  simp; omega
theorem sins_perm (tx : Int) (r : GR) : ∀ l : List RR, (sins tx r l).Perm (l ++ [(tx, r)])
  | [] => .refl _
  | q :: t => by
    unfold sins
    split
    · exact (List.perm_append_comm (l₁ := q :: t) (l₂ := [(tx, r)])).symm
    · exact (sins_perm tx r t).cons q
theorem sins_sorted (tx : Int) (r : GR) : ∀ l : List RR, Sorted l → tx ∉ l.map (·.1) → Sorted (sins tx r l)
  | [], _, _ => by simp [sins, Sorted]
  | q :: t, hs, hn => by
    simp only [List.map_cons, List.mem_cons, not_or] at hn
    have hs' := List.pairwise_cons.1 hs
    unfold sins
    by_cases hlt : tx < q.1
    · rw [if_pos hlt]
      refine List.pairwise_cons.2 ⟨fun p hp => ?_, hs⟩
      rcases List.mem_cons.1 hp with rfl | hp
      · exact hlt
      · exact Int.lt_trans hlt (hs'.1 p hp)
    · rw [if_neg hlt]
      refine List.pairwise_cons.2 ⟨fun p hp => ?_, sins_sorted tx r t hs'.2 hn.2⟩
      rcases List.mem_append.1 ((sins_perm tx r t).mem_iff.1 hp) with hp | hp
      · exact hs'.1 p hp
      · simp at hp; subst hp; have := hn.1; simp; omega
theorem openOk (h : GRel rows rrows) (tx : Int) (m : Nat) (n : Int) : (gOpen rows tx m n).1 = (rOpen rrows tx m n).1 ∧ GRel (gOpen rows tx m n).2 (rOpen rrows tx m n).2 := by
  unfold gOpen rOpen
  rw [h.get, h.len]
  by_cases h1 : tx < 1 ∨ 1048576 < tx ∨ n < 0 ∨ 1099511627776 < n
  · rw [if_pos h1, if_pos h1]; exact ⟨rfl, h⟩
  · rw [if_neg h1, if_neg h1]
    by_cases h2 : m = 0 ∨ 63 < m
    · rw [if_pos h2, if_pos h2]; exact ⟨rfl, h⟩
    · rw [if_neg h2, if_neg h2]
      by_cases h3 : (aget tx rows).isSome = true
      · rw [if_pos h3, if_pos h3]; exact ⟨rfl, h⟩
      · rw [if_neg h3, if_neg h3]
        by_cases h4 : 64 ≤ rows.length
        · rw [if_pos h4, if_pos h4]; exact ⟨rfl, h⟩
        · rw [if_neg h4, if_neg h4]
          have hno : aget tx rows = none := by
            cases hg : aget tx rows with
            | none => rfl
            | some r => rw [hg] at h3; exact absurd rfl h3
          have hnr : aget tx rrows = none := by rw [h.get]; exact hno
          refine ⟨rfl, ?_⟩
          simp only
          rw [aput_new hno]
          refine ⟨(sins_perm tx _ rrows).trans (h.perm.append_right _), sins_sorted tx _ rrows h.sorted (aget_none_iff.1 hnr), ⟨?_, ?_, ?_⟩, ?_, ?_⟩
          · rw [List.map_append, List.nodup_append]
            refine ⟨h.wf.nodup, by simp, fun a ha b hb => ?_⟩
            simp at hb
            subst hb
            exact fun e => (aget_none_iff.1 hno) (e ▸ ha)
          · intro p hp
            rcases List.mem_append.1 hp with hp | hp
            · exact h.wf.tx p hp
            · simp at hp; subst hp; simp; omega
          · simp; omega
          · intro p hp
            rcases List.mem_append.1 hp with hp | hp
            · exact h.ok p hp
            · simp at hp; subst hp; simp; omega
          · intro p hp
            rcases List.mem_append.1 hp with hp | hp
            · exact h.out p hp
            · simp at hp; subst hp; simp
theorem set (h : GRel rows rrows) (tx : Int) (y : Bool) : (gSet rows tx y).1 = (gSet rrows tx y).1 ∧ GRel (gSet rows tx y).2 (gSet rrows tx y).2 := by
  unfold gSet
  rw [h.get]
  cases hg : aget tx rows with
  | none => exact ⟨rfl, h⟩
  | some r =>
    simp only
    by_cases hc : r.out ≠ 0 ∧ r.out ≠ if y then 2 else 1
    · rw [if_pos hc, if_pos hc]; exact ⟨rfl, h⟩
    · rw [if_neg hc, if_neg hc]
      have e1 : aget tx rows ≠ none := by rw [hg]; simp
      have e2 : aget tx rrows ≠ none := by rw [h.get, hg]; simp
      refine ⟨rfl, ?_⟩
      have hmem := (aget_some_mem h.wf.nodup).1 hg
      refine ⟨?_, ?_, ⟨?_, ?_, ?_⟩, ?_, ?_⟩
      · simp only [aput_old h.wf.nodup e1, aput_old h.rnodup e2]
        exact h.perm.map _
      · show Sorted _
        have : (aput tx ⟨r.mask, r.rel, if y then 2 else 1⟩ rrows).map (·.1) = rrows.map (·.1) := keys_aput_old h.rnodup e2
        have hs : (rrows.map (·.1)).Pairwise (· < ·) := List.pairwise_map.2 h.sorted
        rw [← this] at hs
        exact List.pairwise_map.1 hs
      · show (List.map _ (aput _ _ _)).Nodup
        rw [keys_aput_old h.wf.nodup e1]; exact h.wf.nodup
      · intro p hp
        rcases mem_aput hp with hp | rfl
        · exact h.wf.tx p hp
        · exact h.wf.tx (tx, r) hmem
      · have : (aput tx (⟨r.mask, r.rel, if y then 2 else 1⟩ : GR) rows).length = rows.length := by
          have := congrArg List.length (keys_aput_old (v := (⟨r.mask, r.rel, if y then 2 else 1⟩ : GR)) h.wf.nodup e1)
          simpa using this
        simp only [this]
        exact h.wf.len
      · intro p hp
        rcases mem_aput hp with hp | rfl
        · exact h.ok p hp
        · exact h.ok (tx, r) hmem
      · intro p hp
        rcases mem_aput hp with hp | rfl
        · exact h.out p hp
        · cases y <;> simp
theorem del (h : GRel rows rrows) (tx : Int) : GRel (adel tx rows) (adel tx rrows) := by
  refine ⟨?_, ?_, ⟨?_, ?_, ?_⟩, ?_, ?_⟩
  · rw [adel_filter h.wf.nodup, adel_filter h.rnodup]
    exact h.perm.filter _
  · rw [adel_filter h.rnodup]; exact h.sorted.filter _
  · rw [adel_filter h.wf.nodup]
    exact h.wf.nodup.sublist ((List.filter_sublist).map _)
  · exact fun p hp => h.wf.tx p (mem_adel hp)
  · rw [adel_filter h.wf.nodup]; exact Nat.le_trans (List.length_filter_le _ _) h.wf.len
  · exact fun p hp => h.ok p (mem_adel hp)
  · exact fun p hp => h.out p (mem_adel hp)
end GRel
end Go.Proofs.Ytdaipbaclccodaa
