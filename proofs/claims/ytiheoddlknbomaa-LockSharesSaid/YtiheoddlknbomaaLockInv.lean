/- What holds of a table of locks at all times. No program text. -/
import Derived.Test.YtiheoddlknbomaaLockT
set_option linter.all false
namespace Go.Proofs.Ytiheoddlknbomaa
set_option linter.unusedVariables false
set_option linter.unusedSimpArgs false

/-! who holds -/
def has (l : List Wi) (tx : Int) : Bool := l.any fun w => decide (w.tx = tx)
theorem has_iff {l : List Wi} {tx : Int} : has l tx = true ↔ ∃ w ∈ l, w.tx = tx := by simp [has]
theorem has_false {l : List Wi} {tx : Int} : has l tx = false ↔ ∀ w ∈ l, w.tx ≠ tx := by simp [has]
theorem heldAt_none {l : List Wi} {tx : Int} : heldAt l tx = none ↔ has l tx = false := by
  rw [has_false]; unfold heldAt; rw [List.findIdx?_eq_none_iff]; simp
theorem heldAt_some {l : List Wi} {tx : Int} {i : Nat} (h : heldAt l tx = some i) : ∃ hi : i < l.length, l[i].tx = tx ∧ ∀ j (hj : j < i), l[j].tx ≠ tx := by
  unfold heldAt at h
  rw [List.findIdx?_eq_some_iff_getElem] at h
  obtain ⟨hi, h1, h2⟩ := h
  exact ⟨hi, by simpa using h1, fun j hj => by simpa using h2 j hj⟩
theorem heldAt_isSome (l : List Wi) (tx : Int) : (heldAt l tx).isSome = has l tx := by
  cases h : heldAt l tx with
  | none => rw [heldAt_none.1 h]; rfl
  | some i =>
    obtain ⟨hi, h1, _⟩ := heldAt_some h
    rw [has_iff.2 ⟨l[i], List.getElem_mem hi, h1⟩]; rfl
/-- grantR, said of each wish -/
def grantM (h : List Wi) (w : Wi) : List Wi := if has h w.tx = true then h.map (fun x => if x.tx = w.tx then setEx x else x) else h ++ [w]
theorem grantR_eq (h : List Wi) (w : Wi) (hn : (h.map (·.tx)).Nodup) : grantR h w = grantM h w := by
  unfold grantR grantM
  cases hh : heldAt h w.tx with
  | none => rw [if_neg (by rw [heldAt_none.1 hh]; simp)]
  | some i =>
    obtain ⟨hi, h1, h2⟩ := heldAt_some hh
    rw [if_pos (has_iff.2 ⟨h[i], List.getElem_mem hi, h1⟩)]
    refine List.ext_getElem (by simp) fun j hj1 hj2 => ?_
    simp only [List.length_modify] at hj1
    rw [List.getElem_modify, List.getElem_map]
    by_cases hij : i = j
    · subst hij; rw [if_pos rfl, if_pos h1]
    · rw [if_neg hij, if_neg]
      intro he
      have hp := List.pairwise_iff_getElem.1 hn
      rcases Nat.lt_or_ge i j with hlt | hge
      · exact hp i j (by simpa using hi) (by simpa using hj1) hlt (by simp [h1, he])
      · exact hp j i (by simpa using hj1) (by simpa using hi) (by omega) (by simp [h1, he])
theorem grantM_tx (h : List Wi) (w : Wi) : (grantM h w).map (·.tx) = if has h w.tx = true then h.map (·.tx) else h.map (·.tx) ++ [w.tx] := by
  unfold grantM
  split
  · rw [List.map_map]
    refine List.map_congr_left fun x hx => ?_
    simp only [Function.comp]
    split <;> rfl
  · simp
theorem mayR_iff {h : List Wi} {w : Wi} : mayR h w = true ↔ ∀ x ∈ h, x.tx ≠ w.tx → x.ex = false ∧ w.ex = false := by
  unfold mayR
  simp only [Bool.not_eq_true', List.any_eq_false, Bool.and_eq_true, decide_eq_true_eq, Bool.or_eq_true, not_and, not_or, Bool.not_eq_true]
/-- of those that hold a key: each once; who holds it exclusively holds it alone -/
structure Safe (h : List Wi) : Prop where
  n : (h.map (·.tx)).Nodup
  s : ∀ x ∈ h, x.ex = true → ∀ y ∈ h, y.tx = x.tx
theorem Safe.nil : Safe [] := ⟨by simp, fun x hx => by cases hx⟩
theorem Safe.grant {h : List Wi} (H : Safe h) (w : Wi) (hm : mayR h w = true) (hx : has h w.tx = true → w.ex = true) : Safe (grantR h w) := by
  rw [grantR_eq h w H.n]
  rw [mayR_iff] at hm
  refine ⟨?_, ?_⟩
  · rw [grantM_tx]
    split
    · exact H.n
    · rename_i hh
      rw [List.nodup_append]
      refine ⟨H.n, by simp, fun a ha b hb => ?_⟩
      simp only [List.mem_singleton] at hb
      obtain ⟨x, hx1, rfl⟩ := List.mem_map.1 ha
      subst hb
      exact fun e => hh (has_iff.2 ⟨x, hx1, e⟩)
  · unfold grantM
    split
    · rename_i hh
      have hwe := hx hh
      have hall : ∀ x ∈ h, x.tx = w.tx := fun x hx1 => by
        by_cases e : x.tx = w.tx
        · exact e
        · have := (hm x hx1 e).2; rw [hwe] at this; cases this
      intro x hx1 _ y hy
      obtain ⟨x', hx', rfl⟩ := List.mem_map.1 hx1
      obtain ⟨y', hy', rfl⟩ := List.mem_map.1 hy
      rw [if_pos (hall _ hx'), if_pos (hall _ hy')]
      show y'.tx = x'.tx
      rw [hall _ hx', hall _ hy']
    · rename_i hh
      have hh' : has h w.tx = false := by simpa using hh
      rw [has_false] at hh'
      intro x hx1 hxe y hy
      rcases List.mem_append.1 hx1 with hx1 | hx1
      · have := (hm x hx1 (hh' x hx1)).1; rw [this] at hxe; cases hxe
      · simp only [List.mem_singleton] at hx1
        subst hx1
        rcases List.mem_append.1 hy with hy | hy
        · have := (hm y hy (hh' y hy)).2; rw [hxe] at this; cases this
        · simp only [List.mem_singleton] at hy; rw [hy]
theorem Safe.drop {h : List Wi} (H : Safe h) (tx : Int) : Safe (dropR h tx) :=
  ⟨H.n.sublist (List.filter_sublist.map _), fun x hx he y hy => H.s x (List.mem_filter.1 hx).1 he y (List.mem_filter.1 hy).1⟩
/-- how a transaction holds, of one row -/
def how (h : List Wi) (tx : Int) : Int := match h.find? fun w => decide (w.tx = tx) with
  | none => 0
  | some w => if w.ex = true then 2 else 1
theorem how_none {h : List Wi} {tx : Int} (hh : has h tx = false) : how h tx = 0 := by
  unfold how
  rw [List.find?_eq_none.2 (fun x hx => by simpa using has_false.1 hh x hx)]
theorem how_at {h : List Wi} (hn : (h.map (·.tx)).Nodup) {x : Wi} (hx : x ∈ h) : how h x.tx = if x.ex = true then 2 else 1 := by
  unfold how
  have : h.find? (fun w => decide (w.tx = x.tx)) = some x := by
    induction h with
    | nil => cases hx
    | cons y h ih =>
      simp only [List.map_cons, List.nodup_cons] at hn
      rcases List.mem_cons.1 hx with rfl | hx
      · simp
      · have hne : y.tx ≠ x.tx := fun e => hn.1 (List.mem_map.2 ⟨x, hx, e.symm⟩)
        rw [List.find?_cons_of_neg (by simpa using hne)]
        exact ih hn.2 hx
  rw [this]
theorem how_pos {h : List Wi} {tx : Int} : 0 < how h tx ↔ has h tx = true := by
  unfold how
  cases hf : h.find? (fun w => decide (w.tx = tx)) with
  | none =>
    have : has h tx = false := has_false.2 fun x hx => by simpa using (List.find?_eq_none.1 hf) x hx
    rw [this]; simp
  | some w =>
    have h1 := List.find?_some hf
    have h2 := List.mem_of_find?_eq_some hf
    have : has h tx = true := has_iff.2 ⟨w, h2, by simpa using h1⟩
    rw [this]
    simp only [iff_true]
    split <;> omega
theorem how_heldAt (h : List Wi) (tx : Int) : how h tx = match heldAt h tx with
    | none => 0
    | some i => if (h[i]!).ex = true then 2 else 1 := by
  cases hh : heldAt h tx with
  | none => exact how_none (heldAt_none.1 hh)
  | some i =>
    obtain ⟨hi, h1, h2⟩ := heldAt_some hh
    unfold how
    have : h.find? (fun w => decide (w.tx = tx)) = some h[i] := by
      rw [List.find?_eq_some_iff_getElem]
      exact ⟨by simpa using h1, i, hi, rfl, fun j hj => by simpa using h2 j hj⟩
    rw [this]
    show (if h[i].ex = true then (2 : Int) else 1) = if (h[i]!).ex = true then 2 else 1
    rw [getElem!_pos h i hi]
theorem how_bounds (h : List Wi) (tx : Int) : 0 ≤ how h tx ∧ how h tx ≤ 2 := by
  unfold how
  split
  · omega
  · split <;> omega
/-- no one loses by a grant -/
theorem how_grant (h : List Wi) (w : Wi) (hn : (h.map (·.tx)).Nodup) (tx : Int) : how h tx ≤ how (grantR h w) tx := by
  rw [grantR_eq h w hn]
  cases hh : has h tx with
  | false => rw [how_none hh]; exact (how_bounds _ _).1
  | true =>
    obtain ⟨x, hx, rfl⟩ := has_iff.1 hh
    have hn' : ((grantM h w).map (·.tx)).Nodup := by
      rw [grantM_tx]
      split
      · exact hn
      · rename_i h0
        rw [List.nodup_append]
        refine ⟨hn, by simp, fun a ha b hb => ?_⟩
        simp only [List.mem_singleton] at hb
        obtain ⟨y, hy, rfl⟩ := List.mem_map.1 ha
        subst hb
        exact fun e => h0 (has_iff.2 ⟨y, hy, e⟩)
    rw [how_at hn hx]
    by_cases hc : has h w.tx = true ∧ x.tx = w.tx
    · have hm : setEx x ∈ grantM h w := by
        unfold grantM
        rw [if_pos hc.1]
        exact List.mem_map.2 ⟨x, hx, by rw [if_pos hc.2]⟩
      have := how_at hn' hm
      rw [show (setEx x).tx = x.tx from rfl] at this
      rw [this]
      simp only [setEx, if_true]
      split <;> omega
    · have hm : x ∈ grantM h w := by
        unfold grantM
        split
        · rename_i h0
          exact List.mem_map.2 ⟨x, hx, by rw [if_neg (fun e => hc ⟨h0, e⟩)]⟩
        · exact List.mem_append_left _ hx
      rw [how_at hn' hm]
      exact Int.le_refl _
theorem how_drop (h : List Wi) (t tx : Int) : how (dropR h t) tx = if tx = t then 0 else how h tx := by
  by_cases he : tx = t
  · subst he
    rw [if_pos rfl]
    exact how_none (has_false.2 fun x hx => by have := (List.mem_filter.1 hx).2; simpa using this)
  · rw [if_neg he]
    unfold how dropR
    rw [List.find?_filter]
    congr 2
    funext w
    by_cases h1 : w.tx = tx
    · simp [h1, he]
    · simp [h1]
end Go.Proofs.Ytiheoddlknbomaa
