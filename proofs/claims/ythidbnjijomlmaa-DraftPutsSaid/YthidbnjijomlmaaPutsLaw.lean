/- Plain laws: a draft beside the reference's row of pairs. -/
import Derived.Test.YthidbnjijomlmaaRecsLaw
set_option linter.all false
namespace Go.Proofs.Ythidbnjijomlmaa
set_option linter.unusedVariables false
set_option linter.unusedSimpArgs false

/-- the reference's Put: the error, and the pairs -/
def rPut (l : List Pr) (k : K4) (v : V) : Int × List Pr :=
  if v.right = false then (10, l)
  else if 16 < (keysP (l ++ [⟨k, v⟩])).length then (16, l)
  else (0, keysP (l ++ [⟨k, v⟩]))
theorem keysP_keys (l : List Pr) : keysP (keysP l) = keysP l := keysP_self (keysP_srt l)
theorem keysP_aput (D : List (K4 × V)) (hn : (D.map (·.1)).Nodup) (k : K4) (v : V) : keysP ((aput k v D).map toPr) = keysP (keysP (D.map toPr) ++ [⟨k, v⟩]) := by
  refine srt_ext (keysP_srt _) (keysP_srt _) fun j => ?_
  have h1 : getP j (keysP ((aput k v D).map toPr)) = aget j (aput k v D) := by
    rw [← srt_lastP (keysP_srt _), lastP_D _ (aput_nodup k v D hn)]
  rw [h1, keysP_get, lastP_snoc, aget_aput, lastP_D D hn]
theorem rPut_law (D : List (K4 × V)) (hD : (D.map (·.1)).Nodup ∧ D.length ≤ 16) (k : K4) (v : V) :
    rPut (keysP (D.map toPr)) k v = ((dPut D k v).1, keysP ((dPut D k v).2.map toPr)) := by
  have hl : (keysP (keysP (D.map toPr) ++ [⟨k, v⟩])).length = if (aget k D).isSome = true then D.length else D.length + 1 := by
    rw [← keysP_aput D hD.1, keysP_nodup_len _ (aput_nodup k v D hD.1), aput_len]
  unfold rPut dPut
  by_cases hr : v.right = false
  · rw [if_pos hr, if_pos hr]
  · rw [if_neg hr, if_neg hr, hl]
    cases hg : aget k D with
    | some u =>
      rw [if_neg (by simp; exact hD.2), if_neg (by simp), keysP_aput D hD.1]
    | none =>
      by_cases h16 : 16 ≤ D.length
      · rw [if_pos (by simp; omega), if_pos ⟨rfl, h16⟩]
      · rw [if_neg (by simp; omega), if_neg (fun h => h16 h.2), keysP_aput D hD.1]
theorem find_D (D : List (K4 × V)) (hn : (D.map (·.1)).Nodup) (k : K4) : findP (keysP (D.map toPr)) k = (aget k D).getD V.zero := by
  unfold findP
  rw [lastP_D D hn]
def inP (k : K4) (l : List Pr) : Bool := l.any fun p => decide (p.key = k)
theorem inP_snoc (k : K4) (l : List Pr) (p : Pr) : inP k (l ++ [p]) = (inP k l || decide (p.key = k)) := by simp [inP]
theorem inP_last (k : K4) (l : List Pr) : inP k l = (lastP k l).isSome := by
  unfold inP lastP
  cases h : getP k l.reverse with
  | none =>
    rw [getP_none_iff] at h
    simp only [Option.isSome_none, List.any_eq_false, decide_eq_true_eq]
    exact fun p hp => h p (List.mem_reverse.2 hp)
  | some v =>
    have := getP_mem h
    simp only [Option.isSome_some, List.any_eq_true, decide_eq_true_eq]
    exact ⟨_, List.mem_reverse.1 this, rfl⟩
theorem inP_D (D : List (K4 × V)) (hn : (D.map (·.1)).Nodup) (k : K4) : inP k (keysP (D.map toPr)) = (aget k D).isSome := by
  rw [inP_last, lastP_D D hn]
end Go.Proofs.Ythidbnjijomlmaa
