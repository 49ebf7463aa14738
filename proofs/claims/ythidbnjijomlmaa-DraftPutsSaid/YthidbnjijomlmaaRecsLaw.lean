/- Plain laws of a draft's records. -/
import Derived.Test.YthidbnjijomlmaaOverLaw
set_option linter.all false
namespace Go.Proofs.Ythidbnjijomlmaa
set_option linter.unusedVariables false
set_option linter.unusedSimpArgs false

def ofPr (p : Pr) : K4 × V := (p.key, p.val)
theorem toPr_ofPr (l : List Pr) : (l.map ofPr).map toPr = l := by
  rw [List.map_map]
  exact List.map_id'' (fun p => rfl) l
theorem aput_new {k : K4} {v : V} : ∀ {l : List (K4 × V)}, aget k l = none → aput k v l = l ++ [(k, v)]
  | [], _ => rfl
  | p :: l, h => by
    obtain ⟨q, u⟩ := p
    simp only [aget] at h
    by_cases hq : q = k
    · rw [if_pos hq] at h; cases h
    · rw [if_neg hq] at h
      simp only [aput, if_neg hq, aput_new h, List.cons_append]
/-- one more of a row whose keys differ, and whose values are right -/
theorem dPut_next (l : List Pr) (p : Pr) (hn : ((l ++ [p]).map (·.key)).Nodup) (hr : V.right p.val = true) (hl : l.length < 16) :
    dPut (l.map ofPr) p.key p.val = (0, (l ++ [p]).map ofPr) := by
  have hno : aget p.key (l.map ofPr) = none := by
    rw [aget_none_iff, List.map_map]
    rw [List.map_append, List.nodup_append] at hn
    exact fun h => hn.2.2 _ h p.key (by simp) rfl
  unfold dPut
  rw [if_neg (by simp [hr]), if_neg (fun h => by have := h.2; simp at this; omega), aput_new hno]
  simp [ofPr]
theorem srt_nodup {l : List Pr} (h : Srt l) : (l.map (·.key)).Nodup := by
  unfold List.Nodup
  rw [List.pairwise_map]
  exact h.imp fun hx e => by rw [e] at hx; omega
def oldP (base : List Pr) (p : Pr) : Pr := ⟨p.key, fixV (findP base p.key)⟩
theorem fixV_right (v : V) : V.right (fixV v) = true := by
  unfold fixV
  split
  · assumption
  · rfl
theorem olds_srt {base ps : List Pr} (h : Srt ps) : Srt (ps.map (oldP base)) := by
  unfold Srt
  rw [List.pairwise_map]
  exact h
theorem olds_get (base : List Pr) (k : K4) : ∀ ps : List Pr, getP k (ps.map (oldP base)) = (getP k ps).map fun _ => fixV (findP base k)
  | [] => rfl
  | p :: ps => by
    simp only [List.map_cons, getP]
    rw [olds_get base k ps]
    by_cases h : p.key = k
    · rw [if_pos (by exact h), if_pos h]
      subst h
      rfl
    · rw [if_neg (by exact h), if_neg h]
theorem back_law (lb ps : List Pr) (hs : Srt ps) : sortP (sortP (lb ++ ps) ++ ps.map (oldP lb)) = sortP lb := by
  refine srt_ext (sortP_srt _) (sortP_srt _) fun k => ?_
  rw [sortP_get, sortP_get, lastP_append, srt_lastP (olds_srt hs), olds_get, srt_lastP (sortP_srt _), sortP_get, lastP_append, srt_lastP hs]
  cases h : getP k ps with
  | none =>
    simp only [Option.map_none, Option.none_or]
    cases lastP k lb with
    | none => rfl
    | some u => cases hu : u.there <;> simp [Option.filter, hu]
  | some v =>
    simp only [Option.map_some, Option.some_or]
    unfold findP
    cases lastP k lb with
    | none => rfl
    | some u =>
      simp only [Option.getD_some]
      unfold fixV
      by_cases hr : u.right = true
      · rw [if_pos hr]
      · rw [if_neg hr]
        have hu : u.there = false := by
          cases h1 : u.there with
          | false => rfl
          | true => exact absurd (by simp [V.right, h1]) hr
        simp [Option.filter, hu, V.zero]
/-- the draft's pairs, in order: their keys differ, their values are right, and there are 16 at most -/
theorem pairs_ok (l : List Pr) : Srt (keysP ((putsD [] l).map toPr)) ∧ (∀ p ∈ keysP ((putsD [] l).map toPr), V.right p.val = true) ∧ (keysP ((putsD [] l).map toPr)).length = (putsD [] l).length ∧ (putsD [] l).length ≤ 16 := by
  have hok := putsD_ok l
  have hs := keysP_srt ((putsD [] l).map toPr)
  refine ⟨hs, fun p hp => ?_, keysP_nodup_len _ hok.1, hok.2⟩
  have h1 := srt_getP hs hp
  rw [← srt_lastP hs, lastP_D _ hok.1] at h1
  exact putsD_right l _ (aget_mem h1)
end Go.Proofs.Ythidbnjijomlmaa
