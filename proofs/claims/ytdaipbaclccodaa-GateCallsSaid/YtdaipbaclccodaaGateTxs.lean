/- gate.Txs: the open transactions, sorted. -/
import Derived.Test.YtdaipbaclccodaaGate
import Derived.Test.YtdaipbaclccodaaKeys
set_option linter.all false
namespace Go.Proofs.Ytdaipbaclccodaa
open Go.RowKit Go.Maps
set_option linter.unusedVariables false
set_option linter.unusedSimpArgs false

--@@ gate.Txs
structure GWf (rows : List (Int × GR)) : Prop where
  nodup : (rows.map (·.1)).Nodup
  tx : ∀ p, p ∈ rows → 1 ≤ p.1 ∧ p.1 ≤ 1048576
  len : rows.length ≤ 64
def srt (l : List Int) : List Int := l.mergeSort fun x y => decide (x ≤ y)
theorem srt_perm {l l' : List Int} (h : l.Perm l') : srt l = srt l' := by
  unfold srt
  refine List.Perm.eq_of_pairwise (le := fun x y => decide (x ≤ y)) ?_ (List.pairwise_mergeSort ?_ ?_ l) (List.pairwise_mergeSort ?_ ?_ l') ((List.mergeSort_perm l _).trans (h.trans (List.mergeSort_perm l' _).symm))
  all_goals simp
  all_goals omega
theorem srt_map {l : List Int} {ss : List Int} (h : ss.Perm l) : ss.mergeSort (fun x y => decide (x ≤ y)) = srt l := srt_perm h
theorem mem_aput {α β : Type} [DecidableEq α] {x : α} {v : β} {q : α × β} : ∀ {l : List (α × β)}, q ∈ aput x v l → q ∈ l ∨ q = (x, v)
  | [], h => by simp [aput] at h; exact .inr h
  | p :: r, h => by
    unfold aput at h
    split at h
    · rcases List.mem_cons.1 h with h | h
      · exact .inr h
      · exact .inl (List.mem_cons_of_mem _ h)
    · rcases List.mem_cons.1 h with h | h
      · exact .inl (h ▸ List.mem_cons_self)
      · rcases mem_aput h with h | h
        · exact .inl (List.mem_cons_of_mem _ h)
        · exact .inr h
theorem mem_adel {α β : Type} [DecidableEq α] {x : α} {q : α × β} : ∀ {l : List (α × β)}, q ∈ adel x l → q ∈ l
  | [], h => by simp [adel] at h
  | p :: r, h => by
    unfold adel at h
    split at h
    · exact List.mem_cons_of_mem _ h
    · rcases List.mem_cons.1 h with h | h
      · exact h ▸ List.mem_cons_self
      · exact List.mem_cons_of_mem _ (mem_adel h)
theorem GOk.open {rows : List (Int × GR)} (h : GOk rows) (tx : Int) (mask : Nat) (rel : Int) : GOk (gOpen rows tx mask rel).2 := by
  unfold gOpen
  repeat' split
  all_goals first
    | exact h
    | (intro p hp
       rcases mem_aput hp with hp | rfl
       · exact h p hp
       · simp; omega)
theorem GOk.del {rows : List (Int × GR)} (h : GOk rows) (tx : Int) : GOk (adel tx rows) := fun p hp => h p (mem_adel hp)
theorem GOk.set {rows : List (Int × GR)} (h : GOk rows) (tx : Int) (y : Bool) : GOk (gSet rows tx y).2 := by
  unfold gSet
  cases hr : aget tx rows with
  | none => exact h
  | some r =>
    simp only
    by_cases hc : r.out ≠ 0 ∧ r.out ≠ if y then 2 else 1
    · rw [if_pos hc]; exact h
    · rw [if_neg hc]
      intro p hp
      rcases mem_aput hp with hp | rfl
      · exact h p hp
      · exact h (tx, r) (aget_mem hr)
set_option maxHeartbeats 1000000 in
theorem gtxs_any (a m owned : Nat) (rows : List (Int × GR)) (w : World) (hG : GateIs w a m owned rows) (hW : GWf rows) :
    Calls Try.prog 21 #[.pointer (some ⟨a, 0, none⟩)] w fun e w' => ∃ v, e = .returned v ∧
      w'.ownsRow w.heap.size 3 1 v rows.length ((srt (rows.map (·.1))).map (Value.int .i64)) ∧ Kept [] w w' := by
  have c1 := hG.c1
  have hlt := hG.lt.1
  have hm := hG.lt.2
  have hg1 : (gl rows).map (·.1) = rows.map (·.1) := by simp [gl, List.map_map, Function.comp_def]
  have hg2 := gl_len rows
  have hlen := hW.len
  obtain ⟨D, hown, hperm, hsize⟩ := hG.map.owns (k := 3) Try.underlying3 (by rw [hg1]; exact hW.nodup) (fun p hp => by
    simp only [gl, List.mem_map] at hp
    obtain ⟨q, hq, rfl⟩ := hp
    have := hW.tx q hq
    simp [Lit.wf, IntKind.min, IntKind.max, IntKind.signed, IntKind.bits]; omega) (by rw [hg2]; unfold maxLen; omega)
  rw [hg1] at hperm
  clear hG
  have HK := hid (Try.maps_Keys_31 (some m) w)
  have HS := hid (Try.slices_Sorted_keys_30_31 m _ D anyR w hown (by rw [hsize, hg2]; unfold maxLen; omega) (by rw [hsize, hg2]; omega))
  have HP := hid hperm
  have HZ := hid hsize
  clear hperm hsize hown hg1 hg2 hW
  go_enter Try.func21, Try.ntmps21
  go_wp2_with fail
  refine (callsIn_wide.1 HK.out).mono ?_
  rintro e w1 ⟨rfl, rfl⟩
  go_wp2_with fail
  refine (callsIn_wide.1 HS.out).mono ?_
  rintro e w2 ⟨v, ss, rfl, hS, hrow, hnil, hb⟩
  have e1 := srt_map (hS.trans HP.out)
  have e2 : ss.length = rows.length := by have := (hS.trans HP.out).length_eq; simpa using this
  rw [e1, e2] at hrow
  have HR := hid hrow
  clear hS hrow hnil e1 e2
  go_wp2
  go_ret
  refine ⟨v, rfl, ?_, ((Kept.refl [] w).alloc _).then_below hb (by simp)⟩
  have h2 := HR.out
  refine ⟨h2.1, ?_⟩
  rcases h2.2 with h3 | ⟨g, cap, cur, h4, h5, h6⟩
  · exact .inl h3
  · exact .inr ⟨g, cap, cur, h4, by simp at h5; omega, h6⟩
--@@ end
end Go.Proofs.Ytdaipbaclccodaa
