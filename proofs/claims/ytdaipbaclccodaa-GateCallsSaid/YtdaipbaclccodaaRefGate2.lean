/- The reference's gate: Open and Close. -/
import Derived.Test.YtdaipbaclccodaaRefGate
set_option linter.all false
namespace Go.Proofs.Ytdaipbaclccodaa
open Go.RowKit
set_option linter.unusedVariables false
set_option linter.unusedSimpArgs false

theorem rcs_append (a b : List RR) : rcs (a ++ b) = rcs a ++ rcs b := by simp [rcs]
theorem rcs_one (p : RR) : rcs [p] = rc p := by simp [rcs]
--@@ types
theorem RG.row {w : World} {a vb : Nat} {rows : List RR} (h : RG w a vb rows) : ∀ j u, (rcs rows)[j]? = some u → w.cell? ⟨vb, j, none⟩ = some u := by
  obtain ⟨v, h1, h2, h3⟩ := h.ex
  intro j u hu
  rcases h3 with ⟨h3, _⟩ | ⟨h3, _⟩
  · rcases h2.2 with ⟨_, hn⟩ | ⟨g, cap, cur, hv, _⟩
    · have hr : rows = [] := List.eq_nil_of_length_eq_zero hn
      subst hr; simp [rcs] at hu
    · rw [hv] at h3; cases h3
  · have := h2.cells h3 _ _ hu
    have hadd : (⟨vb, 0, none⟩ : Addr).add j = ⟨vb, j, none⟩ := by unfold Addr.add; split <;> simp_all
    rw [hadd] at this
    exact this
theorem RG.of {w : World} {a B : Nat} {v : Value} {rows : List RR} (h1 : w.heap[a]? = some (.cells #[v] 32 (0, 0))) (h2 : w.ownsRow B 66 4 v rows.length (rcs rows)) (ha : a < B) :
    ∃ vb', RG w a vb' rows ∧ (vb' = a ∨ B ≤ vb') := by
  rcases h2.2 with ⟨rfl, hn⟩ | ⟨g, cap, cur, rfl, h4, h5⟩
  · exact ⟨a, ⟨_, h1, ⟨h2.1, .inl ⟨rfl, hn⟩⟩, .inl ⟨rfl, rfl⟩⟩, .inl rfl⟩
  · exact ⟨g, ⟨_, h1, ⟨h2.1, .inr ⟨g, cap, cur, rfl, Nat.zero_le _, h5⟩⟩, .inr ⟨rfl, by omega⟩⟩, .inr h4⟩
theorem rowInfo : (Try.prog.info? 66).map (fun i => (i.zero, i.size, i.bytes)) = some (some (.agg #[.int .i64 0, .int .u16 0, .int .i64 0, .int .i64 0]), 4, 32) := by kernel_rfl
theorem setCell_block {w : World} {a : Nat} {v v' : Value} {t : TypeId} (h : w.heap[a]? = some (.cells #[v] t (0, 0))) : (w.setCell ⟨a, 0, none⟩ v').heap[a]? = some (.cells #[v'] t (0, 0)) := by
  simp [World.setCell, Array.getElem?_modify, h]

--@@ ref14.Close
set_option maxRecDepth 100000 in
set_option maxHeartbeats 2000000 in
theorem rclose_any (a vb : Nat) (rows : List RR) (tx : Int) (w : World) (hG : RG w a vb rows) (hlen : rows.length ≤ 64) :
    Calls Try.prog 17 #[.pointer (some ⟨a, 0, none⟩), .int .i64 tx] w fun e w' =>
      e = .returned (.bool (aget tx rows).isSome) ∧ (∃ vb', RG w' a vb' (adel tx rows) ∧ (vb' = a ∨ vb' = vb ∨ w.heap.size ≤ vb')) ∧ Kept [a] w w' := by
  have HG := hid hG
  have HL := hid hG.lt
  obtain ⟨av, cap, hmax, c0, f0, hav, hcs⟩ := hG.cells
  have HR := hid hG.row
  cases hr : aget tx rows with
  | none =>
    have HI := hid (ridx_none hr)
    have e : adel tx rows = rows := by
      cases hf : afind tx rows 0 with
      | none => exact (afind_none hf).2.1
      | some q => obtain ⟨j, v⟩ := q; obtain ⟨k, h1, h2, h3, _⟩ := afind_some hf; rw [h3] at hr; cases hr
    rw [e]
    clear hr e hav hcs hG
    go_enter Try.func17, Try.ntmps17
    go_wp2_with (go_at_call 27; refine (rat_any _ _ _ _ _ HG.out).mono ?_; rintro e w' ⟨rfl, rfl⟩; rw [HI.out])
    go_ret
    exact ⟨rfl, ⟨vb, HG.out, .inr (.inl rfl)⟩, Kept.refl _ _⟩
  | some r =>
    obtain ⟨k, hi, hk, hkl, hdel, _⟩ := ridx_some hr
    obtain ⟨rfl, hne⟩ := hav (by omega)
    have HI := hid hi
    have hcap : rows.length ≤ cap := by
      obtain ⟨v, h1, h2, h3⟩ := hG.ex
      simp [World.cell?, h1] at c0
      subst c0
      rcases h2.2 with ⟨h, _⟩ | ⟨g, cap', cur, hv, _, hg, hle, _⟩
      · cases h
      · cases hv; exact hle
    have hcapm : cap ≤ 9223372036854775807 := by
      obtain ⟨v, h1, h2, h3⟩ := hG.ex
      simp [World.cell?, h1] at c0
      subst c0
      rcases h2.2 with ⟨h, _⟩ | ⟨g, cap', cur, hv, _, hg, hle, hcm, _⟩
      · cases h
      · cases hv; unfold maxLen at hcm; omega
    have hblk : ∃ v, w.heap[a]? = some (.cells #[v] 32 (0, 0)) := by obtain ⟨v, h1, _⟩ := hG.ex; exact ⟨v, h1⟩
    have HB := hid hblk
    have hsplit : rows = rows.take k ++ rows[k] :: rows.drop (k + 1) := by
      rw [← List.drop_eq_getElem_cons hkl, List.take_append_drop]
    have hsp2 : rcs rows = rcs (rows.take k) ++ (rc rows[k] ++ rcs (rows.drop (k + 1))) := by
      rw [← rcs_one, ← rcs_append, ← rcs_append]
      congr 1
    have hl1 : (rcs (rows.take k)).length = k * 4 := by rw [rcs_len, List.length_take]; congr 1; omega
    have hl2 : (rcs (rows.drop (k + 1))).length = (rows.length - (k + 1)) * 4 := by rw [rcs_len, List.length_drop]
    have hn1 : ∀ j u, (rcs (rows.take k))[j]? = some u → w.cell? ⟨vb, j, none⟩ = some u := fun j u hu => HR.out j u (by
      rw [hsp2, List.getElem?_append_left (List.getElem?_eq_some_iff.1 hu).1]; exact hu)
    have hn2 : ∀ j u, (rcs (rows.drop (k + 1)))[j]? = some u → w.cell? ⟨vb, (k + 1) * 4 + j, none⟩ = some u := fun j u hu => HR.out _ u (by
      rw [hsp2, List.getElem?_append_right (by omega), List.getElem?_append_right (by rw [hl1]; simp [rc]; omega), hl1]
      simp only [rc, List.length_cons, List.length_nil]
      rw [← hu]; congr 1; omega)
    have hone : ∀ l : List RR, ∀ u ∈ rcs l, u.oneCell' = true := fun l u hu => by
      simp only [rcs, List.mem_flatMap] at hu
      obtain ⟨p, _, hp⟩ := hu
      simp only [rc, List.mem_cons, List.not_mem_nil, or_false] at hp
      rcases hp with rfl | rfl | rfl | rfl <;> rfl
    have hd : rcs (adel tx rows) = rcs (rows.take k) ++ rcs (rows.drop (k + 1)) ∧ (adel tx rows).length = k + (rows.length - (k + 1)) := by
      rw [hdel, List.eraseIdx_eq_take_drop_succ, rcs_append]
      refine ⟨rfl, ?_⟩
      rw [List.length_append, List.length_take, List.length_drop]
      omega
    have HD := hid hd
    have HN1 := hid hn1
    have HN2 := hid hn2
    have HO := hid hone
    have HL1 := hid hl1
    have HL2 := hid hl2
    have HNf := hid rowInfo
    have hal : a < w.heap.size := HL.out.1
    have hvl : vb < w.heap.size := HL.out.2
    clear hr hav hcs hG hi hk hdel hsplit hsp2 hl1 hl2 hn1 hn2 hone hd hblk
    go_enter Try.func17, Try.ntmps17
    have hadd : ∀ o j, (⟨vb, o, none⟩ : Addr).add j = ⟨vb, o + j, none⟩ := fun o j => by unfold Addr.add; split <;> simp_all
    have HAD := hid hadd
    clear hadd
    have fin : ∀ v2 w1 w2, Kept [] w w1 → w2.ownsRow w.heap.size 66 4 v2 (k + (rows.length - (k + 1))) (rcs (rows.take k) ++ rcs (rows.drop (k + 1))) → Kept [] w w2 →
        (∃ vb', RG (w2.setCell ⟨a, 0, none⟩ v2) a vb' (adel tx rows) ∧ (vb' = a ∨ vb' = vb ∨ w.heap.size ≤ vb')) ∧ Kept [a] w (w2.setCell ⟨a, 0, none⟩ v2) := fun v2 w1 w2 _ ho hk2 => by
      obtain ⟨v, hv⟩ := HB.out
      have hb2 := (hk2.block a hal (by simp)).trans hv
      have hk3 : Kept [a] w (w2.setCell ⟨a, 0, none⟩ v2) := (hk2.mono (by simp)).setCell (.inl (by simp)) _
      refine ⟨?_, hk3⟩
      have ho2 : w2.ownsRow w.heap.size 66 4 v2 (adel tx rows).length (rcs (adel tx rows)) := by
        rw [HD.out.1, HD.out.2]; simpa using ho
      obtain ⟨vb', h1, h2⟩ := RG.of (setCell_block hb2 (v' := v2)) (ownsRow_setCell_below ho2 (a := ⟨a, 0, none⟩) hal v2) hal
      exact ⟨vb', h1, h2.imp id .inr⟩
    have HFIN := hid fin
    clear fin
    by_cases hce : cap = k + 1
    all_goals go_wp2_with (first
      | (go_at_call 27; refine (rat_any _ _ _ _ _ HG.out).mono ?_; rintro e w' ⟨rfl, rfl⟩; rw [HI.out])
      | (at_builtin; refine Here.mk ?_))
    all_goals refine Here.of ?_
    all_goals refine wpList_append_is rfl (.tmp 12) (.tmp 18) 30 rfl 66 _ 4 32 Try.underlying30 HNf.out rfl (by decide) (by decide) w.heap.size _ 0 _ rfl (ownsRow_made0 w 66 4 _ (Nat.le_refl _)) ⟨vb, 0, none⟩ k _ (rcs (rows.take k)) rfl HL1.out (fun j u h => by rw [HAD.out, Nat.zero_add]; exact ((Kept.refl [] w).alloc _).cell (HN1.out j u h) (by simp)) (HO.out _) (by omega) (by simp) ?_
    all_goals intro v1 w1 hown1 hgrow1 hnil1
    all_goals rw [Nat.zero_add, List.nil_append] at hown1
    all_goals have hk1 : Kept [] w w1 := ((Kept.refl [] w).alloc _).grown_own (ownsRow_made0 w 66 4 _ (Nat.le_refl _)) hgrow1 (Nat.le_refl _)
    all_goals have e0 := hk1.cell c0 (by simp)
    all_goals have ef : w1.frozen? ⟨a, 0, none⟩ = false := by rw [World.frozen?_of_block (w := w) (a := ⟨a, 0, none⟩) (hk1.block a hal (by simp))]; exact f0
    all_goals have hsz := hk1.size
    all_goals have H1 := hid hown1
    all_goals have HK1 := hid hk1
    all_goals clear hown1 hgrow1 hnil1 hk1 c0 f0
    all_goals go_wp2_with (at_builtin; refine Here.mk ?_)
    all_goals refine Here.of ?_
    · refine wpList_append_is rfl (.tmp 21) (.tmp 28) 30 rfl 66 _ 4 32 Try.underlying30 HNf.out rfl (by decide) (by decide) w.heap.size _ k _ rfl H1.out ⟨vb, 0, none⟩ (rows.length - (k + 1)) _ (rcs (rows.drop (k + 1))) rfl HL2.out (fun j u h => by
        have := (List.getElem?_eq_some_iff.1 h).1
        rw [HL2.out] at this
        omega) (HO.out _) (by omega) hsz ?_
      intro v2 w2 hown2 hgrow2 hnil2
      obtain ⟨sa, sc, rfl⟩ := ownsRow_slice hown2
      have hk2 : Kept [] w w2 := HK1.out.grown_own H1.out hgrow2 (Nat.le_refl _)
      have H2 := hid hown2
      have HK2 := hid hk2
      have ef2 : w2.frozen? ⟨a, 0, none⟩ = false := by
        obtain ⟨v, hv⟩ := HB.out
        simp [World.frozen?, (hk2.block a hal (by simp)).trans hv]
      have e02 : ∃ v, w2.cell? ⟨a, 0, none⟩ = some v := by
        obtain ⟨v, hv⟩ := HB.out
        exact ⟨v, by simp [World.cell?, (hk2.block a hal (by simp)).trans hv]⟩
      obtain ⟨v0, e02⟩ := e02
      clear hown2 hgrow2 hnil2 hk2 e0 ef
      go_wp2
      go_ret
      exact ⟨rfl, HFIN.out _ w1 w2 HK1.out H2.out HK2.out⟩
    · refine wpList_append_is rfl (.tmp 21) (.tmp 28) 30 rfl 66 _ 4 32 Try.underlying30 HNf.out rfl (by decide) (by decide) w.heap.size _ k _ rfl H1.out ⟨vb, (k + 1) * 4, none⟩ (rows.length - (k + 1)) _ (rcs (rows.drop (k + 1))) rfl HL2.out (fun j u h => by rw [HAD.out]; exact HK1.out.cell (HN2.out j u h) (by simp)) (HO.out _) (by omega) hsz ?_
      intro v2 w2 hown2 hgrow2 hnil2
      obtain ⟨sa, sc, rfl⟩ := ownsRow_slice hown2
      have hk2 : Kept [] w w2 := HK1.out.grown_own H1.out hgrow2 (Nat.le_refl _)
      have H2 := hid hown2
      have HK2 := hid hk2
      have ef2 : w2.frozen? ⟨a, 0, none⟩ = false := by
        obtain ⟨v, hv⟩ := HB.out
        simp [World.frozen?, (hk2.block a hal (by simp)).trans hv]
      have e02 : ∃ v, w2.cell? ⟨a, 0, none⟩ = some v := by
        obtain ⟨v, hv⟩ := HB.out
        exact ⟨v, by simp [World.cell?, (hk2.block a hal (by simp)).trans hv]⟩
      obtain ⟨v0, e02⟩ := e02
      clear hown2 hgrow2 hnil2 hk2 e0 ef
      go_wp2
      go_ret
      exact ⟨rfl, HFIN.out _ w1 w2 HK1.out H2.out HK2.out⟩
--@@ end
end Go.Proofs.Ytdaipbaclccodaa
