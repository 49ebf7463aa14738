/- A key's row goes on. -/
import Derived.Test.YtiheoddlknbomaaLockRow3
set_option linter.all false
namespace Go.Proofs.Ytiheoddlknbomaa
open Go.RowKit Go.Shelf Go.Lib Go.Sort Go.Proofs
set_option linter.unusedVariables false
set_option linter.unusedSimpArgs false

theorem onR_nil (h : List Wi) : onR h [] = (h, []) := by unfold onR; rfl
theorem onR_go {h : List Wi} {x : Wi} {qs : List Wi} (hm : mayR h x = true) : onR h (x :: qs) = onR (grantR h x) qs := by rw [onR, if_pos hm]
theorem onR_stop {h : List Wi} {x : Wi} {qs : List Wi} (hm : mayR h x = false) : onR h (x :: qs) = (h, x :: qs) := by rw [onR, if_neg (by simp [hm])]
theorem grantR_len (h : List Wi) (w : Wi) : (grantR h w).length ≤ h.length + 1 := by
  unfold grantR
  split
  · simp
  · simp
/-- a row whose first wish is taken off -/
theorem BlkW.tail {T : TypeId} {w : World} {g off cap sz : Nat} {x : Wi} {qs : List Wi} (h : BlkW T w g off cap sz (x :: qs)) : BlkW T w g (off + 4) (cap - 1) sz qs := by
  obtain ⟨cur, h1, h2, h3⟩ := h.ex
  have hle := h.le
  have hfit := h.fit
  simp only [List.length_cons] at hle
  refine ⟨⟨cur, h1, h2, fun j u hj => ?_⟩, by omega, by have := h.mx; omega, by omega⟩
  have := h3 (4 + j) u (by rw [List.flatMap_cons, List.getElem?_append_right (by rw [wf_len]; omega), wf_len, Nat.add_sub_cancel_left]; exact hj)
  rw [← this, Nat.add_assoc]
theorem BlkW.nil0 {T : TypeId} {w : World} {g off cap sz : Nat} {l : List Wi} (h : BlkW T w g off cap sz l) : BlkW T w g off 0 sz [] := by
  obtain ⟨cur, h1, h2, h3⟩ := h.ex
  exact ⟨⟨cur, h1, h2, fun j u hj => by simp at hj⟩, by simp, by omega, by have := h.fit; omega⟩
--@@ (*lock.row).on
theorem row_setq {w : World} {P : Nat} {hv qv qv' : Value} {h q qs : List Wi} (H : RowIs w P hv qv ⟨h, q⟩) (hq : WRow 59 w qv' qs) (ho : qv'.ownBlock = qv.ownBlock) : RowIs (w.setCell ⟨P, 1, none⟩ qv') P hv qv' ⟨h, qs⟩ := by
  have hnd := H.nd
  have hnd' := hnd
  simp only [rowBs, List.nodup_cons, List.mem_append, not_or] at hnd
  refine ⟨setq H.blk _, own_kept H.h ((Kept.refl [P] w).setCell (p := ⟨P, 1, none⟩) (.inl (by simp)) qv') (fun y hy hx => ?_), hq.kept ((Kept.refl [P] w).setCell (p := ⟨P, 1, none⟩) (.inl (by simp)) qv') (fun y hy hx => ?_), by unfold rowBs at hnd' ⊢; rw [ho]; exact hnd'⟩
  · simp at hx; subst hx; exact hnd.1.1 (by simpa using hy)
  · simp at hx; subst hx; rw [ho] at hy; exact hnd.1.2 (by simpa using hy)
set_option maxHeartbeats 4000000 in
set_option maxRecDepth 100000 in
theorem rowOn_any (P : Nat) (hv qv : Value) (r : Ro) (w : World) (H : RowIs w P hv qv r) (hl : r.h.length + r.q.length < 100000000) :
    Calls Try.prog 48 #[.pointer (some ⟨P, 0, none⟩)] w fun e w' => e = .returned (.tuple #[]) ∧ ∃ hv' qv', RowIs w' P hv' qv' ⟨(onR r.h r.q).1, (onR r.h r.q).2⟩ ∧ (∀ b ∈ rowBs P hv' qv', b ∈ rowBs P hv qv ∨ w.heap.size ≤ b) ∧ Kept (rowBs P hv qv) w w' ∧ WRow 59 w' qv r.q := by
  have H0 := hid H
  have HLT := hid H.lt
  have HND := hid H.nd
  obtain ⟨rh, rq⟩ := r
  dsimp only at *
  clear H
  go_enter Try.func48, Try.ntmps48
  go_wp2_with fail
  go_loopg [] rq.length (fun kx wr => ∃ hv' qv' h' qs, qs.length ≤ kx ∧ h'.length + qs.length ≤ rh.length + rq.length ∧ Aside (RowIs wr P hv' qv' ⟨h', qs⟩) ∧ Aside (onR rh rq = onR h' qs) ∧ Aside (∀ b ∈ rowBs P hv' qv', b ∈ rowBs P hv qv ∨ w.heap.size ≤ b) ∧ Aside (Kept (rowBs P hv qv) w wr) ∧ Aside (WRow 59 wr qv rq) ∧ Aside (∀ b ∈ qv.ownBlock.toList, b ∉ P :: hv'.ownBlock.toList))
  case atStart => exact ⟨hv, qv, rh, rq, Nat.le_refl _, Nat.le_refl _, H0.out, rfl, fun b hb => .inl hb, Kept.refl _ _, H0.out.q, fun b hb hx => by
    have := HND.out
    simp only [rowBs, List.nodup_cons, List.mem_append, not_or, List.nodup_append] at this
    rcases List.mem_cons.1 hx with rfl | hx
    · exact this.1.2 hb
    · exact this.2.2.2 b hx b hb rfl⟩
  case round =>
    obtain ⟨hv', qv', h', qs, hqs, hln, HR, HON, HSub, HK, HQ, HDj⟩ := hrel
    obtain ⟨c0, c1, f0, f1⟩ := HR.out.c0
    cases qs with
    | nil =>
      rcases HR.out.q with ⟨rfl, _⟩ | ⟨g, off, cap, sz, rfl, hb⟩
      · go_wp2_with fail
        go_returns
        exact ⟨rfl, _, _, by rw [HON.out, onR_nil]; exact HR.out, HSub.out, HK.out, HQ.out⟩
      · go_wp2_with fail
        go_returns
        exact ⟨rfl, _, _, by rw [HON.out, onR_nil]; exact HR.out, HSub.out, HK.out, HQ.out⟩
    | cons x qs =>
      rcases HR.out.q with ⟨_, hnil⟩ | ⟨g, off, cap, sz, rfl, hb⟩
      · cases hnil
      have hcell := wish_cells (fun j u hj => hb.cell hj) (show 0 < (x :: qs).length by simp)
      simp only [Nat.zero_mul, Nat.add_zero, List.getElem_cons_zero] at hcell
      obtain ⟨d0, d1, d2, d3⟩ := hcell
      have HBk := hid hb
      have hmx := hb.mx
      have hfit := hb.fit
      have hle := hb.le
      clear hb
      have HM := hid (may_any P hv' _ ⟨h', x :: qs⟩ x wr HR.out (by simp at hln ⊢; omega))
      dsimp only at HM
      cases hm : mayR h' x with
      | false =>
        rw [hm] at HM
        have HST := hid (onR_stop (qs := qs) hm)
        clear hm
        obtain ⟨x1, x2, x3, x4⟩ := x
        simp only [Wi.v] at HM
        dsimp only at d0 d1 d2 d3
        go_wp2_with (first
          | (go_at_call 35; refine HM.out.mono ?_; clear HM; rintro e w2 ⟨rfl, hk2⟩; have HK2 := hid hk2; clear hk2 c0 c1 f0 f1 d0 d1 d2 d3))
        go_returns
        exact ⟨rfl, _, _, by rw [HON.out, HST.out]; exact HR.out.kept HK2.out (fun _ _ => by simp), HSub.out, HK.out.trans HK2.out (fun x hx => by cases hx), HQ.out.kept HK2.out (fun _ _ => by simp)⟩
      | true =>
        rw [hm] at HM
        have HGO := hid (onR_go (qs := qs) hm)
        clear hm
        obtain ⟨x1, x2, x3, x4⟩ := x
        simp only [Wi.v] at HM
        dsimp only at d0 d1 d2 d3 HR HSub c1 hle
        simp only [List.length_cons] at c1 hle HR HSub hln
        by_cases hc1 : cap = 1
        · subst hc1
          have hq0 : qs = [] := List.eq_nil_of_length_eq_zero (by omega)
          subst hq0
          go_wp2_with (first
            | (go_at_call 35; refine HM.out.mono ?_; clear HM; rintro e w2 ⟨rfl, hk2⟩; have HR2 := hid (HR.out.kept hk2 (fun _ _ => by simp)); have HB2 := hid (HBk.out.kept hk2 (by simp)); have HQ2 := hid (HQ.out.kept hk2 (fun _ _ => by simp)); clear c0 c1 f0 f1 d0 d1 d2 d3; obtain ⟨c0, c1, f0, f1⟩ := HR2.out.c0; have hcell := wish_cells (fun j u hj => HB2.out.cell hj) (show 0 < [Wi.mk x1 x2 x3 x4].length by simp); simp only [Nat.zero_mul, Nat.add_zero, List.getElem_cons_zero] at hcell; obtain ⟨d0, d1, d2, d3⟩ := hcell; have HK2 := hid (HK.out.trans hk2 (fun x hx => by cases hx)); have hs2 := hk2.size; have hPl := HR2.out.lt P (by simp [rowBs]); have hPne : w2.heap.size ≠ P := (by omega); clear hk2)
            | (go_at_call 36; refine (grant_any P hv' (.slice (some ⟨g, off, none⟩) ([] : List Wi).length 0) ⟨h', ([] : List Wi)⟩ ⟨x1, x2, x3, x4⟩ _ ((row_setq HR2.out (.inr ⟨g, off, 0, sz, rfl, HB2.out.nil0⟩) rfl).kept ((Kept.refl [] _).alloc (.cells (Wi.f ⟨x1, x2, x3, x4⟩).toArray 59)) (fun _ _ => by simp)) (by simp at hln ⊢; omega)).mono ?_; rintro e w4 ⟨rfl, hv4, HR4, hsub4, hk4⟩; have HRR := hid HR4; have HS4 := hid hsub4; have HK4 := hid hk4; clear HR4 hsub4 hk4 c0 c1 f0 f1 d0 d1 d2 d3))
          go_roundg ([] : List Wi).length
          case measure => simp at hqs ⊢; try omega
          case rel =>
            have hk3 := ((HK2.out.setCell (p := ⟨P, 1, none⟩) (.inl (by simp [rowBs])) (.slice (some ⟨g, off, none⟩) ([] : List Wi).length 0)).alloc (.cells (Wi.f ⟨x1, x2, x3, x4⟩).toArray 59))
            have hsz : w2.heap.size + 1 = ((w2.setCell ⟨P, 1, none⟩ (.slice (some ⟨g, off, none⟩) ([] : List Wi).length 0)).alloc (.cells (Wi.f ⟨x1, x2, x3, x4⟩).toArray 59)).heap.size := by simp
            have hq3 := (HQ2.out.kept ((Kept.refl [P] _).setCell (p := ⟨P, 1, none⟩) (.inl (by simp)) (.slice (some ⟨g, off, none⟩) ([] : List Wi).length 0)) (fun y hy hx => by simp at hx; subst hx; exact HDj.out y (by simpa using hy) (by simp))).kept ((Kept.refl [] _).alloc (.cells (Wi.f ⟨x1, x2, x3, x4⟩).toArray 59)) (fun _ _ => by simp)
            have hsub : ∀ b ∈ rowBs P hv' (.slice (some ⟨g, off, none⟩) ([] : List Wi).length 0), b ∈ rowBs P hv qv ∨ w.heap.size ≤ b := HSub.out
            have hw := HK2.out.size
            refine ⟨hv4, _, grantR h' ⟨x1, x2, x3, x4⟩, ([] : List Wi), Nat.le_refl _, by have := grantR_len h' ⟨x1, x2, x3, x4⟩; simp at hln ⊢; omega, HRR.out, by show _ = _; rw [HON.out, HGO.out], fun b hb => ?_, ?_, ?_, fun b hb hx => ?_⟩
            · rcases HS4.out b hb with h | h
              · exact hsub b h
              · exact .inr (by omega)
            · refine hk3.trans HK4.out (fun y hy => ?_)
              rcases hsub y (by simp only [rowBs, List.mem_cons, List.mem_append] at hy ⊢; exact hy.imp_right .inl) with h | h
              · exact .inl h
              · exact .inr h
            · exact hq3.kept HK4.out (fun y hy hx => HDj.out y (by simpa using hy) hx)
            · have hbl := HLT.out b (by simp only [rowBs, List.mem_cons, List.mem_append]; exact .inr (.inr hb))
              rcases List.mem_cons.1 hx with rfl | hx
              · exact HDj.out _ hb (by simp)
              · rcases HS4.out b (by simp only [rowBs, List.mem_cons, List.mem_append]; exact .inr (.inl hx)) with h | h
                · have hnd := HRR.out.nd
                  simp only [rowBs, List.nodup_cons, List.mem_append, not_or, List.nodup_append] at hnd
                  simp only [rowBs, List.mem_cons, List.mem_append] at h
                  rcases h with h | h | h
                  · exact HDj.out b hb (by simp [h])
                  · exact HDj.out b hb (List.mem_cons_of_mem _ h)
                  · exact hnd.2.2.2 b hx b h rfl
                · omega
        · have hc2 : ¬ (cap : Int) = 1 := by omega
          go_wp2_with (first
            | (go_at_call 35; refine HM.out.mono ?_; clear HM; rintro e w2 ⟨rfl, hk2⟩; have HR2 := hid (HR.out.kept hk2 (fun _ _ => by simp)); have HB2 := hid (HBk.out.kept hk2 (by simp)); have HQ2 := hid (HQ.out.kept hk2 (fun _ _ => by simp)); clear c0 c1 f0 f1 d0 d1 d2 d3; obtain ⟨c0, c1, f0, f1⟩ := HR2.out.c0; have hcell := wish_cells (fun j u hj => HB2.out.cell hj) (show 0 < (Wi.mk x1 x2 x3 x4 :: qs).length by simp); simp only [Nat.zero_mul, Nat.add_zero, List.getElem_cons_zero] at hcell; obtain ⟨d0, d1, d2, d3⟩ := hcell; have HK2 := hid (HK.out.trans hk2 (fun x hx => by cases hx)); have hs2 := hk2.size; have hPl := HR2.out.lt P (by simp [rowBs]); have hPne : w2.heap.size ≠ P := (by omega); clear hk2)
            | (go_at_call 36; refine (grant_any P hv' (.slice (some ⟨g, off + 4, none⟩) qs.length (cap - 1)) ⟨h', qs⟩ ⟨x1, x2, x3, x4⟩ _ ((row_setq HR2.out (.inr ⟨g, off + 4, cap - 1, sz, rfl, HB2.out.tail⟩) rfl).kept ((Kept.refl [] _).alloc (.cells (Wi.f ⟨x1, x2, x3, x4⟩).toArray 59)) (fun _ _ => by simp)) (by simp at hln ⊢; omega)).mono ?_; rintro e w4 ⟨rfl, hv4, HR4, hsub4, hk4⟩; have HRR := hid HR4; have HS4 := hid hsub4; have HK4 := hid hk4; clear HR4 hsub4 hk4 c0 c1 f0 f1 d0 d1 d2 d3))
          go_roundg qs.length
          case measure => simp at hqs ⊢; try omega
          case rel =>
            have hk3 := ((HK2.out.setCell (p := ⟨P, 1, none⟩) (.inl (by simp [rowBs])) (.slice (some ⟨g, off + 4, none⟩) qs.length (cap - 1))).alloc (.cells (Wi.f ⟨x1, x2, x3, x4⟩).toArray 59))
            have hsz : w2.heap.size + 1 = ((w2.setCell ⟨P, 1, none⟩ (.slice (some ⟨g, off + 4, none⟩) qs.length (cap - 1))).alloc (.cells (Wi.f ⟨x1, x2, x3, x4⟩).toArray 59)).heap.size := by simp
            have hq3 := (HQ2.out.kept ((Kept.refl [P] _).setCell (p := ⟨P, 1, none⟩) (.inl (by simp)) (.slice (some ⟨g, off + 4, none⟩) qs.length (cap - 1))) (fun y hy hx => by simp at hx; subst hx; exact HDj.out y (by simpa using hy) (by simp))).kept ((Kept.refl [] _).alloc (.cells (Wi.f ⟨x1, x2, x3, x4⟩).toArray 59)) (fun _ _ => by simp)
            have hsub : ∀ b ∈ rowBs P hv' (.slice (some ⟨g, off + 4, none⟩) qs.length (cap - 1)), b ∈ rowBs P hv qv ∨ w.heap.size ≤ b := HSub.out
            have hw := HK2.out.size
            refine ⟨hv4, _, grantR h' ⟨x1, x2, x3, x4⟩, qs, Nat.le_refl _, by have := grantR_len h' ⟨x1, x2, x3, x4⟩; simp at hln ⊢; omega, HRR.out, by show _ = _; rw [HON.out, HGO.out], fun b hb => ?_, ?_, ?_, fun b hb hx => ?_⟩
            · rcases HS4.out b hb with h | h
              · exact hsub b h
              · exact .inr (by omega)
            · refine hk3.trans HK4.out (fun y hy => ?_)
              rcases hsub y (by simp only [rowBs, List.mem_cons, List.mem_append] at hy ⊢; exact hy.imp_right .inl) with h | h
              · exact .inl h
              · exact .inr h
            · exact hq3.kept HK4.out (fun y hy hx => HDj.out y (by simpa using hy) hx)
            · have hbl := HLT.out b (by simp only [rowBs, List.mem_cons, List.mem_append]; exact .inr (.inr hb))
              rcases List.mem_cons.1 hx with rfl | hx
              · exact HDj.out _ hb (by simp)
              · rcases HS4.out b (by simp only [rowBs, List.mem_cons, List.mem_append]; exact .inr (.inl hx)) with h | h
                · have hnd := HRR.out.nd
                  simp only [rowBs, List.nodup_cons, List.mem_append, not_or, List.nodup_append] at hnd
                  simp only [rowBs, List.mem_cons, List.mem_append] at h
                  rcases h with h | h | h
                  · exact HDj.out b hb (by simp [h])
                  · exact HDj.out b hb (List.mem_cons_of_mem _ h)
                  · exact hnd.2.2.2 b hx b h rfl
                · omega
--@@ end
end Go.Proofs.Ytiheoddlknbomaa
