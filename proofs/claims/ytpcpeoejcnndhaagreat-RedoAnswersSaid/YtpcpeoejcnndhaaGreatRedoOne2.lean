/- The player does a record of a transaction. -/
import Derived.Test.YtpcpeoejcnndhaaGreatRedoOne
set_option linter.all false
namespace Go.Proofs.YtpcpeoejcnndhaaGreat
open Go.RowKit Go.Shelf Go.Lib Go.Sort Go.Proofs
--@@ (*redo.player).one
set_option maxHeartbeats 8000000 in
set_option maxRecDepth 100000 in
theorem one_rest {n0 A : Nat} {p : Pl} (r : Rc) (w : World) (H : PlayAt w n0 A p) (hk8 : r.kind ≠ 8) (hk7 : r.kind ≠ 7) (hm : r.mask ≤ 65535) (hb : p.base.length ≤ 10000) (hw : ∀ q ∈ p.works, q.2.ws.length ≤ 10000) (ht : p.taken.length ≤ 50000) (hl : p.left ≤ 100000) :
    Calls Tryz.prog 28 #[.pointer (some ⟨A, 0, none⟩), r.v] w fun e w' => e = .returned (.tuple #[]) ∧ PlayAt w' n0 A (oneP p r) ∧ Below n0 w w' := by
  obtain ⟨m, bv, tv, lo, ws, H⟩ := H
  obtain ⟨base, works, left, taken⟩ := p
  have hA := H.lt A (by simp [playBs])
  have hmw := H.lt m (by simp [playBs])
  have HH := hid H
  have HBX := hid (fun S W (hK : Kept S (w.alloc (.cells r.f.toArray 55)) W) h => box_cells r hK h)
  have HRV := hid (show r.v = r.v from rfl)
  obtain ⟨kind, tx, mask, ⟨k1, k2, k3, k4⟩, ⟨o1, o2⟩, ⟨n1, n2⟩⟩ := r
  have hgl := getW_len hw tx
  dsimp only at hm hb ht hl hgl hk8 hk7 ⊢
  simp only [Rc.v, Rc.f] at HBX ⊢
  clear H hw HRV
  obtain ⟨pl, hpl⟩ : ∃ pl, pl = oneP ⟨base, works, left, taken⟩ ⟨kind, tx, mask, ⟨k1, k2, k3, k4⟩, ⟨o1, o2⟩, ⟨n1, n2⟩⟩ := ⟨_, rfl⟩
  rw [← hpl]
  unfold oneP at hpl
  dsimp only at hpl
  rw [if_neg hk8, if_neg hk7] at hpl
  have e8 : (kind == 8) = false := by simpa using hk8
  have e7 : (kind == 7) = false := by simpa using hk7
  clear hk8 hk7
  go_enter Tryz.func28, Tryz.ntmps28
  go_upto_region 0 with (fail)
  go_cut [3] (fun s3 wx => s3 = .pointer (some ⟨w.heap.size, 0, none⟩) ∧ Aside (Kept [] (w.alloc (.cells #[.int .i64 kind, .int .i64 tx, .int .u16 (mask : Int), .int .u8 (k1.toNat : Int), .int .u8 (k2.toNat : Int), .int .u8 (k3.toNat : Int), .int .u8 (k4.toNat : Int), .bool o1, .int .i64 o2, .bool n1, .int .i64 n2] 55)) wx))
  case first =>
    go_wp2
    go_meet
    exact ⟨rfl, Kept.refl _ _⟩
  case rest =>
  obtain ⟨rfl, HK⟩ := hcut
  rename World => wb
  have HKB := hid (((Kept.refl [] w).alloc _).trans HK.out (fun x hx => .inl hx))
  have H1 := hid (HH.out.kept HKB.out)
  have hsz : w.heap.size < wb.heap.size := by have := HK.out.size; simp at this; omega
  have HX := hid (fun S W (hK : Kept S wb W) h => HBX.out S W ((HK.out.mono (T := S) (by simp)).trans hK (fun x hx => .inl hx)) h)
  have HB0 := hid (HH.out.below HKB.out (by simp))
  clear HBX HK HH HKB
  have hnA : w.heap.size ≠ A := by omega
  obtain ⟨a0, a1, a2, a3⟩ := H1.out.cells
  have z2 := H1.out.frz 2
  have z3 := H1.out.frz 3
  obtain ⟨b0, b1, b2, _⟩ := HX.out [] _ (Kept.refl [] _) (by simp)
  dsimp only at a2
  go_upto_region 10 with (fail)
  go_cut [] (fun wx => Aside (PlayIs wx n0 A m bv tv lo ws ⟨base, works, -1, taken⟩) ∧ Aside (Kept [A] wb wx))
  case first =>
    clear HX
    go_wp2
    go_meet
    have hK2 : Kept [A] wb (wb.setCell ⟨A, 2, none⟩ (.int .i64 (-1))) := (Kept.refl [A] wb).setCell (.inl (by simp)) _
    exact ⟨H1.out.reA (lo' := lo) (l' := -1) (t' := taken) hK2 (heap_put H1.out.blk 2 (.int .i64 (-1))) (H1.out.base.kept_of hK2 (H1.out.base_far (by simp [playBs]))) (fun h => absurd h (by decide)), hK2⟩
  case rest =>
  obtain ⟨H2, HK2⟩ := hcut
  rename World => w2
  have HB2 := hid (HB0.out.trans (H1.out.below HK2.out (by simp [playBs])))
  have HX2 := hid (fun S W (hK : Kept S w2 W) (h : ¬ w.heap.size ∈ S) => HX.out (A :: S) W ((HK2.out.mono (T := A :: S) (by simp)).trans (hK.mono (T := A :: S) (fun x hx => List.mem_cons_of_mem _ hx)) (fun x hx => .inl hx)) (by rw [List.mem_cons, not_or]; exact ⟨hnA, h⟩))
  have hs2 : w.heap.size < w2.heap.size := by have := HK2.out.size; omega
  clear a0 a1 a2 a3 z2 z3 b0 b1 b2 HX H1 HK2 HB0 e8 e7
  obtain ⟨q0, q1, q2, q3, q4, q5, q6, q7, q8, q9, q10⟩ := HX2.out [] _ (Kept.refl [] _) (by simp)
  by_cases g1 : kind = 1
  · subst g1
    rw [if_pos rfl] at hpl
    go_upto_region 13 with (fail)
    go_cut [4] (fun s4 wx => ∃ x, s4 = .pointer (some ⟨x.b, 0, none⟩) ∧ ∃ ws3, Aside (PlayIs wx n0 A m bv tv lo ws3 ⟨base, aput tx (getW works tx) works, -1, taken⟩) ∧ Aside (aget tx ws3 = some x) ∧ Aside (x.k = getW works tx) ∧ Aside (Kept [m] w2 wx))
    case first =>
      have HO := hid (of_any tx w2 H2.out)
      clear q2 q3 q4 q5 q6 q7 q8 q9 q10 HX2
      go_wp2_with (go_at_call 51; refine HO.out.mono ?_; clear HO; rintro e w3 ⟨x, rfl, ws3, h3, hx3, hk3, hB3⟩)
      go_meet
      exact ⟨x, rfl, ws3, h3, hx3, hk3, hB3⟩
    case rest =>
    obtain ⟨x, rfl, ws3, H3, HX3, HK3, HM3⟩ := hcut
    rename World => w3
    have HB3 := hid (HB2.out.trans (H2.out.below HM3.out (by simp [playBs])))
    have hW := H3.out.each _ (tget_mem HX3.out)
    obtain ⟨c0, c1, c2⟩ := hW.cells
    have z0 := hW.frz 0
    have HW := hid hW
    obtain ⟨_, q1', q2', q3', q4', q5', q6', q7', q8', q9', q10'⟩ := HX2.out [m] _ HM3.out (by simp; omega)
    clear hW q0 q1 q2 q3 q4 q5 q6 q7 q8 q9 q10 HX2 H2 HB2 HM3
    obtain ⟨b, mb, ⟨mk, co, xs⟩⟩ := x
    dsimp only at c0 c1 c2 z0
    have hke := hid HK3.out.symm
    rw [← HK3.out] at hpl
    by_cases hm0 : mk = 0
    · subst hm0
      have c0' : w3.cell? ⟨b, 0, none⟩ = some (.int .u16 0) := c0
      unfold writeW at hpl
      rw [if_pos rfl] at hpl
      have HPL := hid hpl
      clear c0 hpl
      dsimp only
      go_wp2_with fail
      refine region_tail 8 (by kernel_rfl) (by kernel_rfl) ?_
      simp only [List.take_succ_cons, List.take_zero, List.drop_succ_cons, List.drop_zero]
      repeat still_step
      refine wpStill_nil ?_
      go_wp2_with (at_mapUpdate; refine Here.mk ?_)
      refine Here.of ?_
      refine wpList_mapUpdate_is rfl _ _ _ 79 rfl 49 51 keyK Tryz.underlying79 rfl ⟨k1, k2, k3, k4⟩ rfl (V.v ⟨n1, n2⟩) rfl HW.out.map.drew ?_
      intro w5 hM5 hK5
      have hk5 : Kept [mb] w3 w5 := Kept.trans ((Kept.refl [mb] w3).drew) hK5 (fun x hx => .inl hx)
      have hbm := HW.out.ne
      have hW5 : WorkIs w5 ⟨b, mb, ⟨0, co, aput ⟨k1, k2, k3, k4⟩ ⟨n1, n2⟩ xs⟩⟩ := ⟨(hk5.block b HW.out.lt.1 (by simp; exact hbm)).trans HW.out.blk, by dsimp only; rw [← dl_put]; exact hM5, tput_nodup _ _ _ HW.out.nd⟩
      have h5 := H3.out.turn (x' := ⟨b, mb, ⟨0, co, aput ⟨k1, k2, k3, k4⟩ ⟨n1, n2⟩ xs⟩⟩) HX3.out rfl rfl hW5 (hk5.mono (by simp [Wo.bs]))
      have hB5 := H3.out.below hk5 (fun y hy => by
        have := mem_bs (A := A) (m := m) (tget_mem HX3.out)
        simp at hy; subst hy; exact this.2)
      have H5 := hid h5
      have HB5 := hid hB5
      clear h5 hB5 hW5 hk5 hM5 hK5 hbm
      go_wp2
      go_end0
      exact ⟨rfl, ⟨m, bv, tv, lo, _, by rw [HPL.out]; have := H5.out; rw [tput_put] at this; exact this⟩, HB3.out.trans HB5.out⟩
    · have hb0 : ((mk : Int) == 0) = false := by simpa using hm0
      have hp2 : pl = ⟨base, aput tx (getW works tx) works, -1, taken⟩ := by
        rw [hpl]; unfold writeW; rw [if_neg hm0, ← HK3.out]
      have HPL := hid hp2
      clear hpl hp2 hm0 hke
      go_wp2
      go_end0
      exact ⟨rfl, ⟨m, bv, tv, lo, ws3, by rw [HPL.out]; exact H3.out⟩, HB3.out⟩
  · rw [if_neg g1] at hpl
    have e1 : (kind == 1) = false := by simpa using g1
    clear g1
    by_cases g2 : kind = 2
    · subst g2
      rw [if_pos rfl] at hpl
      go_upto_region 17 with (fail)
      go_cut [5] (fun s4 wx => ∃ x, s4 = .pointer (some ⟨x.b, 0, none⟩) ∧ ∃ ws3, Aside (PlayIs wx n0 A m bv tv lo ws3 ⟨base, aput tx (getW works tx) works, -1, taken⟩) ∧ Aside (aget tx ws3 = some x) ∧ Aside (x.k = getW works tx) ∧ Aside (Kept [m] w2 wx))
      case first =>
        have HO := hid (of_any tx w2 H2.out)
        clear q2 q3 q4 q5 q6 q7 q8 q9 q10 HX2
        go_wp2_with (go_at_call 51; refine HO.out.mono ?_; clear HO; rintro e w3 ⟨x, rfl, ws3, h3, hx3, hk3, hB3⟩)
        go_meet
        exact ⟨x, rfl, ws3, h3, hx3, hk3, hB3⟩
      case rest =>
      obtain ⟨x, rfl, ws3, H3, HX3, HK3, HM3⟩ := hcut
      rename World => w3
      have HB3 := hid (HB2.out.trans (H2.out.below HM3.out (by simp [playBs])))
      have hW := H3.out.each _ (tget_mem HX3.out)
      obtain ⟨c0, c1, c2⟩ := hW.cells
      have z0 := hW.frz 0
      have HW := hid hW
      obtain ⟨_, q1', q2', q3', q4', q5', q6', q7', q8', q9', q10'⟩ := HX2.out [m] _ HM3.out (by simp; omega)
      clear hW q0 q1 q2 q3 q4 q5 q6 q7 q8 q9 q10 HX2 H2 HB2 HM3
      obtain ⟨b, mb, ⟨mk, co, xs⟩⟩ := x
      dsimp only at c0 c1 c2 z0
      have hke := hid HK3.out.symm
      rw [← HK3.out] at hpl
      by_cases hm0 : mk = 0
      · subst hm0
        have c0' : w3.cell? ⟨b, 0, none⟩ = some (.int .u16 0) := c0
        unfold yesW at hpl
        rw [if_pos rfl] at hpl
        have HPL := hid hpl
        clear c0 hpl
        dsimp only
        go_wp2
        have hk5 : Kept [b] w3 (w3.setCell ⟨b, 0, none⟩ (.int .u16 (mask : Int))) := (Kept.refl [b] w3).setCell (.inl (by simp)) _
        have hbm := HW.out.ne
        have hW5 : WorkIs (w3.setCell ⟨b, 0, none⟩ (.int .u16 (mask : Int))) ⟨b, mb, ⟨mask, co, xs⟩⟩ := ⟨heap_put HW.out.blk 0 _, HW.out.map.kept hk5 (by simp; exact fun e => hbm e.symm), HW.out.nd⟩
        have h5 := H3.out.turn (x' := ⟨b, mb, ⟨mask, co, xs⟩⟩) HX3.out rfl rfl hW5 (hk5.mono (by simp [Wo.bs]))
        have hB5 := H3.out.below hk5 (fun y hy => by
          have := mem_bs (A := A) (m := m) (tget_mem HX3.out)
          simp at hy; subst hy; exact this.1)
        go_end0
        exact ⟨rfl, ⟨m, bv, tv, lo, _, by rw [HPL.out]; have := h5; rw [tput_put] at this; exact this⟩, HB3.out.trans hB5⟩
      · have hb0 : ((mk : Int) == 0) = false := by simpa using hm0
        have hp2 : pl = ⟨base, aput tx (getW works tx) works, -1, taken⟩ := by
          rw [hpl]; unfold yesW; rw [if_neg hm0, ← HK3.out]
        have HPL := hid hp2
        clear hpl hp2 hm0 hke
        go_wp2
        go_end0
        exact ⟨rfl, ⟨m, bv, tv, lo, ws3, by rw [HPL.out]; exact H3.out⟩, HB3.out⟩
    · rw [if_neg g2] at hpl
      have e2 : (kind == 2) = false := by simpa using g2
      clear g2
      by_cases g4 : kind = 4
      · subst g4
        rw [if_pos rfl] at hpl
        have HO := hid (of_any tx w2 H2.out)
        have HGL := hid hgl
        clear q2 q3 q4 q5 q6 q7 q8 q9 q10 HX2 e1 e2 hgl
        go_wp2_with (first
          | (go_at_call 51; refine HO.out.mono ?_; clear HO; rintro e w3 ⟨x, rfl, ws3, h3, hx3, hk3, hB3⟩; have H3 := hid h3; have HX3 := hid hx3; have HK3 := hid hk3; have HB3 := hid hB3; clear h3 hx3 hk3 hB3)
          | (go_at_call 52; (refine (commit_any w3 H3.out HX3.out (show (-1 : Int) < 0 by decide) hb (by rw [HK3.out]; exact HGL.out)).mono ?_; rintro e w4 ⟨rfl, hP, hB4⟩)))
        go_end0
        have hB3 := H2.out.below HB3.out (by simp [playBs])
        refine ⟨rfl, ?_, HB2.out.trans (hB3.trans hB4)⟩
        rw [hpl]
        rw [tput_put, HK3.out] at hP
        exact hP
      · rw [if_neg g4] at hpl
        have e4 : (kind == 4) = false := by simpa using g4
        clear g4
        by_cases g5 : kind = 5 ∨ kind = 6
        · rw [if_pos g5] at hpl
          have HPL := hid hpl
          clear hpl
          obtain ⟨a0, a1, a2, a3⟩ := H2.out.cells
          clear q2 q3 q4 q5 q6 q7 q8 q9 q10 HX2 e1 e2 e4
          rcases g5 with rfl | rfl
          all_goals
            go_wp2_with fail
            refine region_tail 6 (by kernel_rfl) (by kernel_rfl) ?_
            simp only [List.take_succ_cons, List.take_zero, List.drop_succ_cons, List.drop_zero]
            repeat still_step
            refine wpStill_nil ?_
            go_wp2_with (at_delete; refine Here.mk ?_)
            refine Here.of ?_
            refine wpList_delete_is rfl _ _ 69 3 rfl 3 78 (KeyOK.int (k := .i64) Tryz.underlying3) Tryz.underlying69 rfl tx rfl H2.out.map.drew ?_
            intro w5 hM5 hK5
            have hk5 : Kept [m] w2 w5 := Kept.trans ((Kept.refl [m] w2).drew) hK5 (fun x hx => .inl hx)
            have hB5 := H2.out.below hk5 (by simp [playBs])
            have h5 := hid (H2.out.gone tx hk5 hM5)
            clear hM5 hK5 hk5
            go_wp2
            go_end0
            exact ⟨rfl, ⟨m, bv, tv, lo, _, by rw [HPL.out]; exact h5.out⟩, HB2.out.trans hB5⟩
        · rw [if_neg g5] at hpl
          rw [not_or] at g5
          have e5 : (kind == 5) = false := by simpa using g5.1
          have e6 : (kind == 6) = false := by simpa using g5.2
          have HPL := hid hpl
          clear g5 hpl
          go_wp2
          go_end0
          exact ⟨rfl, ⟨m, bv, tv, lo, ws, by rw [HPL.out]; exact H2.out⟩, HB2.out⟩
theorem one_any {n0 A : Nat} {p : Pl} (r : Rc) (w : World) (H : PlayAt w n0 A p) (hm : r.mask ≤ 65535) (hb : p.base.length ≤ 10000) (hw : ∀ q ∈ p.works, q.2.ws.length ≤ 10000) (ht : p.taken.length ≤ 50000) (hl : p.left ≤ 100000) :
    Calls Tryz.prog 28 #[.pointer (some ⟨A, 0, none⟩), r.v] w fun e w' => e = .returned (.tuple #[]) ∧ PlayAt w' n0 A (oneP p r) ∧ Below n0 w w' := by
  by_cases h : r.kind = 8 ∨ r.kind = 7
  · exact one_ckpt r w H h hm hb hw ht hl
  · rw [not_or] at h
    exact one_rest r w H h.1 h.2 hm hb hw ht hl
--@@ end
end Go.Proofs.YtpcpeoejcnndhaaGreat
