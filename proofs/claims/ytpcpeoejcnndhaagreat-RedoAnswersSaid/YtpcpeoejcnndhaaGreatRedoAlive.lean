/- The fixed records that each statement tries first are answered right. -/
import Derived.Test.YtpcpeoejcnndhaaGreatM9
set_option linter.all false
namespace Go.Proofs.YtpcpeoejcnndhaaGreat
open Go.RowKit Go.Shelf Go.Lib Go.Sort Go.Proofs
def StPos (w : World) (v : Value) : Prop := ∃ bv tv, v = .agg #[bv, tv] ∧ StAt w bv tv s6
theorem StPos.kept {w w' : World} {v : Value} (h : StPos w v) (hk : Kept [] w w') : StPos w' v := by
  obtain ⟨bv, tv, h1, h2⟩ := h
  exact ⟨bv, tv, h1, h2.kept hk⟩
--@@ concordatlaw11.alive
def NilBlk (lo : Nat) (v : Value) (w : World) : Prop := ∃ B, v = .pointer (some ⟨B, 0, none⟩) ∧ lo ≤ B ∧ w.heap[B]? = some (.cells #[.slice none 0 0, .slice none 0 0] 32 (0, 0))
theorem NilBlk.kept {lo : Nat} {w w' : World} {v : Value} (h : NilBlk lo v w) (hk : Kept [] w w') : NilBlk lo v w' := by
  obtain ⟨B, h1, h2, h3⟩ := h
  exact ⟨B, h1, h2, nilblk_kept h3 hk⟩
set_option maxHeartbeats 16000000 in
set_option maxRecDepth 100000 in
theorem alive11_any (w : World) : Calls Tryz.prog 4 #[] w fun e w' => e = .returned (.bool true) ∧ Kept [] w w' := by
  go_enter Tryz.func4, Tryz.ntmps4
  go_upto_region 2 with (fail)
  go_cut [2] (fun s2 wx => ∃ B bv tv, s2 = .pointer (some ⟨B, 0, none⟩) ∧ Aside (wx.heap[B]? = some (.cells #[bv, tv] 32 (0, 0))) ∧ Aside (StAt wx bv tv s6) ∧ Aside (Kept [] w wx))
  case first =>
    have HS := hid (fun W (hK : Kept [] (w.alloc (.cells #[.int .u8 1, .int .u8 0, .int .u8 0, .int .u8 0] 49)) W) => show W.cell? ⟨w.heap.size, 0, none⟩ = some (.int .u8 1) ∧ W.cell? ⟨w.heap.size, 1, none⟩ = some (.int .u8 0) ∧ W.cell? ⟨w.heap.size, 2, none⟩ = some (.int .u8 0) ∧ W.cell? ⟨w.heap.size, 3, none⟩ = some (.int .u8 0) from
      have nc := new_cell w [.int .u8 1, .int .u8 0, .int .u8 0, .int .u8 0] 49
      ⟨hK.cell (nc 0 _ rfl) (by simp), hK.cell (nc 1 _ rfl) (by simp), hK.cell (nc 2 _ rfl) (by simp), hK.cell (nc 3 _ rfl) (by simp)⟩)
    refine wp_region_rows_tail 13 (yieldDen [.eq (.agg #[.int .u8 1, .int .u8 0, .int .u8 0, .int .u8 0]), .eq (.agg #[.bool true, .int .i64 5]), .eq (.agg #[.int .i64 1, .int .i64 1, .int .u16 0, .int .u8 1, .int .u8 0, .int .u8 0, .int .u8 0, .bool false, .int .i64 0, .bool true, .int .i64 5]), .eq (.agg #[.int .i64 2, .int .i64 1, .int .u16 3, .int .u8 0, .int .u8 0, .int .u8 0, .int .u8 0, .bool false, .int .i64 0, .bool false, .int .i64 0]), .eq (.agg #[.int .i64 4, .int .i64 1, .int .u16 0, .int .u8 0, .int .u8 0, .int .u8 0, .int .u8 0, .bool false, .int .i64 0, .bool false, .int .i64 0]), .eq (.agg #[.int .u8 1, .int .u8 0, .int .u8 0, .int .u8 0]), .eq (.agg #[.int .i64 1, .int .i64 2, .int .u16 0, .int .u8 1, .int .u8 0, .int .u8 0, .int .u8 0, .bool false, .int .i64 0, .bool false, .int .i64 0]), .eq (.agg #[.int .i64 2, .int .i64 2, .int .u16 1, .int .u8 0, .int .u8 0, .int .u8 0, .int .u8 0, .bool false, .int .i64 0, .bool false, .int .i64 0]), .eq (.agg #[.int .u8 1, .int .u8 0, .int .u8 0, .int .u8 0]), .eq (.agg #[.int .i64 1, .int .i64 4, .int .u16 0, .int .u8 1, .int .u8 0, .int .u8 0, .int .u8 0, .bool false, .int .i64 0, .bool false, .int .i64 0]), .is (fun v w => SlAt w v 11 6 (l6.flatMap Rc.f)) (fun v w w' hk h => SlAt.kept h hk), .is (fun v w => StPos w v) (fun v w w' hk h => StPos.kept h hk), .is (fun v wx => NilBlk w.heap.size v wx) (fun v w w' hk h => NilBlk.kept h hk)]) (fun w' => Kept [] (w.alloc (.cells #[.int .u8 1, .int .u8 0, .int .u8 0, .int .u8 0] 49)) w') (Kept []) (by kernel_rfl) (fun j v w w' h h' => yieldDen_kept _ j v w w' h h') (fun w => Kept.refl [] w) (by kernel_rfl) (by kernel_rfl) (by kernel_rfl) (by kernel_rfl) (by kernel_rfl) (by kernel_rfl) ((Kept.refl [] _).drew) ?_ ?_
    · skip
      refine AllUpto.cons (n := 12) (k := 0) ?_ ?_
      · intro a w' hC hO hd
        rw [if_pos (wanted_none rfl)]
        have p1 : a.tmps[1]? = some (.pointer (some ⟨w.heap.size, 0, none⟩)) := hO.at (by kernel_rfl) rfl
        obtain ⟨z0, z1, z2, z3⟩ := HS.out w' hC
        clear hd hO
        refine pure_step (.agg #[.int .u8 1, .int .u8 0, .int .u8 0, .int .u8 0]) rfl hC (Kept.refl _ _) ?_
        go_simp
      refine AllUpto.cons (n := 11) (k := 1) ?_ ?_
      · intro a w' hC hO hd
        rw [if_pos (wanted_none rfl)]
        clear hd hO
        go_simp
        refine (num11_any 5 _).mono ?_
        rintro e y ⟨rfl, hk⟩
        exact ⟨_, rfl, rfl, hC.trans hk (fun x hx => .inl hx), hk⟩
      refine AllUpto.cons (n := 10) (k := 2) ?_ ?_
      · intro a w' hC hO hd
        obtain ⟨x6, e6, r6⟩ := hd ⟨0, .data⟩ (by simp) rfl _ _ rfl rfl
        obtain rfl : x6 = .agg #[.int .u8 1, .int .u8 0, .int .u8 0, .int .u8 0] := r6
        obtain ⟨x7, e7, r7⟩ := hd ⟨1, .data⟩ (by simp) rfl _ _ rfl rfl
        obtain rfl : x7 = .agg #[.bool true, .int .i64 5] := r7
        rw [if_pos (wanted_none rfl)]
        clear hd hO
        refine pure_step (.agg #[.int .i64 1, .int .i64 1, .int .u16 0, .int .u8 1, .int .u8 0, .int .u8 0, .int .u8 0, .bool false, .int .i64 0, .bool true, .int .i64 5]) rfl hC (Kept.refl _ _) ?_
        go_simp
      refine AllUpto.cons (n := 9) (k := 3) ?_ ?_
      · intro a w' hC hO hd
        rw [if_pos (wanted_none rfl)]
        clear hd hO
        refine pure_step (.agg #[.int .i64 2, .int .i64 1, .int .u16 3, .int .u8 0, .int .u8 0, .int .u8 0, .int .u8 0, .bool false, .int .i64 0, .bool false, .int .i64 0]) rfl hC (Kept.refl _ _) ?_
        go_simp
      refine AllUpto.cons (n := 8) (k := 4) ?_ ?_
      · intro a w' hC hO hd
        rw [if_pos (wanted_none rfl)]
        clear hd hO
        refine pure_step (.agg #[.int .i64 4, .int .i64 1, .int .u16 0, .int .u8 0, .int .u8 0, .int .u8 0, .int .u8 0, .bool false, .int .i64 0, .bool false, .int .i64 0]) rfl hC (Kept.refl _ _) ?_
        go_simp
      refine AllUpto.cons (n := 7) (k := 5) ?_ ?_
      · intro a w' hC hO hd
        rw [if_pos (wanted_none rfl)]
        have p1 : a.tmps[1]? = some (.pointer (some ⟨w.heap.size, 0, none⟩)) := hO.at (by kernel_rfl) rfl
        obtain ⟨z0, z1, z2, z3⟩ := HS.out w' hC
        clear hd hO
        refine pure_step (.agg #[.int .u8 1, .int .u8 0, .int .u8 0, .int .u8 0]) rfl hC (Kept.refl _ _) ?_
        go_simp
      refine AllUpto.cons (n := 6) (k := 6) ?_ ?_
      · intro a w' hC hO hd
        obtain ⟨x11, e11, r11⟩ := hd ⟨5, .data⟩ (by simp) rfl _ _ rfl rfl
        obtain rfl : x11 = .agg #[.int .u8 1, .int .u8 0, .int .u8 0, .int .u8 0] := r11
        rw [if_pos (wanted_none rfl)]
        clear hd hO
        refine pure_step (.agg #[.int .i64 1, .int .i64 2, .int .u16 0, .int .u8 1, .int .u8 0, .int .u8 0, .int .u8 0, .bool false, .int .i64 0, .bool false, .int .i64 0]) rfl hC (Kept.refl _ _) ?_
        go_simp
      refine AllUpto.cons (n := 5) (k := 7) ?_ ?_
      · intro a w' hC hO hd
        rw [if_pos (wanted_none rfl)]
        clear hd hO
        refine pure_step (.agg #[.int .i64 2, .int .i64 2, .int .u16 1, .int .u8 0, .int .u8 0, .int .u8 0, .int .u8 0, .bool false, .int .i64 0, .bool false, .int .i64 0]) rfl hC (Kept.refl _ _) ?_
        go_simp
      refine AllUpto.cons (n := 4) (k := 8) ?_ ?_
      · intro a w' hC hO hd
        rw [if_pos (wanted_none rfl)]
        have p1 : a.tmps[1]? = some (.pointer (some ⟨w.heap.size, 0, none⟩)) := hO.at (by kernel_rfl) rfl
        obtain ⟨z0, z1, z2, z3⟩ := HS.out w' hC
        clear hd hO
        refine pure_step (.agg #[.int .u8 1, .int .u8 0, .int .u8 0, .int .u8 0]) rfl hC (Kept.refl _ _) ?_
        go_simp
      refine AllUpto.cons (n := 3) (k := 9) ?_ ?_
      · intro a w' hC hO hd
        obtain ⟨x14, e14, r14⟩ := hd ⟨8, .data⟩ (by simp) rfl _ _ rfl rfl
        obtain rfl : x14 = .agg #[.int .u8 1, .int .u8 0, .int .u8 0, .int .u8 0] := r14
        rw [if_pos (wanted_none rfl)]
        clear hd hO
        refine pure_step (.agg #[.int .i64 1, .int .i64 4, .int .u16 0, .int .u8 1, .int .u8 0, .int .u8 0, .int .u8 0, .bool false, .int .i64 0, .bool false, .int .i64 0]) rfl hC (Kept.refl _ _) ?_
        go_simp
      refine AllUpto.cons (n := 2) (k := 10) ?_ ?_
      · intro a w' hC hO hd
        obtain ⟨x8, e8, r8⟩ := hd ⟨2, .data⟩ (by simp) rfl _ _ rfl rfl
        obtain rfl : x8 = .agg #[.int .i64 1, .int .i64 1, .int .u16 0, .int .u8 1, .int .u8 0, .int .u8 0, .int .u8 0, .bool false, .int .i64 0, .bool true, .int .i64 5] := r8
        obtain ⟨x9, e9, r9⟩ := hd ⟨3, .data⟩ (by simp) rfl _ _ rfl rfl
        obtain rfl : x9 = .agg #[.int .i64 2, .int .i64 1, .int .u16 3, .int .u8 0, .int .u8 0, .int .u8 0, .int .u8 0, .bool false, .int .i64 0, .bool false, .int .i64 0] := r9
        obtain ⟨x10, e10, r10⟩ := hd ⟨4, .data⟩ (by simp) rfl _ _ rfl rfl
        obtain rfl : x10 = .agg #[.int .i64 4, .int .i64 1, .int .u16 0, .int .u8 0, .int .u8 0, .int .u8 0, .int .u8 0, .bool false, .int .i64 0, .bool false, .int .i64 0] := r10
        obtain ⟨x12, e12, r12⟩ := hd ⟨6, .data⟩ (by simp) rfl _ _ rfl rfl
        obtain rfl : x12 = .agg #[.int .i64 1, .int .i64 2, .int .u16 0, .int .u8 1, .int .u8 0, .int .u8 0, .int .u8 0, .bool false, .int .i64 0, .bool false, .int .i64 0] := r12
        obtain ⟨x13, e13, r13⟩ := hd ⟨7, .data⟩ (by simp) rfl _ _ rfl rfl
        obtain rfl : x13 = .agg #[.int .i64 2, .int .i64 2, .int .u16 1, .int .u8 0, .int .u8 0, .int .u8 0, .int .u8 0, .bool false, .int .i64 0, .bool false, .int .i64 0] := r13
        obtain ⟨x15, e15, r15⟩ := hd ⟨9, .data⟩ (by simp) rfl _ _ rfl rfl
        obtain rfl : x15 = .agg #[.int .i64 1, .int .i64 4, .int .u16 0, .int .u8 1, .int .u8 0, .int .u8 0, .int .u8 0, .bool false, .int .i64 0, .bool false, .int .i64 0] := r15
        rw [if_pos (wanted_none rfl)]
        clear hd hO
        go_simp
        exact ⟨_, rfl, SlAt.new w' (l6.flatMap Rc.f) 55 11 6 (by decide) rfl, hC.alloc _, (Kept.refl [] w').alloc _⟩
      refine AllUpto.cons (n := 1) (k := 11) ?_ ?_
      · intro a w' hC hO hd
        obtain ⟨x16, e16, r16⟩ := hd ⟨10, .data⟩ (by simp) rfl _ _ rfl rfl
        
        rw [if_pos (wanted_none rfl)]
        clear hd hO
        go_simp
        refine (replay6_any _ _ r16).mono ?_
        rintro e y ⟨bv, tv, rfl, hs, hk⟩
        exact ⟨_, rfl, ⟨_, _, rfl, hs⟩, hC.trans hk (fun x hx => .inl hx), hk⟩
      refine AllUpto.cons (n := 0) (k := 12) ?_ ?_
      · intro a w' hC hO hd
        rw [if_pos (wanted_none rfl)]
        clear hd hO
        go_simp
        exact ⟨_, rfl, ⟨_, rfl, by have := hC.size; simp at this; omega, heap_alloc_new w' _⟩, hC.alloc _, (Kept.refl [] w').alloc _⟩
      exact AllUpto.nil
    · intro a' w3 hC hO hrows
      obtain ⟨x17, e17, r17⟩ := hrows 11 (by decide) _ _ rfl rfl
      obtain ⟨x2, e2, r2⟩ := hrows 12 (by decide) _ _ rfl rfl
      obtain ⟨us, hus, ha⟩ := hO.lit rfl [false, false, true, false, false, false, true, true, true, true, true, true, true, true, true, true, true, true, false, false, false, false, false, false, false, false, false, false, false, false, false, false, false, false, false, false, false, false, false, false, false, false, false, false, false, false, false, false, false, false, false, false, false, false, false, false, false, false, false, false, false, false, false, false, false, false, false, false, false, false, false, false, false, false, false, false, false, false, false, false, false, false, false, false, false, false, false, false, false, false] (by kernel_rfl)
      have u17 := hus 17 _ rfl e17
      have u2 := hus 2 _ rfl e2
      clear hrows hO hus e17 e2
      subst ha
      simp only [merge, Nat.reduceAdd, u17, u2, List.drop_succ_cons, List.drop_zero]
      clear u17 u2
      obtain ⟨bv, tv, rfl, hst⟩ := r17
      obtain ⟨B, rfl, hB, hblk⟩ := r2
      obtain ⟨xa, xc, ya, yc, rfl, rfl⟩ := hst.slices
      obtain ⟨b0, b1, z0, z1⟩ := cell2 hblk
      have HBL := hid hblk
      clear hblk
      go_wp2
      go_meet
      exact ⟨_, _, _, rfl, set2 HBL.out _ _, StAt.put2 hst HBL.out, (((Kept.refl [] w).alloc _).trans hC (fun x hx => .inl hx)).setCell (.inr hB) _ |>.setCell (.inr hB) _⟩
  case rest =>
  obtain ⟨B, bv, tv, rfl, HB0, HST0, HK0⟩ := hcut
  rename World => w1
  · skip
    obtain ⟨a1, c1, a2, c2, rfl, rfl⟩ := HST0.out.slices
    obtain ⟨b0, b1, z0, z1⟩ := cell2 HB0.out
    have HRC := hid recs6_any
    go_wp2_with (go_at_call 7; refine (HRC.out _ _ _ HST0.out).mono ?_; clear HRC; rintro e w2 ⟨v2, rfl, ho2, hk2⟩; obtain ⟨xa, xc, rfl⟩ := ownsRow_slice ho2)
    have HB := hid (nilblk_kept HB0.out hk2)
    have HST := hid (HST0.out.kept hk2)
    have HRO := hid (SlAt.of_own ho2)
    have HKW := hid (HK0.out.trans hk2 (fun x hx => .inl hx))
    clear HB0 HST0 HK0 hk2 ho2 b0 b1 z0 z1
    obtain ⟨L, hL, hS, hP⟩ := HST.out.txs.ex
    have hbc := HST.out.base.at'
    obtain ⟨ba, bc, hb1, _, _, hb4⟩ := hbc.ex
    cases hb1
    obtain ⟨bb, bo, rfl, _, hbd⟩ := hb4 (by decide)
    obtain ⟨ta, tc, ht1, _, _, ht4⟩ := hS.ex
    have hLl : L.length = 2 := by have := congrArg List.length hL; simpa [s6] using this
    obtain rfl : a2 = ta := by injection ht1
    obtain rfl : c2 = tc := by injection ht1
    obtain ⟨tb, tp, rfl, _, htd⟩ := ht4 (by omega)
    obtain ⟨L0, L1, rfl⟩ : ∃ x y, L = [x, y] := by
      match L, hLl with
      | [x, y], _ => exact ⟨x, y, rfl⟩
    obtain ⟨x0, q0⟩ := L0
    obtain ⟨x1, q1⟩ := L1
    have hx01 : x0 = ⟨1, 3, true, []⟩ ∧ x1 = ⟨2, 1, false, [⟨kA11, V.zero⟩]⟩ := by simpa [s6] using hL
    obtain ⟨rfl, rfl⟩ := hx01
    have hq1 := hP (⟨2, 1, false, [⟨kA11, V.zero⟩]⟩, q1) (by simp)
    obtain ⟨qa, qc, hq2, _⟩ := hq1.at'.ex
    dsimp only at hq2
    subst hq2
    have HC := hid (fun W (hK : Kept [] w2 W) => show W.cell? ⟨B, 0, none⟩ = some (.slice (some ⟨bb, bo, none⟩) 1 c1) ∧ W.cell? ⟨B, 1, none⟩ = some (.slice (some ⟨tb, tp, none⟩) 2 c2) ∧ W.cell? ⟨bb, bo + 4, none⟩ = some (.bool true) ∧ W.cell? ⟨bb, bo + 5, none⟩ = some (.int .i64 5) ∧ W.cell? ⟨tb, tp + 2, none⟩ = some (.bool true) ∧ W.cell? ⟨tb, tp + 7, none⟩ = some (.slice qa 1 qc) from by
      obtain ⟨g0, g1, _, _⟩ := cell2 (nilblk_kept HB.out hK)
      exact ⟨g0, g1, hK.cell (hbd 4 _ rfl) (by simp), hK.cell (hbd 5 _ rfl) (by simp), hK.cell (htd 2 _ rfl) (by simp), hK.cell (htd 7 _ rfl) (by simp)⟩)
    have hqv : ∀ w, (binOp .eql 51 (.agg #[.bool true, .int .i64 5]) (.agg #[.bool true, .int .i64 5])).run Tryz.prog w = .ok (.bool true) w := fun w => eqV w ⟨true, 5⟩ ⟨true, 5⟩
    have hke := (Kept.refl [] w2).drew
    have HDB := hid doubt6_any
    have HTL := hid told6_any
    have HS2 := hid (ints_same 2)
    have HS1 := hid (ints_same 1)
    have HRB := hid replayb6_any
    have HSM := hid same6_any
    have HS0 := hid same0_any
    clear hL hS hP hbc hb4 hbd ht4 htd hLl hq1
    have HSV := hid (show StAt w2 (.slice (some ⟨bb, bo, none⟩) 1 c1) (.slice (some ⟨tb, tp, none⟩) 2 c2) s6 from HST.out)
    clear HST HB hke
    simp only [List.append_eq, List.cons_append, List.nil_append]
    refine wp_region_rows (fun k => rowDen ([.eq (.bool true), .eq (.bool true), .eq (.pointer (some ⟨B, 0, none⟩)), .eq (.slice (some ⟨bb, bo, none⟩) 1 c1), .eq (.int .i64 1), .eq (.bool true), .eq (.bool true), .eq (.bool true), .eq (.pointer (some ⟨B, 0, none⟩)), .eq (.slice (some ⟨bb, bo, none⟩) 1 c1), .eq (.pointer (some ⟨bb, bo, none⟩)), .eq (.pointer (some ⟨bb, bo + 4, none⟩)), .eq (.agg #[.bool true, .int .i64 5]), .eq (.agg #[.bool true, .int .i64 5]), .eq (.bool true), .eq (.bool true), .eq (.bool true), .eq (.pointer (some ⟨B, 1, none⟩)), .eq (.slice (some ⟨tb, tp, none⟩) 2 c2), .eq (.int .i64 2), .eq (.bool true), .eq (.bool true), .eq (.bool true), .eq (.pointer (some ⟨B, 1, none⟩)), .eq (.slice (some ⟨tb, tp, none⟩) 2 c2), .eq (.pointer (some ⟨tb, tp, none⟩)), .eq (.pointer (some ⟨tb, tp + 2, none⟩)), .eq (.bool true), .eq (.bool true), .eq (.bool true), .eq (.pointer (some ⟨B, 1, none⟩)), .eq (.slice (some ⟨tb, tp, none⟩) 2 c2), .eq (.pointer (some ⟨tb, tp + 4, none⟩)), .eq (.pointer (some ⟨tb, tp + 7, none⟩)), .eq (.slice qa 1 qc), .eq (.int .i64 1), .eq (.bool true), .eq (.bool true), .eq (.bool true), .eq (.agg #[.slice (some ⟨bb, bo, none⟩) 1 c1, .slice (some ⟨tb, tp, none⟩) 2 c2]), .ints [2], .ints [2], .eq (.bool true), .eq (.bool true), .eq (.bool true), .eq (.agg #[.slice (some ⟨bb, bo, none⟩) 1 c1, .slice (some ⟨tb, tp, none⟩) 2 c2]), .ints [1], .ints [1], .eq (.bool true), .eq (.bool true), .eq (.bool true), .eq (.slice xa 6 xc), .eq (.int .i64 6), .eq (.bool true), .eq (.bool true), .eq (.bool true), .eq (.agg #[.slice (some ⟨bb, bo, none⟩) 1 c1, .slice (some ⟨tb, tp, none⟩) 2 c2]), .eq (.slice xa 6 xc), .stv s6, .eq (.bool true), .eq (.bool true), .eq (.bool true), .eq (.agg #[.slice (some ⟨bb, bo, none⟩) 1 c1, .slice (some ⟨tb, tp, none⟩) 2 c2]), .eq (.agg #[.slice none 0 0, .slice none 0 0]), .eq (.bool false), .eq (.bool true), .eq (.bool true), .eq (.bool true)]) k) (fun w' => Kept [] w2 w') (Kept []) (by kernel_rfl) (fun j v w w' h h' => rowDen_kept _ j v w w' h h') (fun w => Kept.refl [] w) (by kernel_rfl) (by kernel_rfl) ((Kept.refl [] w2).drew) ?_ ?_
    · skip
      refine AllFrom.cons (k := 0) ?_ ?_
      · intro a w' hC hO hd
        rw [if_pos (wanted_none rfl)]
        have p4 : a.tmps[4]? = some (.bool true) := hO.at (by kernel_rfl) rfl
        clear hd hO
        refine pure_step (.bool true) rfl hC (Kept.refl _ _) ?_
        go_simp
      refine AllFrom.cons (k := 1) ?_ ?_
      · intro a w' hC hO hd
        obtain ⟨x23, e23, r23⟩ := hd ⟨0, .data⟩ (by simp) rfl _ _ rfl rfl
        obtain rfl : x23 = .bool true := r23
        rw [if_pos (wanted_none rfl)]
        clear hd hO
        refine pure_step (.bool true) rfl hC (Kept.refl _ _) ?_
        go_simp
      refine AllFrom.cons (k := 2) ?_ ?_
      · intro a w' hC hO hd
        obtain ⟨x24, e24, r24⟩ := hd ⟨1, .guard⟩ (by simp) rfl _ _ rfl rfl
        obtain rfl : x24 = .bool true := r24
        rw [if_pos (wanted_some (j := 1) (b := true) rfl (yielded_of (o := _) rfl rfl e24))]
        have p2 : a.tmps[2]? = some (.pointer (some ⟨B, 0, none⟩)) := hO.at (by kernel_rfl) rfl
        clear hd hO
        refine pure_step (.pointer (some ⟨B, 0, none⟩)) rfl hC (Kept.refl _ _) ?_
        go_simp
      refine AllFrom.cons (k := 3) ?_ ?_
      · intro a w' hC hO hd
        obtain ⟨x25, e25, r25⟩ := hd ⟨2, .data⟩ (by simp) rfl _ _ rfl rfl
        obtain rfl : x25 = .pointer (some ⟨B, 0, none⟩) := r25
        obtain ⟨x24, e24, r24⟩ := hd ⟨1, .guard⟩ (by simp) rfl _ _ rfl rfl
        obtain rfl : x24 = .bool true := r24
        rw [if_pos (wanted_some (j := 1) (b := true) rfl (yielded_of (o := _) rfl rfl e24))]
        obtain ⟨z0, z1, z2, z3, z4, z5⟩ := HC.out w' hC
        clear hd hO
        refine pure_step (.slice (some ⟨bb, bo, none⟩) 1 c1) rfl hC (Kept.refl _ _) ?_
        go_simp
      refine AllFrom.cons (k := 4) ?_ ?_
      · intro a w' hC hO hd
        obtain ⟨x26, e26, r26⟩ := hd ⟨3, .data⟩ (by simp) rfl _ _ rfl rfl
        obtain rfl : x26 = .slice (some ⟨bb, bo, none⟩) 1 c1 := r26
        obtain ⟨x24, e24, r24⟩ := hd ⟨1, .guard⟩ (by simp) rfl _ _ rfl rfl
        obtain rfl : x24 = .bool true := r24
        rw [if_pos (wanted_some (j := 1) (b := true) rfl (yielded_of (o := _) rfl rfl e24))]
        clear hd hO
        refine pure_step (.int .i64 1) rfl hC (Kept.refl _ _) ?_
        go_simp
      refine AllFrom.cons (k := 5) ?_ ?_
      · intro a w' hC hO hd
        obtain ⟨x27, e27, r27⟩ := hd ⟨4, .data⟩ (by simp) rfl _ _ rfl rfl
        obtain rfl : x27 = .int .i64 1 := r27
        obtain ⟨x24, e24, r24⟩ := hd ⟨1, .guard⟩ (by simp) rfl _ _ rfl rfl
        obtain rfl : x24 = .bool true := r24
        rw [if_pos (wanted_some (j := 1) (b := true) rfl (yielded_of (o := _) rfl rfl e24))]
        clear hd hO
        refine pure_step (.bool true) rfl hC (Kept.refl _ _) ?_
        go_simp
      refine AllFrom.cons (k := 6) ?_ ?_
      · intro a w' hC hO hd
        obtain ⟨x24, e24, r24⟩ := hd ⟨1, .data⟩ (by simp) rfl _ _ rfl rfl
        obtain rfl : x24 = .bool true := r24
        obtain ⟨x28, e28, r28⟩ := hd ⟨5, .data⟩ (by simp) rfl _ _ rfl rfl
        obtain rfl : x28 = .bool true := r28
        rw [if_pos (wanted_none rfl)]
        clear hd hO
        refine pure_step (.bool true) rfl hC (Kept.refl _ _) ?_
        go_simp
      refine AllFrom.cons (k := 7) ?_ ?_
      · intro a w' hC hO hd
        obtain ⟨x29, e29, r29⟩ := hd ⟨6, .data⟩ (by simp) rfl _ _ rfl rfl
        obtain rfl : x29 = .bool true := r29
        rw [if_pos (wanted_none rfl)]
        clear hd hO
        refine pure_step (.bool true) rfl hC (Kept.refl _ _) ?_
        go_simp
      refine AllFrom.cons (k := 8) ?_ ?_
      · intro a w' hC hO hd
        obtain ⟨x30, e30, r30⟩ := hd ⟨7, .guard⟩ (by simp) rfl _ _ rfl rfl
        obtain rfl : x30 = .bool true := r30
        rw [if_pos (wanted_some (j := 7) (b := true) rfl (yielded_of (o := _) rfl rfl e30))]
        have p2 : a.tmps[2]? = some (.pointer (some ⟨B, 0, none⟩)) := hO.at (by kernel_rfl) rfl
        clear hd hO
        refine pure_step (.pointer (some ⟨B, 0, none⟩)) rfl hC (Kept.refl _ _) ?_
        go_simp
      refine AllFrom.cons (k := 9) ?_ ?_
      · intro a w' hC hO hd
        obtain ⟨x31, e31, r31⟩ := hd ⟨8, .data⟩ (by simp) rfl _ _ rfl rfl
        obtain rfl : x31 = .pointer (some ⟨B, 0, none⟩) := r31
        obtain ⟨x30, e30, r30⟩ := hd ⟨7, .guard⟩ (by simp) rfl _ _ rfl rfl
        obtain rfl : x30 = .bool true := r30
        rw [if_pos (wanted_some (j := 7) (b := true) rfl (yielded_of (o := _) rfl rfl e30))]
        obtain ⟨z0, z1, z2, z3, z4, z5⟩ := HC.out w' hC
        clear hd hO
        refine pure_step (.slice (some ⟨bb, bo, none⟩) 1 c1) rfl hC (Kept.refl _ _) ?_
        go_simp
      refine AllFrom.cons (k := 10) ?_ ?_
      · intro a w' hC hO hd
        obtain ⟨x32, e32, r32⟩ := hd ⟨9, .data⟩ (by simp) rfl _ _ rfl rfl
        obtain rfl : x32 = .slice (some ⟨bb, bo, none⟩) 1 c1 := r32
        obtain ⟨x30, e30, r30⟩ := hd ⟨7, .guard⟩ (by simp) rfl _ _ rfl rfl
        obtain rfl : x30 = .bool true := r30
        rw [if_pos (wanted_some (j := 7) (b := true) rfl (yielded_of (o := _) rfl rfl e30))]
        clear hd hO
        refine pure_step (.pointer (some ⟨bb, bo, none⟩)) rfl hC (Kept.refl _ _) ?_
        go_simp
      refine AllFrom.cons (k := 11) ?_ ?_
      · intro a w' hC hO hd
        obtain ⟨x33, e33, r33⟩ := hd ⟨10, .data⟩ (by simp) rfl _ _ rfl rfl
        obtain rfl : x33 = .pointer (some ⟨bb, bo, none⟩) := r33
        obtain ⟨x30, e30, r30⟩ := hd ⟨7, .guard⟩ (by simp) rfl _ _ rfl rfl
        obtain rfl : x30 = .bool true := r30
        rw [if_pos (wanted_some (j := 7) (b := true) rfl (yielded_of (o := _) rfl rfl e30))]
        clear hd hO
        refine pure_step (.pointer (some ⟨bb, bo + 4, none⟩)) rfl hC (Kept.refl _ _) ?_
        go_simp
      refine AllFrom.cons (k := 12) ?_ ?_
      · intro a w' hC hO hd
        obtain ⟨x34, e34, r34⟩ := hd ⟨11, .data⟩ (by simp) rfl _ _ rfl rfl
        obtain rfl : x34 = .pointer (some ⟨bb, bo + 4, none⟩) := r34
        obtain ⟨x30, e30, r30⟩ := hd ⟨7, .guard⟩ (by simp) rfl _ _ rfl rfl
        obtain rfl : x30 = .bool true := r30
        rw [if_pos (wanted_some (j := 7) (b := true) rfl (yielded_of (o := _) rfl rfl e30))]
        obtain ⟨z0, z1, z2, z3, z4, z5⟩ := HC.out w' hC
        clear hd hO
        refine pure_step (.agg #[.bool true, .int .i64 5]) rfl hC (Kept.refl _ _) ?_
        go_simp
      refine AllFrom.cons (k := 13) ?_ ?_
      · intro a w' hC hO hd
        obtain ⟨x30, e30, r30⟩ := hd ⟨7, .guard⟩ (by simp) rfl _ _ rfl rfl
        obtain rfl : x30 = .bool true := r30
        rw [if_pos (wanted_some (j := 7) (b := true) rfl (yielded_of (o := _) rfl rfl e30))]
        clear hd hO
        go_simp
        refine (num11_any 5 _).mono ?_
        rintro e y ⟨rfl, hk⟩
        exact ⟨_, rfl, rfl, hC.trans hk (fun x hx => .inl hx), hk⟩
      refine AllFrom.cons (k := 14) ?_ ?_
      · intro a w' hC hO hd
        obtain ⟨x35, e35, r35⟩ := hd ⟨12, .data⟩ (by simp) rfl _ _ rfl rfl
        obtain rfl : x35 = .agg #[.bool true, .int .i64 5] := r35
        obtain ⟨x36, e36, r36⟩ := hd ⟨13, .data⟩ (by simp) rfl _ _ rfl rfl
        obtain rfl : x36 = .agg #[.bool true, .int .i64 5] := r36
        obtain ⟨x30, e30, r30⟩ := hd ⟨7, .guard⟩ (by simp) rfl _ _ rfl rfl
        obtain rfl : x30 = .bool true := r30
        rw [if_pos (wanted_some (j := 7) (b := true) rfl (yielded_of (o := _) rfl rfl e30))]
        clear hd hO
        refine pure_step (.bool true) rfl hC (Kept.refl _ _) ?_
        go_simp
      refine AllFrom.cons (k := 15) ?_ ?_
      · intro a w' hC hO hd
        obtain ⟨x30, e30, r30⟩ := hd ⟨7, .data⟩ (by simp) rfl _ _ rfl rfl
        obtain rfl : x30 = .bool true := r30
        obtain ⟨x37, e37, r37⟩ := hd ⟨14, .data⟩ (by simp) rfl _ _ rfl rfl
        obtain rfl : x37 = .bool true := r37
        rw [if_pos (wanted_none rfl)]
        clear hd hO
        refine pure_step (.bool true) rfl hC (Kept.refl _ _) ?_
        go_simp
      refine AllFrom.cons (k := 16) ?_ ?_
      · intro a w' hC hO hd
        obtain ⟨x38, e38, r38⟩ := hd ⟨15, .data⟩ (by simp) rfl _ _ rfl rfl
        obtain rfl : x38 = .bool true := r38
        rw [if_pos (wanted_none rfl)]
        clear hd hO
        refine pure_step (.bool true) rfl hC (Kept.refl _ _) ?_
        go_simp
      refine AllFrom.cons (k := 17) ?_ ?_
      · intro a w' hC hO hd
        obtain ⟨x39, e39, r39⟩ := hd ⟨16, .guard⟩ (by simp) rfl _ _ rfl rfl
        obtain rfl : x39 = .bool true := r39
        rw [if_pos (wanted_some (j := 16) (b := true) rfl (yielded_of (o := _) rfl rfl e39))]
        have p2 : a.tmps[2]? = some (.pointer (some ⟨B, 0, none⟩)) := hO.at (by kernel_rfl) rfl
        clear hd hO
        refine pure_step (.pointer (some ⟨B, 1, none⟩)) rfl hC (Kept.refl _ _) ?_
        go_simp
      refine AllFrom.cons (k := 18) ?_ ?_
      · intro a w' hC hO hd
        obtain ⟨x40, e40, r40⟩ := hd ⟨17, .data⟩ (by simp) rfl _ _ rfl rfl
        obtain rfl : x40 = .pointer (some ⟨B, 1, none⟩) := r40
        obtain ⟨x39, e39, r39⟩ := hd ⟨16, .guard⟩ (by simp) rfl _ _ rfl rfl
        obtain rfl : x39 = .bool true := r39
        rw [if_pos (wanted_some (j := 16) (b := true) rfl (yielded_of (o := _) rfl rfl e39))]
        obtain ⟨z0, z1, z2, z3, z4, z5⟩ := HC.out w' hC
        clear hd hO
        refine pure_step (.slice (some ⟨tb, tp, none⟩) 2 c2) rfl hC (Kept.refl _ _) ?_
        go_simp
      refine AllFrom.cons (k := 19) ?_ ?_
      · intro a w' hC hO hd
        obtain ⟨x41, e41, r41⟩ := hd ⟨18, .data⟩ (by simp) rfl _ _ rfl rfl
        obtain rfl : x41 = .slice (some ⟨tb, tp, none⟩) 2 c2 := r41
        obtain ⟨x39, e39, r39⟩ := hd ⟨16, .guard⟩ (by simp) rfl _ _ rfl rfl
        obtain rfl : x39 = .bool true := r39
        rw [if_pos (wanted_some (j := 16) (b := true) rfl (yielded_of (o := _) rfl rfl e39))]
        clear hd hO
        refine pure_step (.int .i64 2) rfl hC (Kept.refl _ _) ?_
        go_simp
      refine AllFrom.cons (k := 20) ?_ ?_
      · intro a w' hC hO hd
        obtain ⟨x42, e42, r42⟩ := hd ⟨19, .data⟩ (by simp) rfl _ _ rfl rfl
        obtain rfl : x42 = .int .i64 2 := r42
        obtain ⟨x39, e39, r39⟩ := hd ⟨16, .guard⟩ (by simp) rfl _ _ rfl rfl
        obtain rfl : x39 = .bool true := r39
        rw [if_pos (wanted_some (j := 16) (b := true) rfl (yielded_of (o := _) rfl rfl e39))]
        clear hd hO
        refine pure_step (.bool true) rfl hC (Kept.refl _ _) ?_
        go_simp
      refine AllFrom.cons (k := 21) ?_ ?_
      · intro a w' hC hO hd
        obtain ⟨x39, e39, r39⟩ := hd ⟨16, .data⟩ (by simp) rfl _ _ rfl rfl
        obtain rfl : x39 = .bool true := r39
        obtain ⟨x43, e43, r43⟩ := hd ⟨20, .data⟩ (by simp) rfl _ _ rfl rfl
        obtain rfl : x43 = .bool true := r43
        rw [if_pos (wanted_none rfl)]
        clear hd hO
        refine pure_step (.bool true) rfl hC (Kept.refl _ _) ?_
        go_simp
      refine AllFrom.cons (k := 22) ?_ ?_
      · intro a w' hC hO hd
        obtain ⟨x44, e44, r44⟩ := hd ⟨21, .data⟩ (by simp) rfl _ _ rfl rfl
        obtain rfl : x44 = .bool true := r44
        rw [if_pos (wanted_none rfl)]
        clear hd hO
        refine pure_step (.bool true) rfl hC (Kept.refl _ _) ?_
        go_simp
      refine AllFrom.cons (k := 23) ?_ ?_
      · intro a w' hC hO hd
        obtain ⟨x45, e45, r45⟩ := hd ⟨22, .guard⟩ (by simp) rfl _ _ rfl rfl
        obtain rfl : x45 = .bool true := r45
        rw [if_pos (wanted_some (j := 22) (b := true) rfl (yielded_of (o := _) rfl rfl e45))]
        have p2 : a.tmps[2]? = some (.pointer (some ⟨B, 0, none⟩)) := hO.at (by kernel_rfl) rfl
        clear hd hO
        refine pure_step (.pointer (some ⟨B, 1, none⟩)) rfl hC (Kept.refl _ _) ?_
        go_simp
      refine AllFrom.cons (k := 24) ?_ ?_
      · intro a w' hC hO hd
        obtain ⟨x46, e46, r46⟩ := hd ⟨23, .data⟩ (by simp) rfl _ _ rfl rfl
        obtain rfl : x46 = .pointer (some ⟨B, 1, none⟩) := r46
        obtain ⟨x45, e45, r45⟩ := hd ⟨22, .guard⟩ (by simp) rfl _ _ rfl rfl
        obtain rfl : x45 = .bool true := r45
        rw [if_pos (wanted_some (j := 22) (b := true) rfl (yielded_of (o := _) rfl rfl e45))]
        obtain ⟨z0, z1, z2, z3, z4, z5⟩ := HC.out w' hC
        clear hd hO
        refine pure_step (.slice (some ⟨tb, tp, none⟩) 2 c2) rfl hC (Kept.refl _ _) ?_
        go_simp
      refine AllFrom.cons (k := 25) ?_ ?_
      · intro a w' hC hO hd
        obtain ⟨x47, e47, r47⟩ := hd ⟨24, .data⟩ (by simp) rfl _ _ rfl rfl
        obtain rfl : x47 = .slice (some ⟨tb, tp, none⟩) 2 c2 := r47
        obtain ⟨x45, e45, r45⟩ := hd ⟨22, .guard⟩ (by simp) rfl _ _ rfl rfl
        obtain rfl : x45 = .bool true := r45
        rw [if_pos (wanted_some (j := 22) (b := true) rfl (yielded_of (o := _) rfl rfl e45))]
        clear hd hO
        refine pure_step (.pointer (some ⟨tb, tp, none⟩)) rfl hC (Kept.refl _ _) ?_
        go_simp
      refine AllFrom.cons (k := 26) ?_ ?_
      · intro a w' hC hO hd
        obtain ⟨x48, e48, r48⟩ := hd ⟨25, .data⟩ (by simp) rfl _ _ rfl rfl
        obtain rfl : x48 = .pointer (some ⟨tb, tp, none⟩) := r48
        obtain ⟨x45, e45, r45⟩ := hd ⟨22, .guard⟩ (by simp) rfl _ _ rfl rfl
        obtain rfl : x45 = .bool true := r45
        rw [if_pos (wanted_some (j := 22) (b := true) rfl (yielded_of (o := _) rfl rfl e45))]
        clear hd hO
        refine pure_step (.pointer (some ⟨tb, tp + 2, none⟩)) rfl hC (Kept.refl _ _) ?_
        go_simp
      refine AllFrom.cons (k := 27) ?_ ?_
      · intro a w' hC hO hd
        obtain ⟨x49, e49, r49⟩ := hd ⟨26, .data⟩ (by simp) rfl _ _ rfl rfl
        obtain rfl : x49 = .pointer (some ⟨tb, tp + 2, none⟩) := r49
        obtain ⟨x45, e45, r45⟩ := hd ⟨22, .guard⟩ (by simp) rfl _ _ rfl rfl
        obtain rfl : x45 = .bool true := r45
        rw [if_pos (wanted_some (j := 22) (b := true) rfl (yielded_of (o := _) rfl rfl e45))]
        obtain ⟨z0, z1, z2, z3, z4, z5⟩ := HC.out w' hC
        clear hd hO
        refine pure_step (.bool true) rfl hC (Kept.refl _ _) ?_
        go_simp
      refine AllFrom.cons (k := 28) ?_ ?_
      · intro a w' hC hO hd
        obtain ⟨x45, e45, r45⟩ := hd ⟨22, .data⟩ (by simp) rfl _ _ rfl rfl
        obtain rfl : x45 = .bool true := r45
        obtain ⟨x50, e50, r50⟩ := hd ⟨27, .data⟩ (by simp) rfl _ _ rfl rfl
        obtain rfl : x50 = .bool true := r50
        rw [if_pos (wanted_none rfl)]
        clear hd hO
        refine pure_step (.bool true) rfl hC (Kept.refl _ _) ?_
        go_simp
      refine AllFrom.cons (k := 29) ?_ ?_
      · intro a w' hC hO hd
        obtain ⟨x51, e51, r51⟩ := hd ⟨28, .data⟩ (by simp) rfl _ _ rfl rfl
        obtain rfl : x51 = .bool true := r51
        rw [if_pos (wanted_none rfl)]
        clear hd hO
        refine pure_step (.bool true) rfl hC (Kept.refl _ _) ?_
        go_simp
      refine AllFrom.cons (k := 30) ?_ ?_
      · intro a w' hC hO hd
        obtain ⟨x52, e52, r52⟩ := hd ⟨29, .guard⟩ (by simp) rfl _ _ rfl rfl
        obtain rfl : x52 = .bool true := r52
        rw [if_pos (wanted_some (j := 29) (b := true) rfl (yielded_of (o := _) rfl rfl e52))]
        have p2 : a.tmps[2]? = some (.pointer (some ⟨B, 0, none⟩)) := hO.at (by kernel_rfl) rfl
        clear hd hO
        refine pure_step (.pointer (some ⟨B, 1, none⟩)) rfl hC (Kept.refl _ _) ?_
        go_simp
      refine AllFrom.cons (k := 31) ?_ ?_
      · intro a w' hC hO hd
        obtain ⟨x53, e53, r53⟩ := hd ⟨30, .data⟩ (by simp) rfl _ _ rfl rfl
        obtain rfl : x53 = .pointer (some ⟨B, 1, none⟩) := r53
        obtain ⟨x52, e52, r52⟩ := hd ⟨29, .guard⟩ (by simp) rfl _ _ rfl rfl
        obtain rfl : x52 = .bool true := r52
        rw [if_pos (wanted_some (j := 29) (b := true) rfl (yielded_of (o := _) rfl rfl e52))]
        obtain ⟨z0, z1, z2, z3, z4, z5⟩ := HC.out w' hC
        clear hd hO
        refine pure_step (.slice (some ⟨tb, tp, none⟩) 2 c2) rfl hC (Kept.refl _ _) ?_
        go_simp
      refine AllFrom.cons (k := 32) ?_ ?_
      · intro a w' hC hO hd
        obtain ⟨x54, e54, r54⟩ := hd ⟨31, .data⟩ (by simp) rfl _ _ rfl rfl
        obtain rfl : x54 = .slice (some ⟨tb, tp, none⟩) 2 c2 := r54
        obtain ⟨x52, e52, r52⟩ := hd ⟨29, .guard⟩ (by simp) rfl _ _ rfl rfl
        obtain rfl : x52 = .bool true := r52
        rw [if_pos (wanted_some (j := 29) (b := true) rfl (yielded_of (o := _) rfl rfl e52))]
        clear hd hO
        refine pure_step (.pointer (some ⟨tb, tp + 4, none⟩)) rfl hC (Kept.refl _ _) ?_
        go_simp
      refine AllFrom.cons (k := 33) ?_ ?_
      · intro a w' hC hO hd
        obtain ⟨x55, e55, r55⟩ := hd ⟨32, .data⟩ (by simp) rfl _ _ rfl rfl
        obtain rfl : x55 = .pointer (some ⟨tb, tp + 4, none⟩) := r55
        obtain ⟨x52, e52, r52⟩ := hd ⟨29, .guard⟩ (by simp) rfl _ _ rfl rfl
        obtain rfl : x52 = .bool true := r52
        rw [if_pos (wanted_some (j := 29) (b := true) rfl (yielded_of (o := _) rfl rfl e52))]
        clear hd hO
        refine pure_step (.pointer (some ⟨tb, tp + 7, none⟩)) rfl hC (Kept.refl _ _) ?_
        go_simp
      refine AllFrom.cons (k := 34) ?_ ?_
      · intro a w' hC hO hd
        obtain ⟨x56, e56, r56⟩ := hd ⟨33, .data⟩ (by simp) rfl _ _ rfl rfl
        obtain rfl : x56 = .pointer (some ⟨tb, tp + 7, none⟩) := r56
        obtain ⟨x52, e52, r52⟩ := hd ⟨29, .guard⟩ (by simp) rfl _ _ rfl rfl
        obtain rfl : x52 = .bool true := r52
        rw [if_pos (wanted_some (j := 29) (b := true) rfl (yielded_of (o := _) rfl rfl e52))]
        obtain ⟨z0, z1, z2, z3, z4, z5⟩ := HC.out w' hC
        clear hd hO
        refine pure_step (.slice qa 1 qc) rfl hC (Kept.refl _ _) ?_
        go_simp
      refine AllFrom.cons (k := 35) ?_ ?_
      · intro a w' hC hO hd
        obtain ⟨x57, e57, r57⟩ := hd ⟨34, .data⟩ (by simp) rfl _ _ rfl rfl
        obtain rfl : x57 = .slice qa 1 qc := r57
        obtain ⟨x52, e52, r52⟩ := hd ⟨29, .guard⟩ (by simp) rfl _ _ rfl rfl
        obtain rfl : x52 = .bool true := r52
        rw [if_pos (wanted_some (j := 29) (b := true) rfl (yielded_of (o := _) rfl rfl e52))]
        clear hd hO
        refine pure_step (.int .i64 1) rfl hC (Kept.refl _ _) ?_
        go_simp
      refine AllFrom.cons (k := 36) ?_ ?_
      · intro a w' hC hO hd
        obtain ⟨x58, e58, r58⟩ := hd ⟨35, .data⟩ (by simp) rfl _ _ rfl rfl
        obtain rfl : x58 = .int .i64 1 := r58
        obtain ⟨x52, e52, r52⟩ := hd ⟨29, .guard⟩ (by simp) rfl _ _ rfl rfl
        obtain rfl : x52 = .bool true := r52
        rw [if_pos (wanted_some (j := 29) (b := true) rfl (yielded_of (o := _) rfl rfl e52))]
        clear hd hO
        refine pure_step (.bool true) rfl hC (Kept.refl _ _) ?_
        go_simp
      refine AllFrom.cons (k := 37) ?_ ?_
      · intro a w' hC hO hd
        obtain ⟨x52, e52, r52⟩ := hd ⟨29, .data⟩ (by simp) rfl _ _ rfl rfl
        obtain rfl : x52 = .bool true := r52
        obtain ⟨x59, e59, r59⟩ := hd ⟨36, .data⟩ (by simp) rfl _ _ rfl rfl
        obtain rfl : x59 = .bool true := r59
        rw [if_pos (wanted_none rfl)]
        clear hd hO
        refine pure_step (.bool true) rfl hC (Kept.refl _ _) ?_
        go_simp
      refine AllFrom.cons (k := 38) ?_ ?_
      · intro a w' hC hO hd
        obtain ⟨x60, e60, r60⟩ := hd ⟨37, .data⟩ (by simp) rfl _ _ rfl rfl
        obtain rfl : x60 = .bool true := r60
        rw [if_pos (wanted_none rfl)]
        clear hd hO
        refine pure_step (.bool true) rfl hC (Kept.refl _ _) ?_
        go_simp
      refine AllFrom.cons (k := 39) ?_ ?_
      · intro a w' hC hO hd
        obtain ⟨x61, e61, r61⟩ := hd ⟨38, .guard⟩ (by simp) rfl _ _ rfl rfl
        obtain rfl : x61 = .bool true := r61
        rw [if_pos (wanted_some (j := 38) (b := true) rfl (yielded_of (o := _) rfl rfl e61))]
        have p2 : a.tmps[2]? = some (.pointer (some ⟨B, 0, none⟩)) := hO.at (by kernel_rfl) rfl
        obtain ⟨z0, z1, z2, z3, z4, z5⟩ := HC.out w' hC
        clear hd hO
        refine pure_step (.agg #[.slice (some ⟨bb, bo, none⟩) 1 c1, .slice (some ⟨tb, tp, none⟩) 2 c2]) rfl hC (Kept.refl _ _) ?_
        go_simp
      refine AllFrom.cons (k := 40) ?_ ?_
      · intro a w' hC hO hd
        obtain ⟨x62, e62, r62⟩ := hd ⟨39, .data⟩ (by simp) rfl _ _ rfl rfl
        obtain rfl : x62 = .agg #[.slice (some ⟨bb, bo, none⟩) 1 c1, .slice (some ⟨tb, tp, none⟩) 2 c2] := r62
        obtain ⟨x61, e61, r61⟩ := hd ⟨38, .guard⟩ (by simp) rfl _ _ rfl rfl
        obtain rfl : x61 = .bool true := r61
        rw [if_pos (wanted_some (j := 38) (b := true) rfl (yielded_of (o := _) rfl rfl e61))]
        clear hd hO
        go_simp
        refine (doubt6_any _ _ _ (HSV.out.kept hC)).mono ?_
        rintro e y ⟨v, rfl, hs, hk⟩
        obtain ⟨ra, rc, rfl, _⟩ := hs.ex
        exact ⟨_, rfl, ⟨_, _, rfl, hs⟩, hC.trans hk (fun x hx => .inl hx), hk⟩
      refine AllFrom.cons (k := 41) ?_ ?_
      · intro a w' hC hO hd
        obtain ⟨x61, e61, r61⟩ := hd ⟨38, .guard⟩ (by simp) rfl _ _ rfl rfl
        obtain rfl : x61 = .bool true := r61
        rw [if_pos (wanted_some (j := 38) (b := true) rfl (yielded_of (o := _) rfl rfl e61))]
        clear hd hO
        go_simp
        exact ⟨_, rfl, ⟨_, _, rfl, SlAt.new w' [.int .i64 2] 3 1 1 (by decide) rfl⟩, hC.alloc _, (Kept.refl [] w').alloc _⟩
      refine AllFrom.cons (k := 42) ?_ ?_
      · intro a w' hC hO hd
        obtain ⟨x63, e63, r63⟩ := hd ⟨40, .data⟩ (by simp) rfl _ _ rfl rfl
        obtain ⟨ia63, ic63, rfl, is63⟩ := show ∃ a c, x63 = .slice a 1 c ∧ SlAt w' x63 1 1 [.int .i64 2] from r63
        obtain ⟨x64, e64, r64⟩ := hd ⟨41, .data⟩ (by simp) rfl _ _ rfl rfl
        obtain ⟨ia64, ic64, rfl, is64⟩ := show ∃ a c, x64 = .slice a 1 c ∧ SlAt w' x64 1 1 [.int .i64 2] from r64
        obtain ⟨x61, e61, r61⟩ := hd ⟨38, .guard⟩ (by simp) rfl _ _ rfl rfl
        obtain rfl : x61 = .bool true := r61
        rw [if_pos (wanted_some (j := 38) (b := true) rfl (yielded_of (o := _) rfl rfl e61))]
        clear hd hO
        go_simp
        refine (ints_same 2 _ _ _ is63 is64).mono ?_
        rintro e y ⟨rfl, hk⟩
        exact ⟨_, rfl, rfl, hC.trans hk (fun x hx => .inl hx), hk⟩
      refine AllFrom.cons (k := 43) ?_ ?_
      · intro a w' hC hO hd
        obtain ⟨x61, e61, r61⟩ := hd ⟨38, .data⟩ (by simp) rfl _ _ rfl rfl
        obtain rfl : x61 = .bool true := r61
        obtain ⟨x65, e65, r65⟩ := hd ⟨42, .data⟩ (by simp) rfl _ _ rfl rfl
        obtain rfl : x65 = .bool true := r65
        rw [if_pos (wanted_none rfl)]
        clear hd hO
        refine pure_step (.bool true) rfl hC (Kept.refl _ _) ?_
        go_simp
      refine AllFrom.cons (k := 44) ?_ ?_
      · intro a w' hC hO hd
        obtain ⟨x66, e66, r66⟩ := hd ⟨43, .data⟩ (by simp) rfl _ _ rfl rfl
        obtain rfl : x66 = .bool true := r66
        rw [if_pos (wanted_none rfl)]
        clear hd hO
        refine pure_step (.bool true) rfl hC (Kept.refl _ _) ?_
        go_simp
      refine AllFrom.cons (k := 45) ?_ ?_
      · intro a w' hC hO hd
        obtain ⟨x67, e67, r67⟩ := hd ⟨44, .guard⟩ (by simp) rfl _ _ rfl rfl
        obtain rfl : x67 = .bool true := r67
        rw [if_pos (wanted_some (j := 44) (b := true) rfl (yielded_of (o := _) rfl rfl e67))]
        have p2 : a.tmps[2]? = some (.pointer (some ⟨B, 0, none⟩)) := hO.at (by kernel_rfl) rfl
        obtain ⟨z0, z1, z2, z3, z4, z5⟩ := HC.out w' hC
        clear hd hO
        refine pure_step (.agg #[.slice (some ⟨bb, bo, none⟩) 1 c1, .slice (some ⟨tb, tp, none⟩) 2 c2]) rfl hC (Kept.refl _ _) ?_
        go_simp
      refine AllFrom.cons (k := 46) ?_ ?_
      · intro a w' hC hO hd
        obtain ⟨x68, e68, r68⟩ := hd ⟨45, .data⟩ (by simp) rfl _ _ rfl rfl
        obtain rfl : x68 = .agg #[.slice (some ⟨bb, bo, none⟩) 1 c1, .slice (some ⟨tb, tp, none⟩) 2 c2] := r68
        obtain ⟨x67, e67, r67⟩ := hd ⟨44, .guard⟩ (by simp) rfl _ _ rfl rfl
        obtain rfl : x67 = .bool true := r67
        rw [if_pos (wanted_some (j := 44) (b := true) rfl (yielded_of (o := _) rfl rfl e67))]
        clear hd hO
        go_simp
        refine (told6_any _ _ _ (HSV.out.kept hC)).mono ?_
        rintro e y ⟨v, rfl, hs, hk⟩
        obtain ⟨ra, rc, rfl, _⟩ := hs.ex
        exact ⟨_, rfl, ⟨_, _, rfl, hs⟩, hC.trans hk (fun x hx => .inl hx), hk⟩
      refine AllFrom.cons (k := 47) ?_ ?_
      · intro a w' hC hO hd
        obtain ⟨x67, e67, r67⟩ := hd ⟨44, .guard⟩ (by simp) rfl _ _ rfl rfl
        obtain rfl : x67 = .bool true := r67
        rw [if_pos (wanted_some (j := 44) (b := true) rfl (yielded_of (o := _) rfl rfl e67))]
        clear hd hO
        go_simp
        exact ⟨_, rfl, ⟨_, _, rfl, SlAt.new w' [.int .i64 1] 3 1 1 (by decide) rfl⟩, hC.alloc _, (Kept.refl [] w').alloc _⟩
      refine AllFrom.cons (k := 48) ?_ ?_
      · intro a w' hC hO hd
        obtain ⟨x69, e69, r69⟩ := hd ⟨46, .data⟩ (by simp) rfl _ _ rfl rfl
        obtain ⟨ia69, ic69, rfl, is69⟩ := show ∃ a c, x69 = .slice a 1 c ∧ SlAt w' x69 1 1 [.int .i64 1] from r69
        obtain ⟨x70, e70, r70⟩ := hd ⟨47, .data⟩ (by simp) rfl _ _ rfl rfl
        obtain ⟨ia70, ic70, rfl, is70⟩ := show ∃ a c, x70 = .slice a 1 c ∧ SlAt w' x70 1 1 [.int .i64 1] from r70
        obtain ⟨x67, e67, r67⟩ := hd ⟨44, .guard⟩ (by simp) rfl _ _ rfl rfl
        obtain rfl : x67 = .bool true := r67
        rw [if_pos (wanted_some (j := 44) (b := true) rfl (yielded_of (o := _) rfl rfl e67))]
        clear hd hO
        go_simp
        refine (ints_same 1 _ _ _ is69 is70).mono ?_
        rintro e y ⟨rfl, hk⟩
        exact ⟨_, rfl, rfl, hC.trans hk (fun x hx => .inl hx), hk⟩
      refine AllFrom.cons (k := 49) ?_ ?_
      · intro a w' hC hO hd
        obtain ⟨x67, e67, r67⟩ := hd ⟨44, .data⟩ (by simp) rfl _ _ rfl rfl
        obtain rfl : x67 = .bool true := r67
        obtain ⟨x71, e71, r71⟩ := hd ⟨48, .data⟩ (by simp) rfl _ _ rfl rfl
        obtain rfl : x71 = .bool true := r71
        rw [if_pos (wanted_none rfl)]
        clear hd hO
        refine pure_step (.bool true) rfl hC (Kept.refl _ _) ?_
        go_simp
      refine AllFrom.cons (k := 50) ?_ ?_
      · intro a w' hC hO hd
        obtain ⟨x72, e72, r72⟩ := hd ⟨49, .data⟩ (by simp) rfl _ _ rfl rfl
        obtain rfl : x72 = .bool true := r72
        rw [if_pos (wanted_none rfl)]
        clear hd hO
        refine pure_step (.bool true) rfl hC (Kept.refl _ _) ?_
        go_simp
      refine AllFrom.cons (k := 51) ?_ ?_
      · intro a w' hC hO hd
        obtain ⟨x73, e73, r73⟩ := hd ⟨50, .guard⟩ (by simp) rfl _ _ rfl rfl
        obtain rfl : x73 = .bool true := r73
        rw [if_pos (wanted_some (j := 50) (b := true) rfl (yielded_of (o := _) rfl rfl e73))]
        have p3 : a.tmps[3]? = some (.slice xa 6 xc) := hO.at (by kernel_rfl) rfl
        clear hd hO
        refine pure_step (.slice xa 6 xc) rfl hC (Kept.refl _ _) ?_
        go_simp
      refine AllFrom.cons (k := 52) ?_ ?_
      · intro a w' hC hO hd
        obtain ⟨x74, e74, r74⟩ := hd ⟨51, .data⟩ (by simp) rfl _ _ rfl rfl
        obtain rfl : x74 = .slice xa 6 xc := r74
        obtain ⟨x73, e73, r73⟩ := hd ⟨50, .guard⟩ (by simp) rfl _ _ rfl rfl
        obtain rfl : x73 = .bool true := r73
        rw [if_pos (wanted_some (j := 50) (b := true) rfl (yielded_of (o := _) rfl rfl e73))]
        clear hd hO
        refine pure_step (.int .i64 6) rfl hC (Kept.refl _ _) ?_
        go_simp
      refine AllFrom.cons (k := 53) ?_ ?_
      · intro a w' hC hO hd
        obtain ⟨x75, e75, r75⟩ := hd ⟨52, .data⟩ (by simp) rfl _ _ rfl rfl
        obtain rfl : x75 = .int .i64 6 := r75
        obtain ⟨x73, e73, r73⟩ := hd ⟨50, .guard⟩ (by simp) rfl _ _ rfl rfl
        obtain rfl : x73 = .bool true := r73
        rw [if_pos (wanted_some (j := 50) (b := true) rfl (yielded_of (o := _) rfl rfl e73))]
        clear hd hO
        refine pure_step (.bool true) rfl hC (Kept.refl _ _) ?_
        go_simp
      refine AllFrom.cons (k := 54) ?_ ?_
      · intro a w' hC hO hd
        obtain ⟨x73, e73, r73⟩ := hd ⟨50, .data⟩ (by simp) rfl _ _ rfl rfl
        obtain rfl : x73 = .bool true := r73
        obtain ⟨x76, e76, r76⟩ := hd ⟨53, .data⟩ (by simp) rfl _ _ rfl rfl
        obtain rfl : x76 = .bool true := r76
        rw [if_pos (wanted_none rfl)]
        clear hd hO
        refine pure_step (.bool true) rfl hC (Kept.refl _ _) ?_
        go_simp
      refine AllFrom.cons (k := 55) ?_ ?_
      · intro a w' hC hO hd
        obtain ⟨x77, e77, r77⟩ := hd ⟨54, .data⟩ (by simp) rfl _ _ rfl rfl
        obtain rfl : x77 = .bool true := r77
        rw [if_pos (wanted_none rfl)]
        clear hd hO
        refine pure_step (.bool true) rfl hC (Kept.refl _ _) ?_
        go_simp
      refine AllFrom.cons (k := 56) ?_ ?_
      · intro a w' hC hO hd
        obtain ⟨x78, e78, r78⟩ := hd ⟨55, .guard⟩ (by simp) rfl _ _ rfl rfl
        obtain rfl : x78 = .bool true := r78
        rw [if_pos (wanted_some (j := 55) (b := true) rfl (yielded_of (o := _) rfl rfl e78))]
        have p2 : a.tmps[2]? = some (.pointer (some ⟨B, 0, none⟩)) := hO.at (by kernel_rfl) rfl
        obtain ⟨z0, z1, z2, z3, z4, z5⟩ := HC.out w' hC
        clear hd hO
        refine pure_step (.agg #[.slice (some ⟨bb, bo, none⟩) 1 c1, .slice (some ⟨tb, tp, none⟩) 2 c2]) rfl hC (Kept.refl _ _) ?_
        go_simp
      refine AllFrom.cons (k := 57) ?_ ?_
      · intro a w' hC hO hd
        obtain ⟨x78, e78, r78⟩ := hd ⟨55, .guard⟩ (by simp) rfl _ _ rfl rfl
        obtain rfl : x78 = .bool true := r78
        rw [if_pos (wanted_some (j := 55) (b := true) rfl (yielded_of (o := _) rfl rfl e78))]
        have p3 : a.tmps[3]? = some (.slice xa 6 xc) := hO.at (by kernel_rfl) rfl
        clear hd hO
        refine pure_step (.slice xa 6 xc) rfl hC (Kept.refl _ _) ?_
        go_simp
      refine AllFrom.cons (k := 58) ?_ ?_
      · intro a w' hC hO hd
        obtain ⟨x80, e80, r80⟩ := hd ⟨57, .data⟩ (by simp) rfl _ _ rfl rfl
        obtain rfl : x80 = .slice xa 6 xc := r80
        obtain ⟨x78, e78, r78⟩ := hd ⟨55, .guard⟩ (by simp) rfl _ _ rfl rfl
        obtain rfl : x78 = .bool true := r78
        rw [if_pos (wanted_some (j := 55) (b := true) rfl (yielded_of (o := _) rfl rfl e78))]
        clear hd hO
        go_simp
        refine (replayb6_any _ _ (HRO.out.kept hC)).mono ?_
        rintro e y ⟨bv, tv, rfl, hs, hk⟩
        obtain ⟨ra, rc, rb, rd, rfl, rfl⟩ := hs.slices
        exact ⟨_, rfl, ⟨_, _, _, _, rfl, hs⟩, hC.trans hk (fun x hx => .inl hx), hk⟩
      refine AllFrom.cons (k := 59) ?_ ?_
      · intro a w' hC hO hd
        obtain ⟨x79, e79, r79⟩ := hd ⟨56, .data⟩ (by simp) rfl _ _ rfl rfl
        obtain rfl : x79 = .agg #[.slice (some ⟨bb, bo, none⟩) 1 c1, .slice (some ⟨tb, tp, none⟩) 2 c2] := r79
        obtain ⟨x81, e81, r81⟩ := hd ⟨58, .data⟩ (by simp) rfl _ _ rfl rfl
        obtain ⟨sa81, sc81, ta81, tc81, rfl, is81⟩ := show ∃ a c a' c', x81 = .agg #[.slice a 1 c, .slice a' 2 c'] ∧ StAt w' (.slice a 1 c) (.slice a' 2 c') s6 from r81
        obtain ⟨x78, e78, r78⟩ := hd ⟨55, .guard⟩ (by simp) rfl _ _ rfl rfl
        obtain rfl : x78 = .bool true := r78
        rw [if_pos (wanted_some (j := 55) (b := true) rfl (yielded_of (o := _) rfl rfl e78))]
        clear hd hO
        go_simp
        refine (same6_any _ _ _ _ _ (HSV.out.kept hC) is81).mono ?_
        rintro e y ⟨rfl, hk⟩
        exact ⟨_, rfl, rfl, hC.trans hk (fun x hx => .inl hx), hk⟩
      refine AllFrom.cons (k := 60) ?_ ?_
      · intro a w' hC hO hd
        obtain ⟨x78, e78, r78⟩ := hd ⟨55, .data⟩ (by simp) rfl _ _ rfl rfl
        obtain rfl : x78 = .bool true := r78
        obtain ⟨x82, e82, r82⟩ := hd ⟨59, .data⟩ (by simp) rfl _ _ rfl rfl
        obtain rfl : x82 = .bool true := r82
        rw [if_pos (wanted_none rfl)]
        clear hd hO
        refine pure_step (.bool true) rfl hC (Kept.refl _ _) ?_
        go_simp
      refine AllFrom.cons (k := 61) ?_ ?_
      · intro a w' hC hO hd
        obtain ⟨x83, e83, r83⟩ := hd ⟨60, .data⟩ (by simp) rfl _ _ rfl rfl
        obtain rfl : x83 = .bool true := r83
        rw [if_pos (wanted_none rfl)]
        clear hd hO
        refine pure_step (.bool true) rfl hC (Kept.refl _ _) ?_
        go_simp
      refine AllFrom.cons (k := 62) ?_ ?_
      · intro a w' hC hO hd
        obtain ⟨x84, e84, r84⟩ := hd ⟨61, .guard⟩ (by simp) rfl _ _ rfl rfl
        obtain rfl : x84 = .bool true := r84
        rw [if_pos (wanted_some (j := 61) (b := true) rfl (yielded_of (o := _) rfl rfl e84))]
        have p2 : a.tmps[2]? = some (.pointer (some ⟨B, 0, none⟩)) := hO.at (by kernel_rfl) rfl
        obtain ⟨z0, z1, z2, z3, z4, z5⟩ := HC.out w' hC
        clear hd hO
        refine pure_step (.agg #[.slice (some ⟨bb, bo, none⟩) 1 c1, .slice (some ⟨tb, tp, none⟩) 2 c2]) rfl hC (Kept.refl _ _) ?_
        go_simp
      refine AllFrom.cons (k := 63) ?_ ?_
      · intro a w' hC hO hd
        obtain ⟨x84, e84, r84⟩ := hd ⟨61, .guard⟩ (by simp) rfl _ _ rfl rfl
        obtain rfl : x84 = .bool true := r84
        rw [if_pos (wanted_some (j := 61) (b := true) rfl (yielded_of (o := _) rfl rfl e84))]
        clear hd hO
        refine pure_step (.agg #[.slice none 0 0, .slice none 0 0]) rfl hC (Kept.refl _ _) ?_
        go_simp
      refine AllFrom.cons (k := 64) ?_ ?_
      · intro a w' hC hO hd
        obtain ⟨x85, e85, r85⟩ := hd ⟨62, .data⟩ (by simp) rfl _ _ rfl rfl
        obtain rfl : x85 = .agg #[.slice (some ⟨bb, bo, none⟩) 1 c1, .slice (some ⟨tb, tp, none⟩) 2 c2] := r85
        obtain ⟨x86, e86, r86⟩ := hd ⟨63, .data⟩ (by simp) rfl _ _ rfl rfl
        obtain rfl : x86 = .agg #[.slice none 0 0, .slice none 0 0] := r86
        obtain ⟨x84, e84, r84⟩ := hd ⟨61, .guard⟩ (by simp) rfl _ _ rfl rfl
        obtain rfl : x84 = .bool true := r84
        rw [if_pos (wanted_some (j := 61) (b := true) rfl (yielded_of (o := _) rfl rfl e84))]
        clear hd hO
        go_simp
        refine (same0_any _ _ _ (HSV.out.kept hC)).mono ?_
        rintro e y ⟨rfl, hk⟩
        exact ⟨_, rfl, rfl, hC.trans hk (fun x hx => .inl hx), hk⟩
      refine AllFrom.cons (k := 65) ?_ ?_
      · intro a w' hC hO hd
        obtain ⟨x87, e87, r87⟩ := hd ⟨64, .data⟩ (by simp) rfl _ _ rfl rfl
        obtain rfl : x87 = .bool false := r87
        obtain ⟨x84, e84, r84⟩ := hd ⟨61, .guard⟩ (by simp) rfl _ _ rfl rfl
        obtain rfl : x84 = .bool true := r84
        rw [if_pos (wanted_some (j := 61) (b := true) rfl (yielded_of (o := _) rfl rfl e84))]
        clear hd hO
        refine pure_step (.bool true) rfl hC (Kept.refl _ _) ?_
        go_simp
      refine AllFrom.cons (k := 66) ?_ ?_
      · intro a w' hC hO hd
        obtain ⟨x84, e84, r84⟩ := hd ⟨61, .data⟩ (by simp) rfl _ _ rfl rfl
        obtain rfl : x84 = .bool true := r84
        obtain ⟨x88, e88, r88⟩ := hd ⟨65, .data⟩ (by simp) rfl _ _ rfl rfl
        obtain rfl : x88 = .bool true := r88
        rw [if_pos (wanted_none rfl)]
        clear hd hO
        refine pure_step (.bool true) rfl hC (Kept.refl _ _) ?_
        go_simp
      refine AllFrom.cons (k := 67) ?_ ?_
      · intro a w' hC hO hd
        obtain ⟨x89, e89, r89⟩ := hd ⟨66, .data⟩ (by simp) rfl _ _ rfl rfl
        obtain rfl : x89 = .bool true := r89
        rw [if_pos (wanted_none rfl)]
        clear hd hO
        refine pure_step (.bool true) rfl hC (Kept.refl _ _) ?_
        go_simp
      exact trivial
    · intro a' w3 hC hO hrows
      obtain ⟨x0, e0, r0⟩ := hrows 67 _ _ rfl rfl
      obtain rfl : x0 = .bool true := r0
      have hdf := hO.df
      clear hO hrows
      go_wp2
      refine bodyPost_ret (by first | (simp [results, Tryz.results4, go_sem, e0]; done) | (simp [results, Tryz.results4, go_sem, e0]; rfl)) hdf ?_
      exact ⟨rfl, HKW.out.trans hC (fun x hx => .inl hx)⟩
--@@ end
end Go.Proofs.YtpcpeoejcnndhaaGreat
