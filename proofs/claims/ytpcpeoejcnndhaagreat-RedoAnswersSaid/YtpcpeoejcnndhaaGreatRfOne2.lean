/- The reference's state: a record is done: the walk. -/
import Derived.Test.YtpcpeoejcnndhaaGreatM11
import Derived.Test.YtpcpeoejcnndhaaGreatM2
set_option linter.all false
namespace Go.Proofs.YtpcpeoejcnndhaaGreat
open Go.RowKit Go.Shelf Go.Lib Go.Sort Go.Proofs
theorem RfD.keD {w w' : World} {D : Nat → Prop} {A : Nat} {bv tv : Value} {L : List (Txp × Value)} {s : Stp} (H : RfD w D A bv tv L s) (hk : Kept [] w w') : KeD D w w' := KeD.of hk fun k hk' => ⟨H.lt k hk', by simp⟩
--@@ (*concordatref11.State).one
set_option maxHeartbeats 8000000 in
set_option maxRecDepth 100000 in
theorem rone_any {w : World} {D : Nat → Prop} {A : Nat} {s : Stp} (h : RfAt w D A s) (r : Rc) (hl : s.txs.length ≤ 100000) (hb : s.base.length ≤ 5000) (hw : (rGet r.tx s.txs).ws.length ≤ 5000) :
    Calls Tryz.prog 34 #[.pointer (some ⟨A, 0, none⟩), r.v] w fun e w' => e = .returned (.tuple #[]) ∧ RfAt w' D A (rOne s r) ∧ KeD D w w' := by
  obtain ⟨kind, tx, mask, ⟨k1, k2, k3, k4⟩, ⟨o1, o2⟩, ⟨n1, n2⟩⟩ := r
  dsimp only at hw
  obtain ⟨wb, hwb⟩ : ∃ wb, wb = w.alloc (.cells #[.int .i64 kind, .int .i64 tx, .int .u16 (mask : Int), .int .u8 (k1.toNat : Int), .int .u8 (k2.toNat : Int), .int .u8 (k3.toNat : Int), .int .u8 (k4.toNat : Int), .bool o1, .int .i64 o2, .bool n1, .int .i64 n2] 55) := ⟨_, rfl⟩
  have hkb : Kept [] w wb := by rw [hwb]; exact (Kept.refl [] w).alloc _
  have nc : ∀ j u, ([.int .i64 kind, .int .i64 tx, .int .u16 (mask : Int), .int .u8 (k1.toNat : Int), .int .u8 (k2.toNat : Int), .int .u8 (k3.toNat : Int), .int .u8 (k4.toNat : Int), .bool o1, .int .i64 o2, .bool n1, .int .i64 n2] : List Value)[j]? = some u → wb.cell? ⟨w.heap.size, j, none⟩ = some u := by rw [hwb]; exact new_cell w [.int .i64 kind, .int .i64 tx, .int .u16 (mask : Int), .int .u8 (k1.toNat : Int), .int .u8 (k2.toNat : Int), .int .u8 (k3.toNat : Int), .int .u8 (k4.toNat : Int), .bool o1, .int .i64 o2, .bool n1, .int .i64 n2] 55
  have hbs : wb.heap.size = w.heap.size + 1 := by rw [hwb]; simp
  obtain ⟨B, hB⟩ : ∃ B, B = w.heap.size := ⟨_, rfl⟩
  rw [← hB] at nc
  have HBB := hid hB
  obtain ⟨D', HAT, HD, HB0⟩ : ∃ D' : Nat → Prop, Hid (RfAt wb D' A s) ∧ Hid (∀ b, D b → D' b) ∧ Hid (D' B) := ⟨_, hid (h.widen hkb), hid (fun b hb => .inl hb), hid (.inr ⟨by omega, by omega⟩)⟩
  have HK0 := hid (show KeD D w wb from by obtain ⟨_, _, _, H⟩ := h; exact H.keD hkb)
  have HBX := hid (fun (W : World) (hK : KeD D' wb W) => show W.cell? ⟨B, 0, none⟩ = some (.int .i64 kind) ∧ W.cell? ⟨B, 1, none⟩ = some (.int .i64 tx) ∧ W.cell? ⟨B, 2, none⟩ = some (.int .u16 (mask : Int)) ∧ W.cell? ⟨B, 3, none⟩ = some (.int .u8 (k1.toNat : Int)) ∧ W.cell? ⟨B, 4, none⟩ = some (.int .u8 (k2.toNat : Int)) ∧ W.cell? ⟨B, 5, none⟩ = some (.int .u8 (k3.toNat : Int)) ∧ W.cell? ⟨B, 6, none⟩ = some (.int .u8 (k4.toNat : Int)) ∧ W.cell? ⟨B, 9, none⟩ = some (.bool n1) ∧ W.cell? ⟨B, 10, none⟩ = some (.int .i64 n2) from
    ⟨hK.cell (nc 0 _ rfl) HB0.out, hK.cell (nc 1 _ rfl) HB0.out, hK.cell (nc 2 _ rfl) HB0.out, hK.cell (nc 3 _ rfl) HB0.out, hK.cell (nc 4 _ rfl) HB0.out, hK.cell (nc 5 _ rfl) HB0.out, hK.cell (nc 6 _ rfl) HB0.out, hK.cell (nc 9 _ rfl) HB0.out, hK.cell (nc 10 _ rfl) HB0.out⟩)
  obtain ⟨b0, b1, b2, b3, b4, b5, b6, b9, b10⟩ := HBX.out wb (KeD.refl _ _)
  clear h hkb nc hbs hB
  simp only [Rc.v, Rc.f]
  have HRAT := hid (rat_any HAT.out hl tx)
  have HRGO := hid (rgone_any HAT.out hl tx)
  have HG := hid (rAdd_get tx s.txs)
  have HPUT := hid (fun f => rPut_set tx f s.txs)
  unfold rOne
  dsimp only
  have HXW := hid hw
  obtain ⟨i, hi0⟩ : ∃ i, i = rIdx tx s.txs := ⟨_, rfl⟩
  obtain ⟨x, hx0⟩ : ∃ x, x = rGet tx s.txs := ⟨_, rfl⟩
  obtain ⟨T, hT0⟩ : ∃ T, T = rAdd tx s.txs := ⟨_, rfl⟩
  rw [← hi0, ← hT0] at HRAT
  rw [← hi0, ← hx0, ← hT0] at HG HPUT
  rw [← hx0] at HXW ⊢
  have hxw := HXW.out
  clear hi0 hx0 hT0 hw
  go_enter Tryz.func34, Tryz.ntmps34
  by_cases hk1 : kind = 1
  · have hkb : (kind == 1) = true := by simpa using hk1
    rw [if_pos hk1, HPUT.out]
    clear hk1 HRGO
    go_wp2_with (go_at_call 60; refine Here.mk ?_)
    refine Here.of ?_
    rw [← hwb]
    refine HRAT.out.mono ?_
    rintro e w1 ⟨rfl, h1, hk1⟩
    dsimp only
    obtain ⟨bv, g, c, L, qa, qc, hH, hi, hq⟩ := h1.row HG.out
    have HH := hid hH
    have HK1 := hid hk1
    have hF := hH.facts hi hq
    have HI := hid hi
    have HQE := hid hq
    have HQ := hid hF.pr.at'
    have hiz : (i : Int) < (L.length : Int) := by omega
    have c1 := hF.c1
    have e1 := hF.e1
    have HC := hid (fun W (hC : Kept [] w1 W) => show W.cell? ⟨A, 1, none⟩ = some (.slice (some ⟨g, 0, none⟩) L.length c) ∧ W.cell? ⟨g, i * 4 + 3, none⟩ = some (.slice qa x.ws.length qc) ∧ W.cell? ⟨B, 3, none⟩ = some (.int .u8 (k1.toNat : Int)) ∧ W.cell? ⟨B, 4, none⟩ = some (.int .u8 (k2.toNat : Int)) ∧ W.cell? ⟨B, 5, none⟩ = some (.int .u8 (k3.toNat : Int)) ∧ W.cell? ⟨B, 6, none⟩ = some (.int .u8 (k4.toNat : Int)) ∧ W.cell? ⟨B, 9, none⟩ = some (.bool n1) ∧ W.cell? ⟨B, 10, none⟩ = some (.int .i64 n2) from by
      have h1 := (HH.out.kept hC).facts HI.out HQE.out
      have h2 := HBX.out W (HK1.out.trans (HH.out.keD hC) (fun _ h => h))
      exact ⟨h1.c1, h1.e3, h2.2.2.2.1, h2.2.2.2.2.1, h2.2.2.2.2.2.1, h2.2.2.2.2.2.2.1, h2.2.2.2.2.2.2.2.1, h2.2.2.2.2.2.2.2.2⟩)
    clear h1 hk1 hF hH hq b0 b1 b2 b3 b4 b5 b6 b9 b10
    by_cases hm : x.mask = 0
    · have hmb : ((x.mask : Int) == 0) = true := by simpa using hm
      have HRW := hid (show rWrite ⟨kind, tx, mask, ⟨k1, k2, k3, k4⟩, ⟨o1, o2⟩, ⟨n1, n2⟩⟩ x = ⟨x.n, x.mask, x.com, keysP (x.ws ++ [⟨⟨k1, k2, k3, k4⟩, ⟨n1, n2⟩⟩])⟩ from by unfold rWrite; rw [if_pos hm])
      clear hm
      go_wp2_with fail
      rw [← HBB.out]
      -- [rows one5]
      refine wp_region_chain [(24, .pointer (some ⟨A, 0, none⟩)), (25, .pointer (some ⟨A, 0, none⟩)), (26, .pointer (some ⟨A, 1, none⟩)), (27, .slice (some ⟨g, 0, none⟩) L.length c), (28, .int .i64 (i : Int)), (30, .pointer (some ⟨A, 0, none⟩)), (31, .pointer (some ⟨A, 0, none⟩)), (32, .pointer (some ⟨A, 1, none⟩)), (33, .slice (some ⟨g, 0, none⟩) L.length c), (34, .int .i64 (i : Int)), (35, .pointer (some ⟨g, i * 4, none⟩)), (36, .pointer (some ⟨g, i * 4 + 3, none⟩)), (37, .slice qa x.ws.length qc), (39, .pointer (some ⟨B, 3, none⟩)), (40, .agg #[.int .u8 (k1.toNat : Int), .int .u8 (k2.toNat : Int), .int .u8 (k3.toNat : Int), .int .u8 (k4.toNat : Int)]), (41, .pointer (some ⟨B, 9, none⟩)), (42, .agg #[.bool n1, .int .i64 n2]), (43, .agg #[.int .u8 (k1.toNat : Int), .int .u8 (k2.toNat : Int), .int .u8 (k3.toNat : Int), .int .u8 (k4.toNat : Int), .bool n1, .int .i64 n2]), (47, .pointer (some ⟨g, i * 4, none⟩)), (48, .pointer (some ⟨g, i * 4 + 3, none⟩))] [(0, .pointer (some ⟨A, 0, none⟩)), (3, .pointer (some ⟨B, 0, none⟩)), (4, .int .i64 (i : Int))] (fun w' => w'.cell? ⟨A, 1, none⟩ = some (.slice (some ⟨g, 0, none⟩) L.length c) ∧ w'.cell? ⟨g, i * 4 + 3, none⟩ = some (.slice qa x.ws.length qc) ∧ w'.cell? ⟨B, 3, none⟩ = some (.int .u8 (k1.toNat : Int)) ∧ w'.cell? ⟨B, 4, none⟩ = some (.int .u8 (k2.toNat : Int)) ∧ w'.cell? ⟨B, 5, none⟩ = some (.int .u8 (k3.toNat : Int)) ∧ w'.cell? ⟨B, 6, none⟩ = some (.int .u8 (k4.toNat : Int)) ∧ w'.cell? ⟨B, 9, none⟩ = some (.bool n1) ∧ w'.cell? ⟨B, 10, none⟩ = some (.int .i64 n2)) [5, 14, 20, 21, 22, 25] [[14, 5], [21, 14], [21, 20], [22, 21], [25, 22]] true [false, false, false, false, false, false, false, false, false, false, false, false, false, false, false, false, false, false, false, false, false, false, false, false, true, true, true, true, true, false, true, true, true, true, true, true, true, true, false, true, true, true, true, true, false, false, false, true, true, false, false, false, false, false, false, false, false, false, false, false, false, false, false, false, false, false, false, false, false, false, false, false, false, false, false, false, false, false, false, false, false, false, false, false, false, false, false, false, false, false, false, false, false, false, false, false, false, false, false, false, false, false, false, false, false, false, false, false, false, false, false, false, false, false, false, false, false, false, false, false, false, false, false, false, false, false, false, false, false, false, false, false, false, false, false, false] (by kernel_rfl) (by kernel_rfl) (by simp) (HC.out _ (Kept.refl [] w1).drew) ?_ ?_
      · refine ⟨.inr ?_, .inr ?_, .inr ?_, .inr ?_, .inr ?_, .inl rfl, .inr ?_, .inr ?_, .inr ?_, .inr ?_, .inr ?_, .inr ?_, .inr ?_, .inr ?_, .inl rfl, .inr ?_, .inr ?_, .inr ?_, .inr ?_, .inr ?_, .inl rfl, .inl rfl, .inl rfl, .inr ?_, .inr ?_, .inl rfl, trivial⟩
        all_goals
          intro a w' hC hF hO
          simp only [List.forall_mem_cons, List.forall_mem_nil, and_true, List.not_mem_nil, false_implies, implies_true] at hF hO
          obtain ⟨f24, f25, f26, f27, f28, f30, f31, f32, f33, f34, f35, f36, f37, f39, f40, f41, f42, f43, f47, f48⟩ := hF
          obtain ⟨o0, o3, o4⟩ := hO
          obtain ⟨y1, y2, y3, y4, y5, y6, y7, y8⟩ := hC
        all_goals first | ((first | rw [if_pos (wanted_none rfl)] | rw [if_pos (wanted_some rfl (yielded_of (o := _) rfl rfl (by assumption)))]); refine pure_q _ rfl ?_; go_simp; done)
      · intro us hF
        simp only [List.forall_mem_cons, List.forall_mem_nil, and_true, List.not_mem_nil, false_implies, implies_true] at hF
        obtain ⟨f24, f25, f26, f27, f28, f30, f31, f32, f33, f34, f35, f36, f37, f39, f40, f41, f42, f43, f47, f48⟩ := hF
        simp only [merge, Nat.reduceAdd, List.drop_succ_cons, List.drop_zero, f24, f25, f26, f27, f28, f30, f31, f32, f33, f34, f35, f36, f37, f39, f40, f41, f42, f43, f47, f48]
        clear f24 f25 f26 f27 f28 f30 f31 f32 f33 f34 f35 f36 f37 f39 f40 f41 f42 f43 f47 f48
        obtain ⟨W0, hW0⟩ : ∃ W0, W0 = w1.drew := ⟨_, rfl⟩
        have hk0 : Kept [] w1 W0 := by rw [hW0]; exact (Kept.refl [] w1).drew
        rw [← hW0]
        clear hW0
        refine wpE_more [5, 20] (by kernel_rfl) (List.forall_mem_cons.2 ⟨⟨_, rfl, rfl, ?_⟩, List.forall_mem_cons.2 ⟨⟨_, rfl, rfl, ?_⟩, fun _ h => nomatch h⟩⟩)
        go_simp
        obtain ⟨W1, hW1⟩ : ∃ W1, W1 = W0.alloc (.cells #[] 64) := ⟨_, rfl⟩
        have ho29 : W1.ownsRow w1.heap.size 64 6 (.slice (some ⟨W0.heap.size, 0, none⟩) 0 0) 0 [] := by rw [hW1]; exact ownsRow_base (ownsRow_made0 W0 64 6 W0.heap.size (Nat.le_refl _)) hk0.size
        have hs1 : Kept [] W0 W1 := by rw [hW1]; exact (Kept.refl [] _).alloc _
        obtain ⟨g29, hg29⟩ : ∃ g29, g29 = W0.heap.size := ⟨_, rfl⟩
        rw [← hg29] at ho29
        rw [← hW1, ← hg29]
        clear hW1 hg29
        have hk1 := hk0.trans hs1 (fun x hx => .inl hx)
        refine ⟨HC.out _ hk1, ?_⟩
        refine wpE_more [14, 20] (by kernel_rfl) (List.forall_mem_cons.2 ⟨⟨_, rfl, rfl, ?_⟩, List.forall_mem_cons.2 ⟨⟨_, rfl, rfl, ?_⟩, fun _ h => nomatch h⟩⟩)
        refine wp_append_e (.tmp 29) (.tmp 37) rfl w1.heap.size g29 rfl ho29 _ x.ws rfl (HQ.out.kept hk1) (by omega) hk1.size fun v38 W2 ho38 hs2 => ?_
        obtain ⟨a38, c38, rfl⟩ := ownsRow_slice ho38
        have hk2 := hk1.trans hs2 (fun x hx => .inl hx)
        refine ⟨_, rfl, .inr (HC.out _ hk2), ?_⟩
        refine wpE_one 20 _ (by kernel_rfl) rfl rfl ?_
        go_simp
        obtain ⟨W3, hW3⟩ : ∃ W3, W3 = W2.alloc (.cells (Pr.f (⟨⟨k1, k2, k3, k4⟩, ⟨n1, n2⟩⟩ : Pr)).toArray 64) := ⟨_, rfl⟩
        have hc44 : ∀ j u, (Pr.f (⟨⟨k1, k2, k3, k4⟩, ⟨n1, n2⟩⟩ : Pr))[j]? = some u → W3.cell? ⟨W2.heap.size, j, none⟩ = some u := by rw [hW3]; exact new_cell W2 (Pr.f (⟨⟨k1, k2, k3, k4⟩, ⟨n1, n2⟩⟩ : Pr)) 64
        have hs3 : Kept [] W2 W3 := by rw [hW3]; exact (Kept.refl [] _).alloc _
        simp only [Pr.f] at hW3
        obtain ⟨g44, hg44⟩ : ∃ g44, g44 = W2.heap.size := ⟨_, rfl⟩
        rw [← hg44] at hc44
        rw [← hW3, ← hg44]
        clear hW3 hg44
        have hk3 := hk2.trans hs3 (fun x hx => .inl hx)
        have ho38 := ownK_kept ho38 hs3 (fun _ _ => List.not_mem_nil)
        refine ⟨HC.out _ hk3, ?_⟩
        rotate_left
        go_simp
        obtain ⟨W2, hW2⟩ : ∃ W2, W2 = W1.alloc (.cells (Pr.f (⟨⟨k1, k2, k3, k4⟩, ⟨n1, n2⟩⟩ : Pr)).toArray 64) := ⟨_, rfl⟩
        have hc44 : ∀ j u, (Pr.f (⟨⟨k1, k2, k3, k4⟩, ⟨n1, n2⟩⟩ : Pr))[j]? = some u → W2.cell? ⟨W1.heap.size, j, none⟩ = some u := by rw [hW2]; exact new_cell W1 (Pr.f (⟨⟨k1, k2, k3, k4⟩, ⟨n1, n2⟩⟩ : Pr)) 64
        have hs2 : Kept [] W1 W2 := by rw [hW2]; exact (Kept.refl [] _).alloc _
        simp only [Pr.f] at hW2
        obtain ⟨g44, hg44⟩ : ∃ g44, g44 = W1.heap.size := ⟨_, rfl⟩
        rw [← hg44] at hc44
        rw [← hW2, ← hg44]
        clear hW2 hg44
        have hk2 := hk1.trans hs2 (fun x hx => .inl hx)
        have ho29 := ownK_kept ho29 hs2 (fun _ _ => List.not_mem_nil)
        refine ⟨HC.out _ hk2, ?_⟩
        refine wpE_one 14 _ (by kernel_rfl) rfl rfl ?_
        refine wp_append_e (.tmp 29) (.tmp 37) rfl w1.heap.size g29 rfl ho29 _ x.ws rfl (HQ.out.kept hk2) (by omega) hk2.size fun v38 W3 ho38 hs3 => ?_
        obtain ⟨a38, c38, rfl⟩ := ownsRow_slice ho38
        have hk3 := hk2.trans hs3 (fun x hx => .inl hx)
        have hc44 := fun j u h => hs3.cell (hc44 j u h) (by simp)
        refine ⟨_, rfl, .inr (HC.out _ hk3), ?_⟩
        rotate_left
        go_simp
        obtain ⟨W1, hW1⟩ : ∃ W1, W1 = W0.alloc (.cells (Pr.f (⟨⟨k1, k2, k3, k4⟩, ⟨n1, n2⟩⟩ : Pr)).toArray 64) := ⟨_, rfl⟩
        have hc44 : ∀ j u, (Pr.f (⟨⟨k1, k2, k3, k4⟩, ⟨n1, n2⟩⟩ : Pr))[j]? = some u → W1.cell? ⟨W0.heap.size, j, none⟩ = some u := by rw [hW1]; exact new_cell W0 (Pr.f (⟨⟨k1, k2, k3, k4⟩, ⟨n1, n2⟩⟩ : Pr)) 64
        have hs1 : Kept [] W0 W1 := by rw [hW1]; exact (Kept.refl [] _).alloc _
        simp only [Pr.f] at hW1
        obtain ⟨g44, hg44⟩ : ∃ g44, g44 = W0.heap.size := ⟨_, rfl⟩
        rw [← hg44] at hc44
        rw [← hW1, ← hg44]
        clear hW1 hg44
        have hk1 := hk0.trans hs1 (fun x hx => .inl hx)
        refine ⟨HC.out _ hk1, ?_⟩
        refine wpE_one 5 _ (by kernel_rfl) rfl rfl ?_
        go_simp
        obtain ⟨W2, hW2⟩ : ∃ W2, W2 = W1.alloc (.cells #[] 64) := ⟨_, rfl⟩
        have ho29 : W2.ownsRow w1.heap.size 64 6 (.slice (some ⟨W1.heap.size, 0, none⟩) 0 0) 0 [] := by rw [hW2]; exact ownsRow_base (ownsRow_made0 W1 64 6 W1.heap.size (Nat.le_refl _)) hk1.size
        have hs2 : Kept [] W1 W2 := by rw [hW2]; exact (Kept.refl [] _).alloc _
        obtain ⟨g29, hg29⟩ : ∃ g29, g29 = W1.heap.size := ⟨_, rfl⟩
        rw [← hg29] at ho29
        rw [← hW2, ← hg29]
        clear hW2 hg29
        have hk2 := hk1.trans hs2 (fun x hx => .inl hx)
        have hc44 := fun j u h => hs2.cell (hc44 j u h) (by simp)
        refine ⟨HC.out _ hk2, ?_⟩
        refine wpE_one 14 _ (by kernel_rfl) rfl rfl ?_
        refine wp_append_e (.tmp 29) (.tmp 37) rfl w1.heap.size g29 rfl ho29 _ x.ws rfl (HQ.out.kept hk2) (by omega) hk2.size fun v38 W3 ho38 hs3 => ?_
        obtain ⟨a38, c38, rfl⟩ := ownsRow_slice ho38
        have hk3 := hk2.trans hs3 (fun x hx => .inl hx)
        have hc44 := fun j u h => hs3.cell (hc44 j u h) (by simp)
        refine ⟨_, rfl, .inr (HC.out _ hk3), ?_⟩
        rotate_left
        all_goals
          refine wpE_one 21 _ (by kernel_rfl) rfl rfl ?_
          refine wp_append_is (.tmp 38) (.tmp 44) 23 rfl 64 _ 6 24 Tryz.underlying23 refPairInfo rfl (by decide) (by decide) w1.heap.size (.slice a38 x.ws.length c38) x.ws.length (x.ws.flatMap Pr.f) rfl ho38 ⟨g44, 0, none⟩ 1 1 (Pr.f (⟨⟨k1, k2, k3, k4⟩, ⟨n1, n2⟩⟩ : Pr)) rfl rfl (fun j u h => by rw [Addr.add_lit, Nat.zero_add]; exact hc44 j u h) (by simp [Pr.f, Value.oneCell']) (by omega) hk3.size ?_
          intro v5 W4 hown5 hgr5 hnil5
          have hk4 := hk3.grown_own ho38 hgr5 (Nat.le_refl _)
          have HKe := hid (rkeys_any v5 (x.ws ++ [(⟨⟨k1, k2, k3, k4⟩, ⟨n1, n2⟩⟩ : Pr)]) W4 (by have := SlAt.of_own hown5; simpa using this) (by simp; omega))
          obtain ⟨a5, c5, rfl⟩ := ownsRow_slice hown5
          refine ⟨_, rfl, .inr (HC.out _ hk4), ?_⟩
          clear hown5 hgr5 hnil5 ho38 hc44
          refine wpE_one 22 _ (by kernel_rfl) rfl rfl ?_
          go_simp
          refine HKe.out.mono ?_
          rintro e y ⟨v6, rfl, ho6, hn6, hk6⟩
          obtain ⟨a6, c6, rfl⟩ := ownsRow_slice ho6
          have HO6 := hid ho6
          have HK6 := hid (hk4.trans hk6 (fun x hx => .inl hx))
          refine ⟨HC.out _ HK6.out, ?_⟩
          have y6 := ((HH.out.kept HK6.out).facts HI.out HQE.out).e3
          have z6 := ((HH.out.kept HK6.out).facts HI.out HQE.out).fz (i * 4 + 3)
          have hg4 := hk4.size
          clear ho6 hn6 hk6 hk3 hk4
          refine wpE_one 25 _ (by kernel_rfl) rfl rfl ?_
          go_simp
          refine wpE_end ?_
      -- [end rows]
        all_goals
          go_wp2
          go_returns
          obtain ⟨r1, r2⟩ := (HH.out.kept HK6.out).set HI.out HQE.out (j := 3) (q' := (⟨x.n, x.mask, x.com, keysP (x.ws ++ [(⟨⟨k1, k2, k3, k4⟩, ⟨n1, n2⟩⟩ : Pr)])⟩, _)) (by omega) rfl (PrAt.of_own HO6.out rfl) (new_nb (own_from HO6.out) (by have := (HH.out.is.g.own.lt g rfl).2; omega))
          rw [HRW.out]
          exact ⟨rfl, RfAt.less ⟨_, _, _, r1⟩ HD.out, HK0.out.trans ((HK1.out.trans (HH.out.keD HK6.out) (fun _ h => h)).trans r2 (fun _ h => h)) HD.out⟩
    · have hmb : ((x.mask : Int) == 0) = false := by simpa using hm
      have hrw : rWrite ⟨kind, tx, mask, ⟨k1, k2, k3, k4⟩, ⟨o1, o2⟩, ⟨n1, n2⟩⟩ x = x := by unfold rWrite; rw [if_neg hm]
      have HRW := hid hrw
      clear hm hrw
      go_wp2_with fail
      go_returns
      rw [HRW.out, set_self HG.out]
      exact ⟨rfl, RfAt.less ⟨_, _, _, HH.out⟩ HD.out, HK0.out.trans HK1.out HD.out⟩
  · have hkb : (kind == 1) = false := by simpa using hk1
    rw [if_neg hk1]
    by_cases hk2 : kind = 2
    · have hkb2 : (kind == 2) = true := by simpa using hk2
      rw [if_pos hk2, HPUT.out]
      clear hk1 hk2 HRGO
      go_wp2_with (go_at_call 60; refine Here.mk ?_)
      refine Here.of ?_
      rw [← hwb]
      refine HRAT.out.mono ?_
      rintro e w1 ⟨rfl, h1, hk1⟩
      dsimp only
      obtain ⟨bv, g, c, L, qa, qc, hH, hi, hq⟩ := h1.row HG.out
      have HH := hid hH
      have HK1 := hid hk1
      have hF := hH.facts hi hq
      have HI := hid hi
      have HQE := hid hq
      have HQ := hid hF.pr.at'
      have HF := hid hF
      have hiz : (i : Int) < (L.length : Int) := by omega
      have c1 := hF.c1
      have e1 := hF.e1
      have e2 := hF.e2
      have HC := hid (fun W (hC : Kept [] w1 W) => show W.cell? ⟨A, 1, none⟩ = some (.slice (some ⟨g, 0, none⟩) L.length c) ∧ W.cell? ⟨B, 2, none⟩ = some (.int .u16 (mask : Int)) from by
        have h1 := (HH.out.kept hC).facts HI.out HQE.out
        have h2 := HBX.out W (HK1.out.trans (HH.out.keD hC) (fun _ h => h))
        exact ⟨h1.c1, h2.2.2.1⟩)
      clear h1 hk1 hF hH hq b0 b1 b2 b3 b4 b5 b6 b9 b10
      by_cases hm : x.mask = 0
      · have hmb : ((x.mask : Int) == 0) = true := by simpa using hm
        have HRW := hid (show rYes mask x = ⟨x.n, mask, x.com, x.ws⟩ from by unfold rYes; rw [if_pos hm])
        clear hm
        go_wp2_with fail
        rw [← HBB.out]
        -- [rows one9]
        refine wp_region_chain [(64, .pointer (some ⟨A, 0, none⟩)), (65, .pointer (some ⟨A, 0, none⟩)), (66, .pointer (some ⟨A, 1, none⟩)), (67, .slice (some ⟨g, 0, none⟩) L.length c), (68, .int .i64 (i : Int)), (69, .pointer (some ⟨B, 2, none⟩)), (70, .int .u16 (mask : Int)), (71, .pointer (some ⟨g, i * 4, none⟩)), (72, .pointer (some ⟨g, i * 4 + 1, none⟩))] [(0, .pointer (some ⟨A, 0, none⟩)), (3, .pointer (some ⟨B, 0, none⟩)), (5, .int .i64 (i : Int))] (fun w' => w'.cell? ⟨A, 1, none⟩ = some (.slice (some ⟨g, 0, none⟩) L.length c) ∧ w'.cell? ⟨B, 2, none⟩ = some (.int .u16 (mask : Int))) [9] [] true [false, false, false, false, false, false, false, false, false, false, false, false, false, false, false, false, false, false, false, false, false, false, false, false, false, false, false, false, false, false, false, false, false, false, false, false, false, false, false, false, false, false, false, false, false, false, false, false, false, false, false, false, false, false, false, false, false, false, false, false, false, false, false, false, true, true, true, true, true, true, true, true, true, false, false, false, false, false, false, false, false, false, false, false, false, false, false, false, false, false, false, false, false, false, false, false, false, false, false, false, false, false, false, false, false, false, false, false, false, false, false, false, false, false, false, false, false, false, false, false, false, false, false, false, false, false, false, false, false, false, false, false, false, false, false, false] (by kernel_rfl) (by kernel_rfl) (by simp) (HC.out _ (Kept.refl [] w1).drew) ?_ ?_
        · refine ⟨.inr ?_, .inr ?_, .inr ?_, .inr ?_, .inr ?_, .inr ?_, .inr ?_, .inr ?_, .inr ?_, .inl rfl, trivial⟩
          all_goals
            intro a w' hC hF hO
            simp only [List.forall_mem_cons, List.forall_mem_nil, and_true, List.not_mem_nil, false_implies, implies_true] at hF hO
            obtain ⟨f64, f65, f66, f67, f68, f69, f70, f71, f72⟩ := hF
            obtain ⟨o0, o3, o5⟩ := hO
            obtain ⟨y1, y2⟩ := hC
          all_goals first | ((first | rw [if_pos (wanted_none rfl)] | rw [if_pos (wanted_some rfl (yielded_of (o := _) rfl rfl (by assumption)))]); refine pure_q _ rfl ?_; go_simp; done)
        · intro us hF
          simp only [List.forall_mem_cons, List.forall_mem_nil, and_true, List.not_mem_nil, false_implies, implies_true] at hF
          obtain ⟨f64, f65, f66, f67, f68, f69, f70, f71, f72⟩ := hF
          simp only [merge, Nat.reduceAdd, List.drop_succ_cons, List.drop_zero, f64, f65, f66, f67, f68, f69, f70, f71, f72]
          clear f64 f65 f66 f67 f68 f69 f70 f71 f72
          have y6 := HF.out.e1
          have z6 := HF.out.fz (i * 4 + 1)
          refine wpE_one 9 _ (by kernel_rfl) rfl rfl ?_
          go_simp
          refine wpE_end ?_
        -- [end rows]
          go_wp2
          go_returns
          obtain ⟨r1, r2⟩ := HH.out.kept (Kept.refl [] w1).drew |>.set HI.out HQE.out (j := 1) (q' := (⟨x.n, mask, x.com, x.ws⟩, _)) (by omega) rfl (HF.out.pr.kept (Kept.refl [] w1).drew) HF.out.nb
          rw [HRW.out]
          exact ⟨rfl, RfAt.less ⟨_, _, _, r1⟩ HD.out, HK0.out.trans ((HK1.out.trans (HH.out.keD (Kept.refl [] w1).drew) (fun _ h => h)).trans r2 (fun _ h => h)) HD.out⟩
      · have hmb : ((x.mask : Int) == 0) = false := by simpa using hm
        have HRW := hid (show rYes mask x = x from by unfold rYes; rw [if_neg hm])
        clear hm
        go_wp2_with fail
        go_returns
        rw [HRW.out, set_self HG.out]
        exact ⟨rfl, RfAt.less ⟨_, _, _, HH.out⟩ HD.out, HK0.out.trans HK1.out HD.out⟩
    · have hkb2 : (kind == 2) = false := by simpa using hk2
      rw [if_neg hk2]
      by_cases hk4 : kind = 4
      · have hkb4 : (kind == 4) = true := by simpa using hk4
        rw [if_pos hk4, HPUT.out]
        clear hk1 hk2 hk4 HRGO
        go_wp2_with (go_at_call 60; refine Here.mk ?_)
        refine Here.of ?_
        rw [← hwb]
        refine HRAT.out.mono ?_
        rintro e w1 ⟨rfl, h1, hk1⟩
        dsimp only
        obtain ⟨bv, g, c, L, qa, qc, hH, hi, hq⟩ := h1.row HG.out
        have HH := hid hH
        have HK1 := hid hk1
        have hF := hH.facts hi hq
        have HI := hid hi
        have HQE := hid hq
        have HQ := hid hF.pr.at'
        have HF := hid hF
        have hiz : (i : Int) < (L.length : Int) := by omega
        have c1 := hF.c1
        have e1 := hF.e1
        have e2 := hF.e2
        have HC := hid (fun W (hC : Kept [] w1 W) => show W.cell? ⟨A, 0, none⟩ = some bv ∧ W.cell? ⟨A, 1, none⟩ = some (.slice (some ⟨g, 0, none⟩) L.length c) ∧ W.cell? ⟨g, i * 4 + 3, none⟩ = some (.slice qa x.ws.length qc) from by
          have h1 := (HH.out.kept hC).facts HI.out HQE.out
          have h2 := HBX.out W (HK1.out.trans (HH.out.keD hC) (fun _ h => h))
          exact ⟨h1.c0, h1.c1, h1.e3⟩)
        clear h1 hk1 hF hH hq b0 b1 b2 b3 b4 b5 b6 b9 b10
        by_cases hc : x.mask = 0 ∨ x.com = true
        · have HRW := hid (show rBase s.base x = s.base ∧ rCom x = x from by unfold rBase rCom; rw [if_pos hc, if_pos hc]; exact ⟨rfl, rfl⟩)
          have fin : RfAt w1 D A ⟨rBase s.base x, T.set i (rCom x)⟩ ∧ KeD D w w1 := by
            rw [HRW.out.1, HRW.out.2, set_self HG.out]
            exact ⟨RfAt.less ⟨_, _, _, HH.out⟩ HD.out, HK0.out.trans HK1.out HD.out⟩
          have FIN := hid fin
          clear fin
          by_cases hm : x.mask = 0
          · have hmb : ((x.mask : Int) == 0) = true := by simpa using hm
            have hmz : (x.mask : Int) = 0 := by omega
            clear hm hc
            go_wp2_with fail
            go_returns
            exact ⟨rfl, FIN.out.1, FIN.out.2⟩
          · have hmb : ((x.mask : Int) == 0) = false := by simpa using hm
            have hmz : ¬ (x.mask : Int) = 0 := by omega
            have hcc : x.com = true := hc.resolve_left hm
            rw [hcc] at e2
            clear hm hc hcc
            go_wp2_with fail
            go_returns
            exact ⟨rfl, FIN.out.1, FIN.out.2⟩
        · have hm : x.mask ≠ 0 := fun h => hc (.inl h)
          have hmb : ((x.mask : Int) == 0) = false := by simpa using hm
          have hmz : ¬ (x.mask : Int) = 0 := by omega
          have hcc : x.com = false := by cases h : x.com with
            | false => rfl
            | true => exact absurd (.inr h) hc
          have HRW := hid (show rBase s.base x = sortP (s.base ++ x.ws) ∧ rCom x = ⟨x.n, x.mask, true, []⟩ from by unfold rBase rCom; rw [if_neg hc, if_neg hc]; exact ⟨rfl, rfl⟩)
          have HOV := hid (fun W (hC : Kept [] w1 W) => rover_any bv (.slice qa x.ws.length qc) s.base x.ws W (((HH.out.kept hC).is.b).at') (HQ.out.kept hC) hb (by omega))
          obtain ⟨ba, bc, hbv⟩ : ∃ ba bc, bv = .slice ba s.base.length bc := by obtain ⟨a, c, e, _⟩ := HH.out.is.b.at'.ex; exact ⟨a, c, e⟩
          subst hbv
          rw [hcc] at e2
          clear hm hc hcc
          go_wp2_with fail
          rw [← HBB.out]
          -- [rows one13]
          refine wp_region_chain [(99, .pointer (some ⟨A, 0, none⟩)), (100, .pointer (some ⟨A, 0, none⟩)), (101, .pointer (some ⟨A, 0, none⟩)), (102, .pointer (some ⟨A, 0, none⟩)), (103, .slice ba s.base.length bc), (104, .pointer (some ⟨A, 0, none⟩)), (105, .pointer (some ⟨A, 0, none⟩)), (106, .pointer (some ⟨A, 1, none⟩)), (107, .slice (some ⟨g, 0, none⟩) L.length c), (108, .int .i64 (i : Int)), (109, .pointer (some ⟨g, i * 4, none⟩)), (110, .pointer (some ⟨g, i * 4 + 3, none⟩)), (111, .slice qa x.ws.length qc), (113, .pointer (some ⟨A, 0, none⟩)), (114, .pointer (some ⟨A, 0, none⟩))] [(0, .pointer (some ⟨A, 0, none⟩)), (6, .int .i64 (i : Int))] (fun w' => w'.cell? ⟨A, 0, none⟩ = some (.slice ba s.base.length bc) ∧ w'.cell? ⟨A, 1, none⟩ = some (.slice (some ⟨g, 0, none⟩) L.length c) ∧ w'.cell? ⟨g, i * 4 + 3, none⟩ = some (.slice qa x.ws.length qc)) [13, 16] [[16, 13]] true [false, false, false, false, false, false, false, false, false, false, false, false, false, false, false, false, false, false, false, false, false, false, false, false, false, false, false, false, false, false, false, false, false, false, false, false, false, false, false, false, false, false, false, false, false, false, false, false, false, false, false, false, false, false, false, false, false, false, false, false, false, false, false, false, false, false, false, false, false, false, false, false, false, false, false, false, false, false, false, false, false, false, false, false, false, false, false, false, false, false, false, false, false, false, false, false, false, false, false, true, true, true, true, true, true, true, true, true, true, true, true, true, false, true, true, false, false, false, false, false, false, false, false, false, false, false, false, false, false, false, false, false, false, false, false, false] (by kernel_rfl) (by kernel_rfl) (by simp) (HC.out _ (Kept.refl [] w1).drew) ?_ ?_
          · refine ⟨.inr ?_, .inr ?_, .inr ?_, .inr ?_, .inr ?_, .inr ?_, .inr ?_, .inr ?_, .inr ?_, .inr ?_, .inr ?_, .inr ?_, .inr ?_, .inl rfl, .inr ?_, .inr ?_, .inl rfl, trivial⟩
            all_goals
              intro a w' hC hF hO
              simp only [List.forall_mem_cons, List.forall_mem_nil, and_true, List.not_mem_nil, false_implies, implies_true] at hF hO
              obtain ⟨f99, f100, f101, f102, f103, f104, f105, f106, f107, f108, f109, f110, f111, f113, f114⟩ := hF
              obtain ⟨o0, o6⟩ := hO
              obtain ⟨y1, y2, y3⟩ := hC
            all_goals first | ((first | rw [if_pos (wanted_none rfl)] | rw [if_pos (wanted_some rfl (yielded_of (o := _) rfl rfl (by assumption)))]); refine pure_q _ rfl ?_; go_simp; done)
          · intro us hF
            simp only [List.forall_mem_cons, List.forall_mem_nil, and_true, List.not_mem_nil, false_implies, implies_true] at hF
            obtain ⟨f99, f100, f101, f102, f103, f104, f105, f106, f107, f108, f109, f110, f111, f113, f114⟩ := hF
            simp only [merge, Nat.reduceAdd, List.drop_succ_cons, List.drop_zero, f99, f100, f101, f102, f103, f104, f105, f106, f107, f108, f109, f110, f111, f113, f114]
            clear f99 f100 f101 f102 f103 f104 f105 f106 f107 f108 f109 f110 f111 f113 f114
            refine wpE_one 13 _ (by kernel_rfl) rfl rfl ?_
            go_simp
            refine (HOV.out _ (Kept.refl [] w1).drew).mono ?_
            rintro e y ⟨v2, rfl, ho2, _, hk2⟩
            obtain ⟨a2, c2, rfl⟩ := ownsRow_slice ho2
            have HO2 := hid ho2
            have HK2 := hid ((Kept.refl [] w1).drew.trans hk2 (fun x hx => .inl hx))
            refine ⟨HC.out _ HK2.out, ?_⟩
            have y6 := ((HH.out.kept HK2.out).facts HI.out HQE.out).c0
            have z6 := ((HH.out.kept HK2.out).facts HI.out HQE.out).z0
            clear ho2 hk2
            refine wpE_one 16 _ (by kernel_rfl) rfl rfl ?_
            go_simp
            refine wpE_end ?_
          -- [end rows]
            obtain ⟨r1, r2⟩ := (HH.out.kept HK2.out).setBase (PrAt.of_own HO2.out rfl) (new_nb (g := g) (own_from HO2.out) (HH.out.is.g.own.lt g rfl).2)
            have HR2 := hid ((HK1.out.trans (HH.out.keD HK2.out) (fun _ h => h)).trans r2 (fun _ h => h))
            obtain ⟨bv', g', c', L', qa', qc', hH', hi', hq'⟩ := r1.row HG.out
            have hF' := hH'.facts hi' hq'
            have HH' := hid hH'
            have HQ' := hid hq'
            have hiz' : (i : Int) < (L'.length : Int) := by omega
            have d1 := hF'.c1
            have d2 := hF'.e2
            have d3 := hF'.e3
            have f2 := hF'.fz (i * 4 + 2)
            have f3 := hF'.fz (i * 4 + 3)
            have ne1 : g' ≠ A := by have := hF'.ag; omega
            have ne2 : A ≠ g' := Ne.symm ne1
            clear r1 r2 hH' hF' hq' c1 e1 e2 y6 z6 hiz
            generalize y.setCell ⟨A, 0, none⟩ (.slice a2 (sortP (s.base ++ x.ws)).length c2) = W1 at *
            go_wp2
            go_returns
            obtain ⟨t1, t2⟩ := HH'.out.set hi' HQ'.out (j := 2) (q' := (⟨x.n, x.mask, true, x.ws⟩, .slice qa' x.ws.length qc')) (by omega) rfl (HH'.out.facts hi' HQ'.out).pr (HH'.out.facts hi' HQ'.out).nb
            obtain ⟨t3, t4⟩ := t1.set (x := ⟨x.n, x.mask, true, x.ws⟩) (qv := .slice qa' x.ws.length qc') (i := i) (by rw [List.length_set]; exact hi') (by simp) (j := 3) (q' := (⟨x.n, x.mask, true, []⟩, .slice none 0 0)) (by omega) rfl (PrAt.nil _) (fun a m cc hv => by cases hv)
            dsimp only at t3
            rw [List.set_set, List.set_set] at t3
            rw [HRW.out.1, HRW.out.2]
            exact ⟨rfl, RfAt.less ⟨_, _, _, t3⟩ HD.out, HK0.out.trans ((HR2.out.trans t2 (fun _ h => h)).trans t4 (fun _ h => h)) HD.out⟩
      · have hkb4 : (kind == 4) = false := by simpa using hk4
        rw [if_neg hk4]
        have HAT2 := hid (show RfAt wb D A s ∧ KeD D w wb from ⟨HAT.out.less HD.out, HK0.out⟩)
        by_cases hk5 : kind = 5 ∨ kind = 6
        · rw [if_pos hk5]
          clear HRAT hk1 hk2 hk4
          by_cases h5 : kind = 5
          · have hkb5 : (kind == 5) = true := by simpa using h5
            clear h5 hk5
            go_wp2_with (go_at_call 62; rw [← hwb]; refine HRGO.out.mono ?_; rintro e w1 ⟨rfl, h1, hk1⟩; have H1 := hid h1; have HK1 := hid hk1; clear h1 hk1)
            go_returns
            exact ⟨rfl, by simpa using H1.out.less HD.out, HK0.out.trans HK1.out HD.out⟩
          · have hkb5 : (kind == 5) = false := by simpa using h5
            have hkb6 : (kind == 6) = true := by simpa using hk5.resolve_left h5
            clear h5 hk5
            go_wp2_with (go_at_call 62; rw [← hwb]; refine HRGO.out.mono ?_; rintro e w1 ⟨rfl, h1, hk1⟩; have H1 := hid h1; have HK1 := hid hk1; clear h1 hk1)
            go_returns
            exact ⟨rfl, by simpa using H1.out.less HD.out, HK0.out.trans HK1.out HD.out⟩
        · rw [if_neg hk5]
          have hkb5 : (kind == 5) = false := by simpa using fun h => hk5 (.inl h)
          have hkb6 : (kind == 6) = false := by simpa using fun h => hk5 (.inr h)
          clear hk1 hk2 hk4 hk5
          go_wp2_with fail
          go_returns
          rw [← hwb]
          exact ⟨rfl, HAT2.out.1, HAT2.out.2⟩
--@@ end
end Go.Proofs.YtpcpeoejcnndhaaGreat
