/- The reference: is a state right? -/
import Derived.Test.YtpcpeoejcnndhaaGreatM11
import Derived.Test.YtpcpeoejcnndhaaGreatM2
set_option linter.all false
namespace Go.Proofs.YtpcpeoejcnndhaaGreat
open Go.RowKit Go.Shelf Go.Lib Go.Sort Go.Proofs
theorem rr_cons (b : Int) (x : Txp) (l : List Txp) : rRight.rightR b (x :: l) = ((decide (b < x.n) && decide (x.n ≤ 1048576) && decide (x.mask ≠ 0) && (!x.com || decide (x.ws.length = 0)) && decide (keysP x.ws = x.ws)) && ((x.ws.all fun p => p.val.right) && rRight.rightR x.n l)) := by
  simp only [rRight.rightR, Bool.and_assoc]
--@@ concordatref11.Right
set_option maxHeartbeats 8000000 in
set_option maxRecDepth 100000 in
theorem rfright_any (bv tv : Value) (s : Stp) (w : World) (h : RSt w bv tv s) (hb : s.base.length ≤ 1000) (hx : ∀ x ∈ s.txs, x.ws.length ≤ 1000) :
    Calls Tryz.prog 23 #[.agg #[bv, tv]] w fun e w' => e = .returned (.bool s.right) ∧ Kept [] w w' := by
  rw [← ref_right]
  obtain ⟨base, txs⟩ := s
  obtain ⟨L, hL, hS, hP⟩ := h.txs.ex
  have hbase := h.base
  obtain ⟨ba, bc, rfl, _⟩ := h.base.ex
  obtain ⟨ta, tc, rfl, htm, _, htc⟩ := hS.ex
  dsimp only at hL hb hx hbase ⊢
  have HB := hid (fun W (hK : Kept [] (w.alloc (.cells #[.slice ba base.length bc, .slice ta L.length tc] 26)) W) => blk2 hK)
  have HSO := hid (fun W (hK : Kept [] w W) => rsort_any (.slice ba base.length bc) base W (hbase.kept hK) (by omega))
  have HBS := hid hbase
  have HTC := hid htc
  have HP := hid hP
  have HL := hid hL
  have HX := hid hx
  obtain ⟨r, hr⟩ : ∃ r, r = rRight ⟨base, txs⟩ := ⟨_, rfl⟩
  rw [← hr]
  unfold rRight at hr
  dsimp only at hr
  obtain ⟨bad, hbad⟩ : ∃ bad, bad = !(decide (base.length ≤ 64) && decide (sortP base = base)) := ⟨_, rfl⟩
  have hr1 : r = (!bad && rRight.rightR 0 txs) := by rw [hr, hbad, Bool.not_not]
  have HR := hid hr1
  have HW0 := hid ((Kept.refl [] w).alloc (.cells #[.slice ba base.length bc, .slice ta L.length tc] 26))
  clear h hS hP hbase htc hL hx hr hr1
  go_enter Tryz.func23, Tryz.ntmps23
  go_upto_region 1 with (fail)
  generalize w.alloc (.cells #[.slice ba base.length bc, .slice ta L.length tc] 26) = W0 at *
  go_cut [18] (fun s18 wx => s18 = .bool bad ∧ Aside (Kept [] W0 wx))
  case first =>
    clear HTC HP HL HR HX
    obtain ⟨y0, y1⟩ := HB.out W0 (Kept.refl [] W0)
    by_cases h1 : base.length ≤ 64
    · have h1z : ¬ (64 : Int) < (base.length : Int) := by omega
      obtain ⟨d, hd⟩ : ∃ d, d = decide (sortP base = base) := ⟨_, rfl⟩
      have hbd : bad = !d := by rw [hbad, hd]; simp [h1]
      have HD := hid hd
      have HBD := hid hbd
      have hkd := (Kept.refl [] W0).drew
      clear hbad hd hbd h1 y0 y1
      go_region_held3 (fun w' => w'.cell? ⟨w.heap.size, 0, none⟩ = some (.slice ba base.length bc) ∧ w'.cell? ⟨w.heap.size, 1, none⟩ = some (.slice ta L.length tc))
        ((exact HB.out _ hkd))
        (first
          | (go_at_call 44; refine (HSO.out _ (HW0.out.trans hkd (fun x hx => .inl hx))).mono ?_; clear HSO; rintro e y1 ⟨v5, rfl, ho5, _, hk5⟩; obtain ⟨a5, c5, rfl⟩ := ownsRow_slice ho5; have hkd := hkd.trans hk5 (fun x hx => .inl hx))
          | (go_at_call 25; refine (samePairs_any _ _ (sortP base) base _ (SlAt.of_own ho5) (HBS.out.kept (HW0.out.trans hkd (fun x hx => .inl hx)))).mono ?_; rw [← HD.out]; rintro e y2 ⟨rfl, hk6⟩; have hkd := hkd.trans hk6 (fun x hx => .inl hx)))
      go_wp2
      go_meet
      exact ⟨by rw [HBD.out], hkd⟩
    · have h1z : (64 : Int) < (base.length : Int) := by omega
      have hbd : bad = true := by rw [hbad]; simp [h1]
      have HBD := hid hbd
      clear hbad hbd HSO h1
      go_quiet (fail)
      go_wp2
      go_meet
      exact ⟨by rw [HBD.out], (Kept.refl [] W0).drewN _⟩
  case rest =>
  obtain ⟨rfl, HK⟩ := hcut
  rename World => wb
  cases bad with
  | true =>
    have hrf : r = false := by rw [HR.out]; rfl
    have HRF := hid hrf
    clear hrf HR hbad
    go_wp2
    go_returns
    exact ⟨ret_bool HRF.out.symm, HW0.out.trans HK.out (fun x hx => .inl hx)⟩
  | false =>
  have hrt : r = rRight.rightR 0 txs := by rw [HR.out]; rfl
  have HRT := hid hrt
  obtain ⟨y0, y1⟩ := HB.out wb HK.out
  clear hrt HR hbad HSO HBS
  go_wp2
  go_loopg [3] L.length (fun kx s3 wr => ∃ (k : Nat) (lk : Int), s3 = .int .i64 k ∧ k ≤ L.length ∧ L.length - k ≤ kx ∧ Aside (0 ≤ lk ∧ (k = 0 → lk = 0) ∧ ∀ (h : k - 1 < L.length), 0 < k → L[k - 1].1.n = lk) ∧ Aside (r = rRight.rightR lk (txs.drop k)) ∧ Aside (Kept [] wb wr))
  case atStart => exact ⟨0, 0, by first | rfl | go_num, by omega, by omega, ⟨by omega, fun _ => rfl, fun _ h => by omega⟩, HRT.out, Kept.refl _ _⟩
  case round =>
    clear HRT y0 y1
    obtain ⟨k, lk, rfl, hk, hkx, HLK, HRT, HKR⟩ := hrel
    have HKB := hid (HK.out.trans HKR.out (fun x hx => .inl hx))
    have HKW := hid (HW0.out.trans HKB.out (fun x hx => .inl hx))
    obtain ⟨y0, y1⟩ := HB.out wr HKB.out
    have hll : txs.length = L.length := by rw [← HL.out, List.length_map]
    by_cases hlt : k < L.length
    · have hltz : (k : Int) < (L.length : Int) := by omega
      obtain ⟨tb, toff, rfl, _, d1⟩ := HTC.out (by omega)
      have HD1 := hid (fun (W : World) (hW : Kept [] wr W) (i : Nat) (hi : i < L.length) => tx_cells (fun j u hu => (HKW.out.trans hW (fun x hx => .inl hx)).cell (d1 j u hu) (by simp)) hi)
      obtain ⟨e0, e1, e2, e3⟩ := HD1.out wr (Kept.refl [] wr) k hlt
      have hdr : txs.drop k = L[k].1 :: txs.drop (k + 1) := by
        rw [List.drop_eq_getElem_cons (by omega)]
        congr 1
        simp [← HL.out]
      have HQ := hid (fun W (hW : Kept [] wr W) => (HP.out _ (List.getElem_mem hlt)).kept (HKW.out.trans hW (fun x hx => .inl hx)))
      have hwl : L[k].1.ws.length ≤ 1000 := HX.out _ (by rw [← HL.out]; exact List.mem_map_of_mem (List.getElem_mem hlt))
      have hLK := HLK.out
      have HRD := hid (HRT.out.trans (by rw [hdr, rr_cons]))
      have HNX := hid (show ∀ (h : k + 1 - 1 < L.length), 0 < k + 1 → L[k + 1 - 1].1.n = L[k].1.n from fun _ _ => rfl)
      have HPVk := hid (hLK.2.2)
      clear d1 hdr hll HRT HLK
      have hq : ∃ q, q = L[k] := ⟨_, rfl⟩
      generalize hqq : L[k] = q at *
      clear hq
      obtain ⟨⟨n, mask, com, ws⟩, qv⟩ := q
      dsimp only at e0 e1 e2 e3 hwl HQ HRD HNX
      obtain ⟨qa, qc, rfl, hwm, _⟩ := (HQ.out wr (Kept.refl [] wr)).ex
      obtain ⟨bad, hbad⟩ : ∃ bad, bad = !(decide (lk < n) && decide (n ≤ 1048576) && decide (mask ≠ 0) && (!com || decide (ws.length = 0)) && decide (keysP ws = ws)) := ⟨_, rfl⟩
      have HR2 := hid (HRD.out.trans (show _ = (!bad && ((ws.all fun p => p.val.right) && rRight.rightR n (txs.drop (k + 1)))) by rw [hbad, Bool.not_not]))
      have HQQ := hid hqq
      have HTB := hid (fun W (hW : Kept [] (wr.alloc (.cells #[.int .i64 n, .int .u16 (mask : Int), .bool com, .slice qa ws.length qc] 61)) W) => tx_box hW)
      have HW6 := hid ((Kept.refl [] wr).alloc (.cells #[.int .i64 n, .int .u16 (mask : Int), .bool com, .slice qa ws.length qc] 61))
      clear HRD hqq
      go_upto_region 7 with (fail)
      generalize wr.alloc (.cells #[.int .i64 n, .int .u16 (mask : Int), .bool com, .slice qa ws.length qc] 61) = W6 at *
      have HA1 := hid (fun W (hW : Kept [] W6 W) => (HB.out W (HKB.out.trans (HW6.out.trans hW (fun x hx => .inl hx)) (fun x hx => .inl hx))).2)
      clear e0 e1 e2 e3 y0 y1
      go_cut [78] (fun s78 wx => s78 = .bool bad ∧ Aside (Kept [] W6 wx))
      case first =>
        obtain ⟨a0, a1, a2, a3⟩ := HTB.out W6 (Kept.refl [] W6)
        have c1 := HA1.out W6 (Kept.refl [] W6)
        clear HR2 HQQ HNX hkx HX HP
        by_cases h1 : n < 1
        · have HBD := hid (show bad = true by rw [hbad]; simp; omega)
          clear hbad hLK
          go_quiet (fail)
          go_wp2
          go_meet
          exact ⟨by rw [HBD.out], (Kept.refl [] W6).drewN _⟩
        by_cases h2 : 1048576 < n
        · have HBD := hid (show bad = true by rw [hbad]; simp; omega)
          clear hbad hLK
          go_quiet (fail)
          go_wp2
          go_meet
          exact ⟨by rw [HBD.out], (Kept.refl [] W6).drewN _⟩
        by_cases h3 : mask = 0
        · have HBD := hid (show bad = true by rw [hbad]; simp [h3])
          have h3b : ((mask : Int) == 0) = true := by simpa using h3
          clear hbad hLK h3
          go_quiet (fail)
          go_wp2
          go_meet
          exact ⟨by rw [HBD.out], (Kept.refl [] W6).drewN _⟩
        have h3b : ((mask : Int) == 0) = false := by simpa using h3
        have hcl : (com = true ∧ ws.length ≠ 0) ∨ (com = false ∨ com = true ∧ ws.length = 0) := by
          cases com
          · exact .inr (.inl rfl)
          · by_cases hz : ws.length = 0
            · exact .inr (.inr ⟨rfl, hz⟩)
            · exact .inl ⟨rfl, hz⟩
        rcases hcl with ⟨rfl, hz⟩ | hcl
        · have HBD := hid (show bad = true by rw [hbad]; simp [hz])
          have hzb : 0 < ws.length := by omega
          clear hbad hLK h3 hz
          go_quiet (fail)
          go_wp2
          go_meet
          exact ⟨by rw [HBD.out], (Kept.refl [] W6).drewN _⟩
        obtain ⟨d, hd⟩ : ∃ d, d = decide (keysP ws = ws) := ⟨_, rfl⟩
        have HD := hid hd
        have HKE := hid (fun W (hW : Kept [] wr W) => rkeys_any (.slice qa ws.length qc) ws W (HQ.out W hW) (by omega))
        rcases Nat.eq_zero_or_pos k with rfl | hpos
        · have HBD := hid (show bad = !d by
            have := hLK.2.1 rfl
            rw [hbad, hd]
            rcases hcl with rfl | ⟨rfl, hz⟩
            · simp [h3, show lk < n by omega, show n ≤ 1048576 by omega]
            · simp [h3, hz, show lk < n by omega, show n ≤ 1048576 by omega])
          clear hbad hLK h3 hd HPVk
          rcases hcl with rfl | ⟨rfl, hz⟩
          · have HCC := hid (fun W (hW : Kept [] W6 W) => show W.cell? ⟨wr.heap.size, 0, none⟩ = some (.int .i64 n) ∧ W.cell? ⟨wr.heap.size, 1, none⟩ = some (.int .u16 (mask : Int)) ∧ W.cell? ⟨wr.heap.size, 2, none⟩ = some (.bool false) ∧ W.cell? ⟨wr.heap.size, 3, none⟩ = some (.slice qa ws.length qc) ∧ W.cell? ⟨w.heap.size, 1, none⟩ = some (.slice (some ⟨tb, toff, none⟩) L.length tc) from by
              obtain ⟨h0, h1, h2, h3⟩ := HTB.out W hW
              exact ⟨h0, h1, h2, h3, HA1.out W hW⟩)
            clear a0 a1 a2 a3 c1
            -- [rows rr00]
            refine wp_region_chainK [(31, .pointer (some ⟨wr.heap.size, 0, none⟩)), (32, .int .i64 n), (33, .bool false), (34, .bool false), (35, .pointer (some ⟨wr.heap.size, 0, none⟩)), (36, .int .i64 n), (37, .bool false), (38, .bool false), (39, .bool false), (40, .pointer (some ⟨wr.heap.size, 1, none⟩)), (41, .int .u16 (mask : Int)), (42, .bool false), (43, .bool false), (44, .bool false), (45, .pointer (some ⟨wr.heap.size, 2, none⟩)), (46, .bool false), (47, .bool false), (48, undef), (49, undef), (50, undef), (51, undef), (52, .bool false), (53, .bool false), (54, .bool false), (55, .int .i64 0), (56, .bool false), (57, .bool false), (58, undef), (59, undef), (60, undef), (61, undef), (62, undef), (63, undef), (64, undef), (65, undef), (66, undef), (67, undef), (68, .bool false), (69, .bool false), (70, .bool false), (71, .pointer (some ⟨wr.heap.size, 3, none⟩)), (72, .slice qa ws.length qc), (74, .pointer (some ⟨wr.heap.size, 3, none⟩)), (75, .slice qa ws.length qc), (76, .bool d), (77, .bool !d), (78, .bool !d)] [(1, .pointer (some ⟨w.heap.size, 0, none⟩)), (3, .int .i64 0), (4, .pointer (some ⟨wr.heap.size, 0, none⟩))] (fun w' => w'.cell? ⟨wr.heap.size, 0, none⟩ = some (.int .i64 n) ∧ w'.cell? ⟨wr.heap.size, 1, none⟩ = some (.int .u16 (mask : Int)) ∧ w'.cell? ⟨wr.heap.size, 2, none⟩ = some (.bool false) ∧ w'.cell? ⟨wr.heap.size, 3, none⟩ = some (.slice qa ws.length qc) ∧ w'.cell? ⟨w.heap.size, 1, none⟩ = some (.slice (some ⟨tb, toff, none⟩) L.length tc)) [42, 45] [[45, 42]] false [false, false, false, false, false, false, false, false, false, false, false, false, false, false, false, false, false, false, false, false, false, false, false, false, false, false, false, false, false, false, false, true, true, true, true, true, true, true, true, true, true, true, true, true, true, true, true, true, true, true, true, true, true, true, true, true, true, true, true, true, true, true, true, true, true, true, true, true, true, true, true, true, true, false, true, true, true, true, true, false, false, false, false, false, false, false, false, false, false, false, false, false, false, false] (by kernel_rfl) (by kernel_rfl) (by simp) (HCC.out _ (Kept.refl [] W6).drew) ?_ ?_
            · refine ⟨.inr ?_, .inr ?_, .inr ?_, .inr ?_, .inr ?_, .inr ?_, .inr ?_, .inr ?_, .inr ?_, .inr ?_, .inr ?_, .inr ?_, .inr ?_, .inr ?_, .inr ?_, .inr ?_, .inr ?_, .inr ?_, .inr ?_, .inr ?_, .inr ?_, .inr ?_, .inr ?_, .inr ?_, .inr ?_, .inr ?_, .inr ?_, .inr ?_, .inr ?_, .inr ?_, .inr ?_, .inr ?_, .inr ?_, .inr ?_, .inr ?_, .inr ?_, .inr ?_, .inr ?_, .inr ?_, .inr ?_, .inr ?_, .inr ?_, .inl rfl, .inr ?_, .inr ?_, .inl rfl, .inr ?_, .inr ?_, trivial⟩
              all_goals
                intro a w' hC hF hO
                simp only [List.forall_mem_cons, List.forall_mem_nil, and_true, List.not_mem_nil, false_implies, implies_true] at hF hO
                obtain ⟨f31, f32, f33, f34, f35, f36, f37, f38, f39, f40, f41, f42, f43, f44, f45, f46, f47, f48, f49, f50, f51, f52, f53, f54, f55, f56, f57, f58, f59, f60, f61, f62, f63, f64, f65, f66, f67, f68, f69, f70, f71, f72, f74, f75, f76, f77, f78⟩ := hF
                obtain ⟨o1, o3, o4⟩ := hO
                obtain ⟨y1, y2, y3, y4, y5⟩ := hC
              all_goals first | ((first | rw [if_pos (wanted_none rfl)] | rw [if_pos (wanted_some rfl (yielded_of (o := _) rfl rfl (by assumption)))]); refine pure_q _ rfl ?_; go_simp; done) | (rw [if_neg (by rw [show Region.wanted _ _ = false from want_no rfl (yielded_of (o := _) rfl rfl (by assumption)) (by decide)]; decide)]; exact rfl) | (rw [if_neg (by rw [show Region.wanted _ _ = false from want_lost rfl (yield_undef (o := _) rfl rfl (by assumption))]; decide)]; exact rfl)
            · intro us hF
              simp only [List.forall_mem_cons, List.forall_mem_nil, and_true, List.not_mem_nil, false_implies, implies_true] at hF
              obtain ⟨f31, f32, f33, f34, f35, f36, f37, f38, f39, f40, f41, f42, f43, f44, f45, f46, f47, f48, f49, f50, f51, f52, f53, f54, f55, f56, f57, f58, f59, f60, f61, f62, f63, f64, f65, f66, f67, f68, f69, f70, f71, f72, f74, f75, f76, f77, f78⟩ := hF
              simp only [merge, Nat.reduceAdd, List.drop_succ_cons, List.drop_zero, f31, f32, f33, f34, f35, f36, f37, f38, f39, f40, f41, f42, f43, f44, f45, f46, f47, f48, f49, f50, f51, f52, f53, f54, f55, f56, f57, f58, f59, f60, f61, f62, f63, f64, f65, f66, f67, f68, f69, f70, f71, f72, f74, f75, f76, f77, f78]
              clear f31 f32 f33 f34 f35 f36 f37 f38 f39 f40 f41 f42 f43 f44 f45 f46 f47 f48 f49 f50 f51 f52 f53 f54 f55 f56 f57 f58 f59 f60 f61 f62 f63 f64 f65 f66 f67 f68 f69 f70 f71 f72 f74 f75 f76 f77 f78
              refine wpK_one 42 _ (by kernel_rfl) rfl (wanted_some rfl (yielded_of (o := _) rfl rfl rfl)) ?_
              go_simp
              refine (HKE.out _ (HW6.out.trans (Kept.refl [] W6).drew (fun x hx => .inl hx))).mono ?_
              rintro e z1 ⟨v5, rfl, ho5, _, hk5⟩
              obtain ⟨a5, c5, rfl⟩ := ownsRow_slice ho5
              have hkd := (Kept.refl [] W6).drew.trans hk5 (fun x hx => .inl hx)
              refine ⟨HCC.out _ hkd, kn_none rfl, ?_⟩
              refine wpK_one 45 _ (by kernel_rfl) rfl (wanted_some rfl (yielded_of (o := _) rfl rfl rfl)) ?_
              go_simp
              refine (samePairs_any _ _ (keysP ws) ws _ (SlAt.of_own ho5) (HQ.out _ (HW6.out.trans hkd (fun x hx => .inl hx)))).mono ?_
              rw [← HD.out]
              rintro e z2 ⟨rfl, hk6⟩
              have hkd := hkd.trans hk6 (fun x hx => .inl hx)
              refine ⟨HCC.out _ hkd, kn_is rfl, ?_⟩
              refine wpK_end ?_
            -- [end rows]
              go_wp2
              go_meet
              exact ⟨by rw [HBD.out], hkd⟩
          · have hzb : ¬ 0 < ws.length := by omega
            have HCC := hid (fun W (hW : Kept [] W6 W) => show W.cell? ⟨wr.heap.size, 0, none⟩ = some (.int .i64 n) ∧ W.cell? ⟨wr.heap.size, 1, none⟩ = some (.int .u16 (mask : Int)) ∧ W.cell? ⟨wr.heap.size, 2, none⟩ = some (.bool true) ∧ W.cell? ⟨wr.heap.size, 3, none⟩ = some (.slice qa ws.length qc) ∧ W.cell? ⟨w.heap.size, 1, none⟩ = some (.slice (some ⟨tb, toff, none⟩) L.length tc) from by
              obtain ⟨h0, h1, h2, h3⟩ := HTB.out W hW
              exact ⟨h0, h1, h2, h3, HA1.out W hW⟩)
            clear a0 a1 a2 a3 c1 hz
            -- [rows rr10]
            refine wp_region_chainK [(31, .pointer (some ⟨wr.heap.size, 0, none⟩)), (32, .int .i64 n), (33, .bool false), (34, .bool false), (35, .pointer (some ⟨wr.heap.size, 0, none⟩)), (36, .int .i64 n), (37, .bool false), (38, .bool false), (39, .bool false), (40, .pointer (some ⟨wr.heap.size, 1, none⟩)), (41, .int .u16 (mask : Int)), (42, .bool false), (43, .bool false), (44, .bool false), (45, .pointer (some ⟨wr.heap.size, 2, none⟩)), (46, .bool true), (47, .bool true), (48, .pointer (some ⟨wr.heap.size, 3, none⟩)), (49, .slice qa ws.length qc), (50, .int .i64 (ws.length : Int)), (51, .bool false), (52, .bool false), (53, .bool false), (54, .bool false), (55, .int .i64 0), (56, .bool false), (57, .bool false), (58, undef), (59, undef), (60, undef), (61, undef), (62, undef), (63, undef), (64, undef), (65, undef), (66, undef), (67, undef), (68, .bool false), (69, .bool false), (70, .bool false), (71, .pointer (some ⟨wr.heap.size, 3, none⟩)), (72, .slice qa ws.length qc), (74, .pointer (some ⟨wr.heap.size, 3, none⟩)), (75, .slice qa ws.length qc), (76, .bool d), (77, .bool !d), (78, .bool !d)] [(1, .pointer (some ⟨w.heap.size, 0, none⟩)), (3, .int .i64 0), (4, .pointer (some ⟨wr.heap.size, 0, none⟩))] (fun w' => w'.cell? ⟨wr.heap.size, 0, none⟩ = some (.int .i64 n) ∧ w'.cell? ⟨wr.heap.size, 1, none⟩ = some (.int .u16 (mask : Int)) ∧ w'.cell? ⟨wr.heap.size, 2, none⟩ = some (.bool true) ∧ w'.cell? ⟨wr.heap.size, 3, none⟩ = some (.slice qa ws.length qc) ∧ w'.cell? ⟨w.heap.size, 1, none⟩ = some (.slice (some ⟨tb, toff, none⟩) L.length tc)) [42, 45] [[45, 42]] false [false, false, false, false, false, false, false, false, false, false, false, false, false, false, false, false, false, false, false, false, false, false, false, false, false, false, false, false, false, false, false, true, true, true, true, true, true, true, true, true, true, true, true, true, true, true, true, true, true, true, true, true, true, true, true, true, true, true, true, true, true, true, true, true, true, true, true, true, true, true, true, true, true, false, true, true, true, true, true, false, false, false, false, false, false, false, false, false, false, false, false, false, false, false] (by kernel_rfl) (by kernel_rfl) (by simp) (HCC.out _ (Kept.refl [] W6).drew) ?_ ?_
            · refine ⟨.inr ?_, .inr ?_, .inr ?_, .inr ?_, .inr ?_, .inr ?_, .inr ?_, .inr ?_, .inr ?_, .inr ?_, .inr ?_, .inr ?_, .inr ?_, .inr ?_, .inr ?_, .inr ?_, .inr ?_, .inr ?_, .inr ?_, .inr ?_, .inr ?_, .inr ?_, .inr ?_, .inr ?_, .inr ?_, .inr ?_, .inr ?_, .inr ?_, .inr ?_, .inr ?_, .inr ?_, .inr ?_, .inr ?_, .inr ?_, .inr ?_, .inr ?_, .inr ?_, .inr ?_, .inr ?_, .inr ?_, .inr ?_, .inr ?_, .inl rfl, .inr ?_, .inr ?_, .inl rfl, .inr ?_, .inr ?_, trivial⟩
              all_goals
                intro a w' hC hF hO
                simp only [List.forall_mem_cons, List.forall_mem_nil, and_true, List.not_mem_nil, false_implies, implies_true] at hF hO
                obtain ⟨f31, f32, f33, f34, f35, f36, f37, f38, f39, f40, f41, f42, f43, f44, f45, f46, f47, f48, f49, f50, f51, f52, f53, f54, f55, f56, f57, f58, f59, f60, f61, f62, f63, f64, f65, f66, f67, f68, f69, f70, f71, f72, f74, f75, f76, f77, f78⟩ := hF
                obtain ⟨o1, o3, o4⟩ := hO
                obtain ⟨y1, y2, y3, y4, y5⟩ := hC
              all_goals first | ((first | rw [if_pos (wanted_none rfl)] | rw [if_pos (wanted_some rfl (yielded_of (o := _) rfl rfl (by assumption)))]); refine pure_q _ rfl ?_; go_simp; done) | (rw [if_neg (by rw [show Region.wanted _ _ = false from want_no rfl (yielded_of (o := _) rfl rfl (by assumption)) (by decide)]; decide)]; exact rfl) | (rw [if_neg (by rw [show Region.wanted _ _ = false from want_lost rfl (yield_undef (o := _) rfl rfl (by assumption))]; decide)]; exact rfl)
            · intro us hF
              simp only [List.forall_mem_cons, List.forall_mem_nil, and_true, List.not_mem_nil, false_implies, implies_true] at hF
              obtain ⟨f31, f32, f33, f34, f35, f36, f37, f38, f39, f40, f41, f42, f43, f44, f45, f46, f47, f48, f49, f50, f51, f52, f53, f54, f55, f56, f57, f58, f59, f60, f61, f62, f63, f64, f65, f66, f67, f68, f69, f70, f71, f72, f74, f75, f76, f77, f78⟩ := hF
              simp only [merge, Nat.reduceAdd, List.drop_succ_cons, List.drop_zero, f31, f32, f33, f34, f35, f36, f37, f38, f39, f40, f41, f42, f43, f44, f45, f46, f47, f48, f49, f50, f51, f52, f53, f54, f55, f56, f57, f58, f59, f60, f61, f62, f63, f64, f65, f66, f67, f68, f69, f70, f71, f72, f74, f75, f76, f77, f78]
              clear f31 f32 f33 f34 f35 f36 f37 f38 f39 f40 f41 f42 f43 f44 f45 f46 f47 f48 f49 f50 f51 f52 f53 f54 f55 f56 f57 f58 f59 f60 f61 f62 f63 f64 f65 f66 f67 f68 f69 f70 f71 f72 f74 f75 f76 f77 f78
              refine wpK_one 42 _ (by kernel_rfl) rfl (wanted_some rfl (yielded_of (o := _) rfl rfl rfl)) ?_
              go_simp
              refine (HKE.out _ (HW6.out.trans (Kept.refl [] W6).drew (fun x hx => .inl hx))).mono ?_
              rintro e z1 ⟨v5, rfl, ho5, _, hk5⟩
              obtain ⟨a5, c5, rfl⟩ := ownsRow_slice ho5
              have hkd := (Kept.refl [] W6).drew.trans hk5 (fun x hx => .inl hx)
              refine ⟨HCC.out _ hkd, kn_none rfl, ?_⟩
              refine wpK_one 45 _ (by kernel_rfl) rfl (wanted_some rfl (yielded_of (o := _) rfl rfl rfl)) ?_
              go_simp
              refine (samePairs_any _ _ (keysP ws) ws _ (SlAt.of_own ho5) (HQ.out _ (HW6.out.trans hkd (fun x hx => .inl hx)))).mono ?_
              rw [← HD.out]
              rintro e z2 ⟨rfl, hk6⟩
              have hkd := hkd.trans hk6 (fun x hx => .inl hx)
              refine ⟨HCC.out _ hkd, kn_is rfl, ?_⟩
              refine wpK_end ?_
            -- [end rows]
              go_wp2
              go_meet
              exact ⟨by rw [HBD.out], hkd⟩
        · obtain ⟨K, rfl⟩ : ∃ K, k = K + 1 := ⟨k - 1, by omega⟩
          have hKl : K < L.length := by omega
          have hKz : (K : Int) < (L.length : Int) := by omega
          have hk0 : (0 : Int) < (K : Int) + 1 := by omega
          have hwK : IntKind.i64.wrap (K : Int) = (K : Int) := by rw [IntKind.wrap_i64]; omega
          have hwK1 : IntKind.i64.wrap ((K : Int) + 1 - 1) = (K : Int) := by rw [IntKind.wrap_i64]; omega
          have hpv := hLK.2.2 (by omega) hpos
          have HPV := hid (fun W (hW : Kept [] W6 W) => show W.cell? ⟨tb, toff + K * 4, none⟩ = some (.int .i64 lk) from by
            have h := (HD1.out W (HW6.out.trans hW (fun x hx => .inl hx)) K hKl).1
            rw [← hpv]; exact h)
          have p0 := HPV.out W6 (Kept.refl [] W6)
          by_cases h5 : n ≤ lk
          · have HBD := hid (show bad = true by rw [hbad]; simp; omega)
            clear hbad hLK h3 hd HPVk hpv
            rcases hcl with rfl | ⟨rfl, hz⟩
            · go_quiet (fail)
              go_wp2
              go_meet
              exact ⟨by rw [HBD.out], (Kept.refl [] W6).drewN _⟩
            · have hzb : ¬ 0 < ws.length := by omega
              clear hz
              go_quiet (fail)
              go_wp2
              go_meet
              exact ⟨by rw [HBD.out], (Kept.refl [] W6).drewN _⟩
          have HBD := hid (show bad = !d by
            rw [hbad, hd]
            rcases hcl with rfl | ⟨rfl, hz⟩
            · simp [h3, show lk < n by omega, show n ≤ 1048576 by omega]
            · simp [h3, hz, show lk < n by omega, show n ≤ 1048576 by omega])
          clear hbad hLK h3 hd HPVk hpv
          rcases hcl with rfl | ⟨rfl, hz⟩
          · have HCC := hid (fun W (hW : Kept [] W6 W) => show W.cell? ⟨wr.heap.size, 0, none⟩ = some (.int .i64 n) ∧ W.cell? ⟨wr.heap.size, 1, none⟩ = some (.int .u16 (mask : Int)) ∧ W.cell? ⟨wr.heap.size, 2, none⟩ = some (.bool false) ∧ W.cell? ⟨wr.heap.size, 3, none⟩ = some (.slice qa ws.length qc) ∧ W.cell? ⟨w.heap.size, 1, none⟩ = some (.slice (some ⟨tb, toff, none⟩) L.length tc) ∧ W.cell? ⟨tb, toff + K * 4, none⟩ = some (.int .i64 lk) from by
              obtain ⟨h0, h1, h2, h3⟩ := HTB.out W hW
              exact ⟨h0, h1, h2, h3, HA1.out W hW, HPV.out W hW⟩)
            clear a0 a1 a2 a3 c1 p0
            -- [rows rr01]
            refine wp_region_chainK [(31, .pointer (some ⟨wr.heap.size, 0, none⟩)), (32, .int .i64 n), (33, .bool false), (34, .bool false), (35, .pointer (some ⟨wr.heap.size, 0, none⟩)), (36, .int .i64 n), (37, .bool false), (38, .bool false), (39, .bool false), (40, .pointer (some ⟨wr.heap.size, 1, none⟩)), (41, .int .u16 (mask : Int)), (42, .bool false), (43, .bool false), (44, .bool false), (45, .pointer (some ⟨wr.heap.size, 2, none⟩)), (46, .bool false), (47, .bool false), (48, undef), (49, undef), (50, undef), (51, undef), (52, .bool false), (53, .bool false), (54, .bool false), (55, .int .i64 ((K : Int) + 1)), (56, .bool true), (57, .bool true), (58, .pointer (some ⟨wr.heap.size, 0, none⟩)), (59, .int .i64 n), (60, .pointer (some ⟨w.heap.size, 1, none⟩)), (61, .slice (some ⟨tb, toff, none⟩) L.length tc), (62, .int .i64 ((K : Int) + 1)), (63, .int .i64 (K : Int)), (64, .pointer (some ⟨tb, toff + K * 4, none⟩)), (65, .pointer (some ⟨tb, toff + K * 4, none⟩)), (66, .int .i64 lk), (67, .bool false), (68, .bool false), (69, .bool false), (70, .bool false), (71, .pointer (some ⟨wr.heap.size, 3, none⟩)), (72, .slice qa ws.length qc), (74, .pointer (some ⟨wr.heap.size, 3, none⟩)), (75, .slice qa ws.length qc), (76, .bool d), (77, .bool !d), (78, .bool !d)] [(1, .pointer (some ⟨w.heap.size, 0, none⟩)), (3, .int .i64 ((K : Int) + 1)), (4, .pointer (some ⟨wr.heap.size, 0, none⟩))] (fun w' => w'.cell? ⟨wr.heap.size, 0, none⟩ = some (.int .i64 n) ∧ w'.cell? ⟨wr.heap.size, 1, none⟩ = some (.int .u16 (mask : Int)) ∧ w'.cell? ⟨wr.heap.size, 2, none⟩ = some (.bool false) ∧ w'.cell? ⟨wr.heap.size, 3, none⟩ = some (.slice qa ws.length qc) ∧ w'.cell? ⟨w.heap.size, 1, none⟩ = some (.slice (some ⟨tb, toff, none⟩) L.length tc) ∧ w'.cell? ⟨tb, toff + K * 4, none⟩ = some (.int .i64 lk)) [42, 45] [[45, 42]] false [false, false, false, false, false, false, false, false, false, false, false, false, false, false, false, false, false, false, false, false, false, false, false, false, false, false, false, false, false, false, false, true, true, true, true, true, true, true, true, true, true, true, true, true, true, true, true, true, true, true, true, true, true, true, true, true, true, true, true, true, true, true, true, true, true, true, true, true, true, true, true, true, true, false, true, true, true, true, true, false, false, false, false, false, false, false, false, false, false, false, false, false, false, false] (by kernel_rfl) (by kernel_rfl) (by simp) (HCC.out _ (Kept.refl [] W6).drew) ?_ ?_
            · refine ⟨.inr ?_, .inr ?_, .inr ?_, .inr ?_, .inr ?_, .inr ?_, .inr ?_, .inr ?_, .inr ?_, .inr ?_, .inr ?_, .inr ?_, .inr ?_, .inr ?_, .inr ?_, .inr ?_, .inr ?_, .inr ?_, .inr ?_, .inr ?_, .inr ?_, .inr ?_, .inr ?_, .inr ?_, .inr ?_, .inr ?_, .inr ?_, .inr ?_, .inr ?_, .inr ?_, .inr ?_, .inr ?_, .inr ?_, .inr ?_, .inr ?_, .inr ?_, .inr ?_, .inr ?_, .inr ?_, .inr ?_, .inr ?_, .inr ?_, .inl rfl, .inr ?_, .inr ?_, .inl rfl, .inr ?_, .inr ?_, trivial⟩
              all_goals
                intro a w' hC hF hO
                simp only [List.forall_mem_cons, List.forall_mem_nil, and_true, List.not_mem_nil, false_implies, implies_true] at hF hO
                obtain ⟨f31, f32, f33, f34, f35, f36, f37, f38, f39, f40, f41, f42, f43, f44, f45, f46, f47, f48, f49, f50, f51, f52, f53, f54, f55, f56, f57, f58, f59, f60, f61, f62, f63, f64, f65, f66, f67, f68, f69, f70, f71, f72, f74, f75, f76, f77, f78⟩ := hF
                obtain ⟨o1, o3, o4⟩ := hO
                obtain ⟨y1, y2, y3, y4, y5, y6⟩ := hC
              all_goals first | ((first | rw [if_pos (wanted_none rfl)] | rw [if_pos (wanted_some rfl (yielded_of (o := _) rfl rfl (by assumption)))]); refine pure_q _ rfl ?_; go_simp; done) | (rw [if_neg (by rw [show Region.wanted _ _ = false from want_no rfl (yielded_of (o := _) rfl rfl (by assumption)) (by decide)]; decide)]; exact rfl) | (rw [if_neg (by rw [show Region.wanted _ _ = false from want_lost rfl (yield_undef (o := _) rfl rfl (by assumption))]; decide)]; exact rfl)
            · intro us hF
              simp only [List.forall_mem_cons, List.forall_mem_nil, and_true, List.not_mem_nil, false_implies, implies_true] at hF
              obtain ⟨f31, f32, f33, f34, f35, f36, f37, f38, f39, f40, f41, f42, f43, f44, f45, f46, f47, f48, f49, f50, f51, f52, f53, f54, f55, f56, f57, f58, f59, f60, f61, f62, f63, f64, f65, f66, f67, f68, f69, f70, f71, f72, f74, f75, f76, f77, f78⟩ := hF
              simp only [merge, Nat.reduceAdd, List.drop_succ_cons, List.drop_zero, f31, f32, f33, f34, f35, f36, f37, f38, f39, f40, f41, f42, f43, f44, f45, f46, f47, f48, f49, f50, f51, f52, f53, f54, f55, f56, f57, f58, f59, f60, f61, f62, f63, f64, f65, f66, f67, f68, f69, f70, f71, f72, f74, f75, f76, f77, f78]
              clear f31 f32 f33 f34 f35 f36 f37 f38 f39 f40 f41 f42 f43 f44 f45 f46 f47 f48 f49 f50 f51 f52 f53 f54 f55 f56 f57 f58 f59 f60 f61 f62 f63 f64 f65 f66 f67 f68 f69 f70 f71 f72 f74 f75 f76 f77 f78
              refine wpK_one 42 _ (by kernel_rfl) rfl (wanted_some rfl (yielded_of (o := _) rfl rfl rfl)) ?_
              go_simp
              refine (HKE.out _ (HW6.out.trans (Kept.refl [] W6).drew (fun x hx => .inl hx))).mono ?_
              rintro e z1 ⟨v5, rfl, ho5, _, hk5⟩
              obtain ⟨a5, c5, rfl⟩ := ownsRow_slice ho5
              have hkd := (Kept.refl [] W6).drew.trans hk5 (fun x hx => .inl hx)
              refine ⟨HCC.out _ hkd, kn_none rfl, ?_⟩
              refine wpK_one 45 _ (by kernel_rfl) rfl (wanted_some rfl (yielded_of (o := _) rfl rfl rfl)) ?_
              go_simp
              refine (samePairs_any _ _ (keysP ws) ws _ (SlAt.of_own ho5) (HQ.out _ (HW6.out.trans hkd (fun x hx => .inl hx)))).mono ?_
              rw [← HD.out]
              rintro e z2 ⟨rfl, hk6⟩
              have hkd := hkd.trans hk6 (fun x hx => .inl hx)
              refine ⟨HCC.out _ hkd, kn_is rfl, ?_⟩
              refine wpK_end ?_
            -- [end rows]
              go_wp2
              go_meet
              exact ⟨by rw [HBD.out], hkd⟩
          · have hzb : ¬ 0 < ws.length := by omega
            have HCC := hid (fun W (hW : Kept [] W6 W) => show W.cell? ⟨wr.heap.size, 0, none⟩ = some (.int .i64 n) ∧ W.cell? ⟨wr.heap.size, 1, none⟩ = some (.int .u16 (mask : Int)) ∧ W.cell? ⟨wr.heap.size, 2, none⟩ = some (.bool true) ∧ W.cell? ⟨wr.heap.size, 3, none⟩ = some (.slice qa ws.length qc) ∧ W.cell? ⟨w.heap.size, 1, none⟩ = some (.slice (some ⟨tb, toff, none⟩) L.length tc) ∧ W.cell? ⟨tb, toff + K * 4, none⟩ = some (.int .i64 lk) from by
              obtain ⟨h0, h1, h2, h3⟩ := HTB.out W hW
              exact ⟨h0, h1, h2, h3, HA1.out W hW, HPV.out W hW⟩)
            clear a0 a1 a2 a3 c1 hz p0
            -- [rows rr11]
            refine wp_region_chainK [(31, .pointer (some ⟨wr.heap.size, 0, none⟩)), (32, .int .i64 n), (33, .bool false), (34, .bool false), (35, .pointer (some ⟨wr.heap.size, 0, none⟩)), (36, .int .i64 n), (37, .bool false), (38, .bool false), (39, .bool false), (40, .pointer (some ⟨wr.heap.size, 1, none⟩)), (41, .int .u16 (mask : Int)), (42, .bool false), (43, .bool false), (44, .bool false), (45, .pointer (some ⟨wr.heap.size, 2, none⟩)), (46, .bool true), (47, .bool true), (48, .pointer (some ⟨wr.heap.size, 3, none⟩)), (49, .slice qa ws.length qc), (50, .int .i64 (ws.length : Int)), (51, .bool false), (52, .bool false), (53, .bool false), (54, .bool false), (55, .int .i64 ((K : Int) + 1)), (56, .bool true), (57, .bool true), (58, .pointer (some ⟨wr.heap.size, 0, none⟩)), (59, .int .i64 n), (60, .pointer (some ⟨w.heap.size, 1, none⟩)), (61, .slice (some ⟨tb, toff, none⟩) L.length tc), (62, .int .i64 ((K : Int) + 1)), (63, .int .i64 (K : Int)), (64, .pointer (some ⟨tb, toff + K * 4, none⟩)), (65, .pointer (some ⟨tb, toff + K * 4, none⟩)), (66, .int .i64 lk), (67, .bool false), (68, .bool false), (69, .bool false), (70, .bool false), (71, .pointer (some ⟨wr.heap.size, 3, none⟩)), (72, .slice qa ws.length qc), (74, .pointer (some ⟨wr.heap.size, 3, none⟩)), (75, .slice qa ws.length qc), (76, .bool d), (77, .bool !d), (78, .bool !d)] [(1, .pointer (some ⟨w.heap.size, 0, none⟩)), (3, .int .i64 ((K : Int) + 1)), (4, .pointer (some ⟨wr.heap.size, 0, none⟩))] (fun w' => w'.cell? ⟨wr.heap.size, 0, none⟩ = some (.int .i64 n) ∧ w'.cell? ⟨wr.heap.size, 1, none⟩ = some (.int .u16 (mask : Int)) ∧ w'.cell? ⟨wr.heap.size, 2, none⟩ = some (.bool true) ∧ w'.cell? ⟨wr.heap.size, 3, none⟩ = some (.slice qa ws.length qc) ∧ w'.cell? ⟨w.heap.size, 1, none⟩ = some (.slice (some ⟨tb, toff, none⟩) L.length tc) ∧ w'.cell? ⟨tb, toff + K * 4, none⟩ = some (.int .i64 lk)) [42, 45] [[45, 42]] false [false, false, false, false, false, false, false, false, false, false, false, false, false, false, false, false, false, false, false, false, false, false, false, false, false, false, false, false, false, false, false, true, true, true, true, true, true, true, true, true, true, true, true, true, true, true, true, true, true, true, true, true, true, true, true, true, true, true, true, true, true, true, true, true, true, true, true, true, true, true, true, true, true, false, true, true, true, true, true, false, false, false, false, false, false, false, false, false, false, false, false, false, false, false] (by kernel_rfl) (by kernel_rfl) (by simp) (HCC.out _ (Kept.refl [] W6).drew) ?_ ?_
            · refine ⟨.inr ?_, .inr ?_, .inr ?_, .inr ?_, .inr ?_, .inr ?_, .inr ?_, .inr ?_, .inr ?_, .inr ?_, .inr ?_, .inr ?_, .inr ?_, .inr ?_, .inr ?_, .inr ?_, .inr ?_, .inr ?_, .inr ?_, .inr ?_, .inr ?_, .inr ?_, .inr ?_, .inr ?_, .inr ?_, .inr ?_, .inr ?_, .inr ?_, .inr ?_, .inr ?_, .inr ?_, .inr ?_, .inr ?_, .inr ?_, .inr ?_, .inr ?_, .inr ?_, .inr ?_, .inr ?_, .inr ?_, .inr ?_, .inr ?_, .inl rfl, .inr ?_, .inr ?_, .inl rfl, .inr ?_, .inr ?_, trivial⟩
              all_goals
                intro a w' hC hF hO
                simp only [List.forall_mem_cons, List.forall_mem_nil, and_true, List.not_mem_nil, false_implies, implies_true] at hF hO
                obtain ⟨f31, f32, f33, f34, f35, f36, f37, f38, f39, f40, f41, f42, f43, f44, f45, f46, f47, f48, f49, f50, f51, f52, f53, f54, f55, f56, f57, f58, f59, f60, f61, f62, f63, f64, f65, f66, f67, f68, f69, f70, f71, f72, f74, f75, f76, f77, f78⟩ := hF
                obtain ⟨o1, o3, o4⟩ := hO
                obtain ⟨y1, y2, y3, y4, y5, y6⟩ := hC
              all_goals first | ((first | rw [if_pos (wanted_none rfl)] | rw [if_pos (wanted_some rfl (yielded_of (o := _) rfl rfl (by assumption)))]); refine pure_q _ rfl ?_; go_simp; done) | (rw [if_neg (by rw [show Region.wanted _ _ = false from want_no rfl (yielded_of (o := _) rfl rfl (by assumption)) (by decide)]; decide)]; exact rfl) | (rw [if_neg (by rw [show Region.wanted _ _ = false from want_lost rfl (yield_undef (o := _) rfl rfl (by assumption))]; decide)]; exact rfl)
            · intro us hF
              simp only [List.forall_mem_cons, List.forall_mem_nil, and_true, List.not_mem_nil, false_implies, implies_true] at hF
              obtain ⟨f31, f32, f33, f34, f35, f36, f37, f38, f39, f40, f41, f42, f43, f44, f45, f46, f47, f48, f49, f50, f51, f52, f53, f54, f55, f56, f57, f58, f59, f60, f61, f62, f63, f64, f65, f66, f67, f68, f69, f70, f71, f72, f74, f75, f76, f77, f78⟩ := hF
              simp only [merge, Nat.reduceAdd, List.drop_succ_cons, List.drop_zero, f31, f32, f33, f34, f35, f36, f37, f38, f39, f40, f41, f42, f43, f44, f45, f46, f47, f48, f49, f50, f51, f52, f53, f54, f55, f56, f57, f58, f59, f60, f61, f62, f63, f64, f65, f66, f67, f68, f69, f70, f71, f72, f74, f75, f76, f77, f78]
              clear f31 f32 f33 f34 f35 f36 f37 f38 f39 f40 f41 f42 f43 f44 f45 f46 f47 f48 f49 f50 f51 f52 f53 f54 f55 f56 f57 f58 f59 f60 f61 f62 f63 f64 f65 f66 f67 f68 f69 f70 f71 f72 f74 f75 f76 f77 f78
              refine wpK_one 42 _ (by kernel_rfl) rfl (wanted_some rfl (yielded_of (o := _) rfl rfl rfl)) ?_
              go_simp
              refine (HKE.out _ (HW6.out.trans (Kept.refl [] W6).drew (fun x hx => .inl hx))).mono ?_
              rintro e z1 ⟨v5, rfl, ho5, _, hk5⟩
              obtain ⟨a5, c5, rfl⟩ := ownsRow_slice ho5
              have hkd := (Kept.refl [] W6).drew.trans hk5 (fun x hx => .inl hx)
              refine ⟨HCC.out _ hkd, kn_none rfl, ?_⟩
              refine wpK_one 45 _ (by kernel_rfl) rfl (wanted_some rfl (yielded_of (o := _) rfl rfl rfl)) ?_
              go_simp
              refine (samePairs_any _ _ (keysP ws) ws _ (SlAt.of_own ho5) (HQ.out _ (HW6.out.trans hkd (fun x hx => .inl hx)))).mono ?_
              rw [← HD.out]
              rintro e z2 ⟨rfl, hk6⟩
              have hkd := hkd.trans hk6 (fun x hx => .inl hx)
              refine ⟨HCC.out _ hkd, kn_is rfl, ?_⟩
              refine wpK_end ?_
            -- [end rows]
              go_wp2
              go_meet
              exact ⟨by rw [HBD.out], hkd⟩
      case rest =>
      obtain ⟨rfl, HKX⟩ := hcut
      rename World => wx
      have HKXR := hid (HW6.out.trans HKX.out (fun x hx => .inl hx))
      obtain ⟨a0, a1, a2, a3⟩ := HTB.out wx HKX.out
      clear HD1 HPVk HX HP
      cases bad with
      | true =>
        have hrf : r = false := by rw [HR2.out]; rfl
        have HRF := hid hrf
        clear hrf HR2 hbad a0 a1 a2 a3
        go_wp2
        go_returns
        exact ⟨ret_bool HRF.out.symm, HKW.out.trans HKXR.out (fun x hx => .inl hx)⟩
      | false =>
      have HGD := hid (show lk < n by
        simp only [Bool.false_eq, Bool.not_eq_false', Bool.and_eq_true, decide_eq_true_eq] at hbad
        exact hbad.1.1.1.1)
      have HR3 := hid (show r = ((ws.all fun p => p.val.right) && rRight.rightR n (txs.drop (k + 1))) by rw [HR2.out, Bool.not_false, Bool.true_and])
      have HLK0 := hid hLK.1
      clear hbad HR2 hLK a0 a1 a2
      go_wp2
      go_loopg [5] ws.length (fun kx s5 wj => ∃ j : Nat, s5 = .int .i64 j ∧ j ≤ ws.length ∧ ws.length - j ≤ kx ∧ Aside (∀ i (h : i < ws.length), i < j → ws[i].val.right = true) ∧ Aside (Kept [] wx wj))
      case atStart => exact ⟨0, by first | rfl | go_num, by omega, by omega, (fun i h hi => by omega), Kept.refl _ _⟩
      case round =>
        clear a3
        obtain ⟨j, rfl, hj, hjx, HRI, HKJ⟩ := hrel
        rename World => wj
        have HKT := hid (HKX.out.trans HKJ.out (fun x hx => .inl hx))
        have HKRJ := hid (HKXR.out.trans HKJ.out (fun x hx => .inl hx))
        obtain ⟨_, _, _, a3⟩ := HTB.out wj HKT.out
        by_cases hlj : j < ws.length
        · have hljz : (j : Int) < (ws.length : Int) := by omega
          obtain ⟨_, _, e, _, _, hcs⟩ := (HQ.out wj HKRJ.out).ex
          cases e
          obtain ⟨pb, poff, rfl, _, hcs⟩ := hcs (by omega)
          obtain ⟨_, _, _, _, q4, q5⟩ := pair_cells hcs hlj
          have HRT := hid (rright_any ws[j].val)
          have HRJ := hid (show ∀ b, ws[j].val.right = b → (b = true → ∀ i (h : i < ws.length), i < j + 1 → ws[i].val.right = true) ∧ (b = false → (ws.all fun p => p.val.right) = false) from fun b hb => ⟨fun e i h hi => by
            by_cases hij : i = j
            · subst hij; rw [hb, e]
            · exact HRI.out i h (by omega), fun e => by
            rw [List.all_eq_false]
            exact ⟨ws[j], List.getElem_mem hlj, by rw [hb, e]; simp⟩⟩)
          obtain ⟨rb, hrb⟩ : ∃ rb, ws[j].val.right = rb := ⟨_, rfl⟩
          have HJB := hid (HRJ.out rb hrb)
          rw [hrb] at HRT
          clear hcs hrb HRJ
          generalize ws[j] = p at *
          obtain ⟨pk, ⟨p1, p2⟩⟩ := p
          dsimp only at q4 q5 HRT
          simp only [V.v] at HRT
          cases rb with
          | true =>
            go_wp2_with (go_at_call 46; refine (HRT.out _).mono ?_; clear HRT; rintro e w3 ⟨rfl, hk3⟩; have HK3 := hid (HKJ.out.trans hk3 (fun x hx => .inl hx)); clear hk3)
            go_roundg (ws.length - (j + 1))
            case measure => omega
            case rel => exact ⟨j + 1, by first | rfl | go_num, by omega, Nat.le_refl _, (by first | exact HJB.out.1 rfl | exact HJB.out.1 trivial), HK3.out⟩
          | false =>
            have hrf : r = false := by rw [HR3.out, HJB.out.2 rfl]; rfl
            have HRF := hid hrf
            clear hrf HR3
            go_wp2_with (go_at_call 46; refine (HRT.out _).mono ?_; clear HRT; rintro e w3 ⟨rfl, hk3⟩; have HK3 := hid (HKRJ.out.trans hk3 (fun x hx => .inl hx)); clear hk3)
            go_returns
            exact ⟨ret_bool HRF.out.symm, HKW.out.trans HK3.out (fun x hx => .inl hx)⟩
        · obtain rfl : j = ws.length := by omega
          have hljz : ¬ (ws.length : Int) < (ws.length : Int) := by omega
          have hall : (ws.all fun p => p.val.right) = true := List.all_eq_true.2 fun p hp => by
            obtain ⟨i, hi, rfl⟩ := List.mem_iff_getElem.1 hp
            exact HRI.out i hi hi
          have hr4 : r = rRight.rightR n (txs.drop (k + 1)) := by rw [HR3.out, hall, Bool.true_and]
          have HR4 := hid hr4
          clear hall hr4 HR3
          go_wp2
          go_roundg (L.length - (k + 1))
          case measure => omega
          case rel => exact ⟨k + 1, n, by first | rfl | go_num, by omega, Nat.le_refl _, ⟨by have := HLK0.out; have := HGD.out; omega, fun h => by omega, fun h _ => (HNX.out h (by omega)).trans (congrArg (fun q => q.1.n) HQQ.out)⟩, HR4.out, HKR.out.trans HKRJ.out (fun x hx => .inl hx)⟩
    · obtain rfl : k = L.length := by omega
      have hltz : ¬ (L.length : Int) < (L.length : Int) := by omega
      have hrt : r = true := by rw [HRT.out, List.drop_of_length_le (by omega)]; rfl
      have HRX := hid hrt
      clear hrt hll
      go_wp2
      go_returns
      exact ⟨ret_bool HRX.out.symm, HKW.out⟩
--@@ end
end Go.Proofs.YtpcpeoejcnndhaaGreat
