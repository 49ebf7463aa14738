/- RedoEnds: the walk. -/
import Derived.Test.YtbkapjmomafjjaaM10
set_option linter.all false
namespace Go.Proofs.Ytbkapjmomafjjaa.redoEnds
open Go.RowKit Go.Shelf Go.Lib Go.Sort Go.Proofs Go.Proofs.Ytbkapjmomafjjaa
set_option linter.unusedVariables false
set_option linter.unusedSimpArgs false

--@@ concordatlaw11.RedoEnds
set_option maxHeartbeats 8000000 in
set_option maxRecDepth 100000 in
theorem walk (v0 : Value) (l : List Rc) (tx : Int) (w : World) (h0 : SlAt w v0 Rc.ps.length l.length (l.flatMap Rc.f)) (hok : ∀ x ∈ l, x.ok) (_ht : IntKind.i64.min ≤ tx ∧ tx ≤ IntKind.i64.max) :
    Calls Try.prog 7 #[v0, .int .i64 tx] w fun e w' => e = .returned (.bool true) ∧ Kept [] w w' := by
  clear _ht
  have H0 := hid (show SlAt w v0 11 l.length (l.flatMap Rc.f) from h0)
  obtain ⟨a, cap, rfl, hmax, _, _⟩ := h0.ex
  clear h0
  by_cases hlen : 100 < l.length
  · have hlenz : (100 : Int) < (l.length : Int) := by omega
    clear hok
    go_enter Try.func7, Try.ntmps7
    go_wp2_with (go_at_call 9; refine (alive11_any _).mono ?_; rintro e wa ⟨rfl, hka⟩)
    go_ret
    exact ⟨rfl, hka⟩
  have hlenz : (l.length : Int) ≤ 100 := by omega
  by_cases ht1 : tx < 1
  · clear hok
    go_enter Try.func7, Try.ntmps7
    go_wp2_with (go_at_call 9; refine (alive11_any _).mono ?_; rintro e wa ⟨rfl, hka⟩)
    go_ret
    exact ⟨rfl, hka⟩
  by_cases ht2 : 1048576 < tx
  · have ht1' : (1 : Int) ≤ tx := by omega
    clear ht1 hok
    go_enter Try.func7, Try.ntmps7
    go_wp2_with (go_at_call 9; refine (alive11_any _).mono ?_; rintro e wa ⟨rfl, hka⟩)
    go_ret
    exact ⟨rfl, hka⟩
  have htx1 : (1 : Int) ≤ tx := by omega
  have htx2 : tx ≤ (1048576 : Int) := by omega
  clear ht1 ht2
  have HRE := hid (fun W (hK : Kept [] w W) => replay_any _ l W (H0.out.kept hK) (by omega) hok)
  have HRA := hid (fun (c : Int) (hc : c = 5 ∨ c = 6) W v (h : SlAt W v 11 (l ++ [(⟨c, tx, 0, ⟨0, 0, 0, 0⟩, V.zero, V.zero⟩ : Rc)]).length ((l ++ [(⟨c, tx, 0, ⟨0, 0, 0, 0⟩, V.zero, V.zero⟩ : Rc)]).flatMap Rc.f)) => by
    have := replay_any v (l ++ [(⟨c, tx, 0, ⟨0, 0, 0, 0⟩, V.zero, V.zero⟩ : Rc)]) W h (by simp; omega) (fun r hr => by
      rcases List.mem_append.1 hr with hr | hr
      · exact hok r hr
      · rw [List.mem_singleton] at hr; subst hr; exact Nat.zero_le _)
    rw [law_ends l tx ⟨htx1, htx2⟩ c hc] at this
    exact this)
  have hsz := st_sizes l hok
  obtain ⟨S, hS⟩ : ∃ S, S = replayP l := ⟨_, rfl⟩
  rw [← hS] at HRE HRA hsz
  have hb1 : S.base.length ≤ 100 := by omega
  have hb2 : S.txs.length ≤ 100 := by omega
  have HX := hid (show ∀ x ∈ S.txs, x.ws.length ≤ 20000 from fun x hx => by have := hsz.2.2 x hx; omega)
  obtain ⟨S3, hS3⟩ : ∃ S3 : Stp, S3 = ⟨S.base, S.txs.filter fun x => decide (x.n ≠ tx)⟩ := ⟨_, rfl⟩
  rw [← hS3] at HRA
  have HS3 := hid hS3
  have h3b : S3.base.length ≤ 100 := by rw [hS3]; exact hb1
  have h3l : S3.txs.length ≤ 100 := by rw [hS3]; exact Nat.le_trans (List.length_filter_le _ _) hb2
  have HX3 := hid (show ∀ x ∈ S3.txs, x.ws.length ≤ 20000 from fun x hx => HX.out x (by rw [hS3] at hx; exact (List.mem_filter.1 hx).1))
  clear hS hok hsz hS3
  go_enter Try.func7, Try.ntmps7
  go_wp2_with (first
    | (go_at_call 9; refine (alive11_any _).mono ?_; rintro e wa ⟨rfl, hka⟩; have HKA := hid hka; clear hka)
    | (go_at_call 15; refine (HRE.out _ HKA.out).mono ?_; clear HRE; rintro e w1 ⟨bv, tv, rfl, hst, hk1⟩; obtain ⟨xa, xc, ya, yc, rfl, rfl⟩ := hst.slices; have HST := hid hst; have HK1 := hid (HKA.out.trans hk1 (fun x hx => .inl hx)); clear hst hk1))
  obtain ⟨L, hL, hSL, hP⟩ := HST.out.txs.ex
  have hll : S.txs.length = L.length := by rw [← hL, List.length_map]
  obtain ⟨ya', yc', hy, _, _, hyc⟩ := hSL.ex
  obtain rfl : ya = ya' := by injection hy
  obtain rfl : yc = yc' := by injection hy
  clear hy hSL
  have HLC := hid hyc
  have HP := hid hP
  have HL := hid hL
  have HLL := hid hll
  have hLl : L.length ≤ 100 := by omega
  clear hyc hP hL hll
  go_loopg [6] 2 (fun kx s6 wr => ∃ c : Int, s6 = .int .i64 c ∧ 5 ≤ c ∧ c ≤ 7 ∧ (7 - c).toNat ≤ kx ∧ Aside (Kept [] (w1.alloc (.cells #[.slice xa S.base.length xc, .slice ya S.txs.length yc] 32)) wr))
  case atStart => exact ⟨5, rfl, by omega, by omega, by omega, Kept.refl _ _⟩
  case round =>
    obtain ⟨c, rfl, hc5, hc7, hcx, HK⟩ := hrel
    have HKW := hid ((HK1.out.alloc _).trans HK.out (fun x hx => .inl hx))
    have HK1W := hid (show Kept [] w1 wr from ((Kept.refl [] w1).alloc _).trans HK.out (fun x hx => .inl hx))
    by_cases hlt : c ≤ 6
    · have HRC := hid (HRA.out c (by omega))
      go_wp2_with (at_builtin; refine Here.mk ?_)
      refine Here.of ?_
      refine wpList_append_rc rfl _ _ rfl wr.heap.size _ [] rfl (recs_made0 wr wr.heap.size (Nat.le_refl _)) _ l rfl (H0.out.kept (HKW.out.alloc _)) (by simp; omega) (by simp) ?_
      intro u1 x1 hown1 hgr1 hnn1
      have HO1 := hid (show x1.ownsRow wr.heap.size 43 11 u1 l.length (l.flatMap Rc.f) from hown1)
      have HKx1 := hid (((Kept.refl [] wr).alloc (.cells #[] 43)).grown_own (recs_made0 wr wr.heap.size (Nat.le_refl _)) hgr1 (Nat.le_refl _))
      clear hown1 hgr1 hnn1
      go_wp2_with (at_builtin; refine Here.mk ?_)
      refine Here.of ?_
      refine wpList_append_rc rfl _ _ rfl wr.heap.size _ l rfl (ownsRow_kept HO1.out ((Kept.refl [] x1).alloc _) (by simp)) _ [⟨c, tx, 0, ⟨0, 0, 0, 0⟩, V.zero, V.zero⟩] rfl (SlAt.rec1 x1 ⟨c, tx, 0, ⟨0, 0, 0, 0⟩, V.zero, V.zero⟩) (by simp; omega) (by have := HKx1.out.size; simp; omega) ?_
      intro u2 x2 hown2 hgr2 hnn2
      have HO2 := hid (SlAt.of_own hown2)
      have HKx2 := hid ((HKx1.out.alloc _).grown_own (ownsRow_kept HO1.out ((Kept.refl [] x1).alloc _) (by simp)) hgr2 (Nat.le_refl _))
      clear hown2 hgr2 hnn2 HO1
      go_wp2_with (go_at_call 15; refine (HRC.out _ _ HO2.out).mono ?_; clear HRC; rintro e x3 ⟨bv3, tv3, rfl, hst3, hk3⟩; obtain ⟨xa3, xc3, ya3, yc3, rfl, rfl⟩ := hst3.slices)
      have HST3 := hid hst3
      have HKx3 := hid (HKx2.out.trans hk3 (fun x hx => .inl hx))
      clear hst3 hk3 HO2
      have HAB := hid (fun W (hK : Kept [] (x3.alloc (.cells #[.slice xa3 S3.base.length xc3, .slice ya3 S3.txs.length yc3] 32)) W) => show (W.cell? ⟨w1.heap.size, 0, none⟩ = some (.slice xa S.base.length xc) ∧ W.cell? ⟨w1.heap.size, 1, none⟩ = some (.slice ya S.txs.length yc)) ∧ (W.cell? ⟨x3.heap.size, 0, none⟩ = some (.slice xa3 S3.base.length xc3) ∧ W.cell? ⟨x3.heap.size, 1, none⟩ = some (.slice ya3 S3.txs.length yc3)) from
        ⟨blk2 (HK.out.trans ((HKx3.out.alloc _).trans hK (fun x hx => .inl hx)) (fun x hx => .inl hx)), blk2 hK⟩)
      have HA := hid (fun W (hK : Kept [] (x3.alloc (.cells #[.slice xa3 S3.base.length xc3, .slice ya3 S3.txs.length yc3] 32)) W) => show Kept [] w1 W from HK1W.out.trans ((HKx3.out.alloc _).trans hK (fun x hx => .inl hx)) (fun x hx => .inl hx))
      have HOA := hid (fun W (hK : Kept [] w1 W) => stof_any _ _ S W (HST.out.kept hK).r (by omega) (by omega) HX.out)
      have HOB := hid (fun W (hK : Kept [] x3 W) => stof_any _ _ S3 W (HST3.out.kept hK).r (by omega) (by omega) HX3.out)
      have HSP := hid (fun W v1 v2 (h1 : SlAt W v1 6 S.base.length (S.base.flatMap Pr.f)) (h2 : SlAt W v2 6 S3.base.length (S3.base.flatMap Pr.f)) => by
        have := samePairs_any v1 v2 S.base S3.base W h1 h2
        rw [decide_eq_true (by rw [HS3.out])] at this
        exact this)
      have hfd := field_base
      have hke := (Kept.refl [] (x3.alloc (.cells #[.slice xa3 S3.base.length xc3, .slice ya3 S3.txs.length yc3] 32))).drew
      go_region_held3 (fun w' => (w'.cell? ⟨w1.heap.size, 0, none⟩ = some (.slice xa S.base.length xc) ∧ w'.cell? ⟨w1.heap.size, 1, none⟩ = some (.slice ya S.txs.length yc)) ∧ (w'.cell? ⟨x3.heap.size, 0, none⟩ = some (.slice xa3 S3.base.length xc3) ∧ w'.cell? ⟨x3.heap.size, 1, none⟩ = some (.slice ya3 S3.txs.length yc3)))
        ((exact HAB.out _ hke))
        (first
          | (go_at_call 18; refine (HOA.out _ (HA.out _ hke)).mono ?_; clear HOA; rintro e y1 ⟨ba1, ta1, rfl, hs1, hk1⟩; obtain ⟨oa, oc, pa, pc, rfl, rfl⟩ := hs1.slices; have hke := hke.trans hk1 (fun x hx => .inl hx))
          | (go_at_call 18; refine (HOB.out _ (((Kept.refl [] x3).alloc _).trans hke (fun x hx => .inl hx))).mono ?_; clear HOB; rintro e y2 ⟨ba2, ta2, rfl, hs2, hk2⟩; obtain ⟨oa2, oc2, pa2, pc2, rfl, rfl⟩ := hs2.slices; have hke := hke.trans hk2 (fun x hx => .inl hx); have hs1 := hs1.kept hk2)
          | (go_at_call 17; refine (HSP.out _ _ _ hs1.base.at' hs2.base.at').mono ?_; clear HSP; rintro e y3 ⟨rfl, hk3⟩; have hke := hke.trans hk3 (fun x hx => .inl hx)))
      have HKE := hid hke
      have HKY := hid (HA.out _ hke)
      have HK3Y := hid (show Kept [] x3 y3 from ((Kept.refl [] x3).alloc _).trans hke (fun x hx => .inl hx))
      clear hs1 hs2 hk1 hk2 hk3 hke
      rename World => y3
      go_wp2_with fail
      go_loopg [8, 9] L.length (fun kx s8 s9 wq => ∃ i : Nat, s9 = .int .i64 i ∧ i ≤ L.length ∧ L.length - i ≤ kx ∧ Aside (wq.ownsRow y3.heap.size 58 4 s8 ((L.take i).filter fun q => decide (q.1.n ≠ tx)).length (((L.take i).filter fun q => decide (q.1.n ≠ tx)).flatMap txF)) ∧ Aside (Kept [] y3 wq))
      case atStart => exact ⟨0, by first | rfl | go_num, by omega, by omega, ownsRow_made0 y3 58 4 y3.heap.size (Nat.le_refl _), (Kept.refl [] y3).alloc _⟩
      case round =>
        obtain ⟨i, rfl, hi, hix, HO, HKQ⟩ := hrel
        rename World => wq
        obtain ⟨⟨a0, a1⟩, ⟨b0, b1⟩⟩ := HAB.out wq (HKE.out.trans HKQ.out (fun x hx => .inl hx))
        have HLLo := HLL.out
        rw [HLLo] at a1
        clear HLLo
        have HK1Q := hid (HKY.out.trans HKQ.out (fun x hx => .inl hx))
        by_cases hlt2 : i < L.length
        · have hltz2 : (i : Int) < (L.length : Int) := by omega
          obtain ⟨b, off, rfl, _, d1⟩ := HLC.out (by omega)
          obtain ⟨e0, e1, e2, e3⟩ := tx_cells (fun j u hu => HK1Q.out.cell (d1 j u hu) (by simp)) hlt2
          have HT := hid (take_filt (fun q : Txp × Value => decide (q.1.n ≠ tx)) hlt2)
          have HFL := hid (show ((L.take i).filter fun q => decide (q.1.n ≠ tx)).length ≤ 100 from Nat.le_trans (List.length_filter_le _ _) (Nat.le_trans (List.length_take_le _ _) (by omega)))
          obtain ⟨qa, qc, hqv, _⟩ := (HP.out _ (List.getElem_mem hlt2)).at'.ex
          clear d1
          generalize L[i] = q at *
          obtain ⟨⟨n, mask, com, ws⟩, qv⟩ := q
          dsimp only at e0 e1 e2 e3 hqv HT
          subst hqv
          by_cases hn : n = tx
          · have hnb : (n != tx) = false := by simp [hn]
            have hTT : (L.take (i + 1)).filter (fun q => decide (q.1.n ≠ tx)) = (L.take i).filter fun q => decide (q.1.n ≠ tx) := by rw [HT.out]; simp [hn]
            have HTT := hid hTT
            clear hn hTT e1 e2 e3
            go_wp2
            go_roundg (L.length - (i + 1))
            case measure => omega
            case rel => exact ⟨i + 1, by first | rfl | go_num, by omega, Nat.le_refl _, by show World.ownsRow _ _ _ _ _ _ _; rw [HTT.out]; exact HO.out, HKQ.out⟩
          · have hnb : (n != tx) = true := by simpa using hn
            have hTT : (L.take (i + 1)).filter (fun q => decide (q.1.n ≠ tx)) = ((L.take i).filter fun q => decide (q.1.n ≠ tx)) ++ [((⟨n, mask, com, ws⟩ : Txp), Value.slice qa ws.length qc)] := by rw [HT.out]; simp [hn]
            have HTT := hid hTT
            clear hn hTT
            go_wp2_with (at_builtin; refine Here.mk ?_)
            refine Here.of ?_
            refine wpList_append_tx rfl _ _ rfl y3.heap.size _ _ rfl (ownsRow_kept HO.out ((Kept.refl [] wq).alloc _) (by simp)) _ ((⟨n, mask, com, ws⟩ : Txp), Value.slice qa ws.length qc) rfl (SlAt.new wq (txF ((⟨n, mask, com, ws⟩ : Txp), Value.slice qa ws.length qc)) 58 4 1 (by decide) rfl) rfl (by have := HFL.out; omega) (by have := HKQ.out.size; simp; omega) ?_
            intro v5 w5 hown5 hgr5
            have HK5 := hid ((HKQ.out.alloc _).grown_own (ownsRow_kept HO.out ((Kept.refl [] wq).alloc _) (by simp)) hgr5 (Nat.le_refl _))
            have HO5 := hid hown5
            clear hown5 hgr5
            go_wp2_with fail
            go_roundg (L.length - (i + 1))
            case measure => omega
            case rel => exact ⟨i + 1, by first | rfl | go_num, by omega, Nat.le_refl _, by show World.ownsRow _ _ _ _ _ _ _; rw [HTT.out]; exact HO5.out, HK5.out⟩
        · obtain rfl : i = L.length := by omega
          have hltz2 : ¬ (L.length : Int) < (L.length : Int) := by omega
          obtain ⟨za, zc, rfl⟩ := ownsRow_slice HO.out
          have hfe : L.take L.length = L := List.take_length
          have ho := HO.out
          rw [hfe] at ho
          have HTX := hid (show TxsAt wq (.slice za ((L.take L.length).filter fun q => decide (q.1.n ≠ tx)).length zc) S3.txs from ⟨L.filter fun q => decide (q.1.n ≠ tx), by rw [filt_map L (fun x => decide (x.n ≠ tx)), HL.out, HS3.out], by have := SlAt.of_own ho; rw [hfe]; exact this, fun q hq => (HP.out q (List.mem_filter.1 hq).1).kept HK1Q.out⟩)
          have HSX := hid (show StAt wq (.slice xa S.base.length xc) (.slice za ((L.take L.length).filter fun q => decide (q.1.n ≠ tx)).length zc) S3 from ⟨by have := (HST.out.kept HK1Q.out).base; rw [HS3.out]; exact this, HTX.out⟩)
          have HSY := hid (HST3.out.kept (HK3Y.out.trans HKQ.out (fun x hx => .inl hx)))
          have HSM := hid (same_one_any wq _ _ _ _ S3 S3 rfl HSY.out HSX.out)
          generalize ((L.take L.length).filter fun q => decide (q.1.n ≠ tx)).length = zn at *
          clear ho hfe HO HTX
          go_wp2_with (go_at_call 14; refine HSM.out.mono ?_; clear HSM; rintro e w6 ⟨rfl, hk6⟩)
          have HK6 := hid (HKE.out.trans (HKQ.out.trans hk6 (fun x hx => .inl hx)) (fun x hx => .inl hx))
          clear hk6 a0 a1 b0 b1
          have hw : (7 - (c + 1)).toNat + 1 ≤ (7 - c).toNat := by omega
          go_roundg (7 - (c + 1)).toNat
          case measure => omega
          case rel => exact ⟨c + 1, by first | rfl | go_num, by omega, by omega, Nat.le_refl _, HK.out.trans ((HKx3.out.alloc _).trans HK6.out (fun x hx => .inl hx)) (fun x hx => .inl hx)⟩
    · go_wp2
      go_returns
      exact ⟨rfl, HKW.out⟩
--@@ end
end Go.Proofs.Ytbkapjmomafjjaa.redoEnds
