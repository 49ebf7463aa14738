/- RedoRests: the walk. -/
import Derived.Test.YtbkapjmomafjjaaM10
set_option linter.all false
namespace Go.Proofs.Ytbkapjmomafjjaa.redoRests
open Go.RowKit Go.Shelf Go.Lib Go.Sort Go.Proofs Go.Proofs.Ytbkapjmomafjjaa
set_option linter.unusedVariables false
set_option linter.unusedSimpArgs false

--@@ concordatlaw11.RedoRests
set_option maxHeartbeats 8000000 in
set_option maxRecDepth 100000 in
theorem walk (v0 : Value) (l : List Rc) (tx : Int) (w : World) (h0 : SlAt w v0 Rc.ps.length l.length (l.flatMap Rc.f)) (hok : ∀ x ∈ l, x.ok) (_ht : IntKind.i64.min ≤ tx ∧ tx ≤ IntKind.i64.max) :
    Calls Try.prog 8 #[v0, .int .i64 tx] w fun e w' => e = .returned (.bool true) ∧ Kept [] w w' := by
  clear _ht
  have H0 := hid (show SlAt w v0 11 l.length (l.flatMap Rc.f) from h0)
  obtain ⟨a, cap, rfl, hmax, _, hc⟩ := h0.ex
  have HC := hid hc
  clear h0 hc
  by_cases hlen : 100 < l.length
  · have hlenz : (100 : Int) < (l.length : Int) := by omega
    clear hok
    go_enter Try.func8, Try.ntmps8
    go_wp2_with (go_at_call 9; refine (alive11_any _).mono ?_; rintro e wa ⟨rfl, hka⟩)
    go_ret
    exact ⟨rfl, hka⟩
  have hlenz : (l.length : Int) ≤ 100 := by omega
  have HRE := hid (fun W (hK : Kept [] w W) => replay_any _ l W (H0.out.kept hK) (by omega) hok)
  have HRF := hid (fun W v (h : SlAt W v 11 (l.filter fun r => decide (r.tx = tx)).length ((l.filter fun r => decide (r.tx = tx)).flatMap Rc.f)) => replay_any v (l.filter fun r => decide (r.tx = tx)) W h (Nat.le_trans (List.length_filter_le _ _) (by omega)) (fun r hr => hok r (List.mem_filter.1 hr).1))
  have HLAW := hid (fun hk => law_rests l tx hk)
  have hsz := st_sizes l hok
  obtain ⟨S, hS⟩ : ∃ S, S = replayP l := ⟨_, rfl⟩
  obtain ⟨S3, hS3⟩ : ∃ S3, S3 = replayP (l.filter fun r => decide (r.tx = tx)) := ⟨_, rfl⟩
  rw [← hS] at HRE HLAW hsz
  rw [← hS3] at HRF HLAW
  have hb2 : S.txs.length ≤ 100 := by omega
  clear hS hS3 hok hsz
  go_enter Try.func8, Try.ntmps8
  go_wp2_with (go_at_call 9; refine (alive11_any _).mono ?_; rintro e wa ⟨rfl, hka⟩; have HKA := hid hka; clear hka)
  go_loopg [5, 6] l.length (fun kx s5 s6 wr => ∃ i : Nat, s6 = .int .i64 i ∧ i ≤ l.length ∧ l.length - i ≤ kx ∧ Aside (wr.ownsRow wa.heap.size 43 11 s5 ((l.take i).filter fun r => decide (r.tx = tx)).length (((l.take i).filter fun r => decide (r.tx = tx)).flatMap Rc.f)) ∧ Aside (Kept [] wa wr) ∧ Aside (∀ r ∈ l.take i, r.kind ≠ 8 ∧ r.kind ≠ 7))
  case atStart => exact ⟨0, by first | rfl | go_num, by omega, by omega, recs_made0 wa wa.heap.size (Nat.le_refl _), (Kept.refl [] wa).alloc _, fun r hr => by simp at hr⟩
  case round =>
    obtain ⟨i, rfl, hi, hix, HO, HK, HN⟩ := hrel
    have HKW := hid (HKA.out.trans HK.out (fun x hx => .inl hx))
    by_cases hlt : i < l.length
    · have hltz : (i : Int) < (l.length : Int) := by omega
      obtain ⟨b, off, rfl, _, d1⟩ := HC.out (by omega)
      obtain ⟨q0, q1, q2, q3, q4, q5, q6, q7, q8, q9, q10⟩ := rec_cells (fun j u hu => HKW.out.cell (d1 j u hu) (by simp)) hlt
      have HT := hid (take_filt (fun r : Rc => decide (r.tx = tx)) hlt)
      have HT2 := hid (show l.take (i + 1) = l.take i ++ [l[i]] by rw [List.take_succ_eq_append_getElem hlt])
      have HFL := hid (show ((l.take i).filter fun r => decide (r.tx = tx)).length ≤ 100 from Nat.le_trans (List.length_filter_le _ _) (Nat.le_trans (List.length_take_le _ _) (by omega)))
      clear d1
      generalize l[i] = r at *
      obtain ⟨kind, rtx, mask, ⟨k1, k2, k3, k4⟩, ⟨o1, o2⟩, ⟨n1, n2⟩⟩ := r
      dsimp only at q0 q1 q2 q3 q4 q5 q6 q7 q8 q9 q10 HT
      by_cases h8 : kind = 8
      · subst h8
        clear q1 q2 q3 q4 q5 q6 q7 q8 q9 q10
        go_wp2
        go_returns
        exact ⟨rfl, HKW.out⟩
      by_cases h7 : kind = 7
      · subst h7
        clear q1 q2 q3 q4 q5 q6 q7 q8 q9 q10
        go_wp2
        go_returns
        exact ⟨rfl, HKW.out⟩
      have b8 : (kind == 8) = false := by simpa using h8
      have b7 : (kind == 7) = false := by simpa using h7
      have HN2 := hid (show ∀ r ∈ l.take (i + 1), r.kind ≠ 8 ∧ r.kind ≠ 7 from fun r hr => by
        rw [HT2.out] at hr
        rcases List.mem_append.1 hr with hr | hr
        · exact HN.out r hr
        · rw [List.mem_singleton] at hr; subst hr; exact ⟨h8, h7⟩)
      clear h8 h7 HN
      by_cases hn : rtx = tx
      · have hnb : (rtx == tx) = true := by simpa using hn
        have hTT : (l.take (i + 1)).filter (fun r => decide (r.tx = tx)) = ((l.take i).filter fun r => decide (r.tx = tx)) ++ [⟨kind, rtx, mask, ⟨k1, k2, k3, k4⟩, ⟨o1, o2⟩, ⟨n1, n2⟩⟩] := by rw [HT.out]; simp [hn]
        have HTT := hid hTT
        clear hn hTT HT HT2
        go_wp2_with (at_builtin; refine Here.mk ?_)
        refine Here.of ?_
        refine wpList_append_rc rfl _ _ rfl wa.heap.size _ _ rfl (ownsRow_kept HO.out ((Kept.refl [] wr).alloc _) (by simp)) _ [⟨kind, rtx, mask, ⟨k1, k2, k3, k4⟩, ⟨o1, o2⟩, ⟨n1, n2⟩⟩] rfl (SlAt.rec1 wr ⟨kind, rtx, mask, ⟨k1, k2, k3, k4⟩, ⟨o1, o2⟩, ⟨n1, n2⟩⟩) (by have := HFL.out; simp; omega) (by have := HK.out.size; simp; omega) ?_
        intro v5 w5 hown5 hgr5 _
        have HK5 := hid ((HK.out.alloc _).grown_own (ownsRow_kept HO.out ((Kept.refl [] wr).alloc _) (by simp)) hgr5 (Nat.le_refl _))
        have HO5 := hid hown5
        clear hown5 hgr5
        go_wp2_with fail
        go_roundg (l.length - (i + 1))
        case measure => omega
        case rel => exact ⟨i + 1, by first | rfl | go_num, by omega, Nat.le_refl _, by show World.ownsRow _ _ _ _ _ _ _; rw [HTT.out]; exact HO5.out, HK5.out, HN2.out⟩
      · have hnb : (rtx == tx) = false := by simpa using hn
        have hTT : (l.take (i + 1)).filter (fun r => decide (r.tx = tx)) = (l.take i).filter fun r => decide (r.tx = tx) := by rw [HT.out]; simp [hn]
        have HTT := hid hTT
        clear hn hTT HT HT2 q2 q3 q4 q5 q6 q7 q8 q9 q10
        go_wp2
        go_roundg (l.length - (i + 1))
        case measure => omega
        case rel => exact ⟨i + 1, by first | rfl | go_num, by omega, Nat.le_refl _, by show World.ownsRow _ _ _ _ _ _ _; rw [HTT.out]; exact HO.out, HK.out, HN2.out⟩
    · obtain rfl : i = l.length := by omega
      have hltz : ¬ (l.length : Int) < (l.length : Int) := by omega
      have ho := HO.out
      have hn := HN.out
      rw [List.take_length] at ho hn
      have HSL := hid (SlAt.of_own ho)
      have HLW := hid (HLAW.out hn)
      obtain ⟨fa, fc, hfv⟩ := ownsRow_slice HO.out
      subst hfv
      rw [List.take_length] at *
      generalize (l.filter fun r => decide (r.tx = tx)).length = fl at *
      clear ho hn HO HN HLAW
      go_wp2_with (first
        | (go_at_call 15; refine (HRE.out _ HKW.out).mono ?_; clear HRE; rintro e w1 ⟨bv, tv, rfl, hst, hk1⟩; obtain ⟨xa, xc, ya, yc, rfl, rfl⟩ := hst.slices; have HST := hid hst; have HK1 := hid hk1; clear hst hk1)
        | (go_at_call 15; refine (HRF.out _ _ (HSL.out.kept (HK1.out.alloc _))).mono ?_; clear HRF; rintro e w2 ⟨bv2, tv2, rfl, hst2, hk2⟩; obtain ⟨xa2, xc2, ya2, yc2, rfl, rfl⟩ := hst2.slices; have HST2 := hid hst2; have HK2 := hid hk2; clear hst2 hk2))
      have HKW1 := hid (HKW.out.trans HK1.out (fun x hx => .inl hx))
      obtain ⟨L, hL, hSL, hP⟩ := HST.out.txs.ex
      have hll : S.txs.length = L.length := by rw [← hL, List.length_map]
      obtain ⟨ya', yc', hy, _, _, hyc⟩ := hSL.ex
      obtain rfl : ya = ya' := by injection hy
      obtain rfl : yc = yc' := by injection hy
      clear hy hSL
      have HLC := hid hyc
      have HP := hid hP
      have HL := hid hL
      have HLL := hid hll
      have hLl : L.length ≤ 100 := by omega
      clear hyc hP hL hll
      have HAB := hid (fun W (hK : Kept [] (w2.alloc (.cells #[.slice xa2 S3.base.length xc2, .slice ya2 S3.txs.length yc2] 32)) W) => show (W.cell? ⟨w1.heap.size, 0, none⟩ = some (.slice xa S.base.length xc) ∧ W.cell? ⟨w1.heap.size, 1, none⟩ = some (.slice ya S.txs.length yc)) ∧ (W.cell? ⟨w2.heap.size, 0, none⟩ = some (.slice xa2 S3.base.length xc2) ∧ W.cell? ⟨w2.heap.size, 1, none⟩ = some (.slice ya2 S3.txs.length yc2)) from
        ⟨blk2 ((HK2.out.alloc _).trans hK (fun x hx => .inl hx)), blk2 hK⟩)
      have HA := hid (fun W (hK : Kept [] (w2.alloc (.cells #[.slice xa2 S3.base.length xc2, .slice ya2 S3.txs.length yc2] 32)) W) => show Kept [] w1 W from (((Kept.refl [] w1).alloc _).trans HK2.out (fun x hx => .inl hx)).alloc _ |>.trans hK (fun x hx => .inl hx))
      obtain ⟨y3, hy3⟩ : ∃ y3, y3 = w2.alloc (.cells #[.slice xa2 S3.base.length xc2, .slice ya2 S3.txs.length yc2] 32) := ⟨_, rfl⟩
      rw [← hy3] at HAB HA ⊢
      have HST3 := hid (show StAt y3 (.slice xa2 S3.base.length xc2) (.slice ya2 S3.txs.length yc2) S3 from by rw [hy3]; exact HST2.out.kept ((Kept.refl [] w2).alloc _))
      have HYS := hid (show y3.heap.size = w2.heap.size + 1 by rw [hy3]; simp)
      clear hy3 HST2
      go_loopg [9, 10] L.length (fun kx s9 s10 wq => ∃ i : Nat, s10 = .int .i64 i ∧ i ≤ L.length ∧ L.length - i ≤ kx ∧ Aside (wq.ownsRow y3.heap.size 58 4 s9 ((L.take i).filter fun q => decide (q.1.n = tx)).length (((L.take i).filter fun q => decide (q.1.n = tx)).flatMap txF)) ∧ Aside (Kept [] y3 wq))
      case atStart => exact ⟨0, by first | rfl | go_num, by omega, by omega, by have h := ownsRow_made0 y3 58 4 y3.heap.size (Nat.le_refl _); rw [HYS.out] at h ⊢; exact h, (Kept.refl [] y3).alloc _⟩
      case round =>
        obtain ⟨i, rfl, hi, hix, HO, HKQ⟩ := hrel
        rename World => wq
        obtain ⟨⟨a0, a1⟩, ⟨b0, b1⟩⟩ := HAB.out wq HKQ.out
        rw [HLL.out] at a1
        have HK1Q := hid (HA.out wq HKQ.out)
        by_cases hlt2 : i < L.length
        · have hltz2 : (i : Int) < (L.length : Int) := by omega
          obtain ⟨b, off, rfl, _, d1⟩ := HLC.out (by omega)
          obtain ⟨e0, e1, e2, e3⟩ := tx_cells (fun j u hu => HK1Q.out.cell (d1 j u hu) (by simp)) hlt2
          have HT := hid (take_filt (fun q : Txp × Value => decide (q.1.n = tx)) hlt2)
          have HFL := hid (show ((L.take i).filter fun q => decide (q.1.n = tx)).length ≤ 100 from Nat.le_trans (List.length_filter_le _ _) (Nat.le_trans (List.length_take_le _ _) (by omega)))
          obtain ⟨qa, qc, hqv, _⟩ := (HP.out _ (List.getElem_mem hlt2)).at'.ex
          clear d1
          generalize L[i] = q at *
          obtain ⟨⟨n, mask, com, ws⟩, qv⟩ := q
          dsimp only at e0 e1 e2 e3 hqv HT
          subst hqv
          by_cases hn : n = tx
          · have hnb : (n == tx) = true := by simpa using hn
            have hTT : (L.take (i + 1)).filter (fun q => decide (q.1.n = tx)) = ((L.take i).filter fun q => decide (q.1.n = tx)) ++ [((⟨n, mask, com, ws⟩ : Txp), Value.slice qa ws.length qc)] := by rw [HT.out]; simp [hn]
            have HTT := hid hTT
            clear hn hTT
            go_wp2_with (at_builtin; refine Here.mk ?_)
            refine Here.of ?_
            refine wpList_append_tx rfl _ _ rfl y3.heap.size _ _ rfl (ownsRow_kept HO.out ((Kept.refl [] wq).alloc _) (by simp)) _ ((⟨n, mask, com, ws⟩ : Txp), Value.slice qa ws.length qc) rfl (SlAt.new wq (txF ((⟨n, mask, com, ws⟩ : Txp), Value.slice qa ws.length qc)) 58 4 1 (by decide) rfl) rfl (by have := HFL.out; omega) (by have := HKQ.out.size; simp; omega) ?_
            intro v5 w5 hown5 hgr5
            have HK5 := hid ((HKQ.out.alloc _).grown_own (ownsRow_kept HO.out ((Kept.refl [] wq).alloc _) (by simp)) hgr5 (Nat.le_refl _))
            have HO5 := hid hown5
            clear hown5 hgr5
            go_wp2_with fail
            go_roundg (L.length - (i + 1))
            case measure => omega
            case rel => exact ⟨i + 1, by first | rfl | go_num, by omega, Nat.le_refl _, by show World.ownsRow _ _ _ _ _ _ _; rw [HTT.out]; exact HO5.out, HK5.out⟩
          · have hnb : (n == tx) = false := by simpa using hn
            have hTT : (L.take (i + 1)).filter (fun q => decide (q.1.n = tx)) = (L.take i).filter fun q => decide (q.1.n = tx) := by rw [HT.out]; simp [hn]
            have HTT := hid hTT
            clear hn hTT e1 e2 e3
            go_wp2
            go_roundg (L.length - (i + 1))
            case measure => omega
            case rel => exact ⟨i + 1, by first | rfl | go_num, by omega, Nat.le_refl _, by show World.ownsRow _ _ _ _ _ _ _; rw [HTT.out]; exact HO.out, HKQ.out⟩
        · obtain rfl : i = L.length := by omega
          have hltz2 : ¬ (L.length : Int) < (L.length : Int) := by omega
          obtain ⟨za, zc, rfl⟩ := ownsRow_slice HO.out
          have hfe : L.take L.length = L := List.take_length
          have ho := HO.out
          rw [hfe] at ho
          have HTX := hid (show TxsAt wq (.slice za ((L.take L.length).filter fun q => decide (q.1.n = tx)).length zc) S3.txs from ⟨L.filter fun q => decide (q.1.n = tx), by rw [filt_map L (fun x => decide (x.n = tx)), HL.out, HLW.out], by have := SlAt.of_own ho; rw [hfe]; exact this, fun q hq => (HP.out q (List.mem_filter.1 hq).1).kept HK1Q.out⟩)
          have HSX := hid (show StAt wq (.slice none 0 0) (.slice za ((L.take L.length).filter fun q => decide (q.1.n = tx)).length zc) ⟨[], S3.txs⟩ from ⟨PrAt.nil wq, HTX.out⟩)
          have HSY := hid (show StAt wq (.slice none 0 0) (.slice ya2 S3.txs.length yc2) ⟨[], S3.txs⟩ from ⟨PrAt.nil wq, (HST3.out.kept HKQ.out).txs⟩)
          have HSM := hid (same_one_any wq _ _ _ _ ⟨[], S3.txs⟩ ⟨[], S3.txs⟩ rfl HSX.out HSY.out)
          generalize ((L.take L.length).filter fun q => decide (q.1.n = tx)).length = zn at *
          clear ho hfe HO HTX
          go_wp2_with (go_at_call 14; refine HSM.out.mono ?_; clear HSM; rintro e w6 ⟨rfl, hk6⟩)
          go_returns
          exact ⟨rfl, (HKW1.out.trans HK1Q.out (fun x hx => .inl hx)).trans hk6 (fun x hx => .inl hx)⟩
--@@ end
end Go.Proofs.Ytbkapjmomafjjaa.redoRests
