/- RedoDoubt: the walk. -/
import Derived.Test.YtbkapjmomafjjaaM10
set_option linter.all false
namespace Go.Proofs.Ytbkapjmomafjjaa.redoDoubt
open Go.RowKit Go.Shelf Go.Lib Go.Sort Go.Proofs Go.Proofs.Ytbkapjmomafjjaa
set_option linter.unusedVariables false
set_option linter.unusedSimpArgs false

/-- has it ended? -/
def endB (d : Int) (l : List Rc) : Bool := l.any fun r => decide (r.tx = d) && (decide (r.kind = 5) || decide (r.kind = 6))
theorem endB_snoc (d : Int) (l : List Rc) (r : Rc) : endB d (l ++ [r]) = (endB d l || (decide (r.tx = d) && (decide (r.kind = 5) || decide (r.kind = 6)))) := by simp [endB, List.any_append]
theorem endB_not {d : Int} {l : List Rc} (h : endB d l = false) : ∀ r ∈ l, r.tx = d → r.kind ≠ 5 ∧ r.kind ≠ 6 := fun r hr hd => by
  unfold endB at h
  rw [List.any_eq_false] at h
  have := h r hr
  simp only [hd, decide_true, Bool.true_and, Bool.or_eq_true, decide_eq_true_eq, not_or] at this
  exact this
--@@ concordatlaw11.RedoDoubt
set_option maxHeartbeats 8000000 in
set_option maxRecDepth 100000 in
theorem walk (v0 : Value) (l : List Rc) (w : World) (h0 : SlAt w v0 Rc.ps.length l.length (l.flatMap Rc.f)) (hok : ∀ x ∈ l, x.ok) :
    Calls Try.prog 5 #[v0] w fun e w' => e = .returned (.bool true) ∧ Kept [] w w' := by
  have H0 := hid (show SlAt w v0 11 l.length (l.flatMap Rc.f) from h0)
  obtain ⟨a, cap, rfl, hmax, _, hc⟩ := h0.ex
  have HC := hid hc
  clear h0 hc
  by_cases hlen : 100 < l.length
  · have hlenz : (100 : Int) < (l.length : Int) := by omega
    clear hok
    go_enter Try.func5, Try.ntmps5
    go_wp2_with (go_at_call 9; refine (alive11_any _).mono ?_; rintro e wa ⟨rfl, hka⟩)
    go_ret
    exact ⟨rfl, hka⟩
  have hlenz : (l.length : Int) ≤ 100 := by omega
  have HRE := hid (fun W (hK : Kept [] w W) => replay_any _ l W (H0.out.kept hK) (by omega) hok)
  have HRF := hid (fun (d : Int) W v (h : SlAt W v 11 (l.filter fun r => decide (r.tx ≠ d)).length ((l.filter fun r => decide (r.tx ≠ d)).flatMap Rc.f)) => replay_any v (l.filter fun r => decide (r.tx ≠ d)) W h (Nat.le_trans (List.length_filter_le _ _) (by omega)) (fun r hr => hok r (List.mem_filter.1 hr).1))
  have HSZ := hid (fun (d : Int) => st_sizes (l.filter fun r => decide (r.tx ≠ d)) (fun r hr => hok r (List.mem_filter.1 hr).1))
  have HLAW := hid (law_doubt l)
  have hsz := st_sizes l hok
  obtain ⟨S, hS⟩ : ∃ S, S = replayP l := ⟨_, rfl⟩
  rw [← hS] at HRE HLAW hsz
  have hb1 : S.base.length ≤ 100 := by omega
  have hb2 : S.txs.length ≤ 100 := by omega
  have HX := hid (show ∀ x ∈ S.txs, x.ws.length ≤ 20000 from fun x hx => by have := hsz.2.2 x hx; omega)
  clear hS hok hsz
  go_enter Try.func5, Try.ntmps5
  go_wp2_with (go_at_call 9; refine (alive11_any _).mono ?_; rintro e wa ⟨rfl, hka⟩; have HKA := hid hka; clear hka)
  go_loopg [3] l.length (fun kx s3 wr => ∃ i : Nat, s3 = .int .i64 i ∧ i ≤ l.length ∧ l.length - i ≤ kx ∧ Aside (Kept [] wa wr) ∧ Aside (∀ r ∈ l.take i, r.kind ≠ 8 ∧ r.kind ≠ 7))
  case atStart => exact ⟨0, by first | rfl | go_num, by omega, by omega, Kept.refl [] wa, fun r hr => by simp at hr⟩
  case round =>
    obtain ⟨i, rfl, hi, hix, HK, HN⟩ := hrel
    have HKW := hid (HKA.out.trans HK.out (fun x hx => .inl hx))
    by_cases hlt : i < l.length
    · have hltz : (i : Int) < (l.length : Int) := by omega
      obtain ⟨b, off, rfl, _, d1⟩ := HC.out (by omega)
      obtain ⟨q0, _⟩ := rec_cells (fun j u hu => HKW.out.cell (d1 j u hu) (by simp)) hlt
      have HT2 := hid (show l.take (i + 1) = l.take i ++ [l[i]] by rw [List.take_succ_eq_append_getElem hlt])
      clear d1
      generalize l[i] = r at *
      obtain ⟨kind, rtx, mask, ky, o, n⟩ := r
      dsimp only at q0
      by_cases h8 : kind = 8
      · subst h8
        go_wp2
        go_returns
        exact ⟨rfl, HKW.out⟩
      by_cases h7 : kind = 7
      · subst h7
        go_wp2
        go_returns
        exact ⟨rfl, HKW.out⟩
      have b8 : (kind == 8) = false := by simpa using h8
      have b7 : (kind == 7) = false := by simpa using h7
      have HN2 := hid (show ∀ r ∈ l.take (i + 1), r.kind ≠ 8 ∧ r.kind ≠ 7 from fun r hr => by
        rw [HT2.out] at hr
        rcases List.mem_append.1 hr with hr | hr
        · exact HN.out r hr
        · rw [List.mem_singleton] at hr; subst hr; exact ⟨h8, h7⟩)
      clear h8 h7 HN HT2
      go_wp2
      go_roundg (l.length - (i + 1))
      case measure => omega
      case rel => exact ⟨i + 1, by first | rfl | go_num, by omega, Nat.le_refl _, HK.out, HN2.out⟩
    · obtain rfl : i = l.length := by omega
      have hltz : ¬ (l.length : Int) < (l.length : Int) := by omega
      have hn := HN.out
      rw [List.take_length] at hn
      have HLW := hid (fun d => HLAW.out d hn)
      have HDB := hid (fun W bv tv (h : StAt W bv tv S) => doubt_any bv tv S W h (by omega))
      have hdl : (numbersS S false).length ≤ 100 := by unfold numbersS; rw [List.length_map]; exact Nat.le_trans (List.length_filter_le _ _) hb2
      have HD := hid (show ∀ d ∈ numbersS S false, d ∈ numbersS S false from fun d h => h)
      obtain ⟨D, hD⟩ : ∃ D, D = numbersS S false := ⟨_, rfl⟩
      rw [← hD] at HDB hdl HLW
      clear hn HN HLAW hD HD
      go_wp2_with (first
        | (go_at_call 15; refine (HRE.out _ HKW.out).mono ?_; clear HRE; rintro e w1 ⟨bv, tv, rfl, hst, hk1⟩; obtain ⟨xa, xc, ya, yc, rfl, rfl⟩ := hst.slices; have HST := hid hst; have HK1 := hid hk1; clear hst hk1)
        | (go_at_call 16; refine (HDB.out _ _ _ (HST.out.kept ((Kept.refl [] w1).alloc _))).mono ?_; clear HDB; rintro e w2 ⟨v2, rfl, ho2, hk2⟩; obtain ⟨da, dc, rfl⟩ := ownsRow_slice ho2; have HK2 := hid hk2; have HDS := hid (SlAt.of_own ho2); clear ho2 hk2))
      have HKW1 := hid (HKW.out.trans HK1.out (fun x hx => .inl hx))
      have HKW2 := hid ((HKW1.out.alloc _).trans HK2.out (fun x hx => .inl hx))
      have HK12 := hid (((Kept.refl [] w1).alloc _).trans HK2.out (fun x hx => .inl hx))
      obtain ⟨da', dc', hd, _, _, hdd⟩ := HDS.out.ex
      obtain rfl : da = da' := by injection hd
      obtain rfl : dc = dc' := by injection hd
      have HDC := hid hdd
      clear hd hdd
      go_loopg [6] D.length (fun kx s6 wr => ∃ k : Nat, s6 = .int .i64 k ∧ k ≤ D.length ∧ D.length - k ≤ kx ∧ Aside (Kept [] w2 wr))
      case atStart => exact ⟨0, by first | rfl | go_num, by omega, by omega, Kept.refl [] w2⟩
      case round =>
        obtain ⟨k, rfl, hk, hkx, HKR⟩ := hrel
        rename World => wr
        have HKWR := hid (HKW2.out.trans HKR.out (fun x hx => .inl hx))
        by_cases hltk : k < D.length
        · have hltkz : (k : Int) < (D.length : Int) := by omega
          obtain ⟨db, doff, rfl, _, hdc⟩ := HDC.out (by omega)
          have hdk : w2.cell? ⟨db, doff + k, none⟩ = some (.int .i64 D[k]) := hdc k _ (by simp [hltk])
          have HDK := hid hdk
          have HLK := hid (HLW.out D[k])
          have HM := hid (List.getElem_mem hltk)
          clear hdc hdk
          generalize D[k] = d at *
          have HRFd := hid (HRF.out d)
          have hszd := HSZ.out d
          go_wp2_with fail
          go_loopg [7, 8, 9] l.length (fun kx s7 s8 s9 wq => ∃ i : Nat, s9 = .int .i64 i ∧ s7 = .bool (endB d (l.take i)) ∧ i ≤ l.length ∧ l.length - i ≤ kx ∧ Aside (wq.ownsRow wr.heap.size 43 11 s8 ((l.take i).filter fun r => decide (r.tx ≠ d)).length (((l.take i).filter fun r => decide (r.tx ≠ d)).flatMap Rc.f)) ∧ Aside (Kept [] wr wq))
          case atStart => exact ⟨0, by first | rfl | go_num, by rfl, by omega, by omega, recs_made0 wr wr.heap.size (Nat.le_refl _), (Kept.refl [] wr).alloc _⟩
          case round =>
            obtain ⟨i, rfl, rfl, hi, hix, HO, HK⟩ := hrel
            rename World => wq
            by_cases hlt : i < l.length
            · have hltz : (i : Int) < (l.length : Int) := by omega
              obtain ⟨b, off, rfl, _, d1⟩ := HC.out (by omega)
              have HQ := hid (fun W (hK : Kept [] wq W) => rec_cells (fun j u hu => ((HKWR.out.trans HK.out (fun x hx => .inl hx)).trans hK (fun x hx => .inl hx)).cell (d1 j u hu) (by simp)) hlt)
              have HDQ := hid (fun W (hK : Kept [] wq W) => show W.cell? ⟨db, doff + k, none⟩ = some (.int .i64 d) from ((HKR.out.trans HK.out (fun x hx => .inl hx)).trans hK (fun x hx => .inl hx)).cell HDK.out (by simp))
              have HT := hid (take_filt (fun r : Rc => decide (r.tx ≠ d)) hlt)
              have HT2 := hid (show endB d (l.take (i + 1)) = (endB d (l.take i) || (decide (l[i].tx = d) && (decide (l[i].kind = 5) || decide (l[i].kind = 6)))) by rw [List.take_succ_eq_append_getElem hlt, endB_snoc])
              have HFL := hid (show ((l.take i).filter fun r => decide (r.tx ≠ d)).length ≤ 100 from Nat.le_trans (List.length_filter_le _ _) (Nat.le_trans (List.length_take_le _ _) (by omega)))
              clear d1
              generalize l[i] = r at *
              obtain ⟨kind, rtx, mask, ⟨k1, k2, k3, k4⟩, ⟨o1, o2⟩, ⟨n1, n2⟩⟩ := r
              dsimp only at HQ HT HT2
              obtain ⟨eb, heb⟩ : ∃ eb, eb = endB d (l.take i) := ⟨_, rfl⟩
              rw [← heb] at HT2 ⊢
              clear heb
              have hke := (Kept.refl [] wq).drew
              by_cases hn : rtx = d
              · have hnb : (rtx == d) = true := by simpa using hn
                have hTT : (l.take (i + 1)).filter (fun r => decide (r.tx ≠ d)) = (l.take i).filter fun r => decide (r.tx ≠ d) := by rw [HT.out]; simp [hn]
                have HTT := hid hTT
                have hE : endB d (l.take (i + 1)) = (eb || (decide (kind = 5) || decide (kind = 6))) := by rw [HT2.out]; simp [hn]
                have HE := hid hE
                clear hn hTT HT HT2 hE
                go_wp2_with fail
                go_region_held3 (fun w' => w'.cell? ⟨b, off + i * 11 + 1, none⟩ = some (.int .i64 rtx) ∧ w'.cell? ⟨db, doff + k, none⟩ = some (.int .i64 d))
                  ((exact ⟨(HQ.out _ hke).2.1, HDQ.out _ hke⟩))
                  (fail)
                have q0 := (HQ.out _ hke).1
                by_cases h5 : kind = 5
                · subst h5
                  cases eb
                  all_goals
                    go_wp2
                    go_roundg (l.length - (i + 1))
                    case measure => omega
                    case rel => exact ⟨i + 1, by first | rfl | go_num, by rw [HE.out]; simp, by omega, Nat.le_refl _, by show World.ownsRow _ _ _ _ _ _ _; rw [HTT.out]; exact ownsRow_kept HO.out hke (by simp), HK.out.trans hke (fun x hx => .inl hx)⟩
                · have b5 : (kind == 5) = false := by simpa using h5
                  by_cases h6 : kind = 6
                  · subst h6
                    cases eb
                    all_goals
                      go_wp2
                      go_roundg (l.length - (i + 1))
                      case measure => omega
                      case rel => exact ⟨i + 1, by first | rfl | go_num, by rw [HE.out]; simp, by omega, Nat.le_refl _, by show World.ownsRow _ _ _ _ _ _ _; rw [HTT.out]; exact ownsRow_kept HO.out hke (by simp), HK.out.trans hke (fun x hx => .inl hx)⟩
                  · have b6 : (kind == 6) = false := by simpa using h6
                    have hE2 : endB d (l.take (i + 1)) = eb := by rw [HE.out]; simp [h5, h6]
                    have HE2 := hid hE2
                    clear h5 h6 hE2 HE
                    cases eb
                    all_goals
                      go_wp2
                      go_roundg (l.length - (i + 1))
                      case measure => omega
                      case rel => exact ⟨i + 1, by first | rfl | go_num, by rw [HE2.out], by omega, Nat.le_refl _, by show World.ownsRow _ _ _ _ _ _ _; rw [HTT.out]; exact ownsRow_kept HO.out hke (by simp), HK.out.trans hke (fun x hx => .inl hx)⟩
              · have hnb : (rtx == d) = false := by simpa using hn
                have hTT : (l.take (i + 1)).filter (fun r => decide (r.tx ≠ d)) = ((l.take i).filter fun r => decide (r.tx ≠ d)) ++ [⟨kind, rtx, mask, ⟨k1, k2, k3, k4⟩, ⟨o1, o2⟩, ⟨n1, n2⟩⟩] := by rw [HT.out]; simp [hn]
                have HTT := hid hTT
                have hE : endB d (l.take (i + 1)) = eb := by rw [HT2.out]; simp [hn]
                have HE := hid hE
                clear hn hTT HT HT2 hE
                go_wp2_with fail
                go_region_held3 (fun w' => w'.cell? ⟨b, off + i * 11 + 1, none⟩ = some (.int .i64 rtx) ∧ w'.cell? ⟨db, doff + k, none⟩ = some (.int .i64 d))
                  ((exact ⟨(HQ.out _ hke).2.1, HDQ.out _ hke⟩))
                  (fail)
                obtain ⟨q0, q1, q2, q3, q4, q5, q6, q7, q8, q9, q10⟩ := HQ.out _ hke
                have HKD := hid (HK.out.trans hke (fun x hx => .inl hx))
                have HOD := hid (ownsRow_kept HO.out hke (by simp))
                have hsd : wr.heap.size ≤ wq.drew.heap.size := HKD.out.size
                have HSD := hid hsd
                clear hke HO HK HQ HDQ hsd
                generalize wq.drew = wd at *
                go_wp2_with (at_builtin; refine Here.mk ?_)
                refine Here.of ?_
                refine wpList_append_rc rfl _ _ rfl wr.heap.size _ _ rfl (ownsRow_kept HOD.out ((Kept.refl [] wd).alloc _) (by simp)) _ [⟨kind, rtx, mask, ⟨k1, k2, k3, k4⟩, ⟨o1, o2⟩, ⟨n1, n2⟩⟩] rfl (SlAt.rec1 wd ⟨kind, rtx, mask, ⟨k1, k2, k3, k4⟩, ⟨o1, o2⟩, ⟨n1, n2⟩⟩) (by have := HFL.out; rw [List.length_singleton]; omega) (Nat.le_trans HSD.out (by simp)) ?_
                intro v5 w5 hown5 hgr5 _
                have HK5 := hid ((HKD.out.alloc _).grown_own (ownsRow_kept HOD.out ((Kept.refl [] wd).alloc _) (by simp)) hgr5 (Nat.le_refl _))
                have HO5 := hid hown5
                clear hown5 hgr5
                go_wp2_with fail
                go_roundg (l.length - (i + 1))
                case measure => omega
                case rel => exact ⟨i + 1, by first | rfl | go_num, by rw [HE.out], by omega, Nat.le_refl _, by show World.ownsRow _ _ _ _ _ _ _; rw [HTT.out]; exact HO5.out, HK5.out⟩
            · obtain rfl : i = l.length := by omega
              have hltz : ¬ (l.length : Int) < (l.length : Int) := by omega
              obtain ⟨fa, fc, hfv⟩ := ownsRow_slice HO.out
              subst hfv
              have ho := SlAt.of_own HO.out
              rw [List.take_length] at *
              have HSL := hid ho
              clear ho HO
              obtain ⟨S3, hS3⟩ : ∃ S3, S3 = replayP (l.filter fun r => decide (r.tx ≠ d)) := ⟨_, rfl⟩
              rw [← hS3] at HRFd hszd HLK
              clear hS3
              have HKRQ := hid (HKR.out.trans HK.out (fun x hx => .inl hx))
              have HK1Q := hid (HK12.out.trans HKRQ.out (fun x hx => .inl hx))
              have hke := (Kept.refl [] wq).drew
              cases heb : endB d l with
              | true =>
                clear HRFd HLK hszd
                go_wp2_with fail
                go_quiet (fail)
                go_wp2
                go_roundg (D.length - (k + 1))
                case measure => omega
                case rel => exact ⟨k + 1, by first | rfl | go_num, by omega, Nat.le_refl _, HKRQ.out.drewN _⟩
              | false =>
                have hbb := HLK.out (endB_not heb) HM.out
                have h3b : S3.base.length ≤ 100 := by rw [hbb]; exact hb1
                have hfl := List.length_filter_le (fun r : Rc => decide (r.tx ≠ d)) l
                have h3l : S3.txs.length ≤ 100 := by omega
                have HX3 := hid (show ∀ x ∈ S3.txs, x.ws.length ≤ 20000 from fun x hx => by have := hszd.2.2 x hx; omega)
                have HBB := hid hbb
                generalize (l.filter fun r => decide (r.tx ≠ d)).length = fl at *
                clear hbb hszd HLK hfl heb
                have HAB := hid (fun W (hK : Kept [] wq W) => show W.cell? ⟨w1.heap.size, 0, none⟩ = some (.slice xa S.base.length xc) ∧ W.cell? ⟨w1.heap.size, 1, none⟩ = some (.slice ya S.txs.length yc) from blk2 (HK2.out.trans (HKRQ.out.trans hK (fun x hx => .inl hx)) (fun x hx => .inl hx)))
                have HOA := hid (fun W (hK : Kept [] wq W) => stof_any _ _ S W (HST.out.kept (HK1Q.out.trans hK (fun x hx => .inl hx))).r (by omega) (by omega) HX.out)
                have HOB := hid (fun W bv tv (h : StAt W bv tv S3) => stof_any bv tv S3 W h.r (by omega) (by omega) HX3.out)
                have HSP := hid (fun W v1 v2 (h1 : SlAt W v1 6 S3.base.length (S3.base.flatMap Pr.f)) (h2 : SlAt W v2 6 S.base.length (S.base.flatMap Pr.f)) => by
                  have := samePairs_any v1 v2 S3.base S.base W h1 h2
                  rw [decide_eq_true HBB.out] at this
                  exact this)
                have hfd := field_base
                go_wp2_with fail
                go_region_held3 (fun w' => w'.cell? ⟨w1.heap.size, 0, none⟩ = some (.slice xa S.base.length xc) ∧ w'.cell? ⟨w1.heap.size, 1, none⟩ = some (.slice ya S.txs.length yc))
                  ((exact HAB.out _ hke))
                  (first
                    | (go_at_call 15; refine (HRFd.out _ _ (HSL.out.kept hke)).mono ?_; clear HRFd; rintro e y0 ⟨bv3, tv3, rfl, hst3, hk0⟩; obtain ⟨xa3, xc3, ya3, yc3, rfl, rfl⟩ := hst3.slices; have hke := hke.trans hk0 (fun x hx => .inl hx))
                    | (go_at_call 18; refine (HOB.out _ _ _ hst3).mono ?_; clear HOB; rintro e y1 ⟨ba1, ta1, rfl, hs1, hk1⟩; obtain ⟨oa, oc, pa, pc, rfl, rfl⟩ := hs1.slices; have hke := hke.trans hk1 (fun x hx => .inl hx))
                    | (go_at_call 18; refine (HOA.out _ hke).mono ?_; clear HOA; rintro e y2 ⟨ba2, ta2, rfl, hs2, hk2⟩; obtain ⟨oa2, oc2, pa2, pc2, rfl, rfl⟩ := hs2.slices; have hke := hke.trans hk2 (fun x hx => .inl hx); have hs1 := hs1.kept hk2)
                    | (go_at_call 17; refine (HSP.out _ _ _ hs1.base.at' hs2.base.at').mono ?_; clear HSP; rintro e y3 ⟨rfl, hk3⟩; have hke := hke.trans hk3 (fun x hx => .inl hx)))
                have HKE := hid hke
                clear hs1 hs2 hk0 hk1 hk2 hk3 hke hst3
                go_wp2
                go_roundg (D.length - (k + 1))
                case measure => omega
                case rel => exact ⟨k + 1, by first | rfl | go_num, by omega, Nat.le_refl _, HKRQ.out.trans HKE.out (fun x hx => .inl hx)⟩
        · obtain rfl : k = D.length := by omega
          have hltkz : ¬ (D.length : Int) < (D.length : Int) := by omega
          go_wp2
          go_returns
          exact ⟨rfl, HKWR.out⟩
--@@ end
end Go.Proofs.Ytbkapjmomafjjaa.redoDoubt
