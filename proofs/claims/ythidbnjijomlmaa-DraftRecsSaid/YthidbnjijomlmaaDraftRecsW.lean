/- DraftRecs: the walk. -/
import Derived.Test.YthidbnjijomlmaaAlive09
import Derived.Test.YthidbnjijomlmaaRecsLaw
import Derived.Test.YthidbnjijomlmaaSameRecs
set_option linter.all false
namespace Go.Proofs.Ythidbnjijomlmaa.draftRecs
open Go.RowKit Go.Shelf Go.Lib Go.Sort Go.Proofs Go.Proofs.Ythidbnjijomlmaa
set_option linter.unusedVariables false
set_option linter.unusedSimpArgs false

theorem ofPr_nodup (l : List Pr) : (l.map ofPr).map (·.1) = l.map (·.key) := by rw [List.map_map]; rfl
--@@ concordatlaw09.DraftRecs
theorem put_next (A M : Nat) (l : List Pr) (p : Pr) (hn : ((l ++ [p]).map (·.key)).Nodup) (hr : V.right p.val = true) (hl : l.length < 16) (W : World) (h : DraftIs W A M (l.map ofPr)) :
    Calls Try.prog 11 #[.pointer (some ⟨A, 0, none⟩), p.key.v, p.val.v] W fun e w' => e = .returned (.int .i64 0) ∧ DraftIs w' A M ((l ++ [p]).map ofPr) ∧ Kept [M] W w' := by
  have := dput_any A M (l.map ofPr) p.key p.val W h
  rw [dPut_next l p hn hr hl] at this
  exact this
theorem new_at (w : World) : Calls Try.prog 9 #[] w fun e w' => ∃ A M, e = .returned (.pointer (some ⟨A, 0, none⟩)) ∧ DraftIs w' A M (([] : List Pr).map ofPr) ∧ w.heap.size ≤ A ∧ w.heap.size ≤ M ∧ Kept [] w w' :=
  (dnew_any w).mono fun e w' ⟨h1, h2, h3⟩ => ⟨_, _, h1, h2, by omega, by omega, h3⟩
set_option maxHeartbeats 8000000 in
set_option maxRecDepth 100000 in
theorem walk (v0 : Value) (la : List Pr) (v1 : Value) (lb : List Pr) (tx : Int) (w : World) (h0 : SlAt w v0 Pr.ps.length la.length (la.flatMap Pr.f)) (_hl : ∀ x ∈ la, x.ok)
    (h1 : SlAt w v1 Pr.ps.length lb.length (lb.flatMap Pr.f)) (_hl1 : ∀ x ∈ lb, x.ok) (_o2 : IntKind.i64.min ≤ tx ∧ tx ≤ IntKind.i64.max) :
    Calls Try.prog 5 #[v0, v1, .int .i64 tx] w fun e w' => e = .returned (.bool true) ∧ Kept [] w w' := by
  clear _hl _hl1 _o2
  obtain ⟨a, cap, rfl, hmax, _, hc⟩ := h0.ex
  obtain ⟨a', cap', rfl, hmax', _, hc'⟩ := h1.ex
  have HC := hid hc
  have HC1 := hid hc'
  have H1 := hid h1
  clear h0 h1 hc hc'
  by_cases hlen : 100 < la.length
  · have hlenz : (100 : Int) < (la.length : Int) := by omega
    go_enter Try.func5, Try.ntmps5
    go_wp2_with (go_at_call 8; refine (alive_any _).mono ?_; rintro e wa ⟨rfl, hka⟩)
    go_ret
    exact ⟨rfl, (Kept.refl [] w).trans hka (fun x hx => by cases hx)⟩
  by_cases hlen' : 100 < lb.length
  · have hlenz : (la.length : Int) ≤ 100 := by omega
    have hlenz' : (100 : Int) < (lb.length : Int) := by omega
    go_enter Try.func5, Try.ntmps5
    go_wp2_with (go_at_call 8; refine (alive_any _).mono ?_; rintro e wa ⟨rfl, hka⟩)
    go_ret
    exact ⟨rfl, (Kept.refl [] w).trans hka (fun x hx => by cases hx)⟩
  have hlenz : (la.length : Int) ≤ 100 := by omega
  have hlenz' : (lb.length : Int) ≤ 100 := by omega
  by_cases ht1 : tx < 1
  ·
    go_enter Try.func5, Try.ntmps5
    go_wp2_with (go_at_call 8; refine (alive_any _).mono ?_; rintro e wa ⟨rfl, hka⟩)
    go_ret
    exact ⟨rfl, (Kept.refl [] w).trans hka (fun x hx => by cases hx)⟩
  by_cases ht2 : 1048576 < tx
  · have ht1' : (1 : Int) ≤ tx := by omega
    clear ht1
    go_enter Try.func5, Try.ntmps5
    go_wp2_with (go_at_call 8; refine (alive_any _).mono ?_; rintro e wa ⟨rfl, hka⟩)
    go_ret
    exact ⟨rfl, (Kept.refl [] w).trans hka (fun x hx => by cases hx)⟩
  have htx1 : (1 : Int) ≤ tx := by omega
  have htx2 : tx ≤ (1048576 : Int) := by omega
  clear ht1 ht2
  go_enter Try.func5, Try.ntmps5
  go_wp2_with (first
    | (go_at_call 8; refine (alive_any _).mono ?_; rintro e wa ⟨rfl, hka⟩)
    | (go_at_call 9; refine (dnew_any wa).mono ?_; rintro e w1 ⟨rfl, hG, hk⟩))
  have hwa : w.heap.size ≤ wa.heap.size := hka.size
  have hw1 : wa.heap.size < w1.heap.size := hG.lt.2
  obtain ⟨M, hM⟩ : ∃ M, M = wa.heap.size := ⟨_, rfl⟩
  obtain ⟨A, hA⟩ : ∃ A, A = wa.heap.size + 1 := ⟨_, rfl⟩
  rw [← hA, ← hM] at hG
  rw [← hA]
  have hMA : w.heap.size ≤ M ∧ M < w1.heap.size ∧ A < w1.heap.size := ⟨by omega, by omega, hG.lt.1⟩
  have HKW := hid (hka.trans hk (fun x hx => by cases hx))
  have HG0 := hid hG
  clear hG hk hka hw1 hwa hM hA
  go_loopg [8] la.length (fun kx s8 wr => ∃ k : Nat, s8 = .int .i64 k ∧ k ≤ la.length ∧ la.length - k ≤ kx ∧ Aside (DraftIs wr A M (putsD [] (la.take k))) ∧ Aside (Kept [M] w1 wr))
  case atStart => exact ⟨0, by first | rfl | go_num, by omega, by omega, HG0.out, Kept.refl _ _⟩
  case round =>
    clear HG0
    obtain ⟨k, rfl, hk, hkx, HG, HKC⟩ := hrel
    by_cases hlt : k < la.length
    · have hltz : (k : Int) < (la.length : Int) := by omega
      obtain ⟨b, off, rfl, hb, hcs⟩ := HC.out (by omega)
      have hcW : ∀ j u, (la.flatMap Pr.f)[j]? = some u → wr.drew.cell? ⟨b, off + j, none⟩ = some u := fun j u hj => (HKC.out.drew).cell (HKW.out.cell (hcs j u hj) (by simp)) (by simp; omega)
      obtain ⟨e0, e1, e2, e3, e4, e5⟩ := pair_cells hcW hlt
      have HT := hid (show la.take (k + 1) = la.take k ++ [la[k]] by rw [List.take_succ_eq_append_getElem hlt])
      clear hcW hcs
      generalize la[k] = x at *
      obtain ⟨⟨x1, x2, x3, x4⟩, ⟨x5, x6⟩⟩ := x
      dsimp only at e0 e1 e2 e3 e4 e5
      go_wp2_with fail
      refine region_tail 11 (by kernel_rfl) (by kernel_rfl) ?_
      simp only [List.take_succ_cons, List.take_zero, List.drop_succ_cons, List.drop_zero]
      repeat still_step
      refine wpStill_nil ?_
      go_wp2_with (first | (go_at_call 11; refine (dput_any A M _ ⟨x1, x2, x3, x4⟩ ⟨x5, x6⟩ _ (HG.out.kept ((Kept.refl [] wr).drew) (by simp) (by simp))).mono ?_; rintro e w2 ⟨rfl, hG2, hk2⟩))
      have HG2 := hid hG2
      have HK2 := hid (HKC.out.drew.trans hk2 (fun x hx => .inl hx))
      clear hG2 hk2
      go_roundg (la.length - (k + 1))
      case measure => omega
      case rel => exact ⟨k + 1, by first | rfl | go_num, by omega, Nat.le_refl _, by show DraftIs _ _ _ _; rw [HT.out, putsD_snoc]; exact HG2.out, HK2.out⟩
    · obtain rfl : k = la.length := by omega
      have hltz : ¬ (la.length : Int) < (la.length : Int) := by omega
      rw [List.take_length] at HG
      have HOK := hid (putsD_ok la)
      have HPO := hid (pairs_ok la)
      obtain ⟨D, hD⟩ : ∃ D, putsD [] la = D := ⟨_, rfl⟩
      rw [hD] at HG HOK HPO
      clear hD
      have hkw : Kept [] w wr := HKW.out.trans HKC.out (fun x hx => .inr (by simp at hx; omega))
      have hdl : D.length ≤ 16 := HOK.out.2
      obtain ⟨ps, hps⟩ : ∃ ps, ps = keysP (D.map toPr) := ⟨_, rfl⟩
      have HRecs := hid (show ∀ W v, DraftIs W A M D → PrAt W v lb → Calls Try.prog 22 #[.pointer (some ⟨A, 0, none⟩), .int .i64 tx, v] W fun e w' => ∃ v', e = .returned v' ∧ w'.ownsRow W.heap.size 60 11 v' (recsP tx lb ps).length ((recsP tx lb ps).flatMap Rc.f) ∧ Kept [] W w' from fun W v h hv => by rw [hps]; exact recs_any A M D tx v lb W h HOK.out.1 (by omega) hv)
      have HOver := hid (show ∀ W v, DraftIs W A M D → PrAt W v lb → Calls Try.prog 19 #[.pointer (some ⟨A, 0, none⟩), v] W fun e w' => ∃ v', e = .returned v' ∧ PrAt w' v' (sortP (lb ++ ps)) ∧ Kept [] W w' from fun W v h hv => by rw [hps]; exact over_any A M D v lb W h HOK.out.1 (by omega) hv (by omega))
      rw [← hps] at HPO
      clear hps HOK
      have hpl : ps.length = D.length := HPO.out.2.2.1
      have hpl2 : ps.length ≤ 16 := by omega
      have HPL := hid hpl
      clear hpl
      have HTo := hid (to_any _ lb wr (H1.out.kept hkw) (by omega))
      have HKO := hid hkw
      clear hkw
      rename World => wo
      go_wp2_with (first
        | (go_at_call 13; refine HTo.out.mono ?_; clear HTo; rintro e wt ⟨vt, rfl, hot, hkt⟩; have HPB := hid (PrAt.of_own hot rfl); have HG := hid (HG.out.kept hkt (by simp) (by simp)); have HKO := hid (HKO.out.trans hkt (fun x hx => by cases hx)); obtain ⟨at1, ct1, rfl⟩ := ownsRow_slice hot; clear hot hkt)
        | (go_at_call 22; refine (HRecs.out _ _ HG.out HPB.out).mono ?_; clear HRecs; rintro e wb ⟨vr, rfl, hor, hkr⟩; have HOR := hid (SlAt.of_own hor); have HG := hid (HG.out.kept hkr (by simp) (by simp)); have HPB := hid (HPB.out.kept hkr); have HKO := hid (HKO.out.trans hkr (fun x hx => by cases hx)); obtain ⟨ar, cr, rfl⟩ := ownsRow_slice hor; clear hor hkr)
        | (go_at_call 9; refine (new_at wb).mono ?_; rintro e wn ⟨A1, M1, rfl, hG1, hA1, hM1, hkn⟩; have HG1 := hid hG1; have HKB := hid hkn; clear hkn hG1)
        | (go_at_call 9; refine (new_at wn).mono ?_; rintro e wl ⟨A2, M2, rfl, hG2, hA2, hM2, hkn⟩; have HG2 := hid hG2; have hn1 := HG1.out.lt; have hn2 := HG1.out.ne; have HG1 := hid (HG1.out.kept hkn (by simp) (by simp)); have hn0 := HKB.out.size; have HKB := hid (HKB.out.trans hkn (fun x hx => by cases hx)); clear hkn hG2))
      have hn3 := HG2.out.ne
      have hrl : (recsP tx lb ps).length = ps.length := by simp [recsP]
      obtain ⟨rs, hrs⟩ : ∃ rs, rs = recsP tx lb ps := ⟨_, rfl⟩
      rw [← hrs] at HOR hrl
      rw [← hrs]
      have HRS := hid hrs
      clear hrs
      have HRL := hid hrl
      have hrl2 : rs.length ≤ 16 := by omega
      clear hrl
      obtain ⟨_, _, hre, _, _, hrc⟩ := HOR.out.ex
      cases hre
      have HRC := hid hrc
      clear hrc
      have HLW := hid (show ∀ W, Kept [M1, M2] wl W → Kept [] wb W from fun W hk => HKB.out.trans hk (fun x hx => .inr (by simp at hx; omega)))
      go_loopg [13] rs.length (fun kx s13 w2 => ∃ k : Nat, s13 = .int .i64 k ∧ k ≤ rs.length ∧ rs.length - k ≤ kx ∧ Aside (DraftIs w2 A1 M1 ((ps.take k).map ofPr)) ∧ Aside (DraftIs w2 A2 M2 (((ps.map (oldP lb)).take k).map ofPr)) ∧ Aside (Kept [M1, M2] wl w2))
      case atStart => exact ⟨0, by first | rfl | go_num, by omega, by omega, HG1.out, HG2.out, Kept.refl _ _⟩
      case round =>
        clear HG1 HG2
        obtain ⟨k, rfl, hk, hkx, HG1, HG2, HKL⟩ := hrel
        by_cases hlt : k < rs.length
        · have hltz : (k : Int) < (rs.length : Int) := by omega
          obtain ⟨b, off, rfl, hb, hcs⟩ := HRC.out (by omega)
          have hkp : k < ps.length := by have := HRL.out; omega
          have HX := hid (fun (w' : World) (hk' : Kept [M1, M2] wl w') => rec_cells (fun j u hj => (HLW.out w' hk').cell (hcs j u hj) (by simp)) hlt)
          have hrk : rs[k] = recP tx lb ps[k] := by
            have := HRS.out
            subst this
            simp [recsP]
          have HP1 := hid (fun W h => put_next A1 M1 (ps.take k) ps[k] (by rw [← List.take_succ_eq_append_getElem hkp]; exact (srt_nodup HPO.out.1).sublist ((List.take_sublist _ _).map _)) (HPO.out.2.1 _ (List.getElem_mem hkp)) (by rw [List.length_take]; omega) W h)
          have hkp2 : k < (ps.map (oldP lb)).length := by simpa using hkp
          have HP2 := hid (fun W h => put_next A2 M2 ((ps.map (oldP lb)).take k) (ps.map (oldP lb))[k] (by rw [← List.take_succ_eq_append_getElem hkp2]; exact (srt_nodup (olds_srt HPO.out.1)).sublist ((List.take_sublist _ _).map _)) (by rw [List.getElem_map]; exact fixV_right _) (by rw [List.length_take]; omega) W h)
          rw [← List.take_succ_eq_append_getElem hkp] at HP1
          rw [← List.take_succ_eq_append_getElem hkp2] at HP2
          rw [List.getElem_map] at HP2
          have hpr : V.right ps[k].val = true := HPO.out.2.1 _ (List.getElem_mem hkp)
          rw [hrk] at HX
          clear hrk hcs
          generalize ps[k] = x at *
          obtain ⟨⟨x1, x2, x3, x4⟩, ⟨n1, n2⟩⟩ := x
          have hor := fixV_right (findP lb ⟨x1, x2, x3, x4⟩)
          dsimp only [recP, oldP] at HX HP1 HP2 hpr
          generalize fixV (findP lb ⟨x1, x2, x3, x4⟩) = o at *
          obtain ⟨o1, o2⟩ := o
          dsimp only at HX
          simp only [K4.v, V.v] at HP1 HP2
          have HRt := hid (fun w => r4right_any tx ⟨x1, x2, x3, x4⟩ ⟨o1, o2⟩ ⟨n1, n2⟩ w htx1 htx2 hor hpr)
          simp only [Rc.v] at HRt
          clear hor hpr
          have hkl := HKL.out
          go_wp2_with fail
          go_region_held3 (fun w' => w'.cell? ⟨b, off + k * 11, none⟩ = some (.int .i64 1) ∧ w'.cell? ⟨b, off + k * 11 + 1, none⟩ = some (.int .i64 tx) ∧ w'.cell? ⟨b, off + k * 11 + 2, none⟩ = some (.int .u16 0) ∧ w'.cell? ⟨b, off + k * 11 + 3, none⟩ = some (.int .u8 (x1.toNat : Int)) ∧ w'.cell? ⟨b, off + k * 11 + 4, none⟩ = some (.int .u8 (x2.toNat : Int)) ∧ w'.cell? ⟨b, off + k * 11 + 5, none⟩ = some (.int .u8 (x3.toNat : Int)) ∧ w'.cell? ⟨b, off + k * 11 + 6, none⟩ = some (.int .u8 (x4.toNat : Int)) ∧ w'.cell? ⟨b, off + k * 11 + 7, none⟩ = some (.bool o1) ∧ w'.cell? ⟨b, off + k * 11 + 8, none⟩ = some (.int .i64 o2) ∧ w'.cell? ⟨b, off + k * 11 + 9, none⟩ = some (.bool n1) ∧ w'.cell? ⟨b, off + k * 11 + 10, none⟩ = some (.int .i64 n2))
            ((refine HX.out _ ?_; (repeat (first | assumption | (with_reducible exact Kept.refl _ _) | (with_reducible refine Kept.drew ?_) | (with_reducible refine Kept.alloc ?_ _) | (with_reducible refine Kept.setCell ?_ (by right; simp; try omega) _)))))
            (first
              | (go_at_call 28; refine (HRt.out _).mono ?_; clear HRt; rintro e w3 ⟨rfl, hk3'⟩; have hk3 : Kept [M1, M2] wl w3 := Kept.trans (show Kept [M1, M2] wl _ by (repeat (first | assumption | (with_reducible exact Kept.refl _ _) | (with_reducible refine Kept.drew ?_) | (with_reducible refine Kept.alloc ?_ _) | (with_reducible refine Kept.setCell ?_ (by right; simp; try omega) _)))) hk3' (fun x hx => by cases hx); have hr3 : Kept [] wr w3 := Kept.trans (show Kept [] wr _ by (repeat (first | assumption | (with_reducible exact Kept.refl _ _) | (with_reducible refine Kept.drew ?_) | (with_reducible refine Kept.alloc ?_ _) | (with_reducible refine Kept.setCell ?_ (by right; simp; try omega) _)))) hk3' (fun x hx => by cases hx))
              | (go_at_call 11; refine (HP1.out _ (HG1.out.kept (show Kept [] wr _ by (repeat (first | assumption | (with_reducible exact Kept.refl _ _) | (with_reducible refine Kept.drew ?_) | (with_reducible refine Kept.alloc ?_ _) | (with_reducible refine Kept.setCell ?_ (by right; simp; try omega) _)))) (by simp) (by simp))).mono ?_; clear HP1; rintro e w4 ⟨rfl, hg4, hk4'⟩; have hk4 : Kept [M1, M2] wl w4 := Kept.trans (show Kept [M1, M2] wl _ by (repeat (first | assumption | (with_reducible exact Kept.refl _ _) | (with_reducible refine Kept.drew ?_) | (with_reducible refine Kept.alloc ?_ _) | (with_reducible refine Kept.setCell ?_ (by right; simp; try omega) _)))) hk4' (fun x hx => .inl (by simp at hx; simp [hx])); have hr4 : Kept [M1] wr w4 := Kept.trans (show Kept [M1] wr _ from Kept.mono (show Kept [] wr _ by (repeat (first | assumption | (with_reducible exact Kept.refl _ _) | (with_reducible refine Kept.drew ?_) | (with_reducible refine Kept.alloc ?_ _) | (with_reducible refine Kept.setCell ?_ (by right; simp; try omega) _)))) (fun x hx => by cases hx)) hk4' (fun x hx => .inl hx))
              | (go_at_call 11; refine (HP2.out _ (HG2.out.kept (show Kept [M1] wr _ by (repeat (first | assumption | (with_reducible exact Kept.refl _ _) | (with_reducible refine Kept.drew ?_) | (with_reducible refine Kept.alloc ?_ _) | (with_reducible refine Kept.setCell ?_ (by right; simp; try omega) _)))) (by simp; omega) (by simp; omega))).mono ?_; clear HP2; rintro e w5 ⟨rfl, hg5, hk5'⟩; have hk5 : Kept [M1, M2] wl w5 := Kept.trans (show Kept [M1, M2] wl _ by (repeat (first | assumption | (with_reducible exact Kept.refl _ _) | (with_reducible refine Kept.drew ?_) | (with_reducible refine Kept.alloc ?_ _) | (with_reducible refine Kept.setCell ?_ (by right; simp; try omega) _)))) hk5' (fun x hx => .inl (by simp at hx; simp [hx])); have hg4b := hg4.kept hk5' (by simp; omega) (by simp; omega)))
          have HG4 := hid hg4b
          have HG5 := hid hg5
          have HK5 := hid hk5
          clear hkl hg4 hg5 hg4b hk3 hk3' hk4 hk4' hk5 hk5' hr3 hr4
          go_wp2
          go_roundg (rs.length - (k + 1))
          case measure => omega
          case rel => exact ⟨k + 1, by first | rfl | go_num, by omega, Nat.le_refl _, HG4.out, HG5.out, HK5.out⟩
        · obtain rfl : k = rs.length := by omega
          have hltz : ¬ (rs.length : Int) < (rs.length : Int) := by omega
          obtain ⟨ss, hss⟩ : ∃ ss, ss = sortP (lb ++ ps) := ⟨_, rfl⟩
          obtain ⟨sb, hsb⟩ : ∃ sb, sb = sortP lb := ⟨_, rfl⟩
          have hsl : ss.length ≤ 200 := by have := sortP_len' (lb ++ ps); rw [← hss] at this; simp at this; omega
          have hsbl : sb.length ≤ 200 := by have := sortP_len' lb; rw [← hsb] at this; omega
          have hrp := HRL.out
          rw [hrp, List.take_of_length_le (Nat.le_refl _)] at HG1
          rw [hrp, List.take_of_length_le (by simp)] at HG2
          have hcnt : ((rs.length : Int) == (D.length : Int)) = true := by rw [beq_iff_eq, hrp, HPL.out]
          have HOv1 := hid (show ∀ W v, DraftIs W A1 M1 (ps.map ofPr) → PrAt W v lb → Calls Try.prog 19 #[.pointer (some ⟨A1, 0, none⟩), v] W fun e w' => ∃ v', e = .returned v' ∧ PrAt w' v' ss ∧ Kept [] W w' from fun W v h hv => by
            have := over_any A1 M1 _ v lb W h (by rw [ofPr_nodup]; exact srt_nodup HPO.out.1) (by simp; omega) hv (by omega)
            rw [toPr_ofPr, keysP_self HPO.out.1, ← hss] at this
            exact this)
          have HOv2 := hid (show ∀ W v, DraftIs W A2 M2 ((ps.map (oldP lb)).map ofPr) → PrAt W v ss → Calls Try.prog 19 #[.pointer (some ⟨A2, 0, none⟩), v] W fun e w' => ∃ v', e = .returned v' ∧ PrAt w' v' sb ∧ Kept [] W w' from fun W v h hv => by
            have := over_any A2 M2 _ v ss W h (by rw [ofPr_nodup]; exact srt_nodup (olds_srt HPO.out.1)) (by simp; omega) hv (by omega)
            rw [toPr_ofPr, keysP_self (olds_srt HPO.out.1), hss, back_law lb ps HPO.out.1, ← hsb] at this
            exact this)
          rw [← hss] at HOver
          have HSo := hid (show ∀ W, Kept [] w W → Calls Try.prog 26 #[.slice a' lb.length cap'] W fun e w' => ∃ v', e = .returned v' ∧ w'.ownsRow W.heap.size 34 6 v' sb.length (sb.flatMap Pr.f) ∧ v' ≠ .slice none 0 0 ∧ Kept [] W w' from fun W hk => by rw [hsb]; exact rsort_any _ lb W (H1.out.kept hk) (by omega))
          have HKwr := hid (HLW.out wr HKL.out)
          have HG := hid (HG.out.kept HKwr.out (by simp) (by simp))
          have HPB := hid (HPB.out.kept HKwr.out)
          have HKO := hid (HKO.out.trans HKwr.out (fun x hx => by cases hx))
          clear hss hsb hrp HRL HPL HPO HRS HRC HLW HKL HKwr HKB HOR hkx hk hmax hmax'
          go_wp2_with (first
            | (go_at_call 19; refine (HOv1.out _ _ HG1.out HPB.out).mono ?_; clear HOv1; rintro e wz ⟨vz, rfl, hpz, hkz⟩; have HPS := hid hpz; have HG := hid (HG.out.kept hkz (by simp) (by simp)); have HG2 := hid (HG2.out.kept hkz (by simp) (by simp)); have HPB := hid (HPB.out.kept hkz); have HKO := hid (HKO.out.trans hkz (fun x hx => by cases hx)); clear hpz hkz HG1))
          go_loopg [15] lb.length (fun kx s15 w2 => ∃ k : Nat, s15 = .int .i64 k ∧ k ≤ lb.length ∧ lb.length - k ≤ kx ∧ Aside (Kept [] wz w2))
          case atStart => exact ⟨0, by first | rfl | go_num, by omega, by omega, Kept.refl _ _⟩
          case round =>
            obtain ⟨k, rfl, hk, hkx, HKR⟩ := hrel
            by_cases hlt : k < lb.length
            · have hltz : (k : Int) < (lb.length : Int) := by omega
              obtain ⟨b, off, rfl, hb, hcs⟩ := HC1.out (by omega)
              obtain ⟨_, _, _, _, e4, e5⟩ := pair_cells (fun j u hj => (HKO.out.trans HKR.out (fun x hx => by cases hx)).cell (hcs j u hj) (by simp)) hlt
              clear hcs
              generalize lb[k].val = x at *
              have HR := hid (rright_any x)
              obtain ⟨rt, hrt⟩ : ∃ rt, V.right x = rt := ⟨_, rfl⟩
              rw [hrt] at HR
              clear hrt
              obtain ⟨x5, x6⟩ := x
              dsimp only at e4 e5
              simp only [V.v] at HR
              cases rt with
              | false =>
                go_wp2_with (first
                  | (go_at_call 29; refine (HR.out _).mono ?_; clear HR; rintro e wq ⟨rfl, hkq⟩; have HKQ := hid hkq; clear hkq e4 e5))
                go_returns
                exact ⟨rfl, (HKO.out.trans HKR.out (fun x hx => by cases hx)).trans HKQ.out (fun x hx => by cases hx)⟩
              | true =>
                go_wp2_with (first
                  | (go_at_call 29; refine (HR.out _).mono ?_; clear HR; rintro e wq ⟨rfl, hkq⟩; have HKQ := hid hkq; clear hkq e4 e5))
                go_roundg (lb.length - (k + 1))
                case measure => omega
                case rel => exact ⟨k + 1, by first | rfl | go_num, by omega, Nat.le_refl _, HKR.out.trans HKQ.out (fun x hx => by cases hx)⟩
            · obtain rfl : k = lb.length := by omega
              have hltz : ¬ (lb.length : Int) < (lb.length : Int) := by omega
              have HFa := hid (show ∀ W, Kept [] wz W → Calls Try.prog 17 #[vz] W fun e w' => ∃ v', e = .returned v' ∧ w'.ownsRow W.heap.size 34 6 v' ss.length (ss.flatMap Pr.f) ∧ Kept [] W w' from fun W hk => from_any vz ss W (HPS.out.kept hk).at' (by omega))
              go_wp2_with (first
                | (go_at_call 15; refine (dcount_any A M D _ (HG.out.kept HKR.out (by simp) (by simp))).mono ?_; rintro e wc ⟨rfl, rfl⟩)
                | (go_at_call 17; refine (HFa.out _ HKR.out).mono ?_; clear HFa; rintro e wf1 ⟨vf1, rfl, hof, hkf⟩; have HB1 := hid (SlAt.of_own hof); have HKR := hid (HKR.out.trans hkf (fun x hx => by cases hx)); clear hof hkf)
                | (go_at_call 19; refine (HOver.out _ _ (HG.out.kept HKR.out (by simp) (by simp)) (HPB.out.kept HKR.out)).mono ?_; clear HOver; rintro e wo2 ⟨vo2, rfl, hpo, hko⟩; have HPV := hid hpo; have HB1 := hid (HB1.out.kept hko); have HKR := hid (HKR.out.trans hko (fun x hx => by cases hx)); clear hpo hko)
                | (go_at_call 17; refine (from_any _ ss _ HPV.out.at' (by omega)).mono ?_; clear HPV; rintro e wf2 ⟨vf2, rfl, hof, hkf⟩; have HB2 := hid (SlAt.of_own hof); have HB1 := hid (HB1.out.kept hkf); have HKR := hid (HKR.out.trans hkf (fun x hx => by cases hx)); clear hof hkf)
                | (go_at_call 16; refine (samePairs_any _ _ ss ss _ HB1.out HB2.out).mono ?_; clear HB1 HB2; rw [decide_eq_true rfl]; rintro e ws ⟨rfl, hks⟩; have HKR := hid (HKR.out.trans hks (fun x hx => by cases hx)); clear hks)
                | (go_at_call 19; refine (HOv2.out _ _ (HG2.out.kept HKR.out (by simp) (by simp)) (HPS.out.kept HKR.out)).mono ?_; clear HOv2; rintro e wo3 ⟨vo3, rfl, hpo, hko⟩; have HPW := hid hpo; have HKR := hid (HKR.out.trans hko (fun x hx => by cases hx)); clear hpo hko)
                | (go_at_call 17; refine (from_any _ sb _ HPW.out.at' (by omega)).mono ?_; clear HPW; rintro e wf3 ⟨vf3, rfl, hof, hkf⟩; have HB3 := hid (SlAt.of_own hof); have HKR := hid (HKR.out.trans hkf (fun x hx => by cases hx)); clear hof hkf)
                | (go_at_call 26; refine (HSo.out _ (HKO.out.trans HKR.out (fun x hx => by cases hx))).mono ?_; clear HSo; rintro e wf4 ⟨vf4, rfl, hof, _, hkf⟩; have HB4 := hid (SlAt.of_own hof); have HB3 := hid (HB3.out.kept hkf); have HKR := hid (HKR.out.trans hkf (fun x hx => by cases hx)); clear hof hkf)
                | (go_at_call 16; refine (samePairs_any _ _ sb sb _ HB3.out HB4.out).mono ?_; clear HB3 HB4; rw [decide_eq_true rfl]; rintro e ws2 ⟨rfl, hks⟩; have HKR := hid (HKR.out.trans hks (fun x hx => by cases hx)); clear hks))
              go_returns
              exact ⟨rfl, HKO.out.trans HKR.out (fun x hx => by cases hx)⟩
--@@ end
end Go.Proofs.Ythidbnjijomlmaa.draftRecs
