/- RedoBack: the walk. -/
import Derived.Test.YtbkapjmomafjjaaM10
import Derived.Test.YtbkapjmomafjjaaM2
import Derived.Test.YtbkapjmomafjjaaR4Right
set_option linter.all false
namespace Go.Proofs.Ytbkapjmomafjjaa.redoBack
open Go.RowKit Go.Shelf Go.Lib Go.Sort Go.Proofs Go.Proofs.Ytbkapjmomafjjaa
set_option linter.unusedVariables false
set_option linter.unusedSimpArgs false

--@@ concordatlaw11.RedoBack
set_option maxHeartbeats 8000000 in
set_option maxRecDepth 100000 in
theorem walk (v0 : Value) (l : List Rc) (bv tv : Value) (s : Stp) (w : World) (h0 : SlAt w v0 Rc.ps.length l.length (l.flatMap Rc.f)) (hok : ∀ x ∈ l, x.ok) (hs : RSt w bv tv s) (hsx : ∀ x ∈ s.txs, x.mask ≤ 65535 ∧ x.ws.length * 24 ≤ reachBytes) :
    Calls Try.prog 3 #[v0, .agg #[bv, tv]] w fun e w' => e = .returned (.bool true) ∧ Kept [] w w' := by
  have H0 := hid (show SlAt w v0 11 l.length (l.flatMap Rc.f) from h0)
  obtain ⟨a, cap, rfl, hmax, _, hc⟩ := h0.ex
  have HS0 := hid hs
  obtain ⟨ba0, bc0, rfl, _⟩ := hs.base.ex
  obtain ⟨L0, hL0, hS0, _⟩ := hs.txs.ex
  obtain ⟨ta0, tc0, rfl, _⟩ := hS0.ex
  have hll0 : L0.length = s.txs.length := by rw [← hL0, List.length_map]
  rw [hll0] at HS0 ⊢
  clear h0 hc hs hS0 hL0 hll0 hmax
  by_cases hlen : 100 < l.length
  · have hlenz : (100 : Int) < (l.length : Int) := by omega
    clear hok hsx
    go_enter Try.func3, Try.ntmps3
    go_wp2_with (go_at_call 9; refine (alive11_any _).mono ?_; rintro e wa ⟨rfl, hka⟩)
    go_ret
    exact ⟨rfl, ((Kept.refl [] w).alloc _).trans hka (fun x hx => .inl hx)⟩
  have hlenz : (l.length : Int) ≤ 100 := by omega
  have HB0 := hid (fun W (hK : Kept [] (w.alloc (.cells #[.slice ba0 s.base.length bc0, .slice ta0 s.txs.length tc0] 26)) W) => blk2 hK)
  have HGR := hid (fun W (hK : Kept [] w W) => great_any _ _ s W (HS0.out.kept hK) (fun x hx => (hsx x hx).2))
  cases hgr : greatS s with
  | true =>
    rw [hgr] at HGR
    clear hok hsx hgr
    go_enter Try.func3, Try.ntmps3
    go_wp2_with (first
      | (go_at_call 9; refine (alive11_any _).mono ?_; rintro e wa ⟨rfl, hka⟩; obtain ⟨g0, g1⟩ := HB0.out _ hka; have HKA := hid (((Kept.refl [] w).alloc _).trans hka (fun x hx => .inl hx)); clear hka)
      | (go_at_call 10; refine (HGR.out _ HKA.out).mono ?_; rintro e wc ⟨rfl, hkc⟩))
    go_ret
    exact ⟨rfl, HKA.out.trans hkc (fun x hx => .inl hx)⟩
  | false =>
  rw [hgr] at HGR
  obtain ⟨hg1, hg2, hg3⟩ := greatS_false hgr
  have HTO := hid (fun W (hK : Kept [] w W) => stto_any _ _ s W (HS0.out.kept hK) (by omega) (by omega) (fun x hx => by have := hg3 x hx; omega))
  have hsum : (s.txs.map fun x => x.ws.length).sum ≤ 200 := by
    simp only [greatS, Bool.or_eq_false_iff, decide_eq_false_iff_not, Nat.not_lt] at hgr
    exact hgr.2.2
  have hrl : (recsS s).length ≤ 500 := by have := recs_len s; omega
  have hrms := recs_ms (s := s) (by omega) (fun x hx => (hsx x hx).1)
  clear hgr hsum
  cases hrt : s.right with
  | false =>
    have HRC := hid (fun W bv tv h => recs_wrong_any W bv tv s h hrt (by omega))
    clear hok hsx hg3 hrms hrl hrt
    go_enter Try.func3, Try.ntmps3
    go_wp2_with (first
      | (go_at_call 9; refine (alive11_any _).mono ?_; rintro e wa ⟨rfl, hka⟩; obtain ⟨g0, g1⟩ := HB0.out _ hka; have HKX := hid hka; have HKA := hid (((Kept.refl [] w).alloc _).trans hka (fun x hx => .inl hx)); clear hka)
      | (go_at_call 10; refine (HGR.out _ HKA.out).mono ?_; clear HGR; rintro e wc ⟨rfl, hkc⟩; clear g0 g1; obtain ⟨g0, g1⟩ := HB0.out _ (HKX.out.trans hkc (fun x hx => .inl hx)); have HKC := hid (HKA.out.trans hkc (fun x hx => .inl hx)); clear hkc)
      | (go_at_call 11; refine (HTO.out _ HKC.out).mono ?_; clear HTO; rintro e wd ⟨bv1, tv1, rfl, hst, hkd⟩; obtain ⟨xa, xc, ya, yc, rfl, rfl⟩ := hst.slices; have HST := hid hst; have HKD := hid (HKC.out.trans hkd (fun x hx => .inl hx)); clear hst hkd g0 g1)
      | (go_at_call 12; refine (HRC.out _ _ _ (HST.out.kept ((Kept.refl [] wd).alloc _))).mono ?_; clear HRC; rintro e w4 ⟨rfl, hk4⟩))
    go_returns
    exact ⟨rfl, (HKD.out.alloc _).trans hk4 (fun x hx => .inl hx)⟩
  | true =>
  have HRC := hid (fun W bv tv h => recs_right_any W bv tv s h hrt (by omega))
  have hall := recs_right (StOk.of hrt)
  obtain ⟨hl1, hl2, hl3⟩ := law_behind l hrt
  have HSM := hid (fun W b1 t1 b2 t2 h1 h2 => same_one_any W b1 t1 b2 t2 s s rfl h1 h2)
  have HSM2 := hid (fun W b1 t1 b2 t2 h1 h2 => same_one_any W b1 t1 b2 t2 s s rfl h1 h2)
  have HSM3 := hid (fun W b1 t1 b2 t2 h1 h2 => same_one_any W b1 t1 b2 t2 s s rfl h1 h2)
  have HR1 := hid (fun W v (h : SlAt W v 11 (recsS s).length ((recsS s).flatMap Rc.f)) => replay_any v (recsS s) W h (by omega) hrms)
  have HR2 := hid (fun W v (h : SlAt W v 11 (l ++ recsS s).length ((l ++ recsS s).flatMap Rc.f)) => replay_any v (l ++ recsS s) W h (by rw [List.length_append]; omega) (fun r hr => (List.mem_append.1 hr).elim (hok r) (hrms r)))
  have HR3 := hid (fun W v (h : SlAt W v 11 (recsS s ++ [Rc.zero]).length ((recsS s ++ [Rc.zero]).flatMap Rc.f)) => replay_any v (recsS s ++ [Rc.zero]) W h (by rw [List.length_append]; simp; omega) (fun r hr => (List.mem_append.1 hr).elim (hrms r) (fun h => by rw [List.mem_singleton] at h; subst h; exact Nat.zero_le _)))
  rw [hl1] at HR1
  rw [hl2] at HR2
  rw [hl3] at HR3
  obtain ⟨R, hR⟩ : ∃ R, R = recsS s := ⟨_, rfl⟩
  rw [← hR] at HRC HR1 HR2 HR3 hall hrl
  have HALL := hid hall
  clear hok hsx hg3 hrms hrt hl1 hl2 hl3 hR hall
  go_enter Try.func3, Try.ntmps3
  go_wp2_with (first
    | (go_at_call 9; refine (alive11_any _).mono ?_; rintro e wa ⟨rfl, hka⟩; obtain ⟨g0, g1⟩ := HB0.out _ hka; have HKX := hid hka; have HKA := hid (((Kept.refl [] w).alloc _).trans hka (fun x hx => .inl hx)); clear hka)
    | (go_at_call 10; refine (HGR.out _ HKA.out).mono ?_; clear HGR; rintro e wc ⟨rfl, hkc⟩; clear g0 g1; obtain ⟨g0, g1⟩ := HB0.out _ (HKX.out.trans hkc (fun x hx => .inl hx)); have HKC := hid (HKA.out.trans hkc (fun x hx => .inl hx)); clear hkc)
    | (go_at_call 11; refine (HTO.out _ HKC.out).mono ?_; clear HTO; rintro e wd ⟨bv1, tv1, rfl, hst, hkd⟩; obtain ⟨xa, xc, ya, yc, rfl, rfl⟩ := hst.slices; have HST := hid hst; have HKD := hid (HKC.out.trans hkd (fun x hx => .inl hx)); clear hst hkd g0 g1)
    | (go_at_call 12; refine (HRC.out _ _ _ (HST.out.kept ((Kept.refl [] wd).alloc _))).mono ?_; clear HRC; rintro e w4 ⟨v4, rfl, ho4, hk4⟩; obtain ⟨ra, rc, rfl⟩ := ownsRow_slice ho4))
  have hkw := (HKD.out.alloc (.cells #[.slice xa s.base.length xc, .slice ya s.txs.length yc] 32))
  have HSTD := hid (HST.out.kept ((Kept.refl [] wd).alloc (.cells #[.slice xa s.base.length xc, .slice ya s.txs.length yc] 32)))
  have HBD := hid (fun W (hK : Kept [] (wd.alloc (.cells #[.slice xa s.base.length xc, .slice ya s.txs.length yc] 32)) W) => blk2 hK)
  have HKW := hid hkw
  have HO4 := hid ho4
  have HK4 := hid hk4
  obtain ⟨_, _, hr1, _, _, hr2⟩ := (SlAt.of_own ho4).ex
  cases hr1
  have HRR := hid hr2
  clear ho4 hk4 hr2 HST HKD HKC HKX HKA HB0 hkw
  generalize wd.heap.size = BX at *
  generalize wd.alloc (.cells #[.slice xa s.base.length xc, .slice ya s.txs.length yc] 32) = D at *
  go_loopg [8] R.length (fun kx s8 wr => ∃ i : Nat, s8 = .int .i64 i ∧ i ≤ R.length ∧ R.length - i ≤ kx ∧ Aside (Kept [] w4 wr))
  case atStart => exact ⟨0, by first | rfl | go_num, by omega, by omega, Kept.refl [] w4⟩
  case round =>
    obtain ⟨i, rfl, hi, hix, HK⟩ := hrel
    rename World => wq
    by_cases hlt : i < R.length
    · have hltz : (i : Int) < (R.length : Int) := by omega
      obtain ⟨b, off, rfl, _, d1⟩ := HRR.out (by omega)
      obtain ⟨q0, q1, q2, q3, q4, q5, q6, q7, q8, q9, q10⟩ := rec_cells (fun j u hu => HK.out.cell (d1 j u hu) (by simp)) hlt
      have HRT := hid (r4right_all R[i])
      have hrr := HALL.out _ (List.getElem_mem hlt)
      rw [hrr] at HRT
      clear d1 hrr
      generalize R[i] = r at *
      obtain ⟨kind, tx, mask, ⟨k1, k2, k3, k4⟩, ⟨o1, o2⟩, ⟨n1, n2⟩⟩ := r
      dsimp only at q0 q1 q2 q3 q4 q5 q6 q7 q8 q9 q10
      simp only [Rc.v, Rc.f] at HRT
      go_wp2_with (go_at_call 13; refine (HRT.out _).mono ?_; clear HRT; rintro e w5 ⟨rfl, hk5⟩)
      go_roundg (R.length - (i + 1))
      case measure => omega
      case rel => exact ⟨i + 1, by first | rfl | go_num, by omega, Nat.le_refl _, HK.out.trans hk5 (fun x hx => .inl hx)⟩
    · obtain rfl : i = R.length := by omega
      have hltz : ¬ (R.length : Int) < (R.length : Int) := by omega
      have HKDQ := hid (HK4.out.trans HK.out (fun x hx => .inl hx))
      have HKWQ := hid (HKW.out.trans HKDQ.out (fun x hx => .inl hx))
      have HRQ := hid (ownsRow_kept HO4.out HK.out (by simp))
      clear HRR hix hi HALL
      go_wp2_with (at_builtin; refine Here.mk ?_)
      refine Here.of ?_
      refine wpList_append_rc rfl _ _ rfl wq.heap.size _ [] rfl (recs_made0 wq wq.heap.size (Nat.le_refl _)) _ l rfl (H0.out.kept (HKWQ.out.alloc _)) (by simp; omega) (by simp) ?_
      intro u1 x1 hown1 hgr1 hnn1
      have HO1 := hid (show x1.ownsRow wq.heap.size 43 11 u1 l.length (l.flatMap Rc.f) from hown1)
      have HK1 := hid (((Kept.refl [] wq).alloc (.cells #[] 43)).grown_own (recs_made0 wq wq.heap.size (Nat.le_refl _)) hgr1 (Nat.le_refl _))
      clear hown1 hgr1 hnn1
      go_wp2_with (at_builtin; refine Here.mk ?_)
      refine Here.of ?_
      refine wpList_append_rc rfl _ _ rfl wq.heap.size _ l rfl HO1.out _ R rfl ((SlAt.of_own HRQ.out).kept HK1.out) (by omega) HK1.out.size ?_
      intro u2 x2 hown2 hgr2 hnn2
      have HK2 := hid (HK1.out.grown_own HO1.out hgr2 (Nat.le_refl _))
      have HO2 := hid (SlAt.of_own hown2)
      have HR2' := hid (ownsRow_kept HRQ.out HK2.out (by simp))
      have hkx := (Kept.refl [] x2).drew
      have hkd := (HKDQ.out.trans HK2.out (fun x hx => .inl hx)).drew
      have hdz := hkd.size
      clear hown2 hgr2 hnn2 HO1 HK1 HRQ
      go_wp2_with fail
      go_region_held3 (fun w' => w'.cell? ⟨BX, 0, none⟩ = some (.slice xa s.base.length xc) ∧ w'.cell? ⟨BX, 1, none⟩ = some (.slice ya s.txs.length yc))
        ((first | exact HBD.out _ hkd | exact HBD.out _ (hkd.alloc _)))
        (first
          | (go_at_call 15; refine (HR1.out _ _ (SlAt.of_own (ownsRow_kept HR2'.out hkx (by simp)))).mono ?_; clear HR1; rintro e y1 ⟨bv5, tv5, rfl, hst5, hk5⟩; obtain ⟨xa5, xc5, ya5, yc5, rfl, rfl⟩ := hst5.slices; have hkx := hkx.trans hk5 (fun x hx => .inl hx); have hkd := hkd.trans hk5 (fun x hx => .inl hx))
          | (go_at_call 14; refine (HSM.out _ _ _ _ _ hst5 (HSTD.out.kept hkd)).mono ?_; clear HSM; rintro e y2 ⟨rfl, hk6⟩; have hkx := hkx.trans hk6 (fun x hx => .inl hx); have hkd := hkd.trans hk6 (fun x hx => .inl hx))
          | (go_at_call 15; refine (HR2.out _ _ (HO2.out.kept hkx)).mono ?_; clear HR2; rintro e y3 ⟨bv7, tv7, rfl, hst7, hk7⟩; obtain ⟨xa7, xc7, ya7, yc7, rfl, rfl⟩ := hst7.slices; have hkx := hkx.trans hk7 (fun x hx => .inl hx); have hkd := hkd.trans hk7 (fun x hx => .inl hx))
          | (go_at_call 14; refine (HSM2.out _ _ _ _ _ hst7 (HSTD.out.kept hkd)).mono ?_; clear HSM2; rintro e y4 ⟨rfl, hk8⟩; have hkx := hkx.trans hk8 (fun x hx => .inl hx); have hkd := hkd.trans hk8 (fun x hx => .inl hx))
          | ((first | skip | rw [if_pos (by rfl)]); refine wp_append_rc _ _ rfl D.heap.size _ R rfl ((ownsRow_kept HR2'.out hkx (by simp)).alloc _) _ [Rc.zero] rfl (SlAt.rec1 _ Rc.zero) (by simp; omega) (by have := hkd.size; simp; omega) ?_; intro v9 w9 hown9 hgr9 _; have hkd := (hkd.alloc (.cells Rc.zero.f.toArray 43)).grown_own ((ownsRow_kept HR2'.out hkx (by simp)).alloc _) hgr9 (Nat.le_refl _); have hs9 := SlAt.of_own hown9)
          | (go_at_call 15; refine (HR3.out _ _ hs9).mono ?_; clear HR3; rintro e y5 ⟨bva, tva, rfl, hsta, hka⟩; obtain ⟨xaa, xca, yaa, yca, rfl, rfl⟩ := hsta.slices; have hkd := hkd.trans hka (fun x hx => .inl hx))
          | (go_at_call 14; refine (HSM3.out _ _ _ _ _ hsta (HSTD.out.kept hkd)).mono ?_; clear HSM3; rintro e y6 ⟨rfl, hkb⟩; have hkd := hkd.trans hkb (fun x hx => .inl hx)))
      go_wp2
      go_returns
      exact ⟨rfl, HKW.out.trans hkd (fun x hx => .inl hx)⟩
--@@ end
end Go.Proofs.Ytbkapjmomafjjaa.redoBack
