/- RedoTwice: the walk. -/
import Derived.Test.YtbkapjmomafjjaaM10
set_option linter.all false
namespace Go.Proofs.Ytbkapjmomafjjaa.redoTwice
open Go.RowKit Go.Shelf Go.Lib Go.Sort Go.Proofs Go.Proofs.Ytbkapjmomafjjaa
set_option linter.unusedVariables false
set_option linter.unusedSimpArgs false

--@@ concordatlaw11.RedoTwice
set_option maxHeartbeats 8000000 in
set_option maxRecDepth 100000 in
theorem walk (v0 : Value) (l : List Rc) (w : World) (h0 : SlAt w v0 Rc.ps.length l.length (l.flatMap Rc.f)) (hok : ∀ x ∈ l, x.ok) :
    Calls Try.prog 4 #[v0] w fun e w' => e = .returned (.bool true) ∧ Kept [] w w' := by
  have H0 := hid (show SlAt w v0 11 l.length (l.flatMap Rc.f) from h0)
  obtain ⟨a, cap, rfl, hmax, _, _⟩ := h0.ex
  clear h0
  by_cases hlen : 100 < l.length
  · have hlenz : (100 : Int) < (l.length : Int) := by omega
    clear hok
    go_enter Try.func4, Try.ntmps4
    go_wp2_with (go_at_call 9; refine (alive11_any _).mono ?_; rintro e wa ⟨rfl, hka⟩)
    go_ret
    exact ⟨rfl, hka⟩
  have hlenz : (l.length : Int) ≤ 100 := by omega
  have HRE := hid (fun W (hK : Kept [] w W) => replay_any _ l W (H0.out.kept hK) (by omega) hok)
  have hlaw := law_twice l
  have hrr := replay_right l
  have hle := replay_recs_le l hok
  have hms := recs_ms (s := replayP l) (by have := (replay_le l hok).1; omega) (replay_ms l hok)
  obtain ⟨S, hS⟩ : ∃ S, S = replayP l := ⟨_, rfl⟩
  rw [← hS] at HRE hlaw hrr hle hms
  have hle2 : (recsS S).length ≤ 301 := by omega
  clear hS hok hle
  cases hrt : S.right with
  | false =>
    rw [hrt] at hrr
    have hb64 : (64 : Int) < (S.base.length : Int) := by have := of_decide_eq_false hrr.symm; omega
    have HRC := hid (fun W bv tv h => recs_wrong_any W bv tv S h hrt (by omega))
    have HSM := hid (fun W b1 t1 b2 t2 h1 h2 => same_one_any W b1 t1 b2 t2 S S rfl h1 h2)
    clear hlaw hrr hms hle2 hrt
    go_enter Try.func4, Try.ntmps4
    go_wp2_with (first
      | (go_at_call 9; refine (alive11_any _).mono ?_; rintro e wa ⟨rfl, hka⟩; have HKA := hid hka; clear hka)
      | (go_at_call 15; refine (HRE.out _ HKA.out).mono ?_; rintro e w1 ⟨bv, tv, rfl, hst, hk1⟩; obtain ⟨xa, xc, ya, yc, rfl, rfl⟩ := hst.slices; have HST := hid hst; have HK1 := hid (HKA.out.trans hk1 (fun x hx => .inl hx)); clear hst hk1))
    have hke := ((Kept.refl [] (w1.alloc (.cells #[.slice xa S.base.length xc, .slice ya S.txs.length yc] 32)))).drew
    go_region_held3 (fun w' => w'.cell? ⟨w1.heap.size, 0, none⟩ = some (.slice xa S.base.length xc) ∧ w'.cell? ⟨w1.heap.size, 1, none⟩ = some (.slice ya S.txs.length yc))
      ((exact blk2 hke))
      (first
        | (go_at_call 15; refine (HRE.out _ ((HK1.out.alloc _).trans hke (fun x hx => .inl hx))).mono ?_; clear HRE; rintro e w2 ⟨bv2, tv2, rfl, hst2, hk2⟩; obtain ⟨xa2, xc2, ya2, yc2, rfl, rfl⟩ := hst2.slices; have hke := hke.trans hk2 (fun x hx => .inl hx))
        | (go_at_call 14; refine (HSM.out _ _ _ _ _ (HST.out.kept (((Kept.refl [] w1).alloc _).trans hke (fun x hx => .inl hx))) hst2).mono ?_; clear HSM; rintro e w3 ⟨rfl, hk3⟩; have hke := hke.trans hk3 (fun x hx => .inl hx)))
    obtain ⟨g0, g1⟩ := blk2 hke
    have HKE := hid hke
    clear hk2 hk3 hke
    go_wp2_with (first
      | (go_at_call 12; refine (HRC.out _ _ _ (HST.out.kept (((Kept.refl [] w1).alloc _).trans HKE.out (fun x hx => .inl hx)))).mono ?_; clear HRC; rintro e w4 ⟨rfl, hk4⟩; obtain ⟨g0, g1⟩ := blk2 (HKE.out.trans hk4 (fun x hx => .inl hx))))
    go_returns
    exact ⟨rfl, ((HK1.out.alloc _).trans HKE.out (fun x hx => .inl hx)).trans hk4 (fun x hx => .inl hx)⟩
  | true =>
    have HRC := hid (fun W bv tv h => recs_right_any W bv tv S h hrt (by omega))
    have HSM := hid (fun W b1 t1 b2 t2 h1 h2 => same_one_any W b1 t1 b2 t2 S S rfl h1 h2)
    have HSM2 := hid (fun W b1 t1 b2 t2 h1 h2 => same_one_any W b1 t1 b2 t2 S S rfl h1 h2)
    have HRR := hid (fun W v (h : SlAt W v 11 (recsS S).length ((recsS S).flatMap Rc.f)) => replay_any v (recsS S) W h (by omega) hms)
    rw [hlaw hrt] at HRR
    clear hlaw hrr hms hrt hle2
    go_enter Try.func4, Try.ntmps4
    go_wp2_with (first
      | (go_at_call 9; refine (alive11_any _).mono ?_; rintro e wa ⟨rfl, hka⟩; have HKA := hid hka; clear hka)
      | (go_at_call 15; refine (HRE.out _ HKA.out).mono ?_; rintro e w1 ⟨bv, tv, rfl, hst, hk1⟩; obtain ⟨xa, xc, ya, yc, rfl, rfl⟩ := hst.slices; have HST := hid hst; have HK1 := hid (HKA.out.trans hk1 (fun x hx => .inl hx)); clear hst hk1))
    have hke := ((Kept.refl [] (w1.alloc (.cells #[.slice xa S.base.length xc, .slice ya S.txs.length yc] 32)))).drew
    go_region_held3 (fun w' => w'.cell? ⟨w1.heap.size, 0, none⟩ = some (.slice xa S.base.length xc) ∧ w'.cell? ⟨w1.heap.size, 1, none⟩ = some (.slice ya S.txs.length yc))
      ((exact blk2 hke))
      (first
        | (go_at_call 15; refine (HRE.out _ ((HK1.out.alloc _).trans hke (fun x hx => .inl hx))).mono ?_; clear HRE; rintro e w2 ⟨bv2, tv2, rfl, hst2, hk2⟩; obtain ⟨xa2, xc2, ya2, yc2, rfl, rfl⟩ := hst2.slices; have hke := hke.trans hk2 (fun x hx => .inl hx))
        | (go_at_call 14; refine (HSM.out _ _ _ _ _ (HST.out.kept (((Kept.refl [] w1).alloc _).trans hke (fun x hx => .inl hx))) hst2).mono ?_; clear HSM; rintro e w3 ⟨rfl, hk3⟩; have hke := hke.trans hk3 (fun x hx => .inl hx)))
    obtain ⟨g0, g1⟩ := blk2 hke
    have HKE := hid hke
    clear hk2 hk3 hke
    go_wp2_with (first
      | (go_at_call 12; refine (HRC.out _ _ _ (HST.out.kept (((Kept.refl [] w1).alloc _).trans HKE.out (fun x hx => .inl hx)))).mono ?_; clear HRC; rintro e w4 ⟨v4, rfl, ho4, hk4⟩; obtain ⟨ra, rc, rfl⟩ := ownsRow_slice ho4))
    have HRO := hid (SlAt.of_own ho4)
    have hke := (HKE.out.trans hk4 (fun x hx => .inl hx)).drew
    have hkd := (Kept.refl [] w4).drew
    clear ho4 hk4 g0 g1
    go_region_held3 (fun w' => w'.cell? ⟨w1.heap.size, 0, none⟩ = some (.slice xa S.base.length xc) ∧ w'.cell? ⟨w1.heap.size, 1, none⟩ = some (.slice ya S.txs.length yc))
      ((exact blk2 hke))
      (first
        | (go_at_call 15; refine (HRR.out _ _ (HRO.out.kept hkd)).mono ?_; clear HRR; rintro e w5 ⟨bv5, tv5, rfl, hst5, hk5⟩; obtain ⟨xa5, xc5, ya5, yc5, rfl, rfl⟩ := hst5.slices; have hke := hke.trans hk5 (fun x hx => .inl hx))
        | (go_at_call 14; refine (HSM2.out _ _ _ _ _ hst5 (HST.out.kept (((Kept.refl [] w1).alloc _).trans hke (fun x hx => .inl hx)))).mono ?_; clear HSM2; rintro e w6 ⟨rfl, hk6⟩; have hke := hke.trans hk6 (fun x hx => .inl hx)))
    go_wp2
    go_returns
    exact ⟨rfl, (HK1.out.alloc _).trans hke (fun x hx => .inl hx)⟩
--@@ end
end Go.Proofs.Ytbkapjmomafjjaa.redoTwice
