/- DraftOver: the walk. -/
import Derived.Test.YthidbnjijomlmaaAlive09
import Derived.Test.YthidbnjijomlmaaOverLaw
set_option linter.all false
namespace Go.Proofs.Ythidbnjijomlmaa.draftOver
open Go.RowKit Go.Shelf Go.Lib Go.Sort Go.Proofs Go.Proofs.Ythidbnjijomlmaa
set_option linter.unusedVariables false
set_option linter.unusedSimpArgs false

theorem two_kept {w w' : World} {t : TypeId} {x y : Value} (hk : Kept [] (w.alloc (.cells #[x, y] t)) w') : w'.heap[w.heap.size]? = some (.cells #[x, y] t (0, 0)) :=
  (hk.block w.heap.size (by simp) (by simp)).trans (heap_alloc_new w _)
theorem cell2 {w : World} {B : Nat} {t : TypeId} {x y : Value} (hb : w.heap[B]? = some (.cells #[x, y] t (0, 0))) :
    w.cell? ⟨B, 0, none⟩ = some x ∧ w.cell? ⟨B, 1, none⟩ = some y ∧ w.frozen? ⟨B, 0, none⟩ = false ∧ w.frozen? ⟨B, 1, none⟩ = false := by
  refine ⟨?_, ?_, ?_, ?_⟩ <;> simp [World.cell?, World.frozen?, hb]
theorem set2 {w : World} {B : Nat} {t : TypeId} {fr : Nat × Nat} {x y : Value} (hb : w.heap[B]? = some (.cells #[x, y] t fr)) (x' y' : Value) :
    ((w.setCell ⟨B, 0, none⟩ x').setCell ⟨B, 1, none⟩ y').heap[B]? = some (.cells #[x', y'] t fr) := by
  simp [World.setCell, Array.getElem?_modify, hb]
theorem sortP_len (l : List Pr) : (sortP l).length ≤ l.length :=
  Nat.le_trans (List.length_filter_le _ _) (keysP_len l)
--@@ concordatlaw09.DraftOver
theorem get_at (A M : Nat) (D : List (K4 × V)) (k : K4) (g : Option V) (hg : aget k D = g) (W : World) (h : DraftIs W A M D) :
    Calls Try.prog 12 #[.pointer (some ⟨A, 0, none⟩), k.v] W fun e w' => e = .returned (.tuple #[.agg #[.bool (g.getD V.zero).there, .int .i64 (g.getD V.zero).n], .bool g.isSome]) ∧ Kept [] W w' := by
  have := dget_any A M D k W h
  rw [hg] at this
  exact this
set_option maxHeartbeats 8000000 in
set_option maxRecDepth 100000 in
theorem walk (v0 : Value) (la : List Pr) (v1 : Value) (lb : List Pr) (kk : K4) (w : World) (h0 : SlAt w v0 Pr.ps.length la.length (la.flatMap Pr.f)) (_hl : ∀ x ∈ la, x.ok)
    (h1 : SlAt w v1 Pr.ps.length lb.length (lb.flatMap Pr.f)) (_hl1 : ∀ x ∈ lb, x.ok) (_o2 : kk.ok) :
    Calls Try.prog 4 #[v0, v1, .agg kk.f.toArray] w fun e w' => e = .returned (.bool true) ∧ Kept [] w w' := by
  clear _hl _hl1 _o2
  have hlaw := hid (fun g got was hg h1 h2 => over_law lb la kk g got was hg h1 h2)
  obtain ⟨k1, k2, k3, k4⟩ := kk
  simp only [K4.f]
  obtain ⟨a, cap, rfl, hmax, _, hc⟩ := h0.ex
  obtain ⟨a', cap', rfl, hmax', _, hc'⟩ := h1.ex
  have HC := hid hc
  have H1 := hid h1
  clear h0 h1 hc hc'
  by_cases hlen : 100 < la.length
  · have hlenz : (100 : Int) < (la.length : Int) := by omega
    go_enter Try.func4, Try.ntmps4
    go_wp2_with (go_at_call 8; refine (alive_any _).mono ?_; rintro e wa ⟨rfl, hka⟩)
    go_ret
    exact ⟨rfl, ((Kept.refl [] w).alloc _).trans hka (fun x hx => by cases hx)⟩
  by_cases hlen' : 100 < lb.length
  · have hlenz : (la.length : Int) ≤ 100 := by omega
    have hlenz' : (100 : Int) < (lb.length : Int) := by omega
    go_enter Try.func4, Try.ntmps4
    go_wp2_with (go_at_call 8; refine (alive_any _).mono ?_; rintro e wa ⟨rfl, hka⟩)
    go_ret
    exact ⟨rfl, ((Kept.refl [] w).alloc _).trans hka (fun x hx => by cases hx)⟩
  have hlenz : (la.length : Int) ≤ 100 := by omega
  have hlenz' : (lb.length : Int) ≤ 100 := by omega
  go_enter Try.func4, Try.ntmps4
  go_wp2_with (first
    | (go_at_call 8; refine (alive_any _).mono ?_; rintro e wa ⟨rfl, hka⟩)
    | (go_at_call 9; refine (dnew_any wa).mono ?_; rintro e w1 ⟨rfl, hG, hk⟩))
  have hwa : w.heap.size < wa.heap.size := by have := hka.size; simp at this; omega
  have hw1 : wa.heap.size < w1.heap.size := hG.lt.2
  obtain ⟨M, hM⟩ : ∃ M, M = wa.heap.size := ⟨_, rfl⟩
  obtain ⟨A, hA⟩ : ∃ A, A = wa.heap.size + 1 := ⟨_, rfl⟩
  rw [← hA, ← hM] at hG
  rw [← hA]
  have hMA : w.heap.size < M ∧ M < w1.heap.size ∧ A < w1.heap.size := ⟨by omega, by omega, hG.lt.1⟩
  have HSK := hid (show ∀ w', Kept [M] w1 w' → w'.cell? ⟨w.heap.size, 0, none⟩ = some (.int .u8 (k1.toNat : Int)) ∧ w'.cell? ⟨w.heap.size, 1, none⟩ = some (.int .u8 (k2.toNat : Int)) ∧ w'.cell? ⟨w.heap.size, 2, none⟩ = some (.int .u8 (k3.toNat : Int)) ∧ w'.cell? ⟨w.heap.size, 3, none⟩ = some (.int .u8 (k4.toNat : Int)) from fun w' hk' => by
    have kk := (hka.trans hk (fun x hx => by cases hx)).trans hk' (fun x hx => .inr (by have h1 := hMA.1; rw [List.mem_singleton] at hx; rw [hx, World.size_alloc]; omega))
    have nc := fun j u h => kk.cell (new_cell w [.int .u8 (k1.toNat : Int), .int .u8 (k2.toNat : Int), .int .u8 (k3.toNat : Int), .int .u8 (k4.toNat : Int)] 24 j u h) (by simp)
    exact ⟨nc 0 _ rfl, nc 1 _ rfl, nc 2 _ rfl, nc 3 _ rfl⟩)
  have HKW := hid ((((Kept.refl [] w).alloc (.cells #[.int .u8 (k1.toNat : Int), .int .u8 (k2.toNat : Int), .int .u8 (k3.toNat : Int), .int .u8 (k4.toNat : Int)] 24)).trans hka (fun x hx => by cases hx)).trans hk (fun x hx => by cases hx))
  have HG0 := hid hG
  clear hG hk hka hw1 hwa hM hA
  go_loopg [8] la.length (fun kx s8 wr => ∃ k : Nat, s8 = .int .i64 k ∧ k ≤ la.length ∧ la.length - k ≤ kx ∧ Aside (DraftIs wr A M (putsD [] (la.take k))) ∧ Aside (Kept [M] w1 wr))
  case atStart => exact ⟨0, by first | rfl | go_num, by omega, by omega, HG0.out, Kept.refl _ _⟩
  case round =>
    clear HG0
    obtain ⟨k, rfl, hk, hkx, HG, HKC⟩ := hrel
    by_cases hlt : k < la.length
    · have hltz : (k : Int) < (la.length : Int) := by omega
      obtain ⟨b, off, rfl, hb, hcs⟩ := HC.out (by omega)
      have hcW : ∀ j u, (la.flatMap Pr.f)[j]? = some u → wr.drew.cell? ⟨b, off + j, none⟩ = some u := fun j u hj => (HKC.out.drew).cell (HKW.out.cell (hcs j u hj) (by simp)) (by simp; omega)
      obtain ⟨e0, e1, e2, e3, e4, e5⟩ := pair_cells hcW hlt
      have HT := hid (show la.take (k + 1) = la.take k ++ [la[k]] by rw [List.take_succ_eq_append_getElem hlt])
      clear hcW hcs
      generalize la[k] = x at *
      obtain ⟨⟨x1, x2, x3, x4⟩, ⟨x5, x6⟩⟩ := x
      dsimp only at e0 e1 e2 e3 e4 e5
      go_wp2_with fail
      refine region_tail 11 (by kernel_rfl) (by kernel_rfl) ?_
      simp only [List.take_succ_cons, List.take_zero, List.drop_succ_cons, List.drop_zero]
      repeat still_step
      refine wpStill_nil ?_
      go_wp2_with (first | (go_at_call 11; refine (dput_any A M _ ⟨x1, x2, x3, x4⟩ ⟨x5, x6⟩ _ (HG.out.kept ((Kept.refl [] wr).drew) (by simp) (by simp))).mono ?_; rintro e w2 ⟨rfl, hG2, hk2⟩))
      have HG2 := hid hG2
      have HK2 := hid (HKC.out.drew.trans hk2 (fun x hx => .inl hx))
      clear hG2 hk2
      go_roundg (la.length - (k + 1))
      case measure => omega
      case rel => exact ⟨k + 1, by first | rfl | go_num, by omega, Nat.le_refl _, by show DraftIs _ _ _ _; rw [HT.out, putsD_snoc]; exact HG2.out, HK2.out⟩
    · obtain rfl : k = la.length := by omega
      have hltz : ¬ (la.length : Int) < (la.length : Int) := by omega
      rw [List.take_length] at HG
      have HOK := hid (putsD_ok la)
      obtain ⟨D, hD⟩ : ∃ D, putsD [] la = D := ⟨_, rfl⟩
      rw [hD] at HG HOK
      have HD := hid hD
      obtain ⟨ss, hss⟩ : ∃ ss, ss = sortP (lb ++ keysP (D.map toPr)) := ⟨_, rfl⟩
      have HSS := hid hss
      have hsl : ss.length ≤ 200 := by
        rw [hss]
        have h1 := sortP_len (lb ++ keysP (D.map toPr))
        have h2 := keysP_len (D.map toPr)
        have h3 := HOK.out.2
        simp at h1 h2
        omega
      have HAG := hid (show sortP (ss ++ keysP (D.map toPr)) = ss by rw [hss]; exact over_again _ _)
      clear hD hss
      have HOver1 := hid (show ∀ W v, DraftIs W A M D → PrAt W v lb → Calls Try.prog 19 #[.pointer (some ⟨A, 0, none⟩), v] W fun e w' => ∃ v', e = .returned v' ∧ PrAt w' v' ss ∧ Kept [] W w' from fun W v h hv => by rw [HSS.out]; exact over_any A M D v lb W h HOK.out.1 (by have := HOK.out.2; omega) hv (by omega))
      have HOver2 := hid (show ∀ W v, DraftIs W A M D → PrAt W v ss → Calls Try.prog 19 #[.pointer (some ⟨A, 0, none⟩), v] W fun e w' => ∃ v', e = .returned v' ∧ PrAt w' v' ss ∧ Kept [] W w' from fun W v h hv => by have := over_any A M D v ss W h HOK.out.1 (by have := HOK.out.2; omega) hv (by omega); rw [HAG.out] at this; exact this)
      have HTo1 := hid (show ∀ W, Kept [M] w1 W → Calls Try.prog 13 #[.slice a' lb.length cap'] W fun e w' => ∃ v', e = .returned v' ∧ w'.ownsRow W.heap.size 54 6 v' lb.length (lb.flatMap Pr.f) ∧ Kept [] W w' from fun W hk => to_any _ lb W (H1.out.kept (HKW.out.trans hk (fun x hx => .inr (by simp at hx; omega)))) (by omega))
      have HTo2 := HTo1
      obtain ⟨g, hg⟩ : ∃ g, aget (⟨k1, k2, k3, k4⟩ : K4) D = g := ⟨_, rfl⟩
      have HGet := hid (fun W h => get_at A M D ⟨k1, k2, k3, k4⟩ g hg W h)
      obtain ⟨got, hgt⟩ : ∃ got, got = findP ss (⟨k1, k2, k3, k4⟩ : K4) := ⟨_, rfl⟩
      have HFo := hid (show ∀ W v, PrAt W v ss → Calls Try.prog 24 #[v, .agg #[.int .u8 (k1.toNat : Int), .int .u8 (k2.toNat : Int), .int .u8 (k3.toNat : Int), .int .u8 (k4.toNat : Int)]] W fun e w' => e = .returned (.agg #[.bool got.there, .int .i64 got.n]) ∧ Kept [] W w' from fun W v h => by rw [hgt]; exact find_any v ss ⟨k1, k2, k3, k4⟩ W h.at')
      obtain ⟨was, hwas⟩ : ∃ was, was = findP lb (⟨k1, k2, k3, k4⟩ : K4) := ⟨_, rfl⟩
      have HFb := hid (show ∀ W v, PrAt W v lb → Calls Try.prog 24 #[v, .agg #[.int .u8 (k1.toNat : Int), .int .u8 (k2.toNat : Int), .int .u8 (k3.toNat : Int), .int .u8 (k4.toNat : Int)]] W fun e w' => e = .returned (.agg #[.bool was.there, .int .i64 was.n]) ∧ Kept [] W w' from fun W v h => by rw [hwas]; exact find_any v lb ⟨k1, k2, k3, k4⟩ W h.at')
      have HL := hid (hlaw.out g got was (by rw [HD.out]; exact hg) (by rw [hgt, HSS.out, ← HD.out]) hwas)
      clear hlaw hg hgt hwas
      obtain ⟨⟨g1, g2⟩, hgv⟩ : ∃ q, g.getD V.zero = q := ⟨_, rfl⟩
      obtain ⟨okb, hok⟩ : ∃ q, g.isSome = q := ⟨_, rfl⟩
      rw [hgv, hok] at HGet
      dsimp only at HGet
      have HL1 := hid (show okb = true → got = ⟨g1, g2⟩ from fun h => by subst hok; obtain ⟨v, rfl⟩ := Option.isSome_iff_exists.1 h; rw [← hgv]; exact HL.out.1 v rfl)
      have HL2 := hid (show okb = false → (was.there = true → got = was) ∧ (was.there = false → got.there = false) from fun h => by subst hok; exact HL.out.2 (by simpa using h))
      clear HL hok hgv
      obtain ⟨o1, o2⟩ := got
      obtain ⟨u1, u2⟩ := was
      dsimp only at HFo HFb
      obtain ⟨q0, q1, q2, q3⟩ := HSK.out wr HKC.out
      clear q0 q1 q2 q3 hmax hmax' hkx hk
      go_upto_region 13 with (first
        | (go_at_call 13; refine (HTo1.out _ HKC.out).mono ?_; clear HTo1; rintro e wt ⟨vt, rfl, hot, hkt⟩; have HPB := hid (PrAt.of_own hot rfl); have HG := hid (HG.out.kept hkt (by simp) (by simp)); have HKC := hid (HKC.out.trans hkt (fun x hx => by cases hx)); obtain ⟨at1, ct1, rfl⟩ := ownsRow_slice hot; clear hot hkt)
        | (go_at_call 19; refine (HOver1.out _ _ HG.out HPB.out).mono ?_; clear HOver1; rintro e wo ⟨vo, rfl, hpo, hko⟩; have HPO := hid hpo; have HG := hid (HG.out.kept hko (by simp) (by simp)); have HKC := hid (HKC.out.trans hko (fun x hx => by cases hx)); obtain ⟨q0, q1, q2, q3⟩ := HSK.out _ HKC.out; clear hpo hko)
        | (go_at_call 12; refine (HGet.out _ HG.out).mono ?_; clear HGet; rintro e wg ⟨rfl, hkg⟩; have hkg2 := hkg.trans ((Kept.refl [] wg).alloc (.cells #[.bool g1, .int .i64 g2] 32)) (fun x hx => by cases hx); have HPO := hid (HPO.out.kept hkg2); have HG := hid (HG.out.kept hkg2 (by simp) (by simp)); have HKC := hid (HKC.out.trans hkg2 (fun x hx => by cases hx)); have HBG := hid (heap_alloc_new wg (.cells #[.bool g1, .int .i64 g2] 32)); have hBG := wg.size_alloc (.cells #[.bool g1, .int .i64 g2] 32); clear hkg hkg2 q0 q1 q2 q3; obtain ⟨q0, q1, q2, q3⟩ := HSK.out _ HKC.out)
        | (go_at_call 24; refine (HFo.out _ _ HPO.out).mono ?_; clear HFo; rintro e wf ⟨rfl, hkf⟩; have hkf2 := hkf.trans ((Kept.refl [] wf).alloc (.cells #[.bool o1, .int .i64 o2] 32)) (fun x hx => by cases hx); have HPO := hid (HPO.out.kept hkf2); have HG := hid (HG.out.kept hkf2 (by simp) (by simp)); have HKC := hid (HKC.out.trans hkf2 (fun x hx => by cases hx)); have HBO := hid (heap_alloc_new wf (.cells #[.bool o1, .int .i64 o2] 32)); have HBG := hid ((hkf2.block wg.heap.size (by omega) (by simp)).trans HBG.out); clear hkf hkf2 q0 q1 q2 q3))
      go_cut [62] (fun s62 wx => s62 = .bool false ∧ Aside (DraftIs wx A M D) ∧ Aside (PrAt wx vo ss) ∧ Aside (Kept [M] w1 wx) ∧ Aside (wx.heap[wf.heap.size]? = some (.cells #[.bool o1, .int .i64 o2] 32 (0, 0))))
      case first =>
        have hbo := HBO.out
        have hbg := HBG.out
        obtain ⟨x0, x1, _, _⟩ := cell2 hbo
        obtain ⟨y0, y1, _, _⟩ := cell2 hbg
        clear hbo hbg
        cases okb with
        | false =>
          clear x0 x1 y0 y1
          go_wp2_with fail
          go_meet
          exact ⟨rfl, HG.out, HPO.out, HKC.out, HBO.out⟩
        | true =>
          obtain ⟨rfl, rfl⟩ : g1 = o1 ∧ g2 = o2 := by have := HL1.out rfl; simp at this; exact ⟨this.1.symm, this.2.symm⟩
          have hqn : ∀ w, (binOp .neq 32 (.agg #[.bool g1, .int .i64 g2]) (.agg #[.bool g1, .int .i64 g2])).run Try.prog w = .ok (.bool false) w := fun w => by have := neV w ⟨g1, g2⟩ ⟨g1, g2⟩; rw [decide_eq_true rfl] at this; exact this
          go_wp2_with fail
          go_meet
          exact ⟨rfl, HG.out, HPO.out, HKC.out, HBO.out⟩
      case rest =>
      obtain ⟨rfl, HG, HPO, HKC, HBO⟩ := hcut
      clear HL1 HBG hBG
      rename World => wz
      generalize wf.heap.size = BO at *
      have HSZ := hid (fun w' (hk' : Kept [] wz w') => HSK.out w' (HKC.out.trans hk' (fun x hx => by cases hx)))
      go_upto_region 15 with (fail)
      go_cut [13] (fun s13 wx => ∃ BT, s13 = .pointer (some ⟨BT, 0, none⟩) ∧ Aside (wx.heap[BT]? = some (.cells #[.bool u1, .int .i64 u2] 32 (0, 0))) ∧ Aside (Kept [] wz wx))
      case first =>
        go_region_held3 (fun w' => w'.cell? ⟨w.heap.size, 0, none⟩ = some (.int .u8 (k1.toNat : Int)) ∧ w'.cell? ⟨w.heap.size, 1, none⟩ = some (.int .u8 (k2.toNat : Int)) ∧ w'.cell? ⟨w.heap.size, 2, none⟩ = some (.int .u8 (k3.toNat : Int)) ∧ w'.cell? ⟨w.heap.size, 3, none⟩ = some (.int .u8 (k4.toNat : Int)))
          ((refine HSZ.out _ ?_; (repeat (first | assumption | (with_reducible exact Kept.refl _ _) | (with_reducible refine Kept.drew ?_) | (with_reducible refine Kept.alloc ?_ _) | (with_reducible refine Kept.setCell ?_ (by right; simp; try omega) _)))))
          (first
            | (go_at_call 13; refine (HTo2.out _ (HKC.out.trans (show Kept [] wz _ by (repeat (first | assumption | (with_reducible exact Kept.refl _ _) | (with_reducible refine Kept.drew ?_) | (with_reducible refine Kept.alloc ?_ _) | (with_reducible refine Kept.setCell ?_ (by right; simp; try omega) _)))) (fun x hx => by cases hx))).mono ?_; clear HTo2; rintro e w10 ⟨v10, rfl, ho10, hk10'⟩; have hk10 := Kept.trans (show Kept [] wz _ by (repeat (first | assumption | (with_reducible exact Kept.refl _ _) | (with_reducible refine Kept.drew ?_) | (with_reducible refine Kept.alloc ?_ _) | (with_reducible refine Kept.setCell ?_ (by right; simp; try omega) _)))) hk10' (fun x hx => by cases hx); have hs10 := hk10.size; (try have hb10 : Aside (w10.heap[wz.heap.size]? = some (.cells #[.bool false, .int .i64 0] 32 (0, 0))) := two_kept (w := wz.drew) hk10'))
            | (go_at_call 24; refine (HFb.out _ _ ((PrAt.of_own ho10 rfl).kept (by (repeat (first | assumption | (with_reducible exact Kept.refl _ _) | (with_reducible refine Kept.drew ?_) | (with_reducible refine Kept.alloc ?_ _) | (with_reducible refine Kept.setCell ?_ (by right; simp; try omega) _)))))).mono ?_; clear HFb; rintro e w11 ⟨rfl, hk11'⟩; have hk11 := Kept.trans (show Kept [] wz _ by (repeat (first | assumption | (with_reducible exact Kept.refl _ _) | (with_reducible refine Kept.drew ?_) | (with_reducible refine Kept.alloc ?_ _) | (with_reducible refine Kept.setCell ?_ (by right; simp; try omega) _)))) hk11' (fun x hx => by cases hx); have hs11 := hk11.size; (first | (have hb11 : Aside (w11.heap[w10.heap.size]? = some (.cells #[.bool false, .int .i64 0] 32 (0, 0))) := two_kept hk11'; have hc11 := cell2 hb11.out) | (have hb11 : Aside (w11.heap[wz.heap.size]? = some (.cells #[.bool false, .int .i64 0] 32 (0, 0))) := (hk11'.block _ (Array.getElem?_eq_some_iff.1 hb10.out).1 (by simp)).trans hb10.out; have hc11 := cell2 hb11.out) | have hc11 : True ∧ True ∧ True ∧ True := ⟨trivial, trivial, trivial, trivial⟩); obtain ⟨cb0, cb1, cb2, cb3⟩ := hc11))
        all_goals (go_wp2; go_meet)
        all_goals first
          | exact ⟨_, rfl, heap_alloc_new w11 _, hk11.alloc _⟩
          | exact ⟨_, rfl, set2 hb11.out _ _, (hk11.setCell (.inr hs10) _).setCell (.inr hs10) _⟩
          | exact ⟨_, rfl, set2 hb11.out _ _, (hk11.setCell (.inr (Nat.le_refl _)) _).setCell (.inr (Nat.le_refl _)) _⟩
      case rest =>
      obtain ⟨BT, rfl, HBT, HKX⟩ := hcut
      clear HTo2 HFb HSZ
      rename World => wx
      have HBO := hid ((HKX.out.block BO (Array.getElem?_eq_some_iff.1 HBO.out).1 (by simp)).trans HBO.out)
      go_upto_region 16 with (fail)
      go_cut [90] (fun s90 wy => s90 = .bool false ∧ Aside (Kept [] wx wy))
      case first =>
        obtain ⟨x0, x1, _, _⟩ := cell2 HBO.out
        obtain ⟨y0, y1, _, _⟩ := cell2 HBT.out
        cases okb with
        | true =>
          clear x0 x1 y0 y1
          go_wp2_with fail
          go_meet
          exact ⟨rfl, Kept.refl _ _⟩
        | false =>
          obtain ⟨hl1, hl2⟩ := HL2.out rfl
          cases u1 with
          | true =>
            have hl3 := hl1 rfl
            simp at hl3
            obtain ⟨rfl, rfl⟩ := hl3
            clear hl1 hl2
            have hqn : ∀ w, (binOp .neq 32 (.agg #[.bool true, .int .i64 o2]) (.agg #[.bool true, .int .i64 o2])).run Try.prog w = .ok (.bool false) w := fun w => by have := neV w ⟨true, o2⟩ ⟨true, o2⟩; rw [decide_eq_true rfl] at this; exact this
            go_wp2_with fail
            go_meet
            exact ⟨rfl, Kept.refl _ _⟩
          | false =>
            obtain rfl := hl2 rfl
            clear hl1 hl2
            go_wp2_with fail
            go_meet
            exact ⟨rfl, Kept.refl _ _⟩
      case rest =>
      obtain ⟨rfl, HKY⟩ := hcut
      have HKY := hid (HKX.out.trans HKY.out (fun x hx => by cases hx))
      clear HKX HBT HBO HL2
      rename World => wy
      have HG := hid (HG.out.kept HKY.out (by simp) (by simp))
      have HPO := hid (HPO.out.kept HKY.out)
      have HKC := hid (HKC.out.trans HKY.out (fun x hx => by cases hx))
      clear HKY HSK
      have HTH := hid (show ∀ i (h : i < ss.length), ss[i].val.there = true from fun i h => sortP_there (lb ++ keysP (D.map toPr)) _ (by rw [← HSS.out]; exact List.getElem_mem h))
      have HBE := hid (show ∀ i (h : i + 1 < ss.length), ss[i].key.num < ss[i + 1].key.num from fun i h => by
        have hs := sortP_srt (lb ++ keysP (D.map toPr))
        rw [← HSS.out] at hs
        exact List.pairwise_iff_getElem.1 hs i (i + 1) (by omega) h (by omega))
      obtain ⟨ao, co, rfl, hmo, _, hco⟩ := HPO.out.at'.ex
      have HCO := hid hco
      clear hco hmo
      go_wp2_with fail
      go_loopg [14] ss.length (fun kx s14 w2 => ∃ k : Nat, s14 = .int .i64 k ∧ k ≤ ss.length ∧ ss.length - k ≤ kx ∧ Aside (Kept [] wy w2))
      case atStart => exact ⟨0, by first | rfl | go_num, by omega, by omega, Kept.refl _ _⟩
      case round =>
        obtain ⟨k, rfl, hk, hkx, HKR⟩ := hrel
        by_cases hlt : k < ss.length
        · have hltz : (k : Int) < (ss.length : Int) := by omega
          obtain ⟨b, off, rfl, hb, hcs⟩ := HCO.out (by omega)
          have HX := hid (fun (w' : World) (hk' : Kept [] wy w') i (hi : i < ss.length) => pair_cells (fun j u hj => hk'.cell (hcs j u hj) (by simp)) hi)
          have ht := HTH.out k hlt
          clear hcs
          rcases Nat.eq_zero_or_pos k with rfl | hpos
          · obtain ⟨_, _, _, _, e4, _⟩ := HX.out wr HKR.out 0 hlt
            rw [ht] at e4
            simp only [Nat.zero_mul, Nat.add_zero] at e4
            clear ht
            go_wp2_with fail
            go_quiet (fail)
            go_wp2
            go_roundg (ss.length - 1)
            case measure => omega
            case rel => exact ⟨1, by first | rfl | go_num, by omega, by omega, HKR.out.drewN _⟩
          · obtain ⟨K, hK⟩ : ∃ K, k = K + 1 := ⟨k - 1, by omega⟩
            have hKl : K < ss.length := by omega
            have hkz : (0 : Int) < (k : Int) := by omega
            have hKz : (K : Int) < (ss.length : Int) := by omega
            have HS := hid (show ∀ w', Kept [] wr w' → w'.cell? ⟨b, off + k * 6 + 4, none⟩ = some (.bool true) ∧ w'.cell? ⟨b, off + K * 6, none⟩ = some (.int .u8 (ss[K].key.a.toNat : Int)) ∧ w'.cell? ⟨b, off + K * 6 + 1, none⟩ = some (.int .u8 (ss[K].key.b.toNat : Int)) ∧ w'.cell? ⟨b, off + K * 6 + 2, none⟩ = some (.int .u8 (ss[K].key.c.toNat : Int)) ∧ w'.cell? ⟨b, off + K * 6 + 3, none⟩ = some (.int .u8 (ss[K].key.d.toNat : Int)) ∧ w'.cell? ⟨b, off + k * 6, none⟩ = some (.int .u8 (ss[k].key.a.toNat : Int)) ∧ w'.cell? ⟨b, off + k * 6 + 1, none⟩ = some (.int .u8 (ss[k].key.b.toNat : Int)) ∧ w'.cell? ⟨b, off + k * 6 + 2, none⟩ = some (.int .u8 (ss[k].key.c.toNat : Int)) ∧ w'.cell? ⟨b, off + k * 6 + 3, none⟩ = some (.int .u8 (ss[k].key.d.toNat : Int)) from fun w' hk' => by
              have h1 := HX.out w' (HKR.out.trans hk' (fun x hx => by cases hx)) k hlt
              have h2 := HX.out w' (HKR.out.trans hk' (fun x hx => by cases hx)) K hKl
              exact ⟨by rw [h1.2.2.2.2.1, ht], h2.1, h2.2.1, h2.2.2.1, h2.2.2.2.1, h1.1, h1.2.1, h1.2.2.1, h1.2.2.2.1⟩)
            have HB := hid (show ∀ w, Calls Try.prog 27 #[ss[K].key.v, ss[k].key.v] w fun e w' => e = .returned (.bool true) ∧ Kept [] w w' from fun w => by
              have := below_any ss[K].key ss[k].key w
              rw [decide_eq_true (by have := HBE.out K (by omega); simpa only [hK] using this)] at this
              exact this)
            generalize ss[K].key = x at HS HB
            generalize ss[k].key = y at HS HB
            obtain ⟨xa, xb, xc, xd⟩ := x
            obtain ⟨ya, yb, yc, yd⟩ := y
            dsimp only at HS
            simp only [K4.v] at HB
            have hw : IntKind.i64.wrap ((k : Int) - 1) = (K : Int) := by rw [IntWalk.i64_in _ (by omega)]; omega
            clear ht hK HX
            go_wp2_with fail
            go_region_held3 (fun w' => w'.cell? ⟨b, off + k * 6 + 4, none⟩ = some (.bool true) ∧ w'.cell? ⟨b, off + K * 6, none⟩ = some (.int .u8 (xa.toNat : Int)) ∧ w'.cell? ⟨b, off + K * 6 + 1, none⟩ = some (.int .u8 (xb.toNat : Int)) ∧ w'.cell? ⟨b, off + K * 6 + 2, none⟩ = some (.int .u8 (xc.toNat : Int)) ∧ w'.cell? ⟨b, off + K * 6 + 3, none⟩ = some (.int .u8 (xd.toNat : Int)) ∧ w'.cell? ⟨b, off + k * 6, none⟩ = some (.int .u8 (ya.toNat : Int)) ∧ w'.cell? ⟨b, off + k * 6 + 1, none⟩ = some (.int .u8 (yb.toNat : Int)) ∧ w'.cell? ⟨b, off + k * 6 + 2, none⟩ = some (.int .u8 (yc.toNat : Int)) ∧ w'.cell? ⟨b, off + k * 6 + 3, none⟩ = some (.int .u8 (yd.toNat : Int)))
              ((refine HS.out _ ?_; (repeat (first | assumption | (with_reducible exact Kept.refl _ _) | (with_reducible refine Kept.drew ?_) | (with_reducible refine Kept.alloc ?_ _) | (with_reducible refine Kept.setCell ?_ (by right; simp; try omega) _)))))
              (first | (go_at_call 27; refine (HB.out _).mono ?_; rintro e w3 ⟨rfl, hk3'⟩; have hk3 : Kept [] wr w3 := Kept.trans (show Kept [] wr _ by (repeat (first | assumption | (with_reducible exact Kept.refl _ _) | (with_reducible refine Kept.drew ?_) | (with_reducible refine Kept.alloc ?_ _) | (with_reducible refine Kept.setCell ?_ (by right; simp; try omega) _)))) hk3' (fun x hx => by cases hx)))
            have HK3 := hid (HKR.out.trans hk3 (fun x hx => by cases hx))
            clear hk3 hk3' hw
            go_wp2
            go_roundg (ss.length - (k + 1))
            case measure => omega
            case rel => exact ⟨k + 1, by first | rfl | go_num, by omega, Nat.le_refl _, HK3.out⟩
        · obtain rfl : k = ss.length := by omega
          have hltz : ¬ (ss.length : Int) < (ss.length : Int) := by omega
          go_wp2_with (first
            | (go_at_call 19; refine (HOver2.out _ _ (HG.out.kept HKR.out (by simp) (by simp)) (HPO.out.kept HKR.out)).mono ?_; clear HOver2; rintro e wo ⟨vo, rfl, hpo, hko⟩; have HPV := hid hpo; have HKR := hid (HKR.out.trans hko (fun x hx => by cases hx)); clear hpo hko)
            | (go_at_call 17; refine (from_any _ ss _ HPV.out.at' (by omega)).mono ?_; clear HPV; rintro e wf ⟨vf, rfl, hof, hkf⟩; have HB1 := hid hof; have HKR := hid (HKR.out.trans hkf (fun x hx => by cases hx)); clear hof hkf)
            | (go_at_call 17; refine (from_any _ ss _ (HPO.out.kept HKR.out).at' (by omega)).mono ?_; clear HPO; rintro e wf2 ⟨vf2, rfl, hof, hkf⟩; have HB2 := hid (SlAt.of_own hof); have HB1 := hid (SlAt.of_own (ownsRow_kept HB1.out hkf (by simp))); have HKR := hid (HKR.out.trans hkf (fun x hx => by cases hx)); clear hof hkf)
            | (go_at_call 16; refine (samePairs_any _ _ ss ss _ HB1.out HB2.out).mono ?_; rw [decide_eq_true rfl]; rintro e ws ⟨rfl, hks⟩; have HKR := hid (HKR.out.trans hks (fun x hx => by cases hx)); clear hks))
          go_returns
          exact ⟨rfl, (HKW.out.trans HKC.out (fun x hx => .inr (by simp at hx; omega))).trans HKR.out (fun x hx => by cases hx)⟩
--@@ end
end Go.Proofs.Ythidbnjijomlmaa.draftOver
