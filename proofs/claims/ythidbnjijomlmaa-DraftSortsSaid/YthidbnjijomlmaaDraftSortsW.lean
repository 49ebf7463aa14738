/- DraftSorts: plain laws, and the walk. -/
import Derived.Test.YthidbnjijomlmaaAlive09
import Derived.Test.YthidbnjijomlmaaArgs09
set_option linter.all false
namespace Go.Proofs.Ythidbnjijomlmaa.draftSorts
open Go.RowKit Go.Shelf Go.Lib Go.Sort Go.Proofs Go.Proofs.Ythidbnjijomlmaa
set_option linter.unusedVariables false
set_option linter.unusedSimpArgs false

theorem two_kept {w w' : World} {t : TypeId} {x y : Value} (hk : Kept [] (w.alloc (.cells #[x, y] t)) w') : w'.heap[w.heap.size]? = some (.cells #[x, y] t (0, 0)) :=
  (hk.block w.heap.size (by simp) (by simp)).trans (heap_alloc_new w _)
theorem cell2 {w : World} {B : Nat} {t : TypeId} {x y : Value} (hb : w.heap[B]? = some (.cells #[x, y] t (0, 0))) :
    w.cell? ⟨B, 0, none⟩ = some x ∧ w.cell? ⟨B, 1, none⟩ = some y ∧ w.frozen? ⟨B, 0, none⟩ = false ∧ w.frozen? ⟨B, 1, none⟩ = false := by
  refine ⟨?_, ?_, ?_, ?_⟩ <;> simp [World.cell?, World.frozen?, hb]
theorem set2 {w : World} {B : Nat} {t : TypeId} {fr : Nat × Nat} {x y : Value} (hb : w.heap[B]? = some (.cells #[x, y] t fr)) (x' y' : Value) :
    ((w.setCell ⟨B, 0, none⟩ x').setCell ⟨B, 1, none⟩ y').heap[B]? = some (.cells #[x', y'] t fr) := by
  simp [World.setCell, Array.getElem?_modify, hb]
theorem sortP_idem (l : List Pr) : sortP (sortP l) = sortP l := by
  show thereP (keysP (sortP l)) = _
  rw [keysP_self (sortP_srt l)]
  unfold sortP thereP
  rw [List.filter_filter]
  simp
theorem sortP_len (l : List Pr) : (sortP l).length ≤ l.length :=
  Nat.le_trans (List.length_filter_le _ _) (keysP_len l)
def inP (k : K4) (l : List Pr) : Bool := l.any fun p => decide (p.key = k)
theorem inP_snoc (k : K4) (l : List Pr) (p : Pr) : inP k (l ++ [p]) = (inP k l || decide (p.key = k)) := by simp [inP]
theorem inP_last (k : K4) (l : List Pr) : inP k l = (lastP k l).isSome := by
  unfold inP lastP
  cases h : getP k l.reverse with
  | none =>
    rw [getP_none_iff] at h
    simp only [Option.isSome_none, List.any_eq_false, decide_eq_true_eq]
    exact fun p hp => h p (List.mem_reverse.2 hp)
  | some v =>
    have := getP_mem h
    simp only [Option.isSome_some, List.any_eq_true, decide_eq_true_eq]
    exact ⟨_, List.mem_reverse.1 this, rfl⟩
/-- what the statement says, of plain pairs -/
theorem sorts_law (la lb : List Pr) (k : K4) (v got : V) (hv : v = if inP k lb = true then findP lb k else findP la k) (hg : got = findP (sortP (la ++ lb)) k) :
    got = v ∨ (v.there = false ∧ got = V.zero) := by
  have h1 : v = (lastP k (la ++ lb)).getD V.zero := by
    rw [hv, lastP_append, inP_last]
    unfold findP
    cases lastP k lb <;> simp
  have h2 : got = ((lastP k (la ++ lb)).filter fun v => v.there).getD V.zero := by
    rw [hg]; unfold findP; rw [srt_lastP (sortP_srt _), sortP_get]
  rw [h1, h2]
  cases h : lastP k (la ++ lb) with
  | none => left; rfl
  | some u =>
    cases hu : u.there with
    | true => left; simp [Option.filter, hu]
    | false => right; simp [Option.filter, hu]
--@@ concordatlaw09.DraftSorts
set_option maxHeartbeats 8000000 in
set_option maxRecDepth 100000 in
theorem walk (v0 : Value) (la : List Pr) (v1 : Value) (lb : List Pr) (kk : K4) (w : World) (h0 : SlAt w v0 Pr.ps.length la.length (la.flatMap Pr.f)) (_hl : ∀ x ∈ la, x.ok)
    (h1 : SlAt w v1 Pr.ps.length lb.length (lb.flatMap Pr.f)) (_hl1 : ∀ x ∈ lb, x.ok) (_o2 : kk.ok) :
    Calls Try.prog 7 #[v0, v1, .agg kk.f.toArray] w fun e w' => e = .returned (.bool true) ∧ Kept [] w w' := by
  clear _hl _hl1 _o2
  have hlaw := hid (fun v got hv hg => sorts_law la lb kk v got hv hg)
  obtain ⟨k1, k2, k3, k4⟩ := kk
  simp only [K4.f]
  obtain ⟨a, cap, rfl, hmax, _, hc⟩ := h0.ex
  obtain ⟨a', cap', rfl, hmax', _, hc'⟩ := h1.ex
  have HC := hid hc'
  have H0 := hid h0
  have H1 := hid h1
  clear h0 h1 hc hc'
  by_cases hlen : 100 < la.length
  · have hlenz : (100 : Int) < (la.length : Int) := by omega
    go_enter Try.func7, Try.ntmps7
    go_wp2_with (go_at_call 8; refine (alive_any _).mono ?_; rintro e wa ⟨rfl, hka⟩)
    go_ret
    exact ⟨rfl, ((Kept.refl [] w).alloc _).trans hka (fun x hx => by cases hx)⟩
  by_cases hlen' : 100 < lb.length
  · have hlenz : (la.length : Int) ≤ 100 := by omega
    have hlenz' : (100 : Int) < (lb.length : Int) := by omega
    go_enter Try.func7, Try.ntmps7
    go_wp2_with (go_at_call 8; refine (alive_any _).mono ?_; rintro e wa ⟨rfl, hka⟩)
    go_ret
    exact ⟨rfl, ((Kept.refl [] w).alloc _).trans hka (fun x hx => by cases hx)⟩
  have hlenz : (la.length : Int) ≤ 100 := by omega
  have hlenz' : (lb.length : Int) ≤ 100 := by omega
  have HT0 := hid (show ∀ W, Kept [] w W → Calls Try.prog 13 #[.slice a la.length cap] W fun e w' => ∃ v', e = .returned v' ∧ w'.ownsRow W.heap.size 54 6 v' la.length (la.flatMap Pr.f) ∧ Kept [] W w' from fun W hk => to_any _ la W (H0.out.kept hk) (by omega))
  have HT1 := hid (show ∀ W, Kept [] w W → Calls Try.prog 13 #[.slice a' lb.length cap'] W fun e w' => ∃ v', e = .returned v' ∧ w'.ownsRow W.heap.size 54 6 v' lb.length (lb.flatMap Pr.f) ∧ Kept [] W w' from fun W hk => to_any _ lb W (H1.out.kept hk) (by omega))
  have HT0b := HT0
  have HT1b := HT1
  have HSK := hid (show ∀ w', Kept [] (w.alloc (.cells #[.int .u8 (k1.toNat : Int), .int .u8 (k2.toNat : Int), .int .u8 (k3.toNat : Int), .int .u8 (k4.toNat : Int)] 24)) w' → w'.cell? ⟨w.heap.size, 0, none⟩ = some (.int .u8 (k1.toNat : Int)) ∧ w'.cell? ⟨w.heap.size, 1, none⟩ = some (.int .u8 (k2.toNat : Int)) ∧ w'.cell? ⟨w.heap.size, 2, none⟩ = some (.int .u8 (k3.toNat : Int)) ∧ w'.cell? ⟨w.heap.size, 3, none⟩ = some (.int .u8 (k4.toNat : Int)) from fun w' hk' => by
    have nc := fun j u h => hk'.cell (new_cell w [.int .u8 (k1.toNat : Int), .int .u8 (k2.toNat : Int), .int .u8 (k3.toNat : Int), .int .u8 (k4.toNat : Int)] 24 j u h) (by simp)
    exact ⟨nc 0 _ rfl, nc 1 _ rfl, nc 2 _ rfl, nc 3 _ rfl⟩)
  have HW := hid ((Kept.refl [] w).alloc (.cells #[.int .u8 (k1.toNat : Int), .int .u8 (k2.toNat : Int), .int .u8 (k3.toNat : Int), .int .u8 (k4.toNat : Int)] 24))
  have hsl := sortP_len (la ++ lb)
  have hsl2 : (sortP (la ++ lb)).length ≤ 200 := by simp at hsl; omega
  have hidem := sortP_idem (la ++ lb)
  obtain ⟨ss, hss⟩ : ∃ ss, ss = sortP (la ++ lb) := ⟨_, rfl⟩
  rw [← hss] at hsl2 hidem
  have HIDEM := hid hidem
  have HSS := hid hss
  clear hsl hidem hss
  go_enter Try.func7, Try.ntmps7
  go_wp2_with (first
    | (go_at_call 8; refine (alive_any _).mono ?_; rintro e wa ⟨rfl, hka⟩; have HKB := hid hka; clear hka)
    | (go_at_call 13; refine (HT0.out _ (HW.out.trans HKB.out (fun x hx => by cases hx))).mono ?_; clear HT0; rintro e wt ⟨vt, rfl, hot, hkt⟩; have HO := hid hot; have HBS := hid (Nat.le_refl wa.heap.size); have HKB1 := hid (HKB.out.trans hkt (fun x hx => by cases hx)); obtain ⟨at1, ct1, rfl⟩ := ownsRow_slice hot; clear hot)
    | (go_at_call 13; refine (HT1.out _ (HW.out.trans HKB1.out (fun x hx => by cases hx))).mono ?_; clear HT1; rintro e wt2 ⟨vt2, rfl, hot2, hkt2⟩; have HO2 := hid (ownsRow_kept HO.out hkt2 (by simp)); have HPB := hid (PrAt.of_own hot2 rfl); have HKB2 := hid (HKB1.out.trans hkt2 (fun x hx => by cases hx)); have hsz2 := (hkt.trans hkt2 (fun x hx => by cases hx)).size; obtain ⟨at2, ct2, rfl⟩ := ownsRow_slice hot2; clear hot2 hkt2)
    | (at_builtin; refine Here.mk ?_))
  refine Here.of ?_
  refine wpList_append_pr rfl _ _ rfl wa.heap.size _ _ _ rfl HO2.out _ lb rfl HPB.out (by omega) hsz2 ?_
  intro vb w3 hown3 hgrow
  have HKB3 := hid (HKB2.out.grown_own HO2.out hgrow (by have := HKB.out.size; exact this))
  have HP3 := hid (PrAt.of_own (l := la ++ lb) (by rw [List.flatMap_append]; exact hown3) (by simp))
  clear hown3 hgrow
  have HSort1 := hid (show ∀ W v, PrAt W v (la ++ lb) → Calls Try.prog 25 #[v] W fun e w' => ∃ v', e = .returned v' ∧ PrAt w' v' ss ∧ Kept [] W w' from fun W v h => by rw [HSS.out]; exact sort_pr v _ W h (by simp; omega))
  have HSort2 := hid (show ∀ W v, PrAt W v ss → Calls Try.prog 25 #[v] W fun e w' => ∃ v', e = .returned v' ∧ PrAt w' v' ss ∧ Kept [] W w' from fun W v h => by have := sort_pr v ss W h (by omega); rw [HIDEM.out] at this; exact this)
  have HFrom1 := hid (fun W v (h : PrAt W v ss) => from_any v ss W h.at' (by omega))
  have HFrom2 := HFrom1
  go_wp2_with (first
    | (go_at_call 25; refine (HSort1.out _ _ HP3.out).mono ?_; clear HSort1; rintro e w4 ⟨v4, rfl, hp4, hk4⟩; have HP4 := hid hp4; have HKB4 := hid (HKB3.out.trans hk4 (fun x hx => by cases hx)); clear hp4 hk4)
    | (go_at_call 25; refine (HSort2.out _ _ HP4.out).mono ?_; clear HSort2; rintro e w5 ⟨v5, rfl, hp5, hk5⟩; have HP5 := hid hp5; have HP45 := hid (HP4.out.kept hk5); have HKB5 := hid (HKB4.out.trans hk5 (fun x hx => by cases hx)); clear hp5 hk5)
    | (go_at_call 17; refine (HFrom1.out _ _ HP5.out).mono ?_; clear HFrom1; rintro e w6 ⟨v6, rfl, ho6, hk6⟩; have HO6 := hid (SlAt.of_own ho6); have HP46 := hid (HP45.out.kept hk6); have HKB6 := hid (HKB5.out.trans hk6 (fun x hx => by cases hx)); clear ho6 hk6)
    | (go_at_call 17; refine (HFrom2.out _ _ HP46.out).mono ?_; clear HFrom2; rintro e w7 ⟨v7, rfl, ho7, hk7⟩; have HO7 := hid (SlAt.of_own ho7); have HO67 := hid (HO6.out.kept hk7); have HP47 := hid (HP46.out.kept hk7); have HKB7 := hid (HKB6.out.trans hk7 (fun x hx => by cases hx)); clear ho7 hk7)
    | (go_at_call 16; refine (samePairs_any _ _ ss ss _ HO67.out HO7.out).mono ?_; rw [decide_eq_true rfl]; rintro e w8 ⟨rfl, hk8⟩; have HP48 := hid (HP47.out.kept hk8); have HKB8 := hid (HKB7.out.trans hk8 (fun x hx => by cases hx)); clear hk8))
  clear HP3 HP4 HP5 HP45 HO6 HP46 HO7 HO67 HP47 HKB HKB1 HKB2 HKB3 HKB4 HKB5 HKB6 HKB7 HO HO2 HPB HIDEM
  go_loopg [9, 10] lb.length (fun kx s9 s10 wr => ∃ (k : Nat) (bb : Bool), s9 = .bool bb ∧ s10 = .int .i64 k ∧ k ≤ lb.length ∧ lb.length - k ≤ kx ∧ Aside (bb = inP (⟨k1, k2, k3, k4⟩ : K4) (lb.take k)) ∧ Aside (Kept [] w8 wr))
  case atStart => exact ⟨0, false, by first | rfl | go_num, by first | rfl | go_num, by omega, by omega, rfl, Kept.refl _ _⟩
  case round =>
    obtain ⟨k, bb, rfl, rfl, hk, hkx, HIN, HKL⟩ := hrel
    by_cases hlt : k < lb.length
    · have hltz : (k : Int) < (lb.length : Int) := by omega
      have HT := hid (show lb.take (k + 1) = lb.take k ++ [lb[k]] by rw [List.take_succ_eq_append_getElem hlt])
      cases bb with
      | true =>
        go_wp2_with fail
        go_quiet (fail)
        go_wp2
        go_roundg (lb.length - (k + 1))
        case measure => omega
        case rel => exact ⟨k + 1, true, rfl, by first | rfl | go_num, by omega, Nat.le_refl _, by show _ = _; rw [HT.out, inP_snoc, ← HIN.out]; rfl, HKL.out.drewN _⟩
      | false =>
        obtain ⟨b, off, rfl, hb, hcs⟩ := HC.out (by omega)
        have hcW : ∀ j u, (lb.flatMap Pr.f)[j]? = some u → wr.cell? ⟨b, off + j, none⟩ = some u := fun j u hj => ((HW.out.trans HKB8.out (fun x hx => by cases hx)).trans HKL.out (fun x hx => by cases hx)).cell (hcs j u hj) (by simp)
        obtain ⟨e0, e1, e2, e3, e4, e5⟩ := pair_cells hcW hlt
        clear hcW hcs
        obtain ⟨q0, q1, q2, q3⟩ := HSK.out wr (HKB8.out.trans HKL.out (fun x hx => by cases hx))
        generalize lb[k] = x at *
        obtain ⟨⟨x1, x2, x3, x4⟩, ⟨x5, x6⟩⟩ := x
        dsimp only at e0 e1 e2 e3 e4 e5
        have hq := fun (w : World) => eqK w ⟨x1, x2, x3, x4⟩ ⟨k1, k2, k3, k4⟩
        simp only [K4.v] at hq
        obtain ⟨rr, hrr⟩ : ∃ rr, decide ((⟨x1, x2, x3, x4⟩ : K4) = ⟨k1, k2, k3, k4⟩) = rr := ⟨_, rfl⟩
        have HRR := hid hrr
        rw [hrr] at hq
        clear hrr e4 e5
        go_wp2_with fail
        go_quiet (fail)
        go_wp2
        go_roundg (lb.length - (k + 1))
        case measure => omega
        case rel => exact ⟨k + 1, rr, by first | rfl | go_num, by first | rfl | go_num, by omega, Nat.le_refl _, by show _ = _; rw [HT.out, inP_snoc, ← HIN.out, ← HRR.out]; rfl, HKL.out.drewN _⟩
    · obtain rfl : k = lb.length := by omega
      have hltz : ¬ (lb.length : Int) < (lb.length : Int) := by omega
      rw [List.take_length] at HIN
      obtain ⟨fa, hfa⟩ : ∃ fa, fa = findP la (⟨k1, k2, k3, k4⟩ : K4) := ⟨_, rfl⟩
      have HFa := hid (show ∀ W v, PrAt W v la → Calls Try.prog 24 #[v, .agg #[.int .u8 (k1.toNat : Int), .int .u8 (k2.toNat : Int), .int .u8 (k3.toNat : Int), .int .u8 (k4.toNat : Int)]] W fun e w' => e = .returned (.agg #[.bool fa.there, .int .i64 fa.n]) ∧ Kept [] W w' from fun W v h => by rw [hfa]; exact find_any v la ⟨k1, k2, k3, k4⟩ W h.at')
      have HFA := hid hfa
      clear hfa
      obtain ⟨f1, f2⟩ := fa
      dsimp only at HFa
      have HS8 := hid (fun w' (hk' : Kept [] w8 w') => HSK.out w' (HKB8.out.trans hk' (fun x hx => by cases hx)))
      have hkl := HKL.out
      have hs0 := hkl.size
      have HKW8 := hid (fun W (hk : Kept [] w8 W) => (HW.out.trans HKB8.out (fun x hx => by cases hx)).trans hk (fun x hx => by cases hx))
      go_upto_region 14 with (fail)
      go_cut [11] (fun s11 wx => ∃ BT, s11 = .pointer (some ⟨BT, 0, none⟩) ∧ w8.heap.size ≤ BT ∧ Aside (wx.heap[BT]? = some (.cells #[.bool f1, .int .i64 f2] 32 (0, 0))) ∧ Aside (Kept [] w8 wx))
      case first =>
        go_region_held3 (fun w' => w'.cell? ⟨w.heap.size, 0, none⟩ = some (.int .u8 (k1.toNat : Int)) ∧ w'.cell? ⟨w.heap.size, 1, none⟩ = some (.int .u8 (k2.toNat : Int)) ∧ w'.cell? ⟨w.heap.size, 2, none⟩ = some (.int .u8 (k3.toNat : Int)) ∧ w'.cell? ⟨w.heap.size, 3, none⟩ = some (.int .u8 (k4.toNat : Int)))
          ((refine HS8.out _ ?_; (repeat (first | assumption | (with_reducible exact Kept.refl _ _) | (with_reducible refine Kept.drew ?_) | (with_reducible refine Kept.alloc ?_ _) | (with_reducible refine Kept.setCell ?_ (by right; simp; try omega) _)))))
          (first
            | (go_at_call 13; refine (HT0b.out _ (HKW8.out _ (by (repeat (first | assumption | (with_reducible exact Kept.refl _ _) | (with_reducible refine Kept.drew ?_) | (with_reducible refine Kept.alloc ?_ _) | (with_reducible refine Kept.setCell ?_ (by right; simp; try omega) _)))))).mono ?_; clear HT0b; rintro e w10 ⟨v10, rfl, ho10, hk10'⟩; have hk10 := Kept.trans (show Kept [] w8 _ by (repeat (first | assumption | (with_reducible exact Kept.refl _ _) | (with_reducible refine Kept.drew ?_) | (with_reducible refine Kept.alloc ?_ _) | (with_reducible refine Kept.setCell ?_ (by right; simp; try omega) _)))) hk10' (fun x hx => by cases hx); have hs10 := hk10.size; (try have hb10 : Aside (w10.heap[wr.heap.size]? = some (.cells #[.bool false, .int .i64 0] 32 (0, 0))) := two_kept (w := wr.drew) hk10'))
            | (go_at_call 24; refine (HFa.out _ _ ((PrAt.of_own ho10 rfl).kept (by (repeat (first | assumption | (with_reducible exact Kept.refl _ _) | (with_reducible refine Kept.drew ?_) | (with_reducible refine Kept.alloc ?_ _) | (with_reducible refine Kept.setCell ?_ (by right; simp; try omega) _)))))).mono ?_; clear HFa; rintro e w11 ⟨rfl, hk11'⟩; have hk11 := Kept.trans (show Kept [] w8 _ by (repeat (first | assumption | (with_reducible exact Kept.refl _ _) | (with_reducible refine Kept.drew ?_) | (with_reducible refine Kept.alloc ?_ _) | (with_reducible refine Kept.setCell ?_ (by right; simp; try omega) _)))) hk11' (fun x hx => by cases hx); have hs11 := hk11.size; (first | (have hb11 : Aside (w11.heap[w10.heap.size]? = some (.cells #[.bool false, .int .i64 0] 32 (0, 0))) := two_kept hk11'; have hc11 := cell2 hb11.out) | (have hb11 : Aside (w11.heap[wr.heap.size]? = some (.cells #[.bool false, .int .i64 0] 32 (0, 0))) := (hk11'.block _ (Array.getElem?_eq_some_iff.1 hb10.out).1 (by simp)).trans hb10.out; have hc11 := cell2 hb11.out) | have hc11 : True ∧ True ∧ True ∧ True := ⟨trivial, trivial, trivial, trivial⟩); obtain ⟨cb0, cb1, cb2, cb3⟩ := hc11))
        all_goals (go_wp2; go_meet)
        all_goals first
          | exact ⟨_, rfl, hs11, heap_alloc_new w11 _, hk11.alloc _⟩
          | exact ⟨_, rfl, hs10, set2 hb11.out _ _, (hk11.setCell (.inr hs10) _).setCell (.inr hs10) _⟩
          | exact ⟨_, rfl, hs0, set2 hb11.out _ _, (hk11.setCell (.inr hs0) _).setCell (.inr hs0) _⟩
      case rest =>
      obtain ⟨BT, rfl, hBT, HBT, HKX⟩ := hcut
      clear HT0b HFa
      rename World => wx
      obtain ⟨fb, hfb⟩ : ∃ fb, fb = findP lb (⟨k1, k2, k3, k4⟩ : K4) := ⟨_, rfl⟩
      have HFb := hid (show ∀ W v, PrAt W v lb → Calls Try.prog 24 #[v, .agg #[.int .u8 (k1.toNat : Int), .int .u8 (k2.toNat : Int), .int .u8 (k3.toNat : Int), .int .u8 (k4.toNat : Int)]] W fun e w' => e = .returned (.agg #[.bool fb.there, .int .i64 fb.n]) ∧ Kept [] W w' from fun W v h => by rw [hfb]; exact find_any v lb ⟨k1, k2, k3, k4⟩ W h.at')
      have HFB := hid hfb
      clear hfb
      obtain ⟨h1, h2⟩ := fb
      dsimp only at HFb
      go_upto_if 57 with (fail)
      go_cut [] (fun wy => ∃ v1 v2, Aside (wy.heap[BT]? = some (.cells #[.bool v1, .int .i64 v2] 32 (0, 0))) ∧ Aside ((⟨v1, v2⟩ : V) = if bb = true then ⟨h1, h2⟩ else ⟨f1, f2⟩) ∧ Aside (Kept [] w8 wy))
      case first =>
        cases bb with
        | false =>
          go_wp2
          go_meet
          exact ⟨f1, f2, HBT.out, rfl, HKX.out⟩
        | true =>
          have hbl := (Array.getElem?_eq_some_iff.1 HBT.out).1
          go_wp2_with fail
          go_region_held3 (fun w' => w'.cell? ⟨w.heap.size, 0, none⟩ = some (.int .u8 (k1.toNat : Int)) ∧ w'.cell? ⟨w.heap.size, 1, none⟩ = some (.int .u8 (k2.toNat : Int)) ∧ w'.cell? ⟨w.heap.size, 2, none⟩ = some (.int .u8 (k3.toNat : Int)) ∧ w'.cell? ⟨w.heap.size, 3, none⟩ = some (.int .u8 (k4.toNat : Int)))
            ((refine HS8.out _ ?_; (repeat (first | assumption | (with_reducible exact Kept.refl _ _) | (with_reducible refine Kept.drew ?_) | (with_reducible refine Kept.alloc ?_ _) | (with_reducible refine Kept.setCell ?_ (by right; simp; try omega) _)))))
            (first
              | (go_at_call 13; refine (HT1b.out _ (HKW8.out _ (by (repeat (first | assumption | (with_reducible exact Kept.refl _ _) | (with_reducible refine Kept.drew ?_) | (with_reducible refine Kept.alloc ?_ _) | (with_reducible refine Kept.setCell ?_ (by right; simp; try omega) _)))))).mono ?_; clear HT1b; rintro e w10 ⟨v10, rfl, ho10, hk10'⟩; have hk10 := Kept.trans (show Kept [] w8 _ by (repeat (first | assumption | (with_reducible exact Kept.refl _ _) | (with_reducible refine Kept.drew ?_) | (with_reducible refine Kept.alloc ?_ _) | (with_reducible refine Kept.setCell ?_ (by right; simp; try omega) _)))) hk10' (fun x hx => by cases hx); have hb10 : Aside (w10.heap[BT]? = some (.cells #[.bool f1, .int .i64 f2] 32 (0, 0))) := (hk10'.block _ hbl (by simp)).trans HBT.out)
              | (go_at_call 24; refine (HFb.out _ _ ((PrAt.of_own ho10 rfl).kept (by (repeat (first | assumption | (with_reducible exact Kept.refl _ _) | (with_reducible refine Kept.drew ?_) | (with_reducible refine Kept.alloc ?_ _) | (with_reducible refine Kept.setCell ?_ (by right; simp; try omega) _)))))).mono ?_; clear HFb; rintro e w11 ⟨rfl, hk11'⟩; have hk11 := Kept.trans (show Kept [] w8 _ by (repeat (first | assumption | (with_reducible exact Kept.refl _ _) | (with_reducible refine Kept.drew ?_) | (with_reducible refine Kept.alloc ?_ _) | (with_reducible refine Kept.setCell ?_ (by right; simp; try omega) _)))) hk11' (fun x hx => by cases hx); have hb11 : Aside (w11.heap[BT]? = some (.cells #[.bool f1, .int .i64 f2] 32 (0, 0))) := (hk11'.block _ (Array.getElem?_eq_some_iff.1 hb10.out).1 (by simp)).trans hb10.out; obtain ⟨cb0, cb1, cb2, cb3⟩ := cell2 hb11.out))
          go_wp2
          go_meet
          exact ⟨h1, h2, set2 hb11.out _ _, rfl, (hk11.setCell (.inr hBT) _).setCell (.inr hBT) _⟩
      case rest =>
      obtain ⟨v1, v2, HBV, HV, HKY⟩ := hcut
      obtain ⟨got, hgt⟩ : ∃ got, got = findP ss (⟨k1, k2, k3, k4⟩ : K4) := ⟨_, rfl⟩
      have HFs := hid (show ∀ W v, PrAt W v ss → Calls Try.prog 24 #[v, .agg #[.int .u8 (k1.toNat : Int), .int .u8 (k2.toNat : Int), .int .u8 (k3.toNat : Int), .int .u8 (k4.toNat : Int)]] W fun e w' => e = .returned (.agg #[.bool got.there, .int .i64 got.n]) ∧ Kept [] W w' from fun W v h => by rw [hgt]; exact find_any v ss ⟨k1, k2, k3, k4⟩ W h.at')
      rw [HSS.out] at hgt
      have HL := hid (hlaw.out ⟨v1, v2⟩ got (by rw [HV.out, ← HIN.out, HFA.out, HFB.out]) hgt)
      clear hgt
      obtain ⟨q0, q1, q2, q3⟩ := HS8.out _ HKY.out
      obtain ⟨gt, gn⟩ := got
      dsimp only at HFs
      have hbl := (Array.getElem?_eq_some_iff.1 HBV.out).1
      have harm : ∀ w12, Kept [] wc w12 → Aside (Kept [] w8 (w12.alloc (.cells #[.bool gt, .int .i64 gn] 32))) ∧ (w12.alloc (.cells #[.bool gt, .int .i64 gn] 32)).cell? ⟨BT, 0, none⟩ = some (.bool v1) ∧ (w12.alloc (.cells #[.bool gt, .int .i64 gn] 32)).cell? ⟨BT, 1, none⟩ = some (.int .i64 v2) := fun w12 hk12 => by
        have hb := (hk12.alloc (.cells #[.bool gt, .int .i64 gn] 32)).block BT hbl (by simp)
        have hc := cell2 (hb.trans HBV.out)
        exact ⟨(HKY.out.trans hk12 (fun x hx => by cases hx)).alloc _, hc.1, hc.2.1⟩
      have HARM := hid harm
      clear harm
      by_cases hgv : (⟨gt, gn⟩ : V) = ⟨v1, v2⟩
      · have hq1 : ∀ w, (binOp .eql 32 (.agg #[.bool gt, .int .i64 gn]) (.agg #[.bool v1, .int .i64 v2])).run Try.prog w = .ok (.bool true) w := fun w => by have := eqV w ⟨gt, gn⟩ ⟨v1, v2⟩; rw [decide_eq_true hgv] at this; exact this
        clear HL hgv
        go_wp2_with (first
          | (go_at_call 24; refine (HFs.out _ _ (HP48.out.kept HKY.out)).mono ?_; clear HFs; rintro e w12 ⟨rfl, hk12⟩; obtain ⟨HKZ, x0, x1⟩ := HARM.out w12 hk12; clear hk12))
        go_returns
        exact ⟨rfl, HKW8.out _ HKZ.out⟩
      · have hz := HL.out.resolve_left hgv
        obtain ⟨hv1, hz2⟩ := hz
        dsimp only at hv1
        subst hv1
        cases hz2
        have hq1 : ∀ w, (binOp .eql 32 (.agg #[.bool false, .int .i64 0]) (.agg #[.bool false, .int .i64 v2])).run Try.prog w = .ok (.bool false) w := fun w => by have := eqV w ⟨false, 0⟩ ⟨false, v2⟩; rw [decide_eq_false hgv] at this; exact this
        have hq2 : ∀ w, (binOp .eql 32 (.agg #[.bool false, .int .i64 0]) (.agg #[.bool false, .int .i64 0])).run Try.prog w = .ok (.bool true) w := fun w => by have := eqV w ⟨false, 0⟩ ⟨false, 0⟩; rw [decide_eq_true rfl] at this; exact this
        clear HL hgv
        go_wp2_with (first
          | (go_at_call 24; refine (HFs.out _ _ (HP48.out.kept HKY.out)).mono ?_; clear HFs; rintro e w12 ⟨rfl, hk12⟩; obtain ⟨HKZ, x0, x1⟩ := HARM.out w12 hk12; clear hk12))
        go_returns
        exact ⟨rfl, HKW8.out _ HKZ.out⟩
--@@ end
end Go.Proofs.Ythidbnjijomlmaa.draftSorts
