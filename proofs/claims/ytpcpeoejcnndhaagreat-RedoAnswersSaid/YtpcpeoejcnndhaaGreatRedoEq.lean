/- Equal rows of pairs; rows in order; rows that hold a pair of a kind. -/
import Derived.Test.YtpcpeoejcnndhaaGreatM1
import Derived.Deep.RegionLaw
set_option linter.all false
namespace Go.Proofs.YtpcpeoejcnndhaaGreat
open Go.RowKit Go.Shelf Go.Lib Go.Sort Go.Proofs
--@@ slices.Equal
theorem eq_dpair (w : World) (d : Nat) (x y : Pr) : (Op.equalIn (d + 3) 57 x.v y.v).run Tryz.prog w = .ok (decide (x = y)) w := by
  have hS : Tryz.prog.underlying 57 = some (.struct (Tryz.prog.fieldsOf 57)) := by kernel_rfl
  have hp : Tryz.prog.stoodInHeld 57 = false := by kernel_rfl
  obtain ⟨a, b⟩ := x
  obtain ⟨a', b'⟩ := y
  simp only [Pr.v]
  rw [run_equalIn_agg w (d + 2) _ _ _ hS hp]
  simp only [Program.fieldsOf, Tryz.underlying57, Op.eqFields]
  have p1 := part_key w (Pr.f ⟨a, b⟩).toArray 0 a rfl
  have p2 := part_val w (Pr.f ⟨a, b⟩).toArray 4 b rfl
  have p3 := part_key w (Pr.f ⟨a', b'⟩).toArray 0 a' rfl
  have p4 := part_val w (Pr.f ⟨a', b'⟩).toArray 4 b' rfl
  simp only [Pr.f] at p1 p2 p3 p4
  simp [p1, p2, p3, p4, eq_key, eq_val]
  by_cases h1 : a = a' <;> by_cases h2 : b = b' <;> simp [h1, h2]
theorem neD (w : World) (x y : Pr) : (binOp .neq 57 x.v y.v).run Tryz.prog w = .ok (.bool (!decide (x = y))) w := by
  rw [Pr.v, Pr.v, run_neq_struct, ← Pr.v, ← Pr.v, show (10000 : Nat) = 9997 + 3 from rfl, eq_dpair]; rfl
set_option maxRecDepth 100000 in
set_option maxHeartbeats 4000000 in
theorem equalPairs_any (v1 v2 : Value) (xs ys : List Pr) (w : World) (h1 : SlAt w v1 6 xs.length (xs.flatMap Pr.f)) (h2 : SlAt w v2 6 ys.length (ys.flatMap Pr.f)) :
    Calls Tryz.prog 37 #[v1, v2] w fun e w' => e = .returned (.bool (decide (xs = ys))) ∧ Kept [] w w' := by
  obtain ⟨a1, cap1, rfl, m1, _, c1⟩ := h1.ex
  obtain ⟨a2, cap2, rfl, m2, _, c2⟩ := h2.ex
  clear h1 h2
  have HC1 := hid c1
  have HC2 := hid c2
  clear c1 c2
  by_cases hl : xs.length = ys.length
  · have hb : ((xs.length : Int) != (ys.length : Int)) = false := by simp [hl]
    have HL := hid hl
    clear hl
    go_enter Tryz.func37, Tryz.ntmps37
    go_wp2
    go_loopw [13] (fun i wr => ∃ k : Nat, k ≤ xs.length ∧ i = .int .i64 k ∧ xs.take k = ys.take k ∧ ∃ n, wr = w.drewN n) (fun i _ => xs.length - (intOf i).toNat)
    case atStart => exact ⟨0, Nat.zero_le _, rfl, rfl, 0, rfl⟩
    case round =>
      obtain ⟨k, hk, rfl, ht, n, rfl⟩ := hrel
      have HT := hid ht
      clear ht
      by_cases hlt : k < xs.length
      · have hlt2 : k < ys.length := by rw [← HL.out]; exact hlt
        obtain ⟨b1, o1, rfl, _, d1⟩ := HC1.out (by omega)
        obtain ⟨b2, o2, rfl, _, d2⟩ := HC2.out (by omega)
        obtain ⟨e0, e1, e2, e3, e4, e5⟩ := pair_cells d1 hlt
        obtain ⟨f0, f1, f2, f3, f4, f5⟩ := pair_cells d2 hlt2
        clear d1 d2
        have HX := hid (show xs.take (k + 1) = xs.take k ++ [xs[k]] by rw [List.take_succ_eq_append_getElem hlt])
        have HY := hid (show ys.take (k + 1) = ys.take k ++ [ys[k]] by rw [List.take_succ_eq_append_getElem hlt2])
        have HXE := hid (show xs[k]? = some xs[k] by simp [hlt])
        have HYE := hid (show ys[k]? = some ys[k] by simp [hlt2])
        generalize xs[k] = x at *
        generalize ys[k] = y at *
        by_cases hxy : x = y
        · have hq := fun (w : World) => neD w x y
          rw [show (!decide (x = y)) = false by simp [hxy]] at hq
          have HXY := hid hxy
          clear hxy
          obtain ⟨⟨x1, x2, x3, x4⟩, ⟨x5, x6⟩⟩ := x
          obtain ⟨⟨y1, y2, y3, y4⟩, ⟨y5, y6⟩⟩ := y
          dsimp only at e0 e1 e2 e3 e4 e5 f0 f1 f2 f3 f4 f5
          simp only [Pr.v] at hq
          go_wp2_with fail
          go_quiet (fail)
          go_wp2
          go_roundw
          case rel => exact ⟨k + 1, by omega, by go_num, by rw [HX.out, HY.out, HT.out, HXY.out], _, rfl⟩
          case measure => simp [intOf]; omega
        · have hq := fun (w : World) => neD w x y
          rw [show (!decide (x = y)) = true by simp [hxy]] at hq
          have HXY := hid hxy
          clear hxy
          obtain ⟨⟨x1, x2, x3, x4⟩, ⟨x5, x6⟩⟩ := x
          obtain ⟨⟨y1, y2, y3, y4⟩, ⟨y5, y6⟩⟩ := y
          dsimp only at e0 e1 e2 e3 e4 e5 f0 f1 f2 f3 f4 f5
          simp only [Pr.v] at hq
          go_wp2_with fail
          go_quiet (fail)
          go_wp2
          go_ret
          refine ⟨ret_bool ?_, (by repeat (first | exact Kept.refl _ _ | refine Kept.drewN ?_ _ | refine Kept.drew ?_))⟩
          symm
          refine decide_eq_false fun h => HXY.out ?_
          have := HXE.out
          rw [h, HYE.out] at this
          exact (Option.some.inj this).symm
      · go_wp2
        go_ret
        obtain rfl : k = xs.length := by omega
        refine ⟨ret_bool ?_, (Kept.refl [] w).drewN _⟩
        have := HT.out
        rw [List.take_length, HL.out, List.take_length] at this
        simp [this]
  · have hb : ((xs.length : Int) != (ys.length : Int)) = true := by simp; omega
    have HL := hid hl
    clear hl
    go_enter Tryz.func37, Tryz.ntmps37
    go_wp2
    go_ret
    exact ⟨ret_bool (by symm; exact decide_eq_false fun h => HL.out (by rw [h])), Kept.refl _ _⟩
--@@ redo.ordered
theorem srt_take2 {l : List Pr} {j : Nat} (hj : j + 1 < l.length) (h : Srt (l.take (j + 1))) (hlt : (l[j]'(by omega)).key.num < l[j + 1].key.num) : Srt (l.take (j + 1 + 1)) := by
  rw [List.take_succ_eq_append_getElem hj]
  refine List.pairwise_append.2 ⟨h, List.pairwise_singleton _ _, fun x hx y hy => ?_⟩
  rw [List.mem_singleton] at hy
  subst hy
  rw [List.take_succ_eq_append_getElem (by omega)] at hx
  rcases List.mem_append.1 hx with hx | hx
  · rw [List.take_succ_eq_append_getElem (by omega)] at h
    have := (List.pairwise_append.1 h).2.2 x hx _ (List.mem_singleton_self _)
    omega
  · rw [List.mem_singleton] at hx
    subst hx
    exact hlt
theorem not_srt {l : List Pr} {j : Nat} (hj : j + 1 < l.length) (hlt : ¬ (l[j]'(by omega)).key.num < l[j + 1].key.num) : ¬ Srt l := fun h => hlt (List.pairwise_iff_getElem.1 h j (j + 1) (by omega) hj (by omega))
theorem ordK_ge (x y : K4) : decide (0 ≤ ordK x y) = !decide (x.num < y.num) := by
  rw [ordK_num]
  by_cases h : x.num < y.num
  · simp [h]
  · by_cases h' : y.num < x.num <;> simp [h, h']
set_option maxHeartbeats 2000000 in
set_option maxRecDepth 100000 in
theorem ordered_any (v : Value) (l : List Pr) (w : World) (h : SlAt w v 6 l.length (l.flatMap Pr.f)) :
    Calls Tryz.prog 40 #[v] w fun e w' => e = .returned (.bool (decide (Srt l))) ∧ Kept [] w w' := by
  obtain ⟨a, cap, rfl, m1, _, c1⟩ := h.ex
  have HC := hid c1
  clear h c1
  go_enter Tryz.func40, Tryz.ntmps40
  go_wp2
  go_loopw [3] (fun i wr => ∃ j : Nat, (j = 0 ∨ j < l.length) ∧ i = .int .i64 ((j : Int) + 1) ∧ Hid (Srt (l.take (j + 1))) ∧ ∃ n, wr = w.drewN n) (fun i _ => l.length + 1 - (intOf i).toNat)
  case atStart => exact ⟨0, .inl rfl, rfl, hid (by cases l <;> simp [Srt]), 0, rfl⟩
  case round =>
    obtain ⟨j, hj, rfl, HT, n, rfl⟩ := hrel
    by_cases hlt : j + 1 < l.length
    · obtain ⟨b, off, rfl, _, d1⟩ := HC.out (by omega)
      have hlt0 : j < l.length := by omega
      obtain ⟨e0, e1, e2, e3, _, _⟩ := pair_cells d1 hlt0
      obtain ⟨f0, f1, f2, f3, _, _⟩ := pair_cells d1 hlt
      clear d1
      have HS := hid (fun h => srt_take2 hlt HT.out h)
      have HN := hid (fun h => not_srt hlt h)
      have HG := hid (ordK_ge l[j].key l[j + 1].key)
      generalize l[j].key = x at *
      generalize l[j + 1].key = y at *
      have HX := hid (show ∀ (m1 m2 : Nat) (k : Nat) (u : Value), x.f[k]? = some u → ((w.drewN m1).drewN m2).cell? ⟨b, off + j * 6 + k, none⟩ = some u from fun m1 m2 k u hk => by
        show w.cell? _ = _
        obtain ⟨x1, x2, x3, x4⟩ := x
        rcases k with _ | _ | _ | _ | k <;> simp [K4.f] at hk <;> subst hk
        · exact e0
        · exact e1
        · exact e2
        · exact e3)
      have HY := hid (show ∀ (m1 m2 : Nat) (k : Nat) (u : Value), y.f[k]? = some u → ((w.drewN m1).drewN m2).cell? ⟨b, off + (j + 1) * 6 + k, none⟩ = some u from fun m1 m2 k u hk => by
        show w.cell? _ = _
        obtain ⟨x1, x2, x3, x4⟩ := y
        rcases k with _ | _ | _ | _ | k <;> simp [K4.f] at hk <;> subst hk
        · exact f0
        · exact f1
        · exact f2
        · exact f3)
      clear e0 e1 e2 e3 f0 f1 f2 f3
      have hw1 : IntKind.i64.wrap (j : Int) = (j : Int) := by rw [IntKind.wrap_i64]; omega
      have hw2 : 0 ≤ (j : Int) + 1 := by omega
      have hw3 : ((j : Int) + 1).toNat = j + 1 := by omega
      have hw4 : (j : Int) < (l.length : Int) := by omega
      have hw5 : (j : Int) + 1 < (l.length : Int) := by omega
      by_cases hxy : x.num < y.num
      · have hge : decide (0 ≤ ordK x y) = false := by rw [HG.out]; simp [hxy]
        have HXY := hid hxy
        clear hxy
        go_wp2_with fail
        go_region_law ((go_simp; go_at_call 58; refine (scmp_any _ _ _ _ x y _ _ _ (HX.out n 1) (HY.out n 1)).mono ?_; rintro e w2 ⟨rfl, rfl⟩))
        go_wp2
        go_roundw
        case rel => exact ⟨j + 1, .inr hlt, by go_num, HS.out HXY.out, n + 1, rfl⟩
        case measure => simp [intOf]; omega
      · have hge : decide (0 ≤ ordK x y) = true := by rw [HG.out]; simp [hxy]
        have HXY := hid hxy
        clear hxy
        go_wp2_with fail
        go_region_law ((go_simp; go_at_call 58; refine (scmp_any _ _ _ _ x y _ _ _ (HX.out n 1) (HY.out n 1)).mono ?_; rintro e w2 ⟨rfl, rfl⟩))
        go_wp2
        go_returns
        exact ⟨ret_bool (by symm; exact decide_eq_false (HN.out HXY.out)), (by repeat (first | exact Kept.refl _ _ | refine Kept.drewN ?_ _ | refine Kept.drew ?_))⟩
    · have hlt' : ¬ ((j : Int) + 1 < (l.length : Int)) := by omega
      go_wp2
      go_returns
      refine ⟨ret_bool ?_, (Kept.refl [] w).drewN _⟩
      have := HT.out
      rw [List.take_of_length_le (by omega)] at this
      exact (decide_eq_true this).symm
--@@ slices.IndexFunc
set_option maxHeartbeats 2000000 in
set_option maxRecDepth 100000 in
theorem index_anyP (g : FuncId) (q : Pr → Bool) (eg : ∀ args w, (callFunc g args).run Tryz.prog w = .ok (.enter g args) w) (hq : ∀ x W, Calls Tryz.prog g #[x.v] W fun e w' => e = .returned (.bool (q x)) ∧ Kept [] W w')
    (v : Value) (l : List Pr) (w : World) (h : SlAt w v 6 l.length (l.flatMap Pr.f)) :
    Calls Tryz.prog 63 #[v, .func (.func g) #[] #[]] w fun e w' => ∃ i : Int, e = .returned (.int .i64 i) ∧ decide (0 ≤ i) = l.any q ∧ Kept [] w w' := by
  obtain ⟨a, cap, rfl, m1, _, c1⟩ := h.ex
  have HC := hid c1
  have HQ := hid hq
  clear h c1 hq
  go_enter Tryz.func63, Tryz.ntmps63
  go_wp2
  go_loopw [8] (fun i wr => ∃ k : Nat, k ≤ l.length ∧ i = .int .i64 k ∧ Hid (∀ x ∈ l.take k, q x = false) ∧ Hid (Kept [] w wr)) (fun i _ => l.length - (intOf i).toNat)
  case atStart => exact ⟨0, Nat.zero_le _, rfl, hid (by simp), Kept.refl _ _⟩
  case round =>
    obtain ⟨k, hk, rfl, HT, HK⟩ := hrel
    by_cases hlt : k < l.length
    · obtain ⟨b, off, rfl, _, d1⟩ := HC.out (by omega)
      obtain ⟨e0, e1, e2, e3, e4, e5⟩ := pair_cells (fun j u hu => HK.out.cell (d1 j u hu) (by simp)) hlt
      have HS := hid (show l.take (k + 1) = l.take k ++ [l[k]] by rw [List.take_succ_eq_append_getElem hlt])
      have HM := hid (List.getElem_mem hlt)
      have HX := hid (HQ.out l[k])
      clear d1
      generalize l[k] = x at *
      cases hqx : q x with
      | false =>
        rw [hqx] at HX
        have HF := hid hqx
        clear hqx
        obtain ⟨⟨x1, x2, x3, x4⟩, ⟨x5, x6⟩⟩ := x
        dsimp only at e0 e1 e2 e3 e4 e5
        simp only [Pr.v] at HX
        go_wp2_with (go_at_fn g; refine (HX.out _).mono ?_; clear HX; rintro e w2 ⟨rfl, hk2⟩)
        go_roundw
        case rel => exact ⟨k + 1, by omega, by go_num, by
          intro y hy
          rw [HS.out] at hy
          rcases List.mem_append.1 hy with hy | hy
          · exact HT.out y hy
          · rw [List.mem_singleton] at hy
            rw [hy]; exact HF.out, HK.out.trans hk2 (fun x hx => .inl hx)⟩
        case measure => simp [intOf]; omega
      | true =>
        rw [hqx] at HX
        have HF := hid hqx
        clear hqx
        have HA := hid (show l.any q = true from List.any_eq_true.2 ⟨x, HM.out, HF.out⟩)
        clear HM HS HF
        obtain ⟨⟨x1, x2, x3, x4⟩, ⟨x5, x6⟩⟩ := x
        dsimp only at e0 e1 e2 e3 e4 e5
        simp only [Pr.v] at HX
        go_wp2_with (go_at_fn g; refine (HX.out _).mono ?_; clear HX; rintro e w2 ⟨rfl, hk2⟩)
        go_returns
        exact ⟨(k : Int), rfl, by rw [HA.out]; simp, HK.out.trans hk2 (fun x hx => .inl hx)⟩
    · obtain rfl : k = l.length := by omega
      have hltz : ¬ (l.length : Int) < (l.length : Int) := by omega
      go_wp2
      go_returns
      refine ⟨-1, rfl, ?_, HK.out⟩
      have := HT.out
      rw [List.take_length] at this
      symm
      rw [show decide (0 ≤ (-1 : Int)) = false by decide, List.any_eq_false]
      exact fun x hx => by rw [this x hx]; simp
--@@ slices.ContainsFunc
theorem contains_anyP (g : FuncId) (q : Pr → Bool) (eg : ∀ args w, (callFunc g args).run Tryz.prog w = .ok (.enter g args) w) (hq : ∀ x W, Calls Tryz.prog g #[x.v] W fun e w' => e = .returned (.bool (q x)) ∧ Kept [] W w')
    (v : Value) (l : List Pr) (w : World) (h : SlAt w v 6 l.length (l.flatMap Pr.f)) :
    Calls Tryz.prog 41 #[v, .func (.func g) #[] #[]] w fun e w' => e = .returned (.bool (l.any q)) ∧ Kept [] w w' := by
  have HI := hid (index_anyP g q eg hq v l w h)
  obtain ⟨a, cap, rfl, _⟩ := h.ex
  clear h hq eg
  go_enter Tryz.func41, Tryz.ntmps41
  go_wp2_with (go_at_call 63; refine HI.out.mono ?_; clear HI; rintro e w2 ⟨i, rfl, hi, hk2⟩)
  go_returns
  exact ⟨ret_bool (by rw [← hi]), hk2⟩
--@@ redo.wrong
theorem wrong_any (x : Pr) (w : World) : Calls Tryz.prog 64 #[x.v] w fun e w' => e = .returned (.bool (!x.val.right)) ∧ Kept [] w w' := by
  obtain ⟨⟨x1, x2, x3, x4⟩, ⟨b, n⟩⟩ := x
  simp only [Pr.v]
  cases b
  · by_cases hn : n = 0
    · subst hn
      go_enter Tryz.func64, Tryz.ntmps64
      go_wp2
      go_returns
      exact ⟨rfl, (Kept.refl [] w).alloc _⟩
    · have hn' : (n != 0) = true := by simp [hn]
      go_enter Tryz.func64, Tryz.ntmps64
      go_wp2
      go_returns
      exact ⟨ret_bool (by simp [V.right, hn]), (Kept.refl [] w).alloc _⟩
  · go_enter Tryz.func64, Tryz.ntmps64
    go_wp2
    go_returns
    exact ⟨rfl, (Kept.refl [] w).alloc _⟩
--@@ (redo.State).right$1
theorem absent_any (x : Pr) (w : World) : Calls Tryz.prog 39 #[x.v] w fun e w' => e = .returned (.bool (!x.val.there)) ∧ Kept [] w w' := by
  obtain ⟨⟨x1, x2, x3, x4⟩, ⟨b, n⟩⟩ := x
  simp only [Pr.v]
  go_enter Tryz.func39, Tryz.ntmps39
  go_wp2
  go_returns
  exact ⟨rfl, (Kept.refl [] w).alloc _⟩
--@@ end
end Go.Proofs.YtpcpeoejcnndhaaGreat
