/- Are two states one? -/
import Derived.Test.YtpcpeoejcnndhaaGreatM3
set_option linter.all false
namespace Go.Proofs.YtpcpeoejcnndhaaGreat
open Go.RowKit Go.Shelf Go.Lib Go.Sort Go.Proofs
theorem TxsAt.nil (w : World) : TxsAt w (.slice none 0 0) [] := ⟨[], rfl, ⟨none, 0, rfl, by decide, rfl, fun h => absurd h (by decide)⟩, fun q hq => by cases hq⟩
--@@ redo.Same$1
set_option maxHeartbeats 4000000 in
set_option maxRecDepth 100000 in
theorem same1_any (x y : Txp) (v1 v2 : Value) (w : World) (h1 : SlAt w v1 6 x.ws.length (x.ws.flatMap Pr.f)) (h2 : SlAt w v2 6 y.ws.length (y.ws.flatMap Pr.f)) :
    Calls Tryz.prog 36 #[.agg #[.int .i64 x.n, .int .u16 (x.mask : Int), .bool x.com, v1], .agg #[.int .i64 y.n, .int .u16 (y.mask : Int), .bool y.com, v2]] w fun e w' => e = .returned (.bool (decide (x = y))) ∧ Kept [] w w' := by
  obtain ⟨a1, c1, rfl, _⟩ := h1.ex
  obtain ⟨a2, c2, rfl, _⟩ := h2.ex
  obtain ⟨n1, m1, b1, s1⟩ := x
  obtain ⟨n2, m2, b2, s2⟩ := y
  dsimp only at h1 h2 ⊢
  have HEQ := hid (fun W (hK : Kept [] w W) => equalPairs_any (.slice a1 s1.length c1) (.slice a2 s2.length c2) s1 s2 W (h1.kept hK) (h2.kept hK))
  clear h1 h2
  obtain ⟨r, hr⟩ : ∃ r, r = decide ((⟨n1, m1, b1, s1⟩ : Txp) = ⟨n2, m2, b2, s2⟩) := ⟨_, rfl⟩
  rw [← hr]
  by_cases hn : n1 = n2
  · subst hn
    by_cases hm : m1 = m2
    · subst hm
      by_cases hb : b1 = b2
      · subst hb
        have hr2 : r = decide (s1 = s2) := by rw [hr]; simp
        clear hr
        rw [← hr2] at HEQ
        clear hr2
        cases b1
        all_goals
          go_enter Tryz.func36, Tryz.ntmps36
          go_wp2_with (first
            | (go_at_call 37; refine (HEQ.out _ (show Kept [] w _ by (repeat (first | assumption | (with_reducible exact Kept.refl _ _) | (with_reducible refine Kept.drew ?_) | (with_reducible refine Kept.alloc ?_ _) | (with_reducible refine Kept.setCell ?_ (by right; simp; try omega) _))))).mono ?_; clear HEQ; rintro e w2 ⟨rfl, hk2⟩; have HK2 := hid ((((Kept.refl [] w).alloc _).alloc _).trans hk2 (fun x hx => .inl hx)); clear hk2))
          go_returns
          exact ⟨rfl, HK2.out⟩
      · have hr2 : r = false := by rw [hr]; simp [hb]
        have HR := hid hr2
        clear hr hr2 HEQ
        cases b1 <;> cases b2
        · exact absurd rfl hb
        · go_enter Tryz.func36, Tryz.ntmps36
          go_wp2
          go_returns
          exact ⟨ret_bool HR.out.symm, ((Kept.refl [] w).alloc _).alloc _⟩
        · go_enter Tryz.func36, Tryz.ntmps36
          go_wp2
          go_returns
          exact ⟨ret_bool HR.out.symm, ((Kept.refl [] w).alloc _).alloc _⟩
        · exact absurd rfl hb
    · have hr2 : r = false := by rw [hr]; simp [hm]
      have hmb : ((m1 : Int) == (m2 : Int)) = false := by simp; omega
      have HR := hid hr2
      clear hr hr2 HEQ hm
      go_enter Tryz.func36, Tryz.ntmps36
      go_wp2
      go_returns
      exact ⟨ret_bool HR.out.symm, ((Kept.refl [] w).alloc _).alloc _⟩
  · have hr2 : r = false := by rw [hr]; simp [hn]
    have hnb : (n1 == n2) = false := by simp; omega
    have HR := hid hr2
    clear hr hr2 HEQ hn
    go_enter Tryz.func36, Tryz.ntmps36
    go_wp2
    go_returns
    exact ⟨ret_bool HR.out.symm, ((Kept.refl [] w).alloc _).alloc _⟩
--@@ slices.EqualFunc[[]redo.Tx,[]redo.Tx,redo.Tx,redo.Tx]
theorem tx_boxes {w W : World} {t : TypeId} {a b c d a' b' c' d' : Value} (hK : Kept [] ((w.alloc (.cells #[a, b, c, d] t)).alloc (.cells #[a', b', c', d'] t)) W) : Kept [] w W := (((Kept.refl [] w).alloc _).alloc _).trans hK (fun x hx => .inl hx)
set_option maxHeartbeats 8000000 in
set_option maxRecDepth 100000 in
theorem equalTxs_any (g : FuncId) (eg : ∀ args w, (callFunc g args).run Tryz.prog w = .ok (.enter g args) w)
    (hg : ∀ (x y : Txp) (v1 v2 : Value) (w : World), SlAt w v1 6 x.ws.length (x.ws.flatMap Pr.f) → SlAt w v2 6 y.ws.length (y.ws.flatMap Pr.f) → Calls Tryz.prog g #[.agg #[.int .i64 x.n, .int .u16 (x.mask : Int), .bool x.com, v1], .agg #[.int .i64 y.n, .int .u16 (y.mask : Int), .bool y.com, v2]] w fun e w' => e = .returned (.bool (decide (x = y))) ∧ Kept [] w w')
    (v1 v2 : Value) (xs ys : List Txp) (w : World) (h1 : TxsAt w v1 xs) (h2 : TxsAt w v2 ys) :
    Calls Tryz.prog 38 #[v1, v2, .func (.func g) #[] #[]] w fun e w' => e = .returned (.bool (decide (xs = ys))) ∧ Kept [] w w' := by
  have HG := hid hg
  clear hg
  obtain ⟨L1, hL1, hS1, hP1⟩ := h1.ex
  obtain ⟨L2, hL2, hS2, hP2⟩ := h2.ex
  obtain ⟨a1, cap1, rfl, m1, _, c1⟩ := hS1.ex
  obtain ⟨a2, cap2, rfl, m2, _, c2⟩ := hS2.ex
  have HC1 := hid c1
  have HC2 := hid c2
  have HP1 := hid hP1
  have HP2 := hid hP2
  have HL1 := hid hL1
  have HL2 := hid hL2
  clear h1 h2 hS1 hS2 c1 c2 hP1 hP2 hL1 hL2
  have hl1 : xs.length = L1.length := by rw [← HL1.out, List.length_map]
  have hl2 : ys.length = L2.length := by rw [← HL2.out, List.length_map]
  have HX1 := hid hl1
  have HX2 := hid hl2
  clear hl1 hl2
  by_cases hl : L1.length = L2.length
  · have hb : ((L1.length : Int) != (L2.length : Int)) = false := by simp [hl]
    have HL := hid hl
    clear hl
    go_enter Tryz.func38, Tryz.ntmps38
    go_wp2
    go_loopw [17] (fun i wr => ∃ k : Nat, k ≤ L1.length ∧ i = .int .i64 k ∧ Hid (xs.take k = ys.take k) ∧ Hid (Kept [] w wr)) (fun i _ => L1.length - (intOf i).toNat)
    case atStart => exact ⟨0, Nat.zero_le _, rfl, rfl, Kept.refl _ _⟩
    case round =>
      obtain ⟨k, hk, rfl, HT, HK⟩ := hrel
      by_cases hlt : k < L1.length
      · have hlt2 : k < L2.length := by rw [← HL.out]; exact hlt
        obtain ⟨b1, o1, rfl, _, d1⟩ := HC1.out (by omega)
        obtain ⟨b2, o2, rfl, _, d2⟩ := HC2.out (by omega)
        obtain ⟨e0, e1, e2, e3⟩ := tx_cells (fun j u hu => HK.out.cell (d1 j u hu) (by simp)) hlt
        obtain ⟨f0, f1, f2, f3⟩ := tx_cells (fun j u hu => HK.out.cell (d2 j u hu) (by simp)) hlt2
        clear d1 d2
        have hx1 : k < xs.length := by rw [HX1.out]; exact hlt
        have hx2 : k < ys.length := by rw [HX2.out]; exact hlt2
        have hq1 : xs[k] = L1[k].1 := by simp [← HL1.out]
        have hq2 : ys[k] = L2[k].1 := by simp [← HL2.out]
        have HX := hid (show xs.take (k + 1) = xs.take k ++ [L1[k].1] by rw [List.take_succ_eq_append_getElem hx1, hq1])
        have HY := hid (show ys.take (k + 1) = ys.take k ++ [L2[k].1] by rw [List.take_succ_eq_append_getElem hx2, hq2])
        have HXE := hid (show xs[k]? = some L1[k].1 by rw [← hq1]; simp [hx1])
        have HYE := hid (show ys[k]? = some L2[k].1 by rw [← hq2]; simp [hx2])
        have HQ1 := hid (HP1.out _ (List.getElem_mem hlt))
        have HQ2 := hid (HP2.out _ (List.getElem_mem hlt2))
        clear hq1 hq2
        generalize L1[k] = q1 at *
        generalize L2[k] = q2 at *
        obtain ⟨x, qv1⟩ := q1
        obtain ⟨y, qv2⟩ := q2
        dsimp only at e0 e1 e2 e3 f0 f1 f2 f3
        have HA1 := hid (show PrAt w qv1 x.ws from HQ1.out)
        have HA2 := hid (show PrAt w qv2 y.ws from HQ2.out)
        clear HQ1 HQ2
        obtain ⟨qa1, qc1, rfl, _⟩ := HA1.out.at'.ex
        obtain ⟨qa2, qc2, rfl, _⟩ := HA2.out.at'.ex
        have HAL := hid ((Kept.refl [] wr).alloc (.cells #[.int .i64 x.n, .int .u16 (x.mask : Int), .bool x.com, .slice qa1 x.ws.length qc1] 59))
        replace f0 := HAL.out.cell f0 (by simp)
        replace f1 := HAL.out.cell f1 (by simp)
        replace f2 := HAL.out.cell f2 (by simp)
        replace f3 := HAL.out.cell f3 (by simp)
        have HSM := hid (fun W (hK : Kept [] w W) => HG.out x y _ _ W (HA1.out.at'.kept hK) (HA2.out.at'.kept hK))
        have HE := hid (show decide (x = y) = decide (x = y) from rfl)
        obtain ⟨r, hr⟩ : ∃ r, r = decide (x = y) := ⟨_, rfl⟩
        rw [← hr] at HSM
        have HR := hid hr
        clear hr HE
        cases r with
        | true =>
          have HXY := hid (of_decide_eq_true HR.out.symm)
          clear HR
          go_wp2_with (go_at_fn g; refine (HSM.out _ (HK.out.trans (show Kept [] wr _ by (repeat (first | assumption | (with_reducible exact Kept.refl _ _) | (with_reducible refine Kept.drew ?_) | (with_reducible refine Kept.alloc ?_ _) | (with_reducible refine Kept.setCell ?_ (by right; simp; try omega) _)))) (fun x hx => .inl hx))).mono ?_; clear HSM; rintro e w2 ⟨rfl, hk2⟩; have HK2 := hid (HK.out.trans (tx_boxes hk2) (fun x hx => .inl hx)); clear hk2)
          go_roundw
          case rel => exact ⟨k + 1, by omega, by go_num, (by show xs.take (k + 1) = ys.take (k + 1); rw [HX.out, HY.out, HT.out]; have := HXY.out; rw [this]), HK2.out⟩
          case measure => simp [intOf]; omega
        | false =>
          have HXY := hid (of_decide_eq_false HR.out.symm)
          clear HR
          go_wp2_with (go_at_fn g; refine (HSM.out _ (HK.out.trans (show Kept [] wr _ by (repeat (first | assumption | (with_reducible exact Kept.refl _ _) | (with_reducible refine Kept.drew ?_) | (with_reducible refine Kept.alloc ?_ _) | (with_reducible refine Kept.setCell ?_ (by right; simp; try omega) _)))) (fun x hx => .inl hx))).mono ?_; clear HSM; rintro e w2 ⟨rfl, hk2⟩; have HK2 := hid (HK.out.trans (tx_boxes hk2) (fun x hx => .inl hx)); clear hk2)
          go_returns
          refine ⟨ret_bool ?_, HK2.out⟩
          symm
          refine decide_eq_false fun h => HXY.out ?_
          have := HXE.out
          rw [h, HYE.out] at this
          exact (Option.some.inj this).symm
      · go_wp2
        go_returns
        obtain rfl : k = L1.length := by omega
        refine ⟨ret_bool ?_, HK.out⟩
        have := HT.out
        rw [List.take_of_length_le (by rw [HX1.out]; exact Nat.le_refl _), List.take_of_length_le (by rw [HX2.out, HL.out]; exact Nat.le_refl _)] at this
        simp [this]
  · have hb : ((L1.length : Int) != (L2.length : Int)) = true := by simp; omega
    have HL := hid hl
    clear hl
    go_enter Tryz.func38, Tryz.ntmps38
    go_wp2
    go_returns
    exact ⟨ret_bool (by symm; exact decide_eq_false fun h => HL.out (by rw [← HX1.out, ← HX2.out, h])), Kept.refl _ _⟩
--@@ redo.Same
theorem sbox2 {w W : World} {t : TypeId} {a b c d : Value} (hK : Kept [] ((w.alloc (.cells #[a, b] t)).alloc (.cells #[c, d] t)) W) :
    W.cell? ⟨w.heap.size, 1, none⟩ = some b ∧ W.cell? ⟨w.heap.size + 1, 1, none⟩ = some d := by
  have h1 := ((Kept.refl [] (w.alloc (.cells #[a, b] t))).alloc (.cells #[c, d] t)).cell (new_cell w [a, b] t 1 b rfl) (by simp)
  have h2 := new_cell (w.alloc (.cells #[a, b] t)) [c, d] t 1 d rfl
  refine ⟨hK.cell h1 (by simp), ?_⟩
  have h3 := hK.cell h2 (by simp)
  simpa using h3
set_option maxHeartbeats 4000000 in
set_option maxRecDepth 100000 in
theorem same_any (b1 t1 b2 t2 : Value) (s t : Stp) (w : World) (h1 : StAt w b1 t1 s) (h2 : StAt w b2 t2 t) :
    Calls Tryz.prog 18 #[.agg #[b1, t1], .agg #[b2, t2]] w fun e w' => e = .returned (.bool (decide (s = t))) ∧ Kept [] w w' := by
  have HEQ := hid (fun W (hK : Kept [] w W) => equalPairs_any b1 b2 s.base t.base W (h1.base.at'.kept hK) (h2.base.at'.kept hK))
  have HET := hid (fun W (hK : Kept [] w W) => equalTxs_any 36 (enters_of Tryz.func36 (by kernel_rfl) rfl) same1_any t1 t2 s.txs t.txs W (h1.txs.kept hK) (h2.txs.kept hK))
  obtain ⟨_, _, hS1, _⟩ := h1.txs.ex
  obtain ⟨_, _, hS2, _⟩ := h2.txs.ex
  obtain ⟨_, _, rfl, _⟩ := h1.base.at'.ex
  obtain ⟨_, _, rfl, _⟩ := h2.base.at'.ex
  obtain ⟨_, _, rfl, _⟩ := hS1.ex
  obtain ⟨_, _, rfl, _⟩ := hS2.ex
  clear h1 h2 hS1 hS2
  obtain ⟨r, hr⟩ : ∃ r, r = decide (s = t) := ⟨_, rfl⟩
  rw [← hr]
  obtain ⟨sb, st⟩ := s
  obtain ⟨tb, tt⟩ := t
  dsimp only at HEQ HET ⊢
  obtain ⟨rb, hrb⟩ : ∃ rb, rb = decide (sb = tb) := ⟨_, rfl⟩
  obtain ⟨rt, hrt⟩ : ∃ rt, rt = decide (st = tt) := ⟨_, rfl⟩
  rw [← hrb] at HEQ
  rw [← hrt] at HET
  have hr2 : r = (rb && rt) := by rw [hr, hrb, hrt, Bool.eq_iff_iff]; simp
  have HR := hid hr2
  clear hr hr2 hrb hrt
  cases rb with
  | true =>
    go_enter Tryz.func18, Tryz.ntmps18
    go_wp2_with (first
      | (go_at_call 37; refine (HEQ.out _ (show Kept [] w _ by (repeat (first | assumption | (with_reducible exact Kept.refl _ _) | (with_reducible refine Kept.drew ?_) | (with_reducible refine Kept.alloc ?_ _) | (with_reducible refine Kept.setCell ?_ (by right; simp; try omega) _))))).mono ?_; clear HEQ; rintro e w2 ⟨rfl, hk2⟩; obtain ⟨z0, z1⟩ := sbox2 hk2; have HK2 := hid ((((Kept.refl [] w).alloc _).alloc _).trans hk2 (fun x hx => .inl hx)); clear hk2)
      | (go_at_call 38; refine (HET.out _ HK2.out).mono ?_; clear HET; rintro e w3 ⟨rfl, hk3⟩))
    go_returns
    exact ⟨ret_bool (by rw [HR.out]; rfl), HK2.out.trans hk3 (fun x hx => .inl hx)⟩
  | false =>
    clear HET
    go_enter Tryz.func18, Tryz.ntmps18
    go_wp2_with (first
      | (go_at_call 37; refine (HEQ.out _ (show Kept [] w _ by (repeat (first | assumption | (with_reducible exact Kept.refl _ _) | (with_reducible refine Kept.drew ?_) | (with_reducible refine Kept.alloc ?_ _) | (with_reducible refine Kept.setCell ?_ (by right; simp; try omega) _))))).mono ?_; clear HEQ; rintro e w2 ⟨rfl, hk2⟩; have HK2 := hid ((((Kept.refl [] w).alloc _).alloc _).trans hk2 (fun x hx => .inl hx)); clear hk2))
    go_returns
    exact ⟨ret_bool (by rw [HR.out]; rfl), HK2.out⟩
--@@ end
end Go.Proofs.YtpcpeoejcnndhaaGreat
