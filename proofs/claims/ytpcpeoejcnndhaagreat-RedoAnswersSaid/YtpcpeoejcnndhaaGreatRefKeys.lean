/- The reference's own answers on pairs: keys, sort. -/
import Derived.Test.YtpcpeoejcnndhaaGreatM8
import Derived.Test.YtpcpeoejcnndhaaGreatM1
set_option linter.all false
namespace Go.Proofs.YtpcpeoejcnndhaaGreat
open Go.RowKit Go.Shelf Go.Lib Go.Sort Go.Proofs
theorem insP_at (p : Pr) : ∀ (l : List Pr) (m : Nat), m ≤ l.length → (∀ j (h : j < l.length), j < m → l[j].key.num < p.key.num) → (∀ h : m < l.length, ¬ l[m].key.num < p.key.num) →
    insP p l = if h : m < l.length then (if l[m].key = p.key then l.set m p else l.take m ++ ([p] ++ l.drop m)) else l ++ [p]
  | [], m, h1, _, _ => by
    rw [dif_neg (by simp)]; rfl
  | q :: l, 0, _, _, h3 => by
    have := h3 (by simp)
    simp only [List.getElem_cons_zero] at this
    rw [dif_pos (by simp)]
    simp only [insP, List.getElem_cons_zero]
    rw [if_neg this]
    split <;> rfl
  | q :: l, m + 1, h1, h2, h3 => by
    have h0 := h2 0 (by simp) (by omega)
    simp only [List.getElem_cons_zero] at h0
    have ih := insP_at p l m (by simpa using h1) (fun j h hj => by have := h2 (j + 1) (by simpa using h) (by omega); simpa using this) (fun h => by have := h3 (by simpa using h); simpa using this)
    simp only [insP]
    rw [if_pos h0, ih]
    by_cases hm : m < l.length
    · rw [dif_pos hm, dif_pos (by simpa using hm)]
      simp only [List.getElem_cons_succ]
      split <;> rfl
    · rw [dif_neg hm, dif_neg (by simpa using hm)]
      rfl
theorem insP_len (p : Pr) : ∀ l : List Pr, (insP p l).length ≤ l.length + 1
  | [] => by simp [insP]
  | q :: l => by
    have := insP_len p l
    simp only [insP]
    split
    · simp; omega
    · split <;> simp
theorem rk_take (l : List Pr) (m : Nat) : (l.flatMap Pr.f).take (m * 6) = (l.take m).flatMap Pr.f := by
  induction l generalizing m with
  | nil => simp
  | cons p l ih =>
    cases m with
    | zero => simp
    | succ m =>
      simp only [List.flatMap_cons, List.take_succ_cons]
      rw [List.take_append, show (Pr.f p).length = 6 from rfl, List.take_of_length_le (by show 6 ≤ _; omega), show (m + 1) * 6 - 6 = m * 6 by omega, ih]
theorem rk_drop (l : List Pr) (m : Nat) : (l.flatMap Pr.f).drop (m * 6) = (l.drop m).flatMap Pr.f := by
  induction l generalizing m with
  | nil => simp
  | cons p l ih =>
    cases m with
    | zero => simp
    | succ m =>
      simp only [List.flatMap_cons, List.drop_succ_cons]
      rw [List.drop_append, show (Pr.f p).length = 6 from rfl, List.drop_of_length_le (by show 6 ≤ _; omega), show (m + 1) * 6 - 6 = m * 6 by omega, ih, List.nil_append]
theorem rk_set (l : List Pr) (m : Nat) (hm : m < l.length) (p : Pr) : (l.flatMap Pr.f).take (m * 6) ++ (p.f ++ (l.flatMap Pr.f).drop (m * 6 + 6)) = (l.set m p).flatMap Pr.f := by
  rw [rk_take, show m * 6 + 6 = (m + 1) * 6 by omega, rk_drop, List.set_eq_take_append_cons_drop, if_pos hm, List.flatMap_append, List.flatMap_cons]
theorem rk_len (l : List Pr) : (l.flatMap Pr.f).length = l.length * 6 := by
  induction l with
  | nil => rfl
  | cons p l ih => rw [List.flatMap_cons, List.length_append, ih, show (Pr.f p).length = 6 from rfl, List.length_cons]; omega
theorem flat_one' (l : List Pr) : ∀ u ∈ l.flatMap Pr.f, u.oneCell' = true := fun u hu => by
  obtain ⟨y, _, hy⟩ := List.mem_flatMap.1 hu
  exact encT_one (y, 0) u hy
theorem ownsRow_form {w : World} {base n size : Nat} {e : TypeId} {v : Value} {xs : List Value} (h : w.ownsRow base e size v n xs) (hv : v ≠ .slice none 0 0) :
    ∃ g cap, v = .slice (some ⟨g, 0, none⟩) n cap ∧ base ≤ g ∧ g < w.heap.size ∧ n ≤ cap ∧ cap ≤ 9223372036854775807 ∧ ∀ j u, xs[j]? = some u → w.cell? ⟨g, 0 + j, none⟩ = some u := by
  rcases h.2 with ⟨h0, _⟩ | ⟨g, cap, cur, rfl, hb, hg, hn, hc, hs, ht⟩
  · exact absurd h0 hv
  · refine ⟨g, cap, rfl, hb, (Array.getElem?_eq_some_iff.1 hg).1, hn, by unfold maxLen at hc; omega, fun j u hu => ?_⟩
    have := h.cells (g := g) rfl j u hu
    rw [Addr.add_lit] at this
    exact this
--@@ concordatref09.Keys
theorem refPairInfo : (Tryz.prog.info? 64).map (fun i => (i.zero, i.size, i.bytes)) = some (some (.agg #[.int .u8 0, .int .u8 0, .int .u8 0, .int .u8 0, .bool false, .int .i64 0]), 6, 24) := by kernel_rfl
set_option maxHeartbeats 8000000 in
set_option maxRecDepth 100000 in
theorem rkeys_any (v : Value) (l : List Pr) (w : World) (h : SlAt w v 6 l.length (l.flatMap Pr.f)) (hl : l.length ≤ 20000) :
    Calls Tryz.prog 45 #[v] w fun e w' => ∃ v', e = .returned v' ∧ w'.ownsRow w.heap.size 64 6 v' (keysP l).length ((keysP l).flatMap Pr.f) ∧ v' ≠ .slice none 0 0 ∧ Kept [] w w' := by
  obtain ⟨a, cap, rfl, _, _, hcs⟩ := h.ex
  have HC := hid hcs
  have HF := hid refPairInfo
  have HLEN := hid (fun k => keysP_len (l.take k))
  clear h hcs
  go_enter Tryz.func45, Tryz.ntmps45
  go_wp2
  have HO0 := hid (ownsRow_made0 w 64 6 w.heap.size (Nat.le_refl _))
  have HK0 := hid ((Kept.refl [] w).alloc (.cells #[] 64))
  go_loopg [3, 4] l.length (fun kx s3 s4 wr => ∃ k : Nat, s4 = .int .i64 k ∧ k ≤ l.length ∧ l.length - k ≤ kx ∧ Aside (s3 ≠ .slice none 0 0) ∧ Aside (wr.ownsRow w.heap.size 64 6 s3 (keysP (l.take k)).length ((keysP (l.take k)).flatMap Pr.f)) ∧ Aside (Kept [] w wr))
  case atStart => exact ⟨0, by first | rfl | go_num, by omega, by omega, (fun e => by cases e), HO0.out, HK0.out⟩
  case round =>
    clear HO0 HK0
    obtain ⟨k, rfl, hk, hkx, HN, HO, HK⟩ := hrel
    have hsz := HK.out.size
    by_cases hlt : k < l.length
    · have hltz : (k : Int) < (l.length : Int) := by omega
      obtain ⟨b, off, rfl, hb, hcs⟩ := HC.out (by omega)
      have HT := hid (show keysP (l.take (k + 1)) = insP l[k] (keysP (l.take k)) by rw [List.take_succ_eq_append_getElem hlt, keysP_snoc])
      have hol : (keysP (l.take k)).length ≤ k := by have := HLEN.out k; rw [List.length_take] at this; omega
      obtain ⟨os, hos⟩ : ∃ os, os = keysP (l.take k) := ⟨_, rfl⟩
      rw [← hos] at HT HO hol
      clear hos HLEN
      obtain ⟨g, gc, rfl, hg1, hg2, hg3, hg4, hgc⟩ := ownsRow_form HO.out HN.out
      rename World => wo
      have HX := hid (fun (w' : World) (hk' : Kept [] w w') => pair_cells (fun j u hj => hk'.cell (hcs j u hj) (by simp)) hlt)
      have HG := hid (fun (w' : World) (hk' : Kept [] wo w') m (hm : m < os.length) => pair_cells (w := w') (l := os) (b := g) (off := 0) (k := m) (fun j u hj => hk'.cell (hgc j u hj) (by simp)) hm)
      have HGC := hid (fun (w' : World) (hk' : Kept [] wo w') j u (hj : (os.flatMap Pr.f)[j]? = some u) => hk'.cell (hgc j u hj) (by simp))
      clear hcs hgc
      generalize l[k] = x at *
      obtain ⟨⟨x1, x2, x3, x4⟩, ⟨x5, x6⟩⟩ := x
      dsimp only at HX
      simp only [Nat.zero_add] at HG HGC
      have hgb : g ≠ b := by omega
      have hosz : os.length ≤ 20000 := by omega
      go_upto_block 2 with (fail)
      go_cut [5] (fun s5 wx => ∃ m : Nat, s5 = .int .i64 m ∧ m ≤ os.length ∧ Aside (∀ j (h : j < os.length), j < m → os[j].key.num < (⟨x1, x2, x3, x4⟩ : K4).num) ∧ Aside (∀ h : m < os.length, ¬ os[m].key.num < (⟨x1, x2, x3, x4⟩ : K4).num) ∧ Aside (Kept [] wo wx))
      case first =>
        go_wp2_with fail
        go_loopg [5] os.length (fun kx s5 w2 => ∃ m : Nat, s5 = .int .i64 m ∧ m ≤ os.length ∧ os.length - m ≤ kx ∧ Aside (∀ j (h : j < os.length), j < m → os[j].key.num < (⟨x1, x2, x3, x4⟩ : K4).num) ∧ Aside (Kept [] wo w2))
        case atStart => exact ⟨0, by first | rfl | go_num, by omega, by omega, fun j h hj => by omega, Kept.refl _ _⟩
        case round =>
          obtain ⟨m, rfl, hm, hmx, HLT, HK2⟩ := hrel
          by_cases hml : m < os.length
          · have hmz : (m : Int) < (os.length : Int) := by omega
            have HS := hid (show ∀ w', Kept [] wr w' → (w'.cell? ⟨g, m * 6, none⟩ = some (.int .u8 (os[m].key.a.toNat : Int)) ∧ w'.cell? ⟨g, m * 6 + 1, none⟩ = some (.int .u8 (os[m].key.b.toNat : Int)) ∧ w'.cell? ⟨g, m * 6 + 2, none⟩ = some (.int .u8 (os[m].key.c.toNat : Int)) ∧ w'.cell? ⟨g, m * 6 + 3, none⟩ = some (.int .u8 (os[m].key.d.toNat : Int))) ∧
                w'.cell? ⟨b, off + k * 6, none⟩ = some (.int .u8 (x1.toNat : Int)) ∧ w'.cell? ⟨b, off + k * 6 + 1, none⟩ = some (.int .u8 (x2.toNat : Int)) ∧ w'.cell? ⟨b, off + k * 6 + 2, none⟩ = some (.int .u8 (x3.toNat : Int)) ∧ w'.cell? ⟨b, off + k * 6 + 3, none⟩ = some (.int .u8 (x4.toNat : Int)) from fun w' hk' => by
              have h1 := HG.out w' (HK2.out.trans hk' (fun x hx => by cases hx)) m hml
              have h2 := HX.out w' ((HK.out.trans HK2.out (fun x hx => by cases hx)).trans hk' (fun x hx => by cases hx))
              exact ⟨⟨h1.1, h1.2.1, h1.2.2.1, h1.2.2.2.1⟩, h2.1, h2.2.1, h2.2.2.1, h2.2.2.2.1⟩)
            have HB := hid (fun w => below_any os[m].key ⟨x1, x2, x3, x4⟩ w)
            have HTm := hid (show ∀ q, decide (os[m].key.num < (⟨x1, x2, x3, x4⟩ : K4).num) = q → q = true → ∀ j (h : j < os.length), j < m + 1 → os[j].key.num < (⟨x1, x2, x3, x4⟩ : K4).num from fun q hq h1 j h hj => by
              by_cases hjm : j = m
              · subst hjm; rw [h1] at hq; exact of_decide_eq_true hq
              · exact HLT.out j h (by omega))
            have HFm := hid (show ∀ q, decide (os[m].key.num < (⟨x1, x2, x3, x4⟩ : K4).num) = q → q = false → ¬ os[m].key.num < (⟨x1, x2, x3, x4⟩ : K4).num from fun q hq h1 => by rw [h1] at hq; exact of_decide_eq_false hq)
            obtain ⟨q, hq⟩ : ∃ q, decide (os[m].key.num < (⟨x1, x2, x3, x4⟩ : K4).num) = q := ⟨_, rfl⟩
            rw [hq] at HB
            have HQ := hid hq
            clear hq
            generalize hy : os[m].key = y at HS HB
            clear hy
            obtain ⟨y1, y2, y3, y4⟩ := y
            dsimp only at HS
            simp only [K4.v] at HB
            go_wp2_with fail
            go_region_held3 (fun w' => (w'.cell? ⟨g, m * 6, none⟩ = some (.int .u8 (y1.toNat : Int)) ∧ w'.cell? ⟨g, m * 6 + 1, none⟩ = some (.int .u8 (y2.toNat : Int)) ∧ w'.cell? ⟨g, m * 6 + 2, none⟩ = some (.int .u8 (y3.toNat : Int)) ∧ w'.cell? ⟨g, m * 6 + 3, none⟩ = some (.int .u8 (y4.toNat : Int))) ∧
                w'.cell? ⟨b, off + k * 6, none⟩ = some (.int .u8 (x1.toNat : Int)) ∧ w'.cell? ⟨b, off + k * 6 + 1, none⟩ = some (.int .u8 (x2.toNat : Int)) ∧ w'.cell? ⟨b, off + k * 6 + 2, none⟩ = some (.int .u8 (x3.toNat : Int)) ∧ w'.cell? ⟨b, off + k * 6 + 3, none⟩ = some (.int .u8 (x4.toNat : Int)))
              ((refine HS.out _ ?_; first | exact (Kept.refl [] wr).drew | exact hk3))
              (first | (go_at_call 66; refine (HB.out _).mono ?_; rintro e w3 ⟨rfl, hk3'⟩; have hk3 : Kept [] wr w3 := ((Kept.refl [] wr).drew).trans hk3' (fun x hx => by cases hx)))
            have HK3 := hid (HK2.out.trans hk3 (fun x hx => by cases hx))
            clear hk3 hk3'
            cases q with
            | true =>
              go_wp2
              go_roundg (os.length - (m + 1))
              case measure => omega
              case rel => exact ⟨m + 1, by first | rfl | go_num, by omega, Nat.le_refl _, HTm.out true HQ.out rfl, HK3.out⟩
            | false =>
              go_wp2
              go_meet
              exact ⟨m, rfl, hm, HLT.out, fun _ => HFm.out false HQ.out rfl, HK3.out⟩
          · obtain rfl : m = os.length := by omega
            have hmz : ¬ (os.length : Int) < (os.length : Int) := by omega
            go_wp2_with fail
            go_quiet (fail)
            go_wp2
            go_meet
            exact ⟨os.length, rfl, hm, HLT.out, fun h => absurd h (Nat.lt_irrefl _), HK2.out.drewN _⟩
      case rest =>
      obtain ⟨m, rfl, hm, HLT, HGE, HKC⟩ := hcut
      obtain ⟨rr, hrr⟩ : ∃ rr, rr = decide (∃ h : m < os.length, os[m].key = (⟨x1, x2, x3, x4⟩ : K4)) := ⟨_, rfl⟩
      have HINS := hid (insP_at ⟨⟨x1, x2, x3, x4⟩, ⟨x5, x6⟩⟩ os m hm HLT.out HGE.out)
      clear HLT HGE
      have HRR := hid hrr
      clear hrr
      rename World => wk
      have HKX := hid (HK.out.trans HKC.out (fun x hx => by cases hx))
      go_upto_region 8 with (fail)
      go_cut [49] (fun s49 wx => s49 = .bool rr ∧ Aside (Kept [] wk wx))
      case first =>
        by_cases hml : m < os.length
        · have hmz : (m : Int) < (os.length : Int) := by omega
          obtain ⟨e0, e1, e2, e3, _, _⟩ := HX.out wk HKX.out
          obtain ⟨d0, d1, d2, d3, _, _⟩ := HG.out wk HKC.out m hml
          have HRR2 := hid (show ∀ q, decide (os[m].key = (⟨x1, x2, x3, x4⟩ : K4)) = q → q = rr from fun q hq => by rw [HRR.out, ← hq, Bool.eq_iff_iff]; simp [hml])
          obtain ⟨q, hq⟩ : ∃ q, decide (os[m].key = (⟨x1, x2, x3, x4⟩ : K4)) = q := ⟨_, rfl⟩
          obtain rfl := HRR2.out q hq
          clear HRR2
          have hqq := fun w => eqK w os[m].key ⟨x1, x2, x3, x4⟩
          rw [hq] at hqq
          clear hq
          generalize os[m].key = y at *
          obtain ⟨y1, y2, y3, y4⟩ := y
          dsimp only at d0 d1 d2 d3
          simp only [K4.v] at hqq
          go_wp2_with fail
          go_quiet (fail)
          go_wp2
          go_meet
          exact ⟨rfl, (Kept.refl [] wk).drewN _⟩
        · obtain rfl : m = os.length := by omega
          have hmz : ¬ (os.length : Int) < (os.length : Int) := by omega
          obtain rfl : rr = false := by rw [HRR.out]; simp
          go_wp2_with fail
          go_quiet (fail)
          go_wp2
          go_meet
          exact ⟨rfl, (Kept.refl [] wk).drewN _⟩
      case rest =>
      obtain ⟨rfl, HKC2⟩ := hcut
      have HKC := hid (HKC.out.trans HKC2.out (fun x hx => by cases hx))
      have HKX := hid (HKX.out.trans HKC2.out (fun x hx => by cases hx))
      clear HKC2
      have HO := hid (ownsRow_kept HO.out HKC.out (by simp))
      have hbs := HKX.out.size
      cases rr with
      | true =>
        have hr := of_decide_eq_true HRR.out.symm
        obtain ⟨hml, hkey⟩ := hr
        have hmz : (m : Int) < (os.length : Int) := by omega
        have HE := hid (show keysP (l.take (k + 1)) = os.set m ⟨⟨x1, x2, x3, x4⟩, ⟨x5, x6⟩⟩ by rw [HT.out, HINS.out, dif_pos hml, if_pos hkey])
        clear hkey HINS HRR
        obtain ⟨e0, e1, e2, e3, e4, e5⟩ := HX.out _ HKX.out
        obtain ⟨d0, d1, d2, d3, d4, d5⟩ := HG.out _ HKC.out m hml
        obtain ⟨hp1, hp2, _⟩ := ownsRow_put HO.out m hml (Pr.f ⟨⟨x1, x2, x3, x4⟩, ⟨x5, x6⟩⟩) rfl
        rw [rk_set os m hml] at hp1
        have HP1 := hid hp1
        have HK6 := hid (Kept.setCells (S := []) (a := w) g (.inr hg1) (Pr.f ⟨⟨x1, x2, x3, x4⟩, ⟨x5, x6⟩⟩) (m * 6) HKX.out)
        have f0 := (hp2 0 (by omega)).2
        have f1 := (hp2 1 (by omega)).2
        have f2 := (hp2 2 (by omega)).2
        have f3 := (hp2 3 (by omega)).2
        have f4 := (hp2 4 (by omega)).2
        have f5 := (hp2 5 (by omega)).2
        simp only [Nat.add_zero] at f0
        clear hp1 hp2
        generalize os[m] = y at d0 d1 d2 d3 d4 d5
        go_wp2_with fail
        clear d0 d1 d2 d3 d4 d5 f0 f1 f2 f3 f4 f5
        go_roundg (l.length - (k + 1))
        case measure => omega
        case rel => exact ⟨k + 1, by first | rfl | go_num, by omega, Nat.le_refl _, (fun e => by cases e), by show World.ownsRow _ _ _ _ _ _ _; rw [HE.out, List.length_set]; exact HP1.out, HK6.out⟩
      | false =>
        have hr := of_decide_eq_false HRR.out.symm
        have HE := hid (show keysP (l.take (k + 1)) = os.take m ++ ([⟨⟨x1, x2, x3, x4⟩, ⟨x5, x6⟩⟩] ++ os.drop m) by
          rw [HT.out, HINS.out]
          by_cases hml : m < os.length
          · rw [dif_pos hml, if_neg (fun h => hr ⟨hml, h⟩)]
          · obtain rfl : m = os.length := by omega
            rw [dif_neg hml]; simp)
        clear hr HINS HRR
        have HTK := hid (show ∀ w', Kept [] wo w' → ∀ j u, ((os.take m).flatMap Pr.f)[j]? = some u → w'.cell? ((⟨g, 0, none⟩ : Addr).add j) = some u from fun w' hk' j u hj => by
          rw [Addr.add_lit, Nat.zero_add]
          rw [← rk_take, List.getElem?_take] at hj
          split at hj
          · exact HGC.out w' hk' j u hj
          · cases hj)
        have HDR := hid (show ∀ w', Kept [] wo w' → ∀ j u, ((os.drop m).flatMap Pr.f)[j]? = some u → w'.cell? ((⟨g, m * 6, none⟩ : Addr).add j) = some u from fun w' hk' j u hj => by
          rw [Addr.add_lit]
          rw [← rk_drop, List.getElem?_drop] at hj
          exact HGC.out w' hk' _ u hj)
        go_upto_region 10 with (fail)
        go_cut [3, 6] (fun s3 s6 wx => s3 = .slice (some ⟨g, 0, none⟩) os.length gc ∧ Aside (wx.ownsRow w.heap.size 64 6 s6 (os.length - m) ((os.drop m).flatMap Pr.f)) ∧ Aside (s6 ≠ .slice none 0 0) ∧ Aside (Kept [] wc wx))
        case first =>
          go_wp2_with (at_builtin; refine Here.mk ?_)
          all_goals refine Here.of ?_
          all_goals refine wpList_append_is rfl _ _ 23 rfl 64 _ 6 24 Tryz.underlying23 HF.out rfl (by decide) (by decide) w.heap.size _ 0 [] rfl (ownsRow_made0 wc 64 6 w.heap.size hbs) _ _ _ ((os.drop m).flatMap Pr.f) rfl (by rw [rk_len, List.length_drop]) ?_ (flat_one' _) (by omega) (by simp; omega) ?_
          case inl.refine_1 =>
            intro j u hj
            rw [List.drop_of_length_le (by omega)] at hj
            simp at hj
          case inr.refine_1 => exact HDR.out _ (HKC.out.alloc _)
          all_goals intro v' w1 hown1 hgr hnil
          all_goals have HO1 := hid hown1
          all_goals have hn1 : v' ≠ .slice none 0 0 := fun h => by have := (hnil.1 h).1; cases this
          all_goals have HK1 := hid (Kept.trans ((Kept.refl [] wc).alloc (.cells #[] 64)) (Kept.of_grown hgr [wc.heap.size] (fun k hk => by cases hk; simp)) (fun x hx => .inr (by simp at hx; omega)))
          all_goals clear hown1 hgr hnil
          all_goals go_wp2
          all_goals go_meet
          all_goals exact ⟨by first | rfl | rw [h], by show World.ownsRow _ _ _ _ _ _ _; simpa using HO1.out, hn1, HK1.out⟩
        case rest =>
        obtain ⟨rfl, HO6, HN6, HK6⟩ := hcut
        rename World => wq
        obtain ⟨g6, c6, rfl, hg6, _, _, _, hgc6⟩ := ownsRow_form HO6.out HN6.out
        simp only [Nat.zero_add] at hgc6
        have HGC6 := hid hgc6
        clear hgc6
        have HKQ := hid (HKX.out.trans HK6.out (fun x hx => by cases hx))
        have HKoq := hid (HKC.out.trans HK6.out (fun x hx => by cases hx))
        have hqs := HKQ.out.size
        have hmg : (m : Int) ≤ (gc : Int) := by omega
        have hm0 : (0 : Int) ≤ (m : Int) := by omega
        have HSX := hid (fun w' (hk' : Kept [] wq w') => HX.out w' (HKQ.out.trans hk' (fun x hx => by cases hx)))
        go_wp2_with fail
        go_region_held3 (fun w' => w'.cell? ⟨b, off + k * 6, none⟩ = some (.int .u8 (x1.toNat : Int)) ∧ w'.cell? ⟨b, off + k * 6 + 1, none⟩ = some (.int .u8 (x2.toNat : Int)) ∧ w'.cell? ⟨b, off + k * 6 + 2, none⟩ = some (.int .u8 (x3.toNat : Int)) ∧ w'.cell? ⟨b, off + k * 6 + 3, none⟩ = some (.int .u8 (x4.toNat : Int)) ∧ w'.cell? ⟨b, off + k * 6 + 4, none⟩ = some (.bool x5) ∧ w'.cell? ⟨b, off + k * 6 + 5, none⟩ = some (.int .i64 x6))
          ((refine HSX.out _ ?_; first | exact hk2 | exact hk1 | (repeat (first | assumption | (with_reducible exact Kept.refl _ _) | (with_reducible refine Kept.drew ?_) | (with_reducible refine Kept.alloc ?_ _) | (with_reducible refine Kept.setCell ?_ (by right; simp; try omega) _)))))
          (first
            | (rw [if_pos (by rfl)]; refine wp_append_part _ _ 23 rfl 64 _ 6 24 Tryz.underlying23 HF.out rfl (by decide) (by decide) wq.heap.size ⟨g, 0, none⟩ m ((os.take m).flatMap Pr.f) rfl (by rw [rk_len, List.length_take, Nat.min_eq_left hm]) (HTK.out _ (HKoq.out.trans (show Kept [] wq _ by (repeat (first | assumption | (with_reducible exact Kept.refl _ _) | (with_reducible refine Kept.drew ?_) | (with_reducible refine Kept.alloc ?_ _) | (with_reducible refine Kept.setCell ?_ (by right; simp; try omega) _)))) (fun x hx => by cases hx))) _ 1 1 (Pr.f ⟨⟨x1, x2, x3, x4⟩, ⟨x5, x6⟩⟩) (by decide) rfl rfl (fun j u h => cells_new _ (Pr.f ⟨⟨x1, x2, x3, x4⟩, ⟨x5, x6⟩⟩) _ j u h) (by omega) (by simp) ?_; intro v1 w1 hown1 hk1' hn1; have hk1 := Kept.trans (show Kept [] wq _ by (repeat (first | assumption | (with_reducible exact Kept.refl _ _) | (with_reducible refine Kept.drew ?_) | (with_reducible refine Kept.alloc ?_ _) | (with_reducible refine Kept.setCell ?_ (by right; simp; try omega) _)))) hk1' (fun x hx => by cases hx))
            | (rw [if_pos (by rfl)]; refine wp_append_is _ _ 23 rfl 64 _ 6 24 Tryz.underlying23 HF.out rfl (by decide) (by decide) wq.heap.size _ (m + 1) _ rfl hown1 _ (os.length - m) _ ((os.drop m).flatMap Pr.f) rfl (by rw [rk_len, List.length_drop]) (fun j u h => by rw [Addr.add_lit, Nat.zero_add]; exact hk1.cell (HGC6.out j u h) (by simp)) (flat_one' _) (by omega) (by have := hk1.size; omega) ?_; intro v2 w2 hown2 hgr2 hn2; have hk2 := hk1.grown_own hown1 hgr2 (Nat.le_refl _)))
        have hv2 : v2 ≠ .slice none 0 0 := fun h => hn1 (hn2.1 h).1
        have HO2 := hid (ownsRow_base hown2 hqs)
        have HK2 := hid (HKQ.out.trans hk2 (fun x hx => by cases hx))
        have hcnt : m + 1 + (os.length - m) = (keysP (l.take (k + 1))).length := by rw [HE.out]; simp; omega
        have HCNT := hid hcnt
        clear hown1 hown2 hgr2 hn1 hn2 hk1 hk1' hk2 hcnt
        go_wp2
        go_roundg (l.length - (k + 1))
        case measure => omega
        case rel => exact ⟨k + 1, by first | rfl | go_num, by omega, Nat.le_refl _, hv2, by show World.ownsRow _ _ _ _ _ _ _; rw [← HCNT.out, HE.out]; simpa using HO2.out, HK2.out⟩
    · obtain rfl : k = l.length := by omega
      have hltz : ¬ (l.length : Int) < (l.length : Int) := by omega
      go_wp2
      go_returns
      exact ⟨_, rfl, by have := HO.out; rw [List.take_length] at this; exact this, HN.out, HK.out⟩
--@@ end
end Go.Proofs.YtpcpeoejcnndhaaGreat
