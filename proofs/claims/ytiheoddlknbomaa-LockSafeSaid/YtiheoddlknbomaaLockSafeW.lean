/- LockSafe: the walk. -/
import Derived.Test.YtiheoddlknbomaaLockArgs
set_option linter.all false
namespace Go.Proofs.Ytiheoddlknbomaa.lockSafe
open Go.RowKit Go.Shelf Go.Lib Go.Sort Go.Proofs Go.Proofs.Ytiheoddlknbomaa
set_option linter.unusedVariables false
set_option linter.unusedSimpArgs false

--@@ concordatlaw08.LockSafe
set_option maxHeartbeats 8000000 in
set_option maxRecDepth 100000 in
theorem walk (v0 : Value) (cs : List Cl) (w : World) (h0 : SlAt w v0 Cl.ps.length cs.length (cs.flatMap Cl.f)) (_hl : ∀ x ∈ cs, x.ok) (hroom : Roomy v0) :
    Calls Try.prog 3 #[v0] w fun e w' => e = .returned (.bool true) ∧ Kept [] w w' := by
  clear _hl
  obtain ⟨a, cap, rfl, hmax, _, hc⟩ := h0.ex
  obtain ⟨hcap, hnil⟩ := hroom _ _ _ rfl
  have H0 := hid h0
  clear h0 hc hroom
  by_cases hlen : 60 < cs.length
  · have hlenz : (60 : Int) < (cs.length : Int) := by omega
    go_enter Try.func3, Try.ntmps3
    go_wp2_with (go_at_call 9; refine (alive_any _).mono ?_; rintro e wa ⟨rfl, hka⟩)
    go_ret
    exact ⟨rfl, hka⟩
  have hlenz : (cs.length : Int) ≤ 60 := by omega
  go_enter Try.func3, Try.ntmps3
  go_wp2_with (go_at_call 9; refine (alive_any _).mono ?_; rintro e wa ⟨rfl, hka⟩)
  have HKA := hid hka
  have hsa := hka.size
  have hcl : cs.length ≤ 60 := by omega
  clear hka
  go_loopg [3] (cs.length + 1) (fun kx s3 wr => ∃ n : Nat, s3 = .int .i64 n ∧ n ≤ cs.length + 1 ∧ cs.length + 1 - n ≤ kx ∧ Aside (Kept [] w wr))
  case atStart => exact ⟨0, by first | rfl | go_num, by omega, by omega, HKA.out⟩
  case round =>
    clear HKA
    obtain ⟨n, rfl, hn, hnx, HK⟩ := hrel
    rename World => wo
    by_cases hlt : n ≤ cs.length
    · have hltz : (n : Int) ≤ (cs.length : Int) := by omega
      have hnc : (n : Int) ≤ (cap : Int) := by omega
      have HSL := hid (slAt_take (c := 8) (f := Cl.f) (fun _ => rfl) (H0.out.kept HK.out) n hlt)
      have HDO := hid (show ∀ W, Kept [] wo W → Calls Try.prog 10 #[.slice a n cap] W fun e w' => ∃ A, e = .returned (.pointer (some ⟨A, 0, none⟩)) ∧ TabAt w' (fun b => b < W.heap.size) A (doT (cs.take n)) ∧ Kept [] W w' from fun W hk => do_any _ (cs.take n) W (HSL.out.kept hk) (by simp; omega))
      obtain ⟨ok0, hrl0, hle0⟩ := doT_ok (cs.take n)
      have hkl : (cs.take n).length ≤ 60 := by simp; omega
      generalize (cs.take n).length = m at *
      generalize doT (cs.take n) = t at *
      have HOK := hid ok0
      have HLE := hid hle0
      have hrl : t.rows.length ≤ 60 := by omega
      clear ok0 hle0 hrl0
      have hsl := run_first a cs.length n cap (by omega)
      clear hnc hcap hnil
      go_wp2_with (go_at_call 10; refine Here.mk ?_)
      refine Here.of ?_
      refine (HDO.out wo (Kept.refl _ _)).mono ?_
      rintro e w1 ⟨A, rfl, hT1, hk1⟩
      have HT1 := hid hT1
      have HK1 := hid (HK.out.trans hk1 (fun x hx => by cases hx))
      clear hT1 hk1 HDO HSL hsl
      go_wp2_with (go_at_call 11; refine Here.mk ?_)
      refine Here.of ?_
      refine (txs_at HT1.out HLE.out (by omega) (by omega) HOK.out).mono ?_
      rintro e w2 ⟨v, L, rfl, hL, ho, hLl, hk2⟩
      obtain ⟨va, vc, hv⟩ := ownsRow_slice ho
      subst hv
      have HL := hid hL
      have HO := hid ho
      have HT2 := hid (HT1.out.kept hk2 (by simp))
      have HK2 := hid (HK1.out.trans hk2 (fun x hx => by cases hx))
      clear hL ho hk2
      go_wp2_with (go_at_call 12; refine Here.mk ?_)
      refine Here.of ?_
      refine (held_at HT2.out (by omega)).mono ?_
      rintro e w3 ⟨v3, rfl, ho3, hk3⟩
      obtain ⟨ka, kc, hv⟩ := ownsRow_slice ho3
      subst hv
      have HLAW := hid (fun k hk => law_safe HOK.out HL.out (k := k) hk)
      obtain ⟨ks, hks⟩ : ∃ ks, ks = t.heldT := ⟨_, rfl⟩
      rw [← hks] at HLAW ho3 ⊢
      have hksl : ks.length ≤ 60 := by rw [hks]; unfold Ta.heldT Ta.keysS; rw [(sortK_perm _).length_eq, List.length_map]; exact Nat.le_trans (List.length_filter_le _ _) hrl
      clear hks
      have HO2 := hid (SlAt.of_own (own_below HO.out hk3 (by simp)))
      have HO3 := hid (SlAt.of_own ho3)
      have HT3 := hid (HT2.out.kept hk3 (by simp))
      have HK3 := hid (HK2.out.trans hk3 (fun x hx => by cases hx))
      clear ho3 hk3
      rename World => w4
      go_wp2_with fail
      go_loopg [7] ks.length (fun kx s7 wr => ∃ i : Nat, s7 = .int .i64 i ∧ i ≤ ks.length ∧ ks.length - i ≤ kx ∧ Aside (Kept [] w4 wr))
      case atStart => exact ⟨0, by first | rfl | go_num, by omega, by omega, Kept.refl _ _⟩
      case round =>
        obtain ⟨i, rfl, hi, hix, HKI⟩ := hrel
        rename World => wi
        by_cases hik : i < ks.length
        · have hikz : (i : Int) < (ks.length : Int) := by omega
          have HLW := hid (HLAW.out ks[i] (List.getElem_mem hik))
          obtain ⟨_, _, he3, _, _, hc3⟩ := HO3.out.ex
          obtain ⟨b3, o3, ha3, hb3, hcs3⟩ := hc3 (by omega)
          injection he3 with f1 f2 f3
          subst ha3
          subst f1
          clear f2 f3
          have HKC := hid (fun (w' : World) (hk : Kept [] w4 w') => key_cells (fun j u hj => hk.cell (hcs3 j u hj) (by simp)) hik)
          clear hcs3 hc3
          generalize ks[i] = y at *
          obtain ⟨y1, y2, y3, y4⟩ := y
          dsimp only at HKC
          have hlz : (L.length : Int) ≤ 10000000000 := by omega
          go_wp2_with fail
          go_loopg [8, 9, 10] L.length (fun kx s8 s9 s10 wr => ∃ (j c1 c2 : Nat), s8 = .int .i64 c1 ∧ s9 = .int .i64 c2 ∧ s10 = .int .i64 j ∧ j ≤ L.length ∧ L.length - j ≤ kx ∧ c1 ≤ j ∧ c2 ≤ j ∧ Aside (c1 = cntT t ⟨y1, y2, y3, y4⟩ (L.take j) 1) ∧ Aside (c2 = cntT t ⟨y1, y2, y3, y4⟩ (L.take j) 2) ∧ Aside (Kept [] w4 wr))
          case atStart => exact ⟨0, 0, 0, by first | rfl | go_num, by first | rfl | go_num, by first | rfl | go_num, by omega, by omega, by omega, by omega, rfl, rfl, HKI.out⟩
          case round =>
            clear HKI
            obtain ⟨j, c1, c2, rfl, rfl, rfl, hj, hjx, hc1, hc2, HC1, HC2, HKJ⟩ := hrel
            rename World => wj
            by_cases hjl : j < L.length
            · have hjlz : (j : Int) < (L.length : Int) := by omega
              obtain ⟨_, _, he2, _, _, hcc⟩ := HO2.out.ex
              obtain ⟨b2, o2, ha2, hb2, hcs2⟩ := hcc (by omega)
              injection he2 with f1 f2 f3
              subst ha2
              subst f1
              clear f2 f3
              have HX := hid (fun (w' : World) (hk : Kept [] w4 w') => (show w'.cell? ⟨b2, o2 + j, none⟩ = some (.int .i64 L[j]) ∧ w'.cell? ⟨b3, o3 + i * 4, none⟩ = some (.int .u8 (y1.toNat : Int)) ∧ w'.cell? ⟨b3, o3 + i * 4 + 1, none⟩ = some (.int .u8 (y2.toNat : Int)) ∧ w'.cell? ⟨b3, o3 + i * 4 + 2, none⟩ = some (.int .u8 (y3.toNat : Int)) ∧ w'.cell? ⟨b3, o3 + i * 4 + 3, none⟩ = some (.int .u8 (y4.toNat : Int)) from ⟨hk.cell (hcs2 j _ (by simp [hjl])) (by simp), HKC.out w' hk⟩))
              clear hcs2 hcc
              have HT1 := hid (show cntT t ⟨y1, y2, y3, y4⟩ (L.take (j + 1)) 1 = cntT t ⟨y1, y2, y3, y4⟩ (L.take j) 1 + if 1 ≤ how (t.row ⟨y1, y2, y3, y4⟩).h L[j] then 1 else 0 by rw [List.take_succ_eq_append_getElem hjl, cntT_snoc])
              have HT2' := hid (show cntT t ⟨y1, y2, y3, y4⟩ (L.take (j + 1)) 2 = cntT t ⟨y1, y2, y3, y4⟩ (L.take j) 2 + if 2 ≤ how (t.row ⟨y1, y2, y3, y4⟩).h L[j] then 1 else 0 by rw [List.take_succ_eq_append_getElem hjl, cntT_snoc])
              have HH := hid (fun W (hk : Kept [] w4 W) => holds_at (HT3.out.kept hk (by simp)) HLE.out (by omega) L[j] ⟨y1, y2, y3, y4⟩)
              have hb := how_bounds (t.row ⟨y1, y2, y3, y4⟩).h L[j]
              simp only [K4.v] at HH
              generalize how (t.row ⟨y1, y2, y3, y4⟩).h L[j] = hw at *
              generalize L[j] = x at *
              have h3 : hw = 0 ∨ hw = 1 ∨ hw = 2 := by omega
              clear hb
              go_wp2_with fail
              go_region_held3 (fun w' => w'.cell? ⟨b2, o2 + j, none⟩ = some (.int .i64 x) ∧ w'.cell? ⟨b3, o3 + i * 4, none⟩ = some (.int .u8 (y1.toNat : Int)) ∧ w'.cell? ⟨b3, o3 + i * 4 + 1, none⟩ = some (.int .u8 (y2.toNat : Int)) ∧ w'.cell? ⟨b3, o3 + i * 4 + 2, none⟩ = some (.int .u8 (y3.toNat : Int)) ∧ w'.cell? ⟨b3, o3 + i * 4 + 3, none⟩ = some (.int .u8 (y4.toNat : Int)))
                ((refine HX.out _ (HKJ.out.trans (show Kept [] wj _ from ?_) (fun x hx => by cases hx)); (repeat (first | assumption | (with_reducible exact Kept.refl _ _) | (with_reducible refine Kept.drew ?_) | (with_reducible refine Kept.alloc ?_ _) | (with_reducible refine Kept.setCell ?_ (by right; simp; try omega) _)))))
                (first
                  | (go_at_call 13; refine (HH.out _ (HKJ.out.trans (show Kept [] wj _ by (repeat (first | assumption | (with_reducible exact Kept.refl _ _) | (with_reducible refine Kept.drew ?_) | (with_reducible refine Kept.alloc ?_ _) | (with_reducible refine Kept.setCell ?_ (by right; simp; try omega) _)))) (fun x hx => by cases hx))).mono ?_; clear HH; rintro e w5 ⟨rfl, hk5'⟩; have hk5 : Kept [] wj w5 := Kept.trans (show Kept [] wj _ by (repeat (first | assumption | (with_reducible exact Kept.refl _ _) | (with_reducible refine Kept.drew ?_) | (with_reducible refine Kept.alloc ?_ _) | (with_reducible refine Kept.setCell ?_ (by right; simp; try omega) _)))) hk5' (fun x hx => by cases hx)))
              have HK5 := hid (HKJ.out.trans hk5 (fun x hx => by cases hx))
              clear hk5 hk5'
              rcases h3 with rfl | rfl | rfl
              · go_wp2_with fail
                go_roundg (L.length - (j + 1))
                case measure => omega
                case rel => exact ⟨j + 1, c1, c2, by first | rfl | go_num, by first | rfl | go_num, by first | rfl | go_num, by omega, Nat.le_refl _, by omega, by omega, by show _ = _; rw [HT1.out, ← HC1.out]; rfl, by show _ = _; rw [HT2'.out, ← HC2.out]; rfl, HK5.out⟩
              · go_wp2_with fail
                go_roundg (L.length - (j + 1))
                case measure => omega
                case rel => exact ⟨j + 1, c1 + 1, c2, by first | rfl | go_num, by first | rfl | go_num, by first | rfl | go_num, by omega, Nat.le_refl _, by omega, by omega, by show _ = _; rw [HT1.out, ← HC1.out]; rfl, by show _ = _; rw [HT2'.out, ← HC2.out]; rfl, HK5.out⟩
              · go_wp2_with fail
                go_roundg (L.length - (j + 1))
                case measure => omega
                case rel => exact ⟨j + 1, c1 + 1, c2 + 1, by first | rfl | go_num, by first | rfl | go_num, by first | rfl | go_num, by omega, Nat.le_refl _, by omega, by omega, by show _ = _; rw [HT1.out, ← HC1.out]; rfl, by show _ = _; rw [HT2'.out, ← HC2.out]; rfl, HK5.out⟩
            · obtain rfl : j = L.length := by omega
              have hjlz : ¬ (L.length : Int) < (L.length : Int) := by omega
              rw [List.take_length] at HC1 HC2
              obtain ⟨l1, l2, l3⟩ := HLW.out
              rw [← HC1.out] at l1 l3
              rw [← HC2.out] at l2 l3
              have hcase : (c2 = 0 ∧ 0 < c1) ∨ (c2 = 1 ∧ c1 = 1) := by
                by_cases e : c2 = 1
                · have := l3 e; exact .inr ⟨e, by omega⟩
                · exact .inl ⟨by omega, by omega⟩
              clear l1 l2 l3
              clear HC1 HC2
              rcases hcase with ⟨rfl, hp⟩ | ⟨rfl, rfl⟩
              · have hb1 : ((c1 : Int) == 0) = false := by rw [beq_eq_false_iff_ne]; omega
                go_wp2_with fail
                go_roundg (ks.length - (i + 1))
                case measure => omega
                case rel => exact ⟨i + 1, by first | rfl | go_num, by omega, Nat.le_refl _, HKJ.out⟩
              · go_wp2_with fail
                go_roundg (ks.length - (i + 1))
                case measure => omega
                case rel => exact ⟨i + 1, by first | rfl | go_num, by omega, Nat.le_refl _, HKJ.out⟩
        · obtain rfl : i = ks.length := by omega
          have hikz : ¬ (ks.length : Int) < (ks.length : Int) := by omega
          go_wp2_with fail
          go_roundg (cs.length + 1 - (n + 1))
          case measure => omega
          case rel => exact ⟨n + 1, by first | rfl | go_num, by omega, Nat.le_refl _, HK3.out.trans HKI.out (fun x hx => by cases hx)⟩
    · have hltz : ¬ (n : Int) ≤ (cs.length : Int) := by omega
      go_wp2_with fail
      go_returns
      exact ⟨rfl, HK.out⟩
--@@ end
end Go.Proofs.Ytiheoddlknbomaa.lockSafe
