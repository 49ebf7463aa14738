/- StoreStrict: the walk. -/
import Derived.Test.YtpfgpbafechncaaGreatStoreW
import Derived.Test.YtpfgpbafechncaaGreatM13
import Derived.BigQuiet
set_option linter.all false
namespace Go.Proofs.YtpfgpbafechncaaGreat.storeStrict
open Go.RowKit Go.Shelf Go.Lib Go.Sort Go.Proofs Go.Proofs.YtpfgpbafechncaaGreat
set_option linter.unusedVariables false
set_option linter.unusedSimpArgs false

theorem aget_left {α β : Type} [DecidableEq α] {k : α} {v : β} {m : List (α × β)} : ∀ {l : List (α × β)}, aget k l = some v → aget k (l ++ m) = some v
  | [], h => by simp [aget] at h
  | p :: l, h => by
    simp only [List.cons_append, aget] at h ⊢
    split
    · rename_i e; rw [if_pos e] at h; exact h
    · rename_i e; rw [if_neg e] at h; exact aget_left h
--@@ concordatlaw10.StoreStrict
set_option maxHeartbeats 8000000 in
set_option maxRecDepth 100000 in
theorem walk (v0 : Value) (L : List (Cs × Value)) (probe : Int) (w : World) (h0 : SlAt w v0 14 L.length (L.flatMap csF)) (hok : ∀ q ∈ L, CsOk w q) (_hp : IntKind.i64.min ≤ probe ∧ probe ≤ IntKind.i64.max) :
    Calls Tryz.prog 4 #[v0, .int .i64 probe] w fun e w' => e = .returned (.bool true) ∧ Kept [] w w' := by
  have HCA := hid (show CsAt w v0 L from ⟨h0, fun q hq => (hok q hq).row⟩)
  obtain ⟨a, cap, rfl, hmax, _, hc⟩ := h0.ex
  have HC := hid hc
  have HOK := hid hok
  clear h0 hc hok _hp
  obtain ⟨gr, hgr⟩ : ∃ gr, gr = greatC (L.map (·.1)) := ⟨_, rfl⟩
  have HG := hid hgr
  have HGC := hid (fun W (hK : Kept [] w W) => by
    have := great10_any _ L W (HCA.out.kept hK)
    rw [← hgr] at this
    exact this)
  clear hgr
  go_enter Tryz.func4, Tryz.ntmps4
  go_wp2_with (go_at_call 9; refine Here.mk ?_)
  refine Here.of ?_
  refine (alive10_any _).mono ?_
  rintro e w1 ⟨rfl, hk1⟩
  have HK1 := hid hk1
  clear hk1
  cases gr with
  | true =>
    clear HG
    go_wp2_with (go_at_call 10; refine (HGC.out _ HK1.out).mono ?_; rintro e wg ⟨rfl, hwg⟩; obtain rfl := hwg.symm)
    go_ret
    exact ⟨rfl, HK1.out⟩
  | false =>
    obtain ⟨s0, hs0⟩ : ∃ s0, s0 = aS0 := ⟨_, rfl⟩
    have s0ok : SpOk s0 := by rw [hs0]; exact aS0_ok
    have s0lim : Lim s0 0 := by rw [hs0]; exact aS0_lim
    have S0OK := hid s0ok
    have S0LIM := hid s0lim
    have HNEW := hid (snew_ok (.slice none 0 0) [] w1 (PrAt.nilS w1) (by decide) (by decide))
    rw [show (⟨sortP [], ⟨5, [], []⟩, []⟩ : Sp) = aS0 from rfl, ← hs0] at HNEW
    have HKN := hid HK1.out
    clear hs0 s0ok s0lim
    go_wp2_with first
      | (go_at_call 10; refine (HGC.out _ HK1.out).mono ?_; rintro e wg ⟨rfl, hwg⟩; obtain rfl := hwg.symm)
      | (go_at_call 11; refine HNEW.out.mono ?_; clear HNEW; rintro e w2 ⟨A, rfl, hS, hk⟩; have HS2 := hid hS; have HK12 := hid hk; clear hS hk)
    clear HGC HK1
    go_loopg [7] L.length (fun kx s9 wr => ∃ k : Nat, s9 = .int .i64 k ∧ k ≤ L.length ∧ L.length - k ≤ kx ∧ Aside (StoreAt wr (fun b => b < w1.heap.size) A (s0.steps ((L.map (·.1)).take k))) ∧ Aside (KD (fun b => b < w1.heap.size) w1 wr))
    case atStart => exact ⟨0, by first | rfl | go_num, by omega, by omega, HS2.out, HK12.out.kd⟩
    case round =>
      clear HS2
      obtain ⟨k, rfl, hk, hkx, HS, HK⟩ := hrel
      have hKR := KD.kept HK.out
      have HKR := hid hKR
      have HKW := hid (HKN.out.trans hKR (fun x hx => by cases hx))
      clear hKR
      by_cases hlt : k < L.length
      · have hltz : (k : Int) < (L.length : Int) := by omega
        obtain ⟨b, off, rfl, _, d1⟩ := HC.out (by omega)
        have hcc := cs_cells (fun j u hu => HKW.out.cell (d1 j u hu) (by simp)) hlt
        have HSTEP := hid (show s0.steps ((L.map (·.1)).take (k + 1)) = (s0.steps ((L.map (·.1)).take k)).step L[k].1 from by
          have hkl : k < (L.map (·.1)).length := by simpa using hlt
          rw [steps_take s0 (L.map (·.1)) k hkl]
          simp)
        have HDOS := hid (fun W (h : StoreAt W (fun b => b < w1.heap.size) A (s0.steps ((L.map (·.1)).take k))) (hr : SlAt W L[k].2 6 L[k].1.pairs.length (L[k].1.pairs.flatMap Pr.f)) => do10_step h S0OK.out S0LIM.out HG.out.symm hlt hr)
        have HROW := hid ((HOK.out _ (List.getElem_mem hlt)).row.kept HKW.out)
        obtain ⟨hso, hsl⟩ := call_lim S0OK.out S0LIM.out HG.out.symm k
        have HSOK := hid hso
        have HSLK := hid hsl
        clear d1 hso hsl
        generalize L[k] = q at *
        have e0 := hcc 0 _ rfl; simp only [Nat.add_zero] at e0; have e1 := hcc 1 _ rfl; have e2 := hcc 2 _ rfl; have e3 := hcc 3 _ rfl; have e4 := hcc 4 _ rfl; have e5 := hcc 5 _ rfl; have e6 := hcc 6 _ rfl; have e7 := hcc 7 _ rfl; have e8 := hcc 8 _ rfl; have e9 := hcc 9 _ rfl; have e10 := hcc 10 _ rfl; have e11 := hcc 11 _ rfl; have e12 := hcc 12 _ rfl; have e13 := hcc 13 _ rfl
        clear hcc
        generalize s0.steps ((L.map (·.1)).take k) = sk at *
        obtain ⟨⟨what, tx, now, kind, otx, ⟨ka, kb, kc, kd⟩, m, er, mask, commit, pairs⟩, pv⟩ := q
        dsimp only at e0 e1 e2 e3 e4 e5 e6 e7 e8 e9 e10 e11 e12 e13 HSTEP HDOS HROW
        simp only [csF] at HDOS
        obtain ⟨pa, pc, rfl, _⟩ := HROW.out.ex
        have HA := hid ((Kept.refl [] wr).alloc (.cells #[.int .i64 what, .int .i64 tx, .int .i64 now, .int .i64 kind, .int .i64 otx, .int .u8 (ka.toNat : Int), .int .u8 (kb.toNat : Int), .int .u8 (kc.toNat : Int), .int .u8 (kd.toNat : Int), .int .i64 m, .int .i64 er, .int .u16 (mask : Int), .bool commit, .slice pa pairs.length pc] 38))
        have HBX := hid (heap_alloc_new wr (.cells #[.int .i64 what, .int .i64 tx, .int .i64 now, .int .i64 kind, .int .i64 otx, .int .u8 (ka.toNat : Int), .int .u8 (kb.toNat : Int), .int .u8 (kc.toNat : Int), .int .u8 (kd.toNat : Int), .int .i64 m, .int .i64 er, .int .u16 (mask : Int), .bool commit, .slice pa pairs.length pc] 38))
        have HCB := hid (fun (W : World) (hB : W.heap[wr.heap.size]? = some (.cells #[.int .i64 what, .int .i64 tx, .int .i64 now, .int .i64 kind, .int .i64 otx, .int .u8 (ka.toNat : Int), .int .u8 (kb.toNat : Int), .int .u8 (kc.toNat : Int), .int .u8 (kd.toNat : Int), .int .i64 m, .int .i64 er, .int .u16 (mask : Int), .bool commit, .slice pa pairs.length pc] 38 (0, 0))) => show W.cell? ⟨wr.heap.size, 0, none⟩ = some (.int .i64 what) ∧ W.cell? ⟨wr.heap.size, 1, none⟩ = some (.int .i64 tx) ∧ W.cell? ⟨wr.heap.size, 2, none⟩ = some (.int .i64 now) ∧ W.cell? ⟨wr.heap.size, 3, none⟩ = some (.int .i64 kind) ∧ W.cell? ⟨wr.heap.size, 4, none⟩ = some (.int .i64 otx) ∧ W.cell? ⟨wr.heap.size, 5, none⟩ = some (.int .u8 (ka.toNat : Int)) ∧ W.cell? ⟨wr.heap.size, 6, none⟩ = some (.int .u8 (kb.toNat : Int)) ∧ W.cell? ⟨wr.heap.size, 7, none⟩ = some (.int .u8 (kc.toNat : Int)) ∧ W.cell? ⟨wr.heap.size, 8, none⟩ = some (.int .u8 (kd.toNat : Int)) ∧ W.cell? ⟨wr.heap.size, 9, none⟩ = some (.int .i64 m) ∧ W.cell? ⟨wr.heap.size, 10, none⟩ = some (.int .i64 er) ∧ W.cell? ⟨wr.heap.size, 11, none⟩ = some (.int .u16 (mask : Int)) ∧ W.cell? ⟨wr.heap.size, 12, none⟩ = some (.bool commit) ∧ W.cell? ⟨wr.heap.size, 13, none⟩ = some (.slice pa pairs.length pc) from by
          refine ⟨?_, ?_, ?_, ?_, ?_, ?_, ?_, ?_, ?_, ?_, ?_, ?_, ?_, ?_⟩ <;> simp [World.cell?, hB])
        obtain ⟨c0, c1, c2, c3, c4, c5, c6, c7, c8, c9, c10, c11, c12, c13⟩ := HCB.out _ HBX.out
        by_cases hw1 : what = 1
        · have hwb : (what != 1) = false := by simpa using hw1
          have hst : s0.steps ((L.map (·.1)).take (k + 1)) = (sk.doOp kind otx ⟨ka, kb, kc, kd⟩ m now).2 := by rw [HSTEP.out]; unfold Sp.step; rw [if_neg (by simp [hw1]), if_pos hw1]
          obtain ⟨R, hR⟩ : ∃ R, R = sk.doOp kind otx ⟨ka, kb, kc, kd⟩ m now := ⟨_, rfl⟩
          rw [← hR] at hst
          have HDO := hid (fun W D (h : StoreAt W D A sk) => by
            have := sdo_any h HSLK.out.le (by decide) HSOK.out.wlen (by have := HSOK.out.blen; omega) kind otx ⟨ka, kb, kc, kd⟩ m now
            rw [← hR] at this
            exact this)
          have HOK1 := hid (show SpOk R.2 by rw [hR]; exact HSOK.out.doOp _ _ _ _ _)
          have HLI1 := hid (show Lim R.2 1281 by rw [hR]; exact HSLK.out.doOp HSOK.out _ _ _ _ _)
          have HHELD := hid (fun (hk4 : kind ≠ 4) (h0 : R.1.1 = 0) => show (⟨ka, kb, kc, kd⟩ : K4) ∈ R.2.tab.keysT otx from by
            rw [hR] at h0 ⊢
            exact strict_held HSOK.out hk4 h0)
          have HSK1 := hid hst
          obtain ⟨⟨re, ⟨rt, rn⟩⟩, rs⟩ := R
          dsimp only at HDO HOK1 HLI1 HHELD HSK1
          clear HDOS hR hst hw1 HSTEP
          go_wp2_with (go_at_call 17; refine Here.mk ?_)
          refine Here.of ?_
          have HSQ := hid (HS.out.widen HA.out)
          refine (HDO.out _ _ HSQ.out).mono ?_
          rintro e w3 ⟨rfl, hS3, hk3⟩
          have HKWQ := hid (HK.out.trans (HA.out.kd' HS.out.dlt) (fun _ h => h))
          have HK3 := hid (HKWQ.out.trans hk3 (fun _ h => .inl h))
          have hb3 := (hk3.block wr.heap.size (.inr ⟨Nat.le_refl _, by simp⟩)).trans HBX.out
          have HS3 := hid (hS3.less (fun b hb => .inl hb) : StoreAt w3 (fun b => b < w1.heap.size) A rs)
          have HA3 := hid ((Kept.refl [] w3).alloc (.cells #[.int .i64 re, .bool rt, .int .i64 rn] 46))
          have hb3q : (w3.alloc (.cells #[.int .i64 re, .bool rt, .int .i64 rn] 46)).heap[wr.heap.size]? = some (.cells #[.int .i64 what, .int .i64 tx, .int .i64 now, .int .i64 kind, .int .i64 otx, .int .u8 (ka.toNat : Int), .int .u8 (kb.toNat : Int), .int .u8 (kc.toNat : Int), .int .u8 (kd.toNat : Int), .int .i64 m, .int .i64 er, .int .u16 (mask : Int), .bool commit, .slice pa pairs.length pc] 38 (0, 0)) := (HA3.out.block _ (Array.getElem?_eq_some_iff.1 hb3).1 (by simp)).trans hb3
          have hr3q := heap_alloc_new w3 (.cells #[.int .i64 re, .bool rt, .int .i64 rn] 46)
          have HB3 := hid hb3q
          have HR3 := hid hr3q
          have HS4 := hid (HS3.out.kept HA3.out)
          have HK4 := hid (HK3.out.trans (HA3.out.kd' HS3.out.dlt) (fun _ h => h))
          clear c0 c1 c2 c3 c4 c5 c6 c7 c8 c9 c10 c11 c12 c13 e0 e1 e2 e3 e4 e5 e6 e7 e8 e9 e10 e11 e12 e13
          obtain ⟨c0, c1, c2, c3, c4, c5, c6, c7, c8, c9, c10, c11, c12, c13⟩ := HCB.out _ hb3q
          obtain ⟨t0, t1, t2, _⟩ := cell3 hr3q
          clear hS3 hk3 hb3 hb3q hr3q HDO
          by_cases hre : re = 0
          · have hreb : (re == 0) = true := by simpa using hre
            by_cases hk4 : kind = 4
            · have hk4b : (kind != 4) = false := by simpa using hk4
              clear hre hk4
              go_wp2_with fail
              go_roundg (L.length - (k + 1))
              case measure => omega
              case rel => exact ⟨k + 1, by first | rfl | go_num, by omega, Nat.le_refl _, by show StoreAt _ _ _ _; rw [HSK1.out]; exact HS4.out, HK4.out⟩
            · have hk4b : (kind != 4) = true := by simpa using hk4
              have HIN := hid (HHELD.out hk4 hre)
              have HLK := hid (fun W (h : StoreAt W (fun b => b < w1.heap.size) A rs) => slocks_any h HLI1.out.le (by decide) (by have := HLI1.out.rl; omega) otx)
              obtain ⟨ks, hks⟩ : ∃ ks, ks = rs.tab.keysT otx := ⟨_, rfl⟩
              rw [← hks] at HIN HLK
              clear hre hk4 hks
              go_wp2_with (go_at_call 22; refine (HLK.out _ HS4.out).mono ?_; clear HLK; rintro e w5 ⟨v5, rfl, ho5, hk5⟩; obtain ⟨a5, c5', rfl⟩ := ownsRow_slice ho5; have HO5 := hid (SlAt.of_own ho5); have HK45 := hid hk5; have HS5 := hid (HS4.out.kept hk5); have HK5 := hid (HK4.out.trans (hk5.kd' HS4.out.dlt) (fun _ h => h)); have HB5 := hid ((hk5.block _ (Array.getElem?_eq_some_iff.1 HB3.out).1 (by simp)).trans HB3.out); clear ho5 hk5)
              clear c0 c1 c2 c3 c4 c5 c6 c7 c8 c9 c10 c11 c12 c13 t0 t1 t2
              generalize htb : wr.heap.size = tb at *
              clear htb
              go_loopg [11, 12] ks.length (fun kx s11 s12 wl => ∃ i : Nat, s12 = .int .i64 i ∧ i ≤ ks.length ∧ ks.length - i ≤ kx ∧ s11 = .bool (decide ((⟨ka, kb, kc, kd⟩ : K4) ∈ ks.take i)) ∧ Aside (Kept [] w5 wl))
              case atStart => exact ⟨0, by first | rfl | go_num, by omega, by omega, by simp, Kept.refl _ _⟩
              case round =>
                obtain ⟨i, rfl, hi, hix, rfl, HKL⟩ := hrel
                by_cases hli : i < ks.length
                · have hliz : (i : Int) < (ks.length : Int) := by omega
                  obtain ⟨gb, gc, hgb, _, _, hg5⟩ := HO5.out.ex
                  cases hgb
                  obtain ⟨lb, lo, rfl, _, hlc⟩ := hg5 (by omega)
                  have HKC := hid (fun W (hK : Kept [] w5 W) => key_cellsS (fun j u hu => hK.cell (hlc j u hu) (by simp)) hli)
                  have HTS := hid (show ks.take (i + 1) = ks.take i ++ [ks[i]] by rw [List.take_succ_eq_append_getElem hli])
                  have HOC := hid (fun W (hK : Kept [] w5 W) => HCB.out W ((hK.block _ (Array.getElem?_eq_some_iff.1 HB5.out).1 (by simp)).trans HB5.out))
                  clear hg5 hlc
                  generalize ks[i] = y at *
                  obtain ⟨hd, hhd⟩ : ∃ hd, hd = decide ((⟨ka, kb, kc, kd⟩ : K4) ∈ ks.take i) := ⟨_, rfl⟩
                  rw [← hhd]
                  have HHD := hid hhd
                  clear hhd
                  cases hd with
                  | true =>
                    go_wp2_with fail
                    go_quiet (fail)
                    go_wp2
                    go_roundg (ks.length - (i + 1))
                    case measure => omega
                    case rel => exact ⟨i + 1, by first | rfl | go_num, by omega, Nat.le_refl _, by
                      have h := of_decide_eq_true HHD.out.symm
                      rw [decide_eq_true (by rw [HTS.out]; exact List.mem_append_left _ h)], HKL.out.drewN _⟩
                  | false =>
                    obtain ⟨ge, hge⟩ : ∃ ge, ge = decide (y = (⟨ka, kb, kc, kd⟩ : K4)) := ⟨_, rfl⟩
                    have HGE := hid hge
                    have HEQ := hid (fun W => show (Op.equalIn 10000 33 y.v (K4.v ⟨ka, kb, kc, kd⟩)).run Tryz.prog W = .ok ge W from by
                      have := eq_key W 9998 y ⟨ka, kb, kc, kd⟩
                      rw [← hge] at this
                      exact this)
                    clear hge
                    obtain ⟨y1, y2, y3, y4⟩ := y
                    simp only [K4.v] at HKC HEQ
                    obtain ⟨z0, z1, z2, z3⟩ := HKC.out _ HKL.out
                    obtain ⟨_, _, _, _, _, c5, c6, c7, c8, _⟩ := HOC.out _ HKL.out
                    have hq := fun W => HEQ.out W
                    go_wp2_with fail
                    go_quiet (fail)
                    go_wp2
                    go_roundg (ks.length - (i + 1))
                    case measure => omega
                    case rel => exact ⟨i + 1, by first | rfl | go_num, by omega, Nat.le_refl _, by
                      have h := of_decide_eq_false HHD.out.symm
                      have h2 := HGE.out
                      rw [h2, HTS.out]
                      congr 1
                      rw [Bool.eq_iff_iff, decide_eq_true_eq, decide_eq_true_eq, List.mem_append, List.mem_singleton]
                      exact ⟨fun e => .inr e.symm, fun e => e.elim (fun h' => absurd h' h) (fun h' => h'.symm)⟩, HKL.out.drewN _⟩
                · obtain rfl : i = ks.length := by omega
                  have hliz : ¬ (ks.length : Int) < (ks.length : Int) := by omega
                  have hdt : decide ((⟨ka, kb, kc, kd⟩ : K4) ∈ ks.take ks.length) = true := by rw [List.take_length]; exact decide_eq_true HIN.out
                  rw [hdt]
                  have HS6 := hid (HS5.out.kept HKL.out)
                  have HK6 := hid (HK5.out.trans (HKL.out.kd' HS5.out.dlt) (fun _ h => h))
                  clear hdt
                  go_wp2
                  go_roundg (L.length - (k + 1))
                  case measure => omega
                  case rel => exact ⟨k + 1, by first | rfl | go_num, by omega, Nat.le_refl _, by show StoreAt _ _ _ _; rw [HSK1.out]; exact HS6.out, HK6.out⟩
          · have hreb : (re == 0) = false := by simpa using hre
            clear hre
            go_wp2_with fail
            go_roundg (L.length - (k + 1))
            case measure => omega
            case rel => exact ⟨k + 1, by first | rfl | go_num, by omega, Nat.le_refl _, by show StoreAt _ _ _ _; rw [HSK1.out]; exact HS4.out, HK4.out⟩
        · have hwb : (what != 1) = true := by simpa using hw1
          clear hw1 HSTEP
          go_wp2_with (go_at_call 20; refine Here.mk ?_)
          refine Here.of ?_
          refine (HDOS.out _ (HS.out.kept HA.out) (HROW.out.kept HA.out)).mono ?_
          rintro e w3 ⟨rfl, hS3, hk3⟩
          have HS3 := hid hS3
          have HK3 := hid (HK.out.trans ((HA.out.kd' HS.out.dlt).trans hk3 (fun _ h => h)) (fun _ h => h))
          clear hS3 hk3 HDOS
          go_wp2_with fail
          go_roundg (L.length - (k + 1))
          case measure => omega
          case rel => exact ⟨k + 1, by first | rfl | go_num, by omega, Nat.le_refl _, HS3.out, HK3.out⟩
      · obtain rfl : k = L.length := by omega
        have hltz : ¬ (L.length : Int) < (L.length : Int) := by omega
        have hS := HS.out
        rw [call_all] at hS
        obtain ⟨hso, hsl⟩ := call_lim S0OK.out S0LIM.out HG.out.symm L.length
        rw [call_all] at hso hsl
        generalize s0.steps (L.map (·.1)) = s at *
        have HSS := hid hS
        have HSO := hid hso
        have HSL := hid hsl
        have HK0 := hid HK.out
        clear hS hso hsl HS HC HOK HCA HG HK S0OK S0LIM
        have htx := txs_nodup HSO.out
        obtain ⟨T, hT⟩ : ∃ T, T = s.txs := ⟨_, rfl⟩
        have HTX := hid (fun W D (h : StoreAt W D A s) => by
          have := stxs_any h HSO.out.kn (fun x hx => (HSO.out.each x hx).num) (by have := HSO.out.len; omega)
          rw [← hT] at this
          exact this)
        have htl : T.length ≤ 8 := by rw [hT]; unfold Sp.txs; rw [(srtI_perm _).length_eq, List.length_map]; exact HSO.out.len
        have HTM := hid (show ∀ x ∈ T, ∃ wk, aget x s.works = some wk from fun x hx => aget_of_txs (s := s) (by rw [← hT]; exact hx))
        have HBG := hid (fun W D (h : StoreAt W D A s) => sbegin_any h probe)
        clear hT htx
        go_wp2_with first
          | (go_at_call 23; refine (HTX.out _ _ HSS.out).mono ?_; clear HTX; rintro e w3 ⟨v3, rfl, ho3, hk3⟩; obtain ⟨a3, c3, rfl⟩ := ownsRow_slice ho3; have HS3 := hid (HSS.out.widen hk3); have HK3 := hid (HK0.out.trans (hk3.kd' HSS.out.dlt) (fun _ h => h)); have HO3 := hid ho3; clear ho3 hk3)
          | (go_at_call 24; refine Here.mk ?_)
        refine Here.of ?_
        have HIN3 := hid (own_in HO3.out)
        by_cases hb : (s.begin_ probe).1 = 0
        · obtain ⟨hbe, hpn⟩ := begin_eq hb
          refine (HBG.out _ _ HS3.out).mono ?_
          rintro e w4 ⟨rfl, hS4, hk4⟩
          rw [hb]
          obtain ⟨s1, hs1⟩ : ∃ s1, s1 = (s.begin_ probe).2 := ⟨_, rfl⟩
          rw [← hs1] at hbe hS4
          have HOS1 := hid (show SpOk s1 by rw [hs1]; exact HSO.out.begin_ probe)
          have HLS1 := hid (show Lim s1 1280 by rw [hs1]; exact HSL.out.begin_ probe)
          have hw1 : s1.works = s.works ++ [(probe, ⟨1, 0, []⟩)] := by rw [hbe]
          have HW1 := hid hw1
          have HPG := hid (show aget probe s1.works = some ⟨1, 0, []⟩ from by rw [hw1]; exact aget_snoc probe _ hpn)
          have HTG := hid (show ∀ x ∈ T, ∃ wk, aget x s1.works = some wk ∧ x ≠ probe from fun x hx => by
            obtain ⟨wk, hwk⟩ := HTM.out x hx
            refine ⟨wk, ?_, fun e => by rw [e, hpn] at hwk; cases hwk⟩
            rw [hw1]
            exact aget_left hwk)
          have HS4 := hid hS4
          have HK4 := hid (HK3.out.trans hk4 (fun _ h => .inl h))
          have HT4 := hid ((SlAt.of_own HO3.out).kd' hk4 (fun b hb => .inr (HIN3.out b hb)))
          obtain ⟨P, hP⟩ : ∃ P : Nat → Prop, P = fun b => b < w1.heap.size ∨ wr.heap.size ≤ b ∧ b < w3.heap.size := ⟨_, rfl⟩
          have hS4' := HS4.out
          rw [← hP] at hS4'
          have HSP := hid hS4'
          have HP1 := hid (show ∀ b, b < w1.heap.size → P b from fun b hb => by rw [hP]; exact .inl hb)
          have HP3 := hid (show ∀ b, bvB (.slice a3 T.length c3) b → P b from fun b hb => by rw [hP]; exact .inr (HIN3.out b hb))
          clear hb hbe hpn hs1 hw1 hS4 hk4 hS4' hP HS4 HS3 HK3 HO3 HIN3 HTM HBG HSS HSO HSL
          dsimp only
          go_wp2_with fail
          go_loopg [14] T.length (fun kx s14 wl => ∃ (i : Nat) (si : Sp), s14 = .int .i64 i ∧ i ≤ T.length ∧ T.length - i ≤ kx ∧ Aside (StoreAt wl P A si) ∧ Aside (SpOk si) ∧ Aside (Lim si (1280 + 16 * i)) ∧ Aside (si.works = s1.works) ∧ Aside (KD P w4 wl))
          case atStart => exact ⟨0, s1, by first | rfl | go_num, by omega, by omega, HSP.out, HOS1.out, HLS1.out, rfl, KD.same⟩
          case round =>
            clear HSP HOS1 HLS1
            obtain ⟨i, si, rfl, hi, hix, HSI, HOI, HLI, HWI, HKI⟩ := hrel
            by_cases hlt : i < T.length
            · have hltz : (i : Int) < (T.length : Int) := by omega
              obtain ⟨ga, gc, hga, _, _, hg5⟩ := HT4.out.ex
              cases hga
              obtain ⟨g, go, rfl, _, hgc⟩ := hg5 (by omega)
              have HCE := hid (fun W (hK : KD P w4 W) => hK.cell (hgc i (.int .i64 T[i]) (by simp [hlt])) (HP3.out g ⟨_, _, _, rfl, by omega, rfl⟩))
              obtain ⟨wk, hwk1, hne⟩ := HTG.out T[i] (List.getElem_mem hlt)
              clear hg5 hgc
              generalize T[i] = tx at *
              have hwk : aget tx si.works = some wk := by rw [show si.works = s1.works from HWI.out]; exact hwk1
              have hdl16 : (si.draftOf tx).length ≤ 16 := by
                unfold Sp.draftOf; rw [hwk]
                have := keysP_len (wk.ws.map toPr)
                have h2 := (HOI.out.each _ (tget_mem hwk)).len
                simp only [Option.map_some, Option.getD_some, List.length_map] at this ⊢
                simp only at h2
                omega
              have HDK := hid (show ∀ p ∈ si.draftOf tx, p.key ∈ wk.ws.map (·.1) from fun p hp => draftOf_keys HOI.out hwk hp)
              have HWK := hid hwk1
              have HDR := hid (sdraft_anyF HSI.out HOI.out.wlen tx)
              obtain ⟨dl, hdl⟩ : ∃ dl, dl = si.draftOf tx := ⟨_, rfl⟩
              rw [← hdl] at HDR HDK hdl16
              have ce := HCE.out _ HKI.out
              clear hdl hwk hwk1
              go_wp2_with (go_at_call 15; refine Here.mk ?_)
              refine Here.of ?_
              refine HDR.out.mono ?_
              clear HDR ce
              rintro e w5 ⟨v5, rfl, hp5, hk5, hin5⟩
              obtain ⟨a5, c5, rfl, _⟩ := hp5.at'.ex
              have hs5 := HSI.out.widen hk5
              obtain ⟨P2, hP2⟩ : ∃ P2 : Nat → Prop, P2 = fun b => P b ∨ wr.heap.size ≤ b ∧ b < w5.heap.size := ⟨_, rfl⟩
              rw [← hP2] at hs5
              have HS5 := hid hs5
              have HK5 := hid (HKI.out.trans (hk5.kd' HSI.out.dlt) (fun _ h => h))
              have HPP := hid (show ∀ b, P b → P2 b from fun b hb => by rw [hP2]; exact .inl hb)
              have HP5 := hid (show ∀ b, bvB (.slice a5 dl.length c5) b → P2 b from fun b hb => by
                rw [hP2]
                refine .inr ⟨hin5 b hb, ?_⟩
                obtain ⟨a', m', c', hv', hm', hb'⟩ := hb
                cases hv'
                subst hb'
                exact hp5.lt _ _ _ rfl hm')
              have HR5 := hid hp5.at'
              clear hp5 hk5 hin5 hs5 hP2
              go_wp2_with fail
              go_loopg [16] dl.length (fun kx s16 wl => ∃ (j : Nat) (sj : Sp), s16 = .int .i64 j ∧ j ≤ dl.length ∧ dl.length - j ≤ kx ∧ Aside (StoreAt wl P2 A sj) ∧ Aside (SpOk sj) ∧ Aside (Lim sj (1280 + 16 * i + j)) ∧ Aside (sj.works = s1.works) ∧ Aside (KD P2 w5 wl))
              case atStart => exact ⟨0, si, by first | rfl | go_num, by omega, by omega, HS5.out, HOI.out, HLI.out, HWI.out, KD.same⟩
              case round =>
                clear HS5 HOI HLI HWI HSI
                obtain ⟨j, sj, rfl, hj, hjx, HSJ, HOJ, HLJ, HWJ, HKJ⟩ := hrel
                by_cases hjl : j < dl.length
                · have hjlz : (j : Int) < (dl.length : Int) := by omega
                  obtain ⟨fa, fc, hfa, _, _, hf5⟩ := HR5.out.ex
                  cases hfa
                  obtain ⟨fb, fo, rfl, _, hfc⟩ := hf5 (by omega)
                  obtain ⟨e0, e1, e2, e3, _, _⟩ := pair_cells (fun jj u hu => HKJ.out.cell (hfc jj u hu) (HP5.out fb ⟨_, _, _, rfl, by omega, rfl⟩)) hjl
                  have hkey := HDK.out dl[j] (List.getElem_mem hjl)
                  clear hf5 hfc
                  generalize dl[j] = x at *
                  obtain ⟨⟨x1, x2, x3, x4⟩, ⟨x5, x6⟩⟩ := x
                  dsimp only at e0 e1 e2 e3 hkey
                  have hpj : aget probe sj.works = some ⟨1, 0, []⟩ := by rw [show sj.works = s1.works from HWJ.out]; exact HPG.out
                  have hyj : aget tx sj.works = some wk := by rw [show sj.works = s1.works from HWJ.out]; exact HWK.out
                  obtain ⟨hsh1, hsh2⟩ := strict_shut HOJ.out hpj hyj hne hkey 0
                  have HDO := hid (sdo_any HSJ.out HLJ.out.le (by omega) HOJ.out.wlen (by have := HOJ.out.blen; omega) 1 probe ⟨x1, x2, x3, x4⟩ 0 0)
                  have HOJ1 := hid (HOJ.out.doOp 1 probe ⟨x1, x2, x3, x4⟩ 0 0)
                  have HLJ1 := hid (HLJ.out.doOp HOJ.out 1 probe ⟨x1, x2, x3, x4⟩ 0 0)
                  have HWJ1 := hid (hsh2.trans HWJ.out)
                  generalize sj.doOp 1 probe ⟨x1, x2, x3, x4⟩ 0 0 = R at *
                  obtain ⟨⟨re, ⟨rt, rn⟩⟩, rs⟩ := R
                  dsimp only at hsh1 HDO HOJ1 HLJ1 HWJ1
                  have hreb : (re == 0) = false := by simpa using hsh1
                  clear hpj hyj hsh1 hsh2 hkey HSJ HOJ HLJ HWJ
                  go_wp2_with (go_at_call 17; refine HDO.out.mono ?_; clear HDO; rintro e w6 ⟨rfl, hS6, hk6⟩; have HA6 := hid ((Kept.refl [] w6).alloc (.cells #[.int .i64 re, .bool rt, .int .i64 rn] 46)); obtain ⟨t0, t1, t2, _⟩ := cell3 (heap_alloc_new w6 (.cells #[.int .i64 re, .bool rt, .int .i64 rn] 46)); have HS6 := hid (hS6.kept HA6.out); have HK6 := hid ((HKJ.out.trans hk6 (fun _ h => h)).trans (HA6.out.kd' hS6.dlt) (fun _ h => h)); clear hS6 hk6)
                  go_roundg (dl.length - (j + 1))
                  case measure => omega
                  case rel => exact ⟨j + 1, rs, by first | rfl | go_num, by omega, Nat.le_refl _, HS6.out, HOJ1.out, by show Lim _ _; exact HLJ1.out, HWJ1.out, HK6.out⟩
                · obtain rfl : j = dl.length := by omega
                  have hjlz : ¬ (dl.length : Int) < (dl.length : Int) := by omega
                  have HS7 := hid (HSJ.out.less HPP.out)
                  have HK7 := hid (HK5.out.trans HKJ.out HPP.out)
                  have HL7 := hid (HLJ.out.mono (show 1280 + 16 * i + dl.length ≤ 1280 + 16 * (i + 1) by omega))
                  go_wp2
                  go_roundg (T.length - (i + 1))
                  case measure => omega
                  case rel => exact ⟨i + 1, sj, by first | rfl | go_num, by omega, Nat.le_refl _, HS7.out, HOJ, HL7.out, HWJ, HK7.out⟩
            · obtain rfl : i = T.length := by omega
              have hltz : ¬ (T.length : Int) < (T.length : Int) := by omega
              go_wp2
              go_ret
              exact ⟨rfl, HKN.out.trans (KD.kept (HK4.out.trans HKI.out HP1.out)) (fun x hx => by cases hx)⟩
        · refine (HBG.out _ _ HS3.out).mono ?_
          rintro e w4 ⟨rfl, hS4, hk4⟩
          have hbb : ((s.begin_ probe).1 != 0) = true := by simpa using hb
          have HK4 := hid (HK3.out.trans hk4 (fun _ h => .inl h))
          generalize (s.begin_ probe).1 = be at *
          clear hb hS4 hk4
          go_wp2
          go_ret
          exact ⟨rfl, HKN.out.trans (KD.kept HK4.out) (fun x hx => by cases hx)⟩
--@@ end
end Go.Proofs.YtpfgpbafechncaaGreat.storeStrict
