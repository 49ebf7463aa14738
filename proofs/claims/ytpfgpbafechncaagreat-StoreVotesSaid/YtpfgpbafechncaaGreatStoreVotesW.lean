/- StoreVotes: the walk. -/
import Derived.Test.YtpfgpbafechncaaGreatStoreW
set_option linter.all false
namespace Go.Proofs.YtpfgpbafechncaaGreat.storeVotes
open Go.RowKit Go.Shelf Go.Lib Go.Sort Go.Proofs Go.Proofs.YtpfgpbafechncaaGreat
set_option linter.unusedVariables false
set_option linter.unusedSimpArgs false

--@@ concordatlaw10.StoreVotes
set_option maxHeartbeats 8000000 in
set_option maxRecDepth 100000 in
theorem walk (v0 : Value) (L : List (Cs × Value)) (tx : Int) (mask : Nat) (w : World) (h0 : SlAt w v0 14 L.length (L.flatMap csF)) (hok : ∀ q ∈ L, CsOk w q) (_ht : IntKind.i64.min ≤ tx ∧ tx ≤ IntKind.i64.max) :
    Calls Tryz.prog 5 #[v0, .int .i64 tx, .int .u16 (mask : Int)] w fun e w' => e = .returned (.bool true) ∧ Kept [] w w' := by
  have HCA := hid (show CsAt w v0 L from ⟨h0, fun q hq => (hok q hq).row⟩)
  obtain ⟨a, cap, rfl, hmax, _, hc⟩ := h0.ex
  have HC := hid hc
  have HOK := hid hok
  clear h0 hc hok _ht
  obtain ⟨gr, hgr⟩ : ∃ gr, gr = greatC (L.map (·.1)) := ⟨_, rfl⟩
  have HG := hid hgr
  have HGC := hid (fun W (hK : Kept [] w W) => by
    have := great10_any _ L W (HCA.out.kept hK)
    rw [← hgr] at this
    exact this)
  clear hgr
  go_enter Tryz.func5, Tryz.ntmps5
  go_wp2_with (go_at_call 9; refine Here.mk ?_)
  refine Here.of ?_
  refine (alive10_any _).mono ?_
  rintro e w1 ⟨rfl, hk1⟩
  have HK1 := hid hk1
  clear hk1
  cases gr with
  | true =>
    clear HG
    go_wp2_with (go_at_call 10; refine (HGC.out _ HK1.out).mono ?_; rintro e wg ⟨rfl, hwg⟩; obtain rfl := hwg.symm)
    go_ret
    exact ⟨rfl, HK1.out⟩
  | false =>
    by_cases hm0 : mask = 0
    · subst hm0
      clear HG
      go_wp2_with (go_at_call 10; refine (HGC.out _ HK1.out).mono ?_; rintro e wg ⟨rfl, hwg⟩; obtain rfl := hwg.symm)
      go_ret
      exact ⟨rfl, HK1.out⟩
    have hmb : ((mask : Int) == 0) = false := by simpa using hm0
    obtain ⟨s0, hs0⟩ : ∃ s0, s0 = aS0 := ⟨_, rfl⟩
    have s0ok : SpOk s0 := by rw [hs0]; exact aS0_ok
    have s0lim : Lim s0 0 := by rw [hs0]; exact aS0_lim
    have S0OK := hid s0ok
    have S0LIM := hid s0lim
    have HNEW := hid (snew_ok (.slice none 0 0) [] w1 (PrAt.nilS w1) (by decide) (by decide))
    rw [show (⟨sortP [], ⟨5, [], []⟩, []⟩ : Sp) = aS0 from rfl, ← hs0] at HNEW
    have HKN := hid HK1.out
    clear hs0 s0ok s0lim
    go_wp2_with first
      | (go_at_call 10; refine (HGC.out _ HK1.out).mono ?_; rintro e wg ⟨rfl, hwg⟩; obtain rfl := hwg.symm)
      | (go_at_call 11; refine HNEW.out.mono ?_; clear HNEW; rintro e w2 ⟨A, rfl, hS, hk⟩; have HS2 := hid hS; have HK12 := hid hk; clear hS hk)
    clear HGC HK1
    go_loopg [9] L.length (fun kx s9 wr => ∃ k : Nat, s9 = .int .i64 k ∧ k ≤ L.length ∧ L.length - k ≤ kx ∧ Aside (StoreAt wr (fun b => b < w1.heap.size) A (s0.steps ((L.map (·.1)).take k))) ∧ Aside (KD (fun b => b < w1.heap.size) w1 wr))
    case atStart => exact ⟨0, by first | rfl | go_num, by omega, by omega, HS2.out, HK12.out.kd⟩
    case round =>
      clear HS2
      obtain ⟨k, rfl, hk, hkx, HS, HK⟩ := hrel
      have hKR := KD.kept HK.out
      have HKR := hid hKR
      have HKW := hid (HKN.out.trans hKR (fun x hx => by cases hx))
      clear hKR
      by_cases hlt : k < L.length
      · have hltz : (k : Int) < (L.length : Int) := by omega
        obtain ⟨b, off, rfl, _, d1⟩ := HC.out (by omega)
        have hcc := cs_cells (fun j u hu => HKW.out.cell (d1 j u hu) (by simp)) hlt
        have HST := hid (do10_step HS.out S0OK.out S0LIM.out HG.out.symm hlt ((HOK.out _ (List.getElem_mem hlt)).row.kept HKW.out))
        clear d1
        generalize L[k] = q at *
        have e0 := hcc 0 _ rfl; simp only [Nat.add_zero] at e0; have e1 := hcc 1 _ rfl; have e2 := hcc 2 _ rfl; have e3 := hcc 3 _ rfl; have e4 := hcc 4 _ rfl; have e5 := hcc 5 _ rfl; have e6 := hcc 6 _ rfl; have e7 := hcc 7 _ rfl; have e8 := hcc 8 _ rfl; have e9 := hcc 9 _ rfl; have e10 := hcc 10 _ rfl; have e11 := hcc 11 _ rfl; have e12 := hcc 12 _ rfl; have e13 := hcc 13 _ rfl
        clear hcc
        simp only [csF] at HST
        go_wp2_with (go_at_call 20; refine HST.out.mono ?_; clear HST; rintro e w3 ⟨rfl, hS3, hk3⟩; have HS3 := hid hS3; have HK3 := hid (HK.out.trans hk3 (fun _ h => h)); clear hS3 hk3)
        go_roundg (L.length - (k + 1))
        case measure => omega
        case rel => exact ⟨k + 1, by first | rfl | go_num, by omega, Nat.le_refl _, HS3.out, HK3.out⟩
      · obtain rfl : k = L.length := by omega
        have hltz : ¬ (L.length : Int) < (L.length : Int) := by omega
        have hS := HS.out
        rw [call_all] at hS
        obtain ⟨hso, hsl⟩ := call_lim S0OK.out S0LIM.out HG.out.symm L.length
        rw [call_all] at hso hsl
        generalize s0.steps (L.map (·.1)) = s at *
        have HSS := hid hS
        have HSO := hid hso
        have HSL := hid hsl
        have HK0 := hid HK.out
        clear hS hso hsl HS HC HOK HCA HG HK S0OK S0LIM
        have HST := hid (sstate_any HSS.out tx)
        have HDR := hid (fun W (h : StoreAt W (fun b => b < w1.heap.size) A s) => sdraft_any h HSO.out.wlen tx)
        have HVO := hid (fun W D (h : StoreAt W D A s) => svote_any h HSL.out.le (by decide) (by have := HSL.out.rl; omega) HSO.out.wlen tx mask)
        obtain ⟨dl, hdl⟩ : ∃ dl, dl = s.draftOf tx := ⟨_, rfl⟩
        have HDL := hid hdl
        rw [← hdl] at HDR
        clear hdl
        have HPRE := hid (show True from trivial)
        by_cases hs0 : s.stateOf tx = 0
        · have hvn := votes_none mask hs0 HSO.out
          have HV := hid (fun W D (h : StoreAt W D A s) => by
            have := HVO.out W D h
            rw [hvn] at this
            exact this)
          rw [hs0] at HST
          clear HVO hvn hs0
          go_wp2_with first
            | (go_at_call 16; refine HST.out.mono ?_; clear HST; rintro e w3 ⟨rfl, hk3⟩; have HS3 := hid (HSS.out.kept hk3); have HK3 := hid (HK0.out.trans (hk3.kd' HSS.out.dlt) (fun _ h => h)); clear hk3)
            | (go_at_call 15; refine (HDR.out _ HS3.out).mono ?_; clear HDR; rintro e w4 ⟨v4, rfl, hp4, hk4⟩; obtain ⟨a4, c4, rfl, _⟩ := hp4.at'.ex; have HS4 := hid (HS3.out.kept hk4); have HK4 := hid (HK3.out.trans (hk4.kd' HS3.out.dlt) (fun _ h => h)); clear hp4 hk4)
            | (go_at_call 25; refine (HV.out _ _ HS4.out).mono ?_; clear HV; rintro e w5 ⟨v5, rfl, hv5, hS5, hk5⟩; obtain ⟨a5, c5, rfl, _⟩ := hv5.ex; have HK5 := hid (HK4.out.trans hk5 (fun _ h => h)); clear hv5 hS5 hk5)
          go_ret
          exact ⟨by simp, HKN.out.trans (KD.kept HK5.out) (fun x hx => by cases hx)⟩
        by_cases hs3 : s.stateOf tx = 3
        · have hvn := votes_doubt mask hs3
          have HV := hid (fun W D (h : StoreAt W D A s) => by
            have := HVO.out W D h
            rw [hvn] at this
            exact this)
          have HSE := hid (fun W (h : StoreAt W (fun b => b < w1.heap.size) A s) => by
            have := sstate_any h tx
            rw [hs3] at this
            exact this)
          rw [hs3] at HST
          clear HVO hvn hs0 hs3
          go_wp2_with first
            | (go_at_call 16; refine HST.out.mono ?_; clear HST; rintro e w3 ⟨rfl, hk3⟩; have HS3 := hid (HSS.out.kept hk3); have HK3 := hid (HK0.out.trans (hk3.kd' HSS.out.dlt) (fun _ h => h)); clear hk3)
            | (go_at_call 15; refine (HDR.out _ HS3.out).mono ?_; clear HDR; rintro e w4 ⟨v4, rfl, hp4, hk4⟩; obtain ⟨a4, c4, rfl, _⟩ := hp4.at'.ex; have HS4 := hid (HS3.out.kept hk4); have HK4 := hid (HK3.out.trans (hk4.kd' HS3.out.dlt) (fun _ h => h)); clear hp4 hk4)
            | (go_at_call 25; refine (HV.out _ _ HS4.out).mono ?_; clear HV; rintro e w5 ⟨v5, rfl, hv5, hS5, hk5⟩; obtain ⟨a5, c5, rfl, _⟩ := hv5.ex; have HS5 := hid hS5; have HK5 := hid (HK4.out.trans hk5 (fun _ h => h)); clear hv5 hS5 hk5)
            | (go_at_call 16; refine (HSE.out _ HS5.out).mono ?_; clear HSE; rintro e w6 ⟨rfl, hk6⟩)
          go_ret
          exact ⟨by simp, HKN.out.trans ((KD.kept HK5.out).trans hk6 (fun x hx => by cases hx)) (fun x hx => by cases hx)⟩
        have hb0 : (s.stateOf tx == 0) = false := by simpa using hs0
        have hb3 : (s.stateOf tx == 3) = false := by simpa using hs3
        rcases vote_is HSO.out hm0 hs0 hs3 with ⟨wk, hx, h1, hv⟩ | ⟨h1, h0, hv⟩ | hv
        · have hst1 : s.stateOf tx = 1 := by unfold Sp.stateOf; rw [hx]; exact h1
          have hnum := (HSO.out.each _ (tget_mem hx)).num
          have HRR := hid (recs_rightS hnum s.base (s.draftOf tx) (draft_right HSO.out tx))
          have HYR := hid (rec_yes tx mask hnum hm0)
          have HDLL := hid (by have := draft_locks HSO.out hx; rw [← HDL.out] at this; exact this)
          have hvl : (recsP tx s.base dl).length = dl.length := by simp [recsP]
          rw [← HDL.out] at hv HRR
          have hdll : dl.length ≤ 16 := by
            rw [HDL.out]; unfold Sp.draftOf; rw [hx]
            have := keysP_len (wk.ws.map toPr)
            have h2 := (HSO.out.each _ (tget_mem hx)).len
            simp only [Option.map_some, Option.getD_some, List.length_map] at this ⊢
            simp only at h2
            omega
          obtain ⟨s1, hs1⟩ : ∃ s1 : Sp, s1 = { s with works := aput tx ⟨3, wk.err, wk.ws⟩ s.works } := ⟨_, rfl⟩
          rw [← hs1] at hv
          have HOS1 := hid (show SpOk s1 by have := HSO.out.vote tx mask; rw [hv] at this; exact this)
          have HLS1 := hid (show Lim s1 1280 by have := HSL.out.vote HSO.out tx mask; rw [hv] at this; exact this)
          have hse : s1.stateOf tx = 3 := by rw [hs1]; exact state_put _ _ hx
          have hte : s1.tab = s.tab := by rw [hs1]
          obtain ⟨RL, hRL⟩ : ∃ RL, RL = recsP tx s.base dl ++ [yesRc tx mask] := ⟨_, rfl⟩
          have hrll : RL.length = dl.length + 1 := by rw [hRL, List.length_append, hvl]; rfl
          have HLAST := hid (show ∀ (i : Nat) (h : i < RL.length), RL[i].right = true ∧ RL[i].tx = tx from fun i h => by
            have hm : RL[i] ∈ RL := List.getElem_mem h
            generalize RL[i] = r at hm ⊢
            rw [hRL] at hm
            rcases List.mem_append.1 hm with hm | hm
            · exact HRR.out _ hm
            · rw [List.mem_singleton] at hm
              rw [hm]; exact ⟨HYR.out, rfl⟩)
          have HYES := hid (show ∀ (h : dl.length < RL.length), RL[dl.length] = yesRc tx mask from fun h => by
            have h2 := hvl
            subst hRL
            rw [List.getElem_append_right (by omega)]
            simp [hvl])
          rw [← hRL] at hv
          have HV := hid (fun W D (h : StoreAt W D A s) => by
            have := HVO.out W D h
            rw [hv] at this
            exact this)
          have HSE := hid (fun W D (h : StoreAt W D A s1) => by
            have := sstate_any h tx
            rw [hse] at this
            exact this)
          have HLK := hid (fun W D (h : StoreAt W D A s1) => by
            have := slocks_any h HLS1.out.le (by decide) (by have := HLS1.out.rl; omega) tx
            rw [hte] at this
            exact this)
          rw [hst1] at HST
          clear HVO hv hb0 hb3 hs0 hs3 hx h1 hst1 hnum hvl hse hte hs1 hRL HRR HYR HOS1 HLS1 HDL
          obtain ⟨kl, hkl⟩ : ∃ kl, kl = s.tab.keysT tx := ⟨_, rfl⟩
          rw [← hkl] at HLK HDLL
          clear hkl
          have hrlz : (RL.length : Int) = (dl.length : Int) + 1 := by omega
          go_wp2_with first
            | (go_at_call 16; refine HST.out.mono ?_; clear HST; rintro e w3 ⟨rfl, hk3⟩; have HS3 := hid (HSS.out.kept hk3); have HK3 := hid (HK0.out.trans (hk3.kd' HSS.out.dlt) (fun _ h => h)); clear hk3)
            | (go_at_call 15; refine (HDR.out _ HS3.out).mono ?_; clear HDR; rintro e w4 ⟨v4, rfl, hp4, hk4⟩; obtain ⟨a4, c4, rfl, _⟩ := hp4.at'.ex; have HS4 := hid (HS3.out.kept hk4); have HK4 := hid (HK3.out.trans (hk4.kd' HS3.out.dlt) (fun _ h => h)); clear hp4 hk4)
            | (go_at_call 25; refine Here.mk ?_)
          refine Here.of ?_
          refine (HV.out _ _ HS4.out).mono ?_
          rintro e w5 ⟨v5, rfl, hv5, hS5, hk5⟩
          obtain ⟨a5, c5, rfl, _, _, hc5⟩ := hv5.ex
          have HS5 := hid hS5
          have HK5 := hid (HK4.out.trans hk5 (fun _ h => h))
          clear hv5 hS5 hk5 HV
          dsimp only
          have HC5 := hid hc5
          have hwr : IntKind.i64.wrap ((dl.length : Int) + 1) = (dl.length : Int) + 1 := by rw [IntKind.wrap_i64]; omega
          have hwr2 : IntKind.i64.wrap ((dl.length : Int) + 1 - 1) = (dl.length : Int) := by rw [IntKind.wrap_i64]; omega
          have hwr3 : IntKind.i64.wrap (dl.length : Int) = (dl.length : Int) := by rw [IntKind.wrap_i64]; omega
          have hdz : (dl.length : Int) < (dl.length : Int) + 1 := by omega
          obtain ⟨rb, ro, rfl, _, hrc⟩ := hc5 (by omega)
          have HRC := hid hrc
          have HRV := hid (fun W => show (Op.equalIn 9999 33 (.agg #[.int .u8 0, .int .u8 0, .int .u8 0, .int .u8 0]) (.agg #[.int .u8 0, .int .u8 0, .int .u8 0, .int .u8 0])).run Tryz.prog W = .ok true W from by
            have := eq_key W 9997 ⟨0, 0, 0, 0⟩ ⟨0, 0, 0, 0⟩
            simpa [K4.v] using this)
          have HYC := hid (fun W (hK : Kept [] w5 W) => by
            have := rec_cells (fun j u hj => hK.cell (hrc j u hj) (by simp)) (show dl.length < RL.length by omega)
            rw [HYES.out (by omega)] at this
            simp only [yesRc, V.zero] at this
            exact this)
          clear hc5 hrc HC5
          go_wp2_with (go_at_call 16; refine (HSE.out _ _ HS5.out).mono ?_; clear HSE; rintro e w6 ⟨rfl, hk6⟩; have HK56 := hid hk6; have HS6 := hid (HS5.out.kept hk6); have HK6 := hid (HK5.out.trans (hk6.kd' HS5.out.dlt) (fun _ h => h)); obtain ⟨z0, z1, z2, z3, z4, z5, z6, z7, z8, z9, z10⟩ := HYC.out _ hk6; have hrv := HRV.out w6; clear hk6)
          clear z0 z1 z2 z3 z4 z5 z6 z7 z8 z9 z10 hrv
          go_loopg [14] RL.length (fun kx s14 wl => ∃ i : Nat, s14 = .int .i64 i ∧ i ≤ RL.length ∧ RL.length - i ≤ kx ∧ Aside (Kept [] w6 wl))
          case atStart => exact ⟨0, by first | rfl | go_num, by omega, by omega, Kept.refl _ _⟩
          case round =>
            obtain ⟨i, rfl, hi, hix, HKL⟩ := hrel
            by_cases hlt : i < RL.length
            · have hltz : (i : Int) < (dl.length : Int) + 1 := by omega
              have HCI := hid (fun W (hK : Kept [] w6 W) => rec_cells (fun j u hj => (HK56.out.trans hK (fun x hx => by cases hx)).cell (HRC.out j u hj) (by simp)) hlt)
              obtain ⟨hri, hti⟩ := HLAST.out i hlt
              have HRI := hid (fun W => by
                have := r4right_all RL[i] W
                rw [hri] at this
                exact this)
              clear hri
              generalize RL[i] = r at *
              obtain ⟨r1, r2, r3, ⟨r4, r5, r6, r7⟩, ⟨r8, r9⟩, ⟨r10, r11⟩⟩ := r
              dsimp only at hti HCI
              subst hti
              simp only [Rc.v] at HRI
              obtain ⟨z0, z1, z2, z3, z4, z5, z6, z7, z8, z9, z10⟩ := HCI.out _ HKL.out
              go_wp2_with (go_at_call 26; refine (HRI.out _).mono ?_; clear HRI; rintro e w7 ⟨rfl, hk7⟩; have HK7 := hid (HKL.out.trans hk7 (fun x hx => by cases hx)); clear z0 z1 z2 z3 z4 z5 z6 z7 z8 z9 z10 hk7; obtain ⟨z0, z1, _⟩ := HCI.out _ HK7.out)
              go_roundg (RL.length - (i + 1))
              case measure => omega
              case rel => exact ⟨i + 1, by first | rfl | go_num, by omega, Nat.le_refl _, HK7.out⟩
            · have hie : (i : Int) = (dl.length : Int) + 1 := by omega
              have hltz : ¬ (i : Int) < (dl.length : Int) + 1 := by omega
              have HSL6 := hid (HS6.out.kept HKL.out)
              clear hie
              go_wp2_with (go_at_call 22; refine (HLK.out _ _ HSL6.out).mono ?_; rintro e w8 ⟨v8, rfl, ho8, hk8⟩; obtain ⟨a8, c8, rfl⟩ := ownsRow_slice ho8; have HK8 := hid hk8; clear ho8 hk8)
              have hge : decide (dl.length ≤ kl.length) = true := decide_eq_true HDLL.out
              rw [hge]
              go_ret
              exact ⟨rfl, HKN.out.trans ((KD.kept HK6.out).trans (HKL.out.trans HK8.out (fun x hx => by cases hx)) (fun x hx => by cases hx)) (fun x hx => by cases hx)⟩
        · rw [← HDL.out] at h0
          have HV := hid (fun W D (h : StoreAt W D A s) => by
            have := HVO.out W D h
            rw [hv] at this
            exact this)
          have HOF := hid (HSO.out.forget tx)
          have HLF := hid (HSL.out.forget HSO.out tx)
          have HGF := hid (forget_gone HSO.out tx)
          generalize s.forget tx = sf at *
          have HSTF := hid (fun W D (h : StoreAt W D A sf) => by
            have := sstate_any h tx
            rw [state_gone HGF.out] at this
            exact this)
          have HLCF := hid (fun W D (h : StoreAt W D A sf) => by
            have := slocks_any h HLF.out.le (by decide) (by have := HLF.out.rl; omega) tx
            rw [gone_keys HOF.out HGF.out] at this
            exact this)
          have hdz : (dl.length : Int) = 0 := by omega
          have hd0 : dl.length = 0 := h0
          rw [h1] at HST
          clear h0 h1 hb0 hb3 hs0 hs3
          clear HVO hv
          go_wp2_with first
            | (go_at_call 16; refine HST.out.mono ?_; clear HST; rintro e w3 ⟨rfl, hk3⟩; have HS3 := hid (HSS.out.kept hk3); have HK3 := hid (HK0.out.trans (hk3.kd' HSS.out.dlt) (fun _ h => h)); clear hk3)
            | (go_at_call 15; refine (HDR.out _ HS3.out).mono ?_; clear HDR; rintro e w4 ⟨v4, rfl, hp4, hk4⟩; obtain ⟨a4, c4, rfl, _⟩ := hp4.at'.ex; have HS4 := hid (HS3.out.kept hk4); have HK4 := hid (HK3.out.trans (hk4.kd' HS3.out.dlt) (fun _ h => h)); clear hp4 hk4)
            | (go_at_call 25; refine (HV.out _ _ HS4.out).mono ?_; clear HV; rintro e w5 ⟨v5, rfl, hv5, hS5, hk5⟩; obtain ⟨a5, c5, rfl, _⟩ := hv5.ex; have HS5 := hid hS5; have HK5 := hid (HK4.out.trans hk5 (fun _ h => h)); clear hv5 hS5 hk5)
            | (go_at_call 16; refine (HSTF.out _ _ HS5.out).mono ?_; clear HSTF; rintro e w6 ⟨rfl, hk6⟩; have HS6 := hid (HS5.out.kept hk6); have HK6 := hid (HK5.out.trans (hk6.kd' HS5.out.dlt) (fun _ h => h)); clear hk6)
            | (go_at_call 22; refine (HLCF.out _ _ HS6.out).mono ?_; clear HLCF; rintro e w7 ⟨v7, rfl, ho7, hk7⟩; obtain ⟨a7, c7, rfl⟩ := ownsRow_slice ho7; have HK7 := hid hk7; clear ho7 hk7)
          go_ret
          exact ⟨by simp, HKN.out.trans ((KD.kept HK6.out).trans HK7.out (fun x hx => by cases hx)) (fun x hx => by cases hx)⟩
        · skip
          have HV := hid (fun W D (h : StoreAt W D A s) => by
            have := HVO.out W D h
            rw [hv] at this
            exact this)
          have HOF := hid (HSO.out.forget tx)
          have HLF := hid (HSL.out.forget HSO.out tx)
          have HGF := hid (forget_gone HSO.out tx)
          generalize s.forget tx = sf at *
          have HSTF := hid (fun W D (h : StoreAt W D A sf) => by
            have := sstate_any h tx
            rw [state_gone HGF.out] at this
            exact this)
          have HLCF := hid (fun W D (h : StoreAt W D A sf) => by
            have := slocks_any h HLF.out.le (by decide) (by have := HLF.out.rl; omega) tx
            rw [gone_keys HOF.out HGF.out] at this
            exact this)
          clear hs0 hs3
          generalize s.stateOf tx = st at *
          clear HVO hv
          go_wp2_with first
            | (go_at_call 16; refine HST.out.mono ?_; clear HST; rintro e w3 ⟨rfl, hk3⟩; have HS3 := hid (HSS.out.kept hk3); have HK3 := hid (HK0.out.trans (hk3.kd' HSS.out.dlt) (fun _ h => h)); clear hk3)
            | (go_at_call 15; refine (HDR.out _ HS3.out).mono ?_; clear HDR; rintro e w4 ⟨v4, rfl, hp4, hk4⟩; obtain ⟨a4, c4, rfl, _⟩ := hp4.at'.ex; have HS4 := hid (HS3.out.kept hk4); have HK4 := hid (HK3.out.trans (hk4.kd' HS3.out.dlt) (fun _ h => h)); clear hp4 hk4)
            | (go_at_call 25; refine (HV.out _ _ HS4.out).mono ?_; clear HV; rintro e w5 ⟨v5, rfl, hv5, hS5, hk5⟩; obtain ⟨a5, c5, rfl, _⟩ := hv5.ex; have HS5 := hid hS5; have HK5 := hid (HK4.out.trans hk5 (fun _ h => h)); clear hv5 hS5 hk5)
            | (go_at_call 16; refine (HSTF.out _ _ HS5.out).mono ?_; clear HSTF; rintro e w6 ⟨rfl, hk6⟩; have HS6 := hid (HS5.out.kept hk6); have HK6 := hid (HK5.out.trans (hk6.kd' HS5.out.dlt) (fun _ h => h)); clear hk6)
            | (go_at_call 22; refine (HLCF.out _ _ HS6.out).mono ?_; clear HLCF; rintro e w7 ⟨v7, rfl, ho7, hk7⟩; obtain ⟨a7, c7, rfl⟩ := ownsRow_slice ho7; have HK7 := hid hk7; clear ho7 hk7)
          go_ret
          exact ⟨by simp, HKN.out.trans ((KD.kept HK6.out).trans HK7.out (fun x hx => by cases hx)) (fun x hx => by cases hx)⟩
theorem walkI (v0 : Value) (L : List (Cs × Value)) (tx : Int) (mask : Int) (w : World) (h0 : SlAt w v0 14 L.length (L.flatMap csF)) (hok : ∀ q ∈ L, CsOk w q) (ht : IntKind.i64.min ≤ tx ∧ tx ≤ IntKind.i64.max) (hm : IntKind.u16.min ≤ mask ∧ mask ≤ IntKind.u16.max) :
    Calls Tryz.prog 5 #[v0, .int .i64 tx, .int .u16 mask] w fun e w' => e = .returned (.bool true) ∧ Kept [] w w' := by
  have h : (0 : Int) ≤ mask := hm.1
  obtain ⟨n, rfl⟩ : ∃ n : Nat, mask = (n : Int) := ⟨mask.toNat, by omega⟩
  exact walk v0 L tx n w h0 hok ht
--@@ end
end Go.Proofs.YtpfgpbafechncaaGreat.storeVotes
