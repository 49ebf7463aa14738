/- StoreDooms: the walk. -/
import Derived.Test.YtpfgpbafechncaaGreatStoreW
set_option linter.all false
namespace Go.Proofs.YtpfgpbafechncaaGreat.storeDooms
open Go.RowKit Go.Shelf Go.Lib Go.Sort Go.Proofs Go.Proofs.YtpfgpbafechncaaGreat
set_option linter.unusedVariables false
set_option linter.unusedSimpArgs false

--@@ concordatlaw10.StoreDooms
set_option maxHeartbeats 8000000 in
set_option maxRecDepth 100000 in
theorem walk (v0 : Value) (L : List (Cs × Value)) (o : Opx) (why : Int) (w : World) (h0 : SlAt w v0 14 L.length (L.flatMap csF)) (hok : ∀ q ∈ L, CsOk w q) (_ho : o.ok) (_hw : IntKind.i64.min ≤ why ∧ why ≤ IntKind.i64.max) :
    Calls Tryz.prog 8 #[v0, .agg o.f.toArray, .int .i64 why] w fun e w' => e = .returned (.bool true) ∧ Kept [] w w' := by
  have HCA := hid (show CsAt w v0 L from ⟨h0, fun q hq => (hok q hq).row⟩)
  obtain ⟨a, cap, rfl, hmax, _, hc⟩ := h0.ex
  have HC := hid hc
  have HOK := hid hok
  clear h0 hc hok _hw _ho
  obtain ⟨kind, otx, ⟨ka, kb, kc, kd⟩, m⟩ := o
  simp only [Opx.f]
  have HOB := hid (heap_alloc_new w (.cells #[.int .i64 kind, .int .i64 otx, .int .u8 (ka.toNat : Int), .int .u8 (kb.toNat : Int), .int .u8 (kc.toNat : Int), .int .u8 (kd.toNat : Int), .int .i64 m] 35))
  have HWA := hid ((Kept.refl [] w).alloc (.cells #[.int .i64 kind, .int .i64 otx, .int .u8 (ka.toNat : Int), .int .u8 (kb.toNat : Int), .int .u8 (kc.toNat : Int), .int .u8 (kd.toNat : Int), .int .i64 m] 35))
  obtain ⟨gr, hgr⟩ : ∃ gr, gr = greatC (L.map (·.1)) := ⟨_, rfl⟩
  have HG := hid hgr
  have HGC := hid (fun W (hK : Kept [] w W) => by
    have := great10_any _ L W (HCA.out.kept hK)
    rw [← hgr] at this
    exact this)
  clear hgr
  go_enter Tryz.func8, Tryz.ntmps8
  go_wp2_with (go_at_call 9; refine Here.mk ?_)
  refine Here.of ?_
  generalize hw0 : w.alloc (.cells #[.int .i64 kind, .int .i64 otx, .int .u8 (ka.toNat : Int), .int .u8 (kb.toNat : Int), .int .u8 (kc.toNat : Int), .int .u8 (kd.toNat : Int), .int .i64 m] 35) = w0 at *
  refine (alive10_any _).mono ?_
  rintro e w1 ⟨rfl, hk1⟩
  have HK1 := hid (HWA.out.trans hk1 (fun x hx => by cases hx))
  have HOB1 := hid ((hk1.block w.heap.size (Array.getElem?_eq_some_iff.1 HOB.out).1 (by simp)).trans HOB.out)
  have HOPC := hid (fun W (hK : Kept [] w1 W) => show W.cell? ⟨w.heap.size, 0, none⟩ = some (.int .i64 kind) ∧ W.cell? ⟨w.heap.size, 1, none⟩ = some (.int .i64 otx) ∧ W.cell? ⟨w.heap.size, 2, none⟩ = some (.int .u8 (ka.toNat : Int)) ∧ W.cell? ⟨w.heap.size, 3, none⟩ = some (.int .u8 (kb.toNat : Int)) ∧ W.cell? ⟨w.heap.size, 4, none⟩ = some (.int .u8 (kc.toNat : Int)) ∧ W.cell? ⟨w.heap.size, 5, none⟩ = some (.int .u8 (kd.toNat : Int)) ∧ W.cell? ⟨w.heap.size, 6, none⟩ = some (.int .i64 m) from by
    have hb := (hK.block _ (Array.getElem?_eq_some_iff.1 HOB1.out).1 (by simp)).trans HOB1.out
    refine ⟨?_, ?_, ?_, ?_, ?_, ?_, ?_⟩ <;> simp [World.cell?, hb])
  obtain ⟨q0, q1, _⟩ := HOPC.out w1 (Kept.refl _ _)
  clear hk1 HOB HWA hw0
  cases gr with
  | true =>
    clear HG
    go_wp2_with (go_at_call 10; refine (HGC.out _ HK1.out).mono ?_; rintro e wg ⟨rfl, hwg⟩; obtain rfl := hwg.symm)
    go_ret
    exact ⟨rfl, HK1.out⟩
  | false =>
    by_cases hy : why = 0
    · subst hy
      clear HG
      go_wp2_with (go_at_call 10; refine (HGC.out _ HK1.out).mono ?_; rintro e wg ⟨rfl, hwg⟩; obtain rfl := hwg.symm)
      go_ret
      exact ⟨rfl, HK1.out⟩
    have hyb : (why == 0) = false := by simpa using hy
    by_cases hk1 : kind < 1
    · clear HG hy
      go_wp2_with (go_at_call 10; refine (HGC.out _ HK1.out).mono ?_; rintro e wg ⟨rfl, hwg⟩; obtain rfl := hwg.symm)
      go_ret
      exact ⟨rfl, HK1.out⟩
    have hk1' : (1 : Int) ≤ kind := by omega
    by_cases hk4 : 4 < kind
    · clear HG hy hk1
      go_wp2_with (go_at_call 10; refine (HGC.out _ HK1.out).mono ?_; rintro e wg ⟨rfl, hwg⟩; obtain rfl := hwg.symm)
      go_ret
      exact ⟨rfl, HK1.out⟩
    have hk4' : kind ≤ (4 : Int) := by omega
    have HKK := hid (show 1 ≤ kind ∧ kind ≤ 4 from ⟨hk1', hk4'⟩)
    have HY := hid hy
    clear hk1 hk4 hy
    have HNEW := hid (snew_ok (.slice none 0 0) [] w1 (PrAt.nilS w1) (by decide) (by decide))
    go_wp2_with first
      | (go_at_call 10; refine (HGC.out _ HK1.out).mono ?_; rintro e wg ⟨rfl, hwg⟩; obtain rfl := hwg.symm)
      | (go_at_call 11; refine HNEW.out.mono ?_; clear HNEW; rintro e w2 ⟨A, rfl, hS, hk⟩; have HS2 := hid (show StoreAt w2 (fun b => b < w1.heap.size) A aS0 from hS); have HK2 := hid (HK1.out.trans hk (fun x hx => by cases hx)); have HK12 := hid hk; clear hS hk)
    clear q0 q1 hk1' hk4' hyb
    go_loopg [9] L.length (fun kx s9 wr => ∃ k : Nat, s9 = .int .i64 k ∧ k ≤ L.length ∧ L.length - k ≤ kx ∧ Aside (StoreAt wr (fun b => b < w1.heap.size) A (aS0.steps ((L.map (·.1)).take k))) ∧ Aside (KD (fun b => b < w1.heap.size) w1 wr))
    case atStart => exact ⟨0, by first | rfl | go_num, by omega, by omega, HS2.out, HK12.out.kd⟩
    case round =>
      clear HS2
      obtain ⟨k, rfl, hk, hkx, HS, HK⟩ := hrel
      have hKR := KD.kept HK.out
      have HKR := hid hKR
      have HKW := hid (HK1.out.trans hKR (fun x hx => by cases hx))
      clear hKR
      by_cases hlt : k < L.length
      · have hltz : (k : Int) < (L.length : Int) := by omega
        obtain ⟨b, off, rfl, _, d1⟩ := HC.out (by omega)
        have hcc := cs_cells (fun j u hu => HKW.out.cell (d1 j u hu) (by simp)) hlt
        have HST := hid (do10_step HS.out aS0_ok aS0_lim HG.out.symm hlt ((HOK.out _ (List.getElem_mem hlt)).row.kept HKW.out))
        clear d1
        generalize L[k] = q at *
        have e0 := hcc 0 _ rfl; simp only [Nat.add_zero] at e0; have e1 := hcc 1 _ rfl; have e2 := hcc 2 _ rfl; have e3 := hcc 3 _ rfl; have e4 := hcc 4 _ rfl; have e5 := hcc 5 _ rfl; have e6 := hcc 6 _ rfl; have e7 := hcc 7 _ rfl; have e8 := hcc 8 _ rfl; have e9 := hcc 9 _ rfl; have e10 := hcc 10 _ rfl; have e11 := hcc 11 _ rfl; have e12 := hcc 12 _ rfl; have e13 := hcc 13 _ rfl
        clear hcc
        simp only [csF] at HST
        go_wp2_with (go_at_call 20; refine HST.out.mono ?_; clear HST; rintro e w3 ⟨rfl, hS3, hk3⟩; have HS3 := hid hS3; have HK3 := hid (HK.out.trans hk3 (fun _ h => h)); clear hS3 hk3)
        go_roundg (L.length - (k + 1))
        case measure => omega
        case rel => exact ⟨k + 1, by first | rfl | go_num, by omega, Nat.le_refl _, HS3.out, HK3.out⟩
      · obtain rfl : k = L.length := by omega
        have hltz : ¬ (L.length : Int) < (L.length : Int) := by omega
        have hS := HS.out
        rw [call_all] at hS
        obtain ⟨hso, hsl⟩ := call_lim aS0_ok aS0_lim HG.out.symm L.length
        rw [call_all] at hso hsl
        generalize aS0.steps (L.map (·.1)) = s at *
        have HSS := hid hS
        have HSO := hid hso
        have hso' := hso
        have HSL := hid hsl
        clear hS hso hsl HS HC HOK HCA HG
        obtain ⟨q0, q1, _⟩ := HOPC.out wr HKR.out
        obtain ⟨hd1, hd2, hd3⟩ := doom_is hso' otx why HY.out
        have HPT := hid (fun W (hK : KD (fun b => b < w1.heap.size) w1 W) => HOPC.out W (KD.kept hK))
        have HK0 := hid HK.out
        have HST := hid (sstate_any HSS.out otx)
        by_cases h1 : s.stateOf otx = 1
        · have hbs : (s.stateOf otx == 1) = true := by simpa using h1
          rw [h1] at HST
          obtain ⟨sw, hxa, hs1⟩ := hd3 h1
          rw [decide_eq_true h1] at hd1
          have hx1 : aget otx (s.doom otx why).2.works = some ⟨2, why, sw.ws⟩ := by rw [hs1]; exact (tget_put otx otx _ _).trans (if_pos rfl)
          have HDM := hid (fun W (h : StoreAt W (fun b => b < w1.heap.size) A s) => by
            have := sdoom_any h HSL.out.le (by decide) otx why
            rw [hd1] at this
            exact this)
          have HS1O := hid (HSO.out.doom otx why)
          have HS1L := hid (HSL.out.doom HSO.out otx why)
          generalize (s.doom otx why).2 = s1 at *
          have hdo := dooms_do hx1 HY.out HKK.out ⟨ka, kb, kc, kd⟩ m 0
          have hvo := dooms_vote hx1
          have hst := state_gone (forget_gone HS1O.out otx)
          obtain ⟨dl, hdl⟩ : ∃ dl, dl = s1.draftOf otx := ⟨_, rfl⟩
          have HDR := hid (fun W D (h : StoreAt W D A s1) => by
            have := sdraft_any h HS1O.out.wlen otx
            rw [← hdl] at this
            exact this)
          have hdll : dl.length ≤ 20000 := by
            rw [hdl]; unfold Sp.draftOf; rw [hx1]
            have := keysP_len (sw.ws.map toPr)
            have h2 := (HS1O.out.each _ (tget_mem hx1)).len
            simp only [Option.map_some, Option.getD_some, List.length_map] at this ⊢
            simp only at h2
            omega
          have HDO := hid (fun W D (h : StoreAt W D A s1) => by
            have := sdo_any h HS1L.out.le (by decide) HS1O.out.wlen (by have := HS1O.out.blen; omega) kind otx ⟨ka, kb, kc, kd⟩ m 0
            rw [hdo] at this
            exact this)
          have HVO := hid (fun W D (h : StoreAt W D A s1) => by
            have := svote_any h HS1L.out.le (by decide) (by have := HS1L.out.rl; omega) HS1O.out.wlen otx 1
            rw [hvo] at this
            exact this)
          have HFI := hid (fun W D (h : StoreAt W D A (s1.forget otx)) => by
            have := sstate_any h otx
            rw [hst] at this
            exact this)
          clear hd1 hd2 hd3 hs1 hx1 hxa hdo hvo hst hdl h1 hso' HS1O HS1L
          have HRS := hid (fun W => reply_same why 0 false W)
          simp only [V.zero] at HDO
          go_wp2_with first
            | (go_at_call 16; refine HST.out.mono ?_; clear HST; rintro e w3 ⟨rfl, hk3⟩; have HS3 := hid (HSS.out.kept hk3); have HK3 := hid (HK0.out.trans (hk3.kd' HSS.out.dlt) (fun _ h => h)); clear q0 q1; obtain ⟨q0, q1, _⟩ := HPT.out _ HK3.out; clear hk3)
            | (go_at_call 29; refine (HDM.out _ HS3.out).mono ?_; rintro e w4 ⟨rfl, hS4, hk4⟩; have HS4 := hid hS4; have HK4 := hid (HK3.out.trans hk4 (fun _ h => h)); clear q0 q1 hS4 hk4; obtain ⟨q0, q1, _⟩ := HPT.out _ HK4.out)
            | (go_at_call 15; refine Here.mk ?_)
          refine Here.of ?_
          refine (HDR.out _ _ HS4.out).mono ?_
          rintro e w5 ⟨v5, rfl, hp5, hk5⟩
          obtain ⟨a5, c5, rfl, _⟩ := hp5.at'.ex
          have HFR := hid (from_any _ dl w5 hp5.at' hdll)
          have HS5 := hid (HS4.out.kept hk5)
          have HK5 := hid (HK4.out.trans (hk5.kd' HS4.out.dlt) (fun _ h => h))
          clear hp5 hk5 q0 q1
          go_wp2_with (go_at_call 13; refine HFR.out.mono ?_; clear HFR; rintro e w6 ⟨v6, rfl, ho6, hk6⟩; obtain ⟨a6, c6, rfl⟩ := ownsRow_slice ho6; have HS6 := hid (HS5.out.widen hk6); have HK6 := hid (HK5.out.trans (hk6.kd' HS5.out.dlt) (fun _ h => h)); have HO6 := hid ho6; clear ho6 hk6; obtain ⟨q0, q1, q2, q3, q4, q5, q6⟩ := HPT.out _ HK6.out)
          have HIN6 := hid (own_in HO6.out)
          refine (HDO.out _ _ HS6.out).mono ?_
          rintro e w7 ⟨rfl, hS7, hk7⟩
          have hkr : Kept [] w7 (w7.alloc (.cells #[.int .i64 why, .bool false, .int .i64 0] 46)) := (Kept.refl [] w7).alloc _
          have HS8 := hid (hS7.widen hkr)
          have HK8 := hid ((HK6.out.trans hk7 (fun _ h => .inl h)).trans (hkr.kd' (fun b hb => by have := HOB1.out; exact Nat.lt_of_lt_of_le hb (Nat.le_trans HK6.out.size hk7.size))) (fun _ h => h))
          have HR8 := hid (((SlAt.of_own HO6.out).kd' hk7 (fun b hb => .inr (HIN6.out b hb))).kept hkr)
          have HRB8 := hid (heap_alloc_new w7 (.cells #[.int .i64 why, .bool false, .int .i64 0] 46))
          have hsz7 := hk7.size
          have hsz8 : (w7.alloc (.cells #[.int .i64 why, .bool false, .int .i64 0] 46)).heap.size = w7.heap.size + 1 := by simp
          clear hS7 hk7 hkr q0 q1 q2 q3 q4 q5 q6
          obtain ⟨q0, q1, _⟩ := HPT.out _ HK8.out
          go_wp2_with (go_at_call 15; refine Here.mk ?_)
          refine Here.of ?_
          generalize w7.alloc (.cells #[.int .i64 why, .bool false, .int .i64 0] 46) = w8 at *
          refine (HDR.out _ _ HS8.out).mono ?_
          rintro e w9 ⟨v9, rfl, hp9, hk9⟩
          obtain ⟨a9, c9, rfl, _⟩ := hp9.at'.ex
          have HFR := hid (from_any _ dl w9 hp9.at' hdll)
          have HS9 := hid (HS8.out.kept hk9)
          have HK9 := hid (HK8.out.trans (hk9.kd' (fun b hb => HS8.out.dlt b (.inl (.inl hb)))) (fun _ h => h))
          have HR9 := hid (HR8.out.kept hk9)
          have HRB9 := hid ((hk9.block _ (Array.getElem?_eq_some_iff.1 HRB8.out).1 (by simp)).trans HRB8.out)
          have hsz9 := hk9.size
          clear hp9 hk9 q0 q1
          go_wp2_with (go_at_call 13; refine HFR.out.mono ?_; clear HFR; rintro e w10 ⟨v10, rfl, ho10, hk10⟩; obtain ⟨a10, c10, rfl⟩ := ownsRow_slice ho10; have HS10 := hid (HS9.out.widen hk10); have HK10 := hid (HK9.out.trans (hk10.kd' (fun b hb => HS9.out.dlt b (.inl (.inl hb)))) (fun _ h => h)); have HO10 := hid ho10; have HR10 := hid (HR9.out.kept hk10); have HRB10 := hid ((hk10.block _ (Array.getElem?_eq_some_iff.1 HRB9.out).1 (by simp)).trans HRB9.out); clear ho10 hk10; obtain ⟨q0, q1, _⟩ := HPT.out _ HK10.out)
          have HIN10 := hid (own_in HO10.out)
          refine (HVO.out _ _ HS10.out).mono ?_
          rintro e w11 ⟨v11, rfl, hv11, hS11, hk11⟩
          obtain ⟨a11, c11, rfl, _⟩ := hv11.ex
          have HS11 := hid hS11
          have HK11 := hid (HK10.out.trans hk11 (fun _ h => .inl (.inl (.inl h))))
          have HR11 := hid (HR10.out.kd' hk11 (fun b hb => .inl (.inl (.inr (HIN6.out b hb)))))
          have HQ11 := hid ((SlAt.of_own HO10.out).kd' hk11 (fun b hb => .inr (HIN10.out b hb)))
          have hrb := (hk11.block _ (.inl (.inr ⟨Nat.le_refl _, by omega⟩))).trans HRB10.out
          obtain ⟨t0, t1, t2, _⟩ := cell3 hrb
          clear hv11 hS11 hk11 hrb q0 q1
          obtain ⟨q0, q1, _⟩ := HPT.out _ HK11.out
          have hrs := HRS.out w11
          go_wp2_with first
            | (go_at_call 21; refine (samePairs_any _ _ dl dl w11 HR11.out HQ11.out).mono ?_; rintro e w12 ⟨rfl, hk12⟩; have HS12 := hid (HS11.out.kept hk12); have HK12 := hid (HK11.out.trans (hk12.kd' (fun b hb => HS11.out.dlt b (.inl (.inl (.inl hb))))) (fun _ h => h)); clear hk12; obtain ⟨q0, q1, _⟩ := HPT.out _ HK12.out)
            | (go_at_call 16; refine (HFI.out _ _ HS12.out).mono ?_; rintro e w13 ⟨rfl, hk13⟩)
          go_ret
          exact ⟨rfl, HK1.out.trans ((KD.kept HK12.out).trans hk13 (fun x hx => by cases hx)) (fun x hx => by cases hx)⟩
        · have hbs : (s.stateOf otx == 1) = false := by simpa using h1
          rw [decide_eq_false h1] at hd1
          have HDM := hid (fun W (h : StoreAt W (fun b => b < w1.heap.size) A s) => by
            have := sdoom_any h HSL.out.le (by decide) otx why
            rw [hd1, hd2 h1] at this
            exact this)
          have HST2 := hid (fun W (h : StoreAt W (fun b => b < w1.heap.size) A s) => sstate_any h otx)
          generalize s.stateOf otx = st at *
          have hbn : (st != 1) = true := by simp [bne, hbs]
          have hbe : (st == st) = true := by simp
          clear hd1 hd2 hd3 h1 hso'
          go_wp2_with first
            | (go_at_call 16; refine HST.out.mono ?_; clear HST; rintro e w3 ⟨rfl, hk3⟩; have HS3 := hid (HSS.out.kept hk3); have HK3 := hid (HK0.out.trans (hk3.kd' HSS.out.dlt) (fun _ h => h)); clear q0 q1; obtain ⟨q0, q1, _⟩ := HPT.out _ HK3.out; clear hk3)
            | (go_at_call 29; refine (HDM.out _ HS3.out).mono ?_; rintro e w4 ⟨rfl, hS4, hk4⟩; have HS4 := hid hS4; have HK4 := hid (HK3.out.trans hk4 (fun _ h => h)); clear q0 q1 hS4 hk4; obtain ⟨q0, q1, _⟩ := HPT.out _ HK4.out)
            | (go_at_call 16; refine (HST2.out _ HS4.out).mono ?_; rintro e w5 ⟨rfl, hk5⟩)
          go_ret
          exact ⟨by simp, HK1.out.trans ((KD.kept HK4.out).trans hk5 (fun x hx => by cases hx)) (fun x hx => by cases hx)⟩
--@@ end
end Go.Proofs.YtpfgpbafechncaaGreat.storeDooms
