/- StoreRestores: the walk. -/
import Derived.Test.YtpfgpbafechncaaGreatM13
set_option linter.all false
namespace Go.Proofs.YtpfgpbafechncaaGreat.storeRestores
open Go.RowKit Go.Shelf Go.Lib Go.Sort Go.Proofs Go.Proofs.YtpfgpbafechncaaGreat
--@@ concordatlaw10.StoreRestores
set_option maxHeartbeats 8000000 in
set_option maxRecDepth 100000 in
theorem walk (v0 : Value) (bs : List Pr) (v1 : Value) (L : List (Cs × Value)) (tx : Int) (w : World) (hb0 : SlAt w v0 6 bs.length (bs.flatMap Pr.f)) (_hb : ∀ x ∈ bs, x.ok) (h0 : SlAt w v1 14 L.length (L.flatMap csF)) (hok : ∀ q ∈ L, CsOk w q) (_ht : IntKind.i64.min ≤ tx ∧ tx ≤ IntKind.i64.max) :
    Calls Tryz.prog 6 #[v0, v1, .int .i64 tx] w fun e w' => e = .returned (.bool true) ∧ Kept [] w w' := by
  have HCA := hid (show CsAt w v1 L from ⟨h0, fun q hq => (hok q hq).row⟩)
  obtain ⟨a, cap, rfl, hmax, _, hc⟩ := h0.ex
  have HC := hid hc
  have HOK := hid hok
  have HB := hid hb0
  obtain ⟨ba0, bc0, rfl, hbm, _⟩ := hb0.ex
  clear hb0 _hb
  clear h0 hc hok _ht
  obtain ⟨gr, hgr⟩ : ∃ gr, gr = greatC (L.map (·.1)) := ⟨_, rfl⟩
  have HG := hid hgr
  have HGC := hid (fun W (hK : Kept [] w W) => by
    have := great10_any _ L W (HCA.out.kept hK)
    rw [← hgr] at this
    exact this)
  clear hgr
  go_enter Tryz.func6, Tryz.ntmps6
  go_wp2_with (go_at_call 9; refine Here.mk ?_)
  refine Here.of ?_
  refine (alive10_any _).mono ?_
  rintro e w1 ⟨rfl, hk1⟩
  have HK1 := hid hk1
  clear hk1
  cases gr with
  | true =>
    clear HG
    go_wp2_with (go_at_call 10; refine (HGC.out _ HK1.out).mono ?_; rintro e wg ⟨rfl, hwg⟩; obtain rfl := hwg.symm)
    go_ret
    exact ⟨rfl, HK1.out⟩
  | false =>
    by_cases h60 : 60 < bs.length
    · have h60z : (60 : Int) < (bs.length : Int) := by omega
      clear HG
      go_wp2_with (go_at_call 10; refine (HGC.out _ HK1.out).mono ?_; rintro e wg ⟨rfl, hwg⟩; obtain rfl := hwg.symm)
      go_ret
      exact ⟨rfl, HK1.out⟩
    have h60z : (bs.length : Int) ≤ 60 := by omega
    have hbl : bs.length ≤ 60 := by omega
    have hsl := sortP_len' bs
    have HTO := hid (fun W (hK : Kept [] w W) => to_any _ bs W (HB.out.kept hK) (by omega))
    obtain ⟨s0, hs0⟩ : ∃ s0 : Sp, s0 = ⟨sortP bs, ⟨5, [], []⟩, []⟩ := ⟨_, rfl⟩
    have s0ok : SpOk s0 := by rw [hs0]; exact SpOk.new (sortP_srt bs) (sortP_all bs) (by omega)
    have s0lim : Lim s0 0 := by rw [hs0]; exact Lim.new _
    have HNEW := hid (fun W v (h : PrAt W v bs) => by
      have := snew_ok v bs W h (by omega) (by omega)
      rw [← hs0] at this
      exact this)
    have S0OK := hid s0ok
    have S0LIM := hid s0lim
    clear hs0 s0ok s0lim hsl h60
    go_wp2_with first
      | (go_at_call 10; refine (HGC.out _ HK1.out).mono ?_; rintro e wg ⟨rfl, hwg⟩; obtain rfl := hwg.symm)
      | (go_at_call 12; refine (HTO.out _ HK1.out).mono ?_; clear HTO; rintro e wn ⟨vb, rfl, ho, hk⟩; obtain ⟨ab, cb, rfl⟩ := ownsRow_slice ho; have HKN := hid (HK1.out.trans hk (fun x hx => by cases hx)); have HPB := hid (PrAt.of_own ho rfl); clear ho hk)
      | (go_at_call 11; refine (HNEW.out _ _ HPB.out).mono ?_; clear HNEW; rintro e w2 ⟨A, rfl, hS, hk⟩; have HS2 := hid hS; have HK12 := hid hk; clear hS hk)
    clear h60z HPB HGC HK1
    go_loopg [9] L.length (fun kx s9 wr => ∃ k : Nat, s9 = .int .i64 k ∧ k ≤ L.length ∧ L.length - k ≤ kx ∧ Aside (StoreAt wr (fun b => b < wn.heap.size) A (s0.steps ((L.map (·.1)).take k))) ∧ Aside (KD (fun b => b < wn.heap.size) wn wr))
    case atStart => exact ⟨0, by first | rfl | go_num, by omega, by omega, HS2.out, HK12.out.kd⟩
    case round =>
      clear HS2
      obtain ⟨k, rfl, hk, hkx, HS, HK⟩ := hrel
      have hKR := KD.kept HK.out
      have HKR := hid hKR
      have HKW := hid (HKN.out.trans hKR (fun x hx => by cases hx))
      clear hKR
      by_cases hlt : k < L.length
      · have hltz : (k : Int) < (L.length : Int) := by omega
        obtain ⟨b, off, rfl, _, d1⟩ := HC.out (by omega)
        have hcc := cs_cells (fun j u hu => HKW.out.cell (d1 j u hu) (by simp)) hlt
        have HST := hid (do10_step HS.out S0OK.out S0LIM.out HG.out.symm hlt ((HOK.out _ (List.getElem_mem hlt)).row.kept HKW.out))
        clear d1
        generalize L[k] = q at *
        have e0 := hcc 0 _ rfl; simp only [Nat.add_zero] at e0; have e1 := hcc 1 _ rfl; have e2 := hcc 2 _ rfl; have e3 := hcc 3 _ rfl; have e4 := hcc 4 _ rfl; have e5 := hcc 5 _ rfl; have e6 := hcc 6 _ rfl; have e7 := hcc 7 _ rfl; have e8 := hcc 8 _ rfl; have e9 := hcc 9 _ rfl; have e10 := hcc 10 _ rfl; have e11 := hcc 11 _ rfl; have e12 := hcc 12 _ rfl; have e13 := hcc 13 _ rfl
        clear hcc
        simp only [csF] at HST
        go_wp2_with (go_at_call 20; refine HST.out.mono ?_; clear HST; rintro e w3 ⟨rfl, hS3, hk3⟩; have HS3 := hid hS3; have HK3 := hid (HK.out.trans hk3 (fun _ h => h)); clear hS3 hk3)
        go_roundg (L.length - (k + 1))
        case measure => omega
        case rel => exact ⟨k + 1, by first | rfl | go_num, by omega, Nat.le_refl _, HS3.out, HK3.out⟩
      · obtain rfl : k = L.length := by omega
        have hltz : ¬ (L.length : Int) < (L.length : Int) := by omega
        have hS := HS.out
        rw [call_all] at hS
        obtain ⟨hso, hsl⟩ := call_lim S0OK.out S0LIM.out HG.out.symm L.length
        rw [call_all] at hso hsl
        generalize s0.steps (L.map (·.1)) = s at *
        have HSS := hid hS
        have HSO := hid hso
        have HSL := hid hsl
        have HK0 := hid HK.out
        clear hS hso hsl HS HC HOK HCA HG HK S0OK S0LIM
        obtain ⟨R, hR⟩ : ∃ R, R = s.vote tx 1 := ⟨_, rfl⟩
        have hvo := svote_any HSS.out HSL.out.le (by decide) (by have := HSL.out.rl; omega) HSO.out.wlen tx 1
        rw [← hR] at hvo
        obtain ⟨⟨vv, rl, er⟩, s1⟩ := R
        have HVO := hid hvo
        dsimp only at HVO
        clear hvo
        by_cases he : er = 0
        · subst he
          cases rl with
          | nil =>
            clear hR HSL HSO HSS
            go_wp2_with (go_at_call 25; refine HVO.out.mono ?_; clear HVO; rintro e w3 ⟨v3, rfl, hv3, _, hk3⟩; obtain ⟨a3, c3, rfl, _⟩ := hv3.ex; have HK3 := hid (HK0.out.trans hk3 (fun _ h => h)); clear hv3 hk3)
            go_ret
            exact ⟨rfl, HKN.out.trans (KD.kept HK3.out) (fun x hx => by cases hx)⟩
          | cons r0 rl0 =>
            obtain ⟨rl, hrl⟩ : ∃ rl, rl = r0 :: rl0 := ⟨_, rfl⟩
            rw [← hrl] at hR HVO
            obtain ⟨n1, s2, n2, dl, b2, hB⟩ := back_is HSO.out HSL.out hR.symm rfl (by rw [hrl]; simp)
            have HB1 := hid hB
            have HDL := hid hB.dlen
            have HRL := hid hB.rlen
            have hz : ((rl.length : Int) == 0) = false := by have := hB.rlen; simp only [beq_eq_false_iff_ne, ne_eq]; omega
            have hwr : IntKind.i64.wrap ((rl.length : Int) - 1) = (dl.length : Int) := by have := hB.rlen; have := hB.dlen; rw [IntKind.wrap_i64]; omega
            have hs1 : (rl.length : Int) - 1 = (dl.length : Int) := by have := hB.rlen; omega
            have HB0 := hid (fun W D (h : StoreAt W D A s1) => sbase_any h (by have := hB.ok1.blen; omega))
            have HN0 := hid (fun W v (h : PrAt W v s1.base) => snew_ok v s1.base W h (by have := hB.ok1.blen; omega) (by have := sortP_len' s1.base; have := hB.ok1.blen; omega))
            clear hR hrl hB HSL HSO r0 rl0
            go_wp2_with first
              | (go_at_call 25; refine HVO.out.mono ?_; clear HVO; rintro e w3 ⟨v3, rfl, hv3, hS3, hk3⟩; obtain ⟨a3, c3, rfl, _, _, hc3⟩ := hv3.ex; have HC3 := hid hc3; have HS3 := hid hS3; have HK3 := hid (HK0.out.trans hk3 (fun _ h => h)); clear hv3 hS3 hk3 hc3 HSS)
              | (go_at_call 14; refine (HB0.out _ _ HS3.out).mono ?_; clear HB0; rintro e w4 ⟨v4, rfl, hp4, hk4⟩; obtain ⟨a4, c4, rfl, _⟩ := hp4.at'.ex; have HP4 := hid hp4; have HK34 := hid hk4; clear hp4 hk4)
              | (go_at_call 11; refine (HN0.out _ _ HP4.out).mono ?_; clear HN0; rintro e w5 ⟨A2, rfl, hN5, hk5⟩; have HT5 := hid (Two.make HS3.out HK3.out HK34.out hN5 hk5); have HK35 := hid (HK34.out.trans hk5 (fun x hx => by cases hx)); clear hN5 hk5)
            clear HP4 HS3 HK3 HK34 hz
            have HO0 := hid (ownsRow_made0 w5 68 6 w5.heap.size (Nat.le_refl _))
            have HKL0 := hid ((Kept.refl [] w5).alloc (.cells #[] 68))
            have HF := hid (show (Tryz.prog.info? 68).map (fun i => (i.zero, i.size, i.bytes)) = some (some (.agg #[.int .u8 0, .int .u8 0, .int .u8 0, .int .u8 0, .bool false, .int .i64 0]), 6, 24) by kernel_rfl)
            go_loopg [14, 15] dl.length (fun kx s14 s15 wl => ∃ i : Nat, s15 = .int .i64 i ∧ i ≤ dl.length ∧ dl.length - i ≤ kx ∧ Aside (wl.ownsRow w5.heap.size 68 6 s14 i ((dl.take i).flatMap Pr.f)) ∧ Aside (Kept [] w5 wl))
            case atStart => exact ⟨0, by first | rfl | go_num, by omega, by omega, HO0.out, HKL0.out⟩
            case round =>
              clear HO0 HKL0
              obtain ⟨i, rfl, hi, hix, HO, HKL⟩ := hrel
              have hsz := HKL.out.size
              by_cases hlt : i < dl.length
              · have hltz : (i : Int) < (dl.length : Int) := by omega
                have hir : i < rl.length := by have := HRL.out; omega
                have hirz : (i : Int) < (rl.length : Int) := by omega
                have hb := HDL.out
                obtain ⟨rb, ro, rfl, _, hrc⟩ := HC3.out (by have := HRL.out; omega)
                obtain ⟨_, _, _, e0, e1, e2, e3, _, _, e4, e5⟩ := rec_cells hrc hir
                obtain ⟨hg1, hg2⟩ := HB1.out.get i hlt hir
                have HT := hid (show dl.take (i + 1) = dl.take i ++ [dl[i]] by rw [List.take_succ_eq_append_getElem hlt])
                rw [hg1] at e0 e1 e2 e3
                rw [hg2] at e4 e5
                clear hrc hg1 hg2 HB1
                generalize dl[i] = x at *
                obtain ⟨⟨x1, x2, x3, x4⟩, ⟨x5, x6⟩⟩ := x
                dsimp only at e0 e1 e2 e3 e4 e5
                have HS := hid (show ∀ w', Kept [] w5 w' → w'.cell? ⟨rb, ro + i * 11 + 3, none⟩ = some (.int .u8 (x1.toNat : Int)) ∧ w'.cell? ⟨rb, ro + i * 11 + 4, none⟩ = some (.int .u8 (x2.toNat : Int)) ∧ w'.cell? ⟨rb, ro + i * 11 + 5, none⟩ = some (.int .u8 (x3.toNat : Int)) ∧ w'.cell? ⟨rb, ro + i * 11 + 6, none⟩ = some (.int .u8 (x4.toNat : Int)) ∧ w'.cell? ⟨rb, ro + i * 11 + 9, none⟩ = some (.bool x5) ∧ w'.cell? ⟨rb, ro + i * 11 + 10, none⟩ = some (.int .i64 x6) from fun w' hk' => by
                  have hk := HK35.out.trans hk' (fun x hx => by cases hx)
                  exact ⟨hk.cell e0 (by simp), hk.cell e1 (by simp), hk.cell e2 (by simp), hk.cell e3 (by simp), hk.cell e4 (by simp), hk.cell e5 (by simp)⟩)
                have HKd := hid HKL.out.drew
                clear e0 e1 e2 e3 e4 e5
                go_wp2_with fail
                go_region_held3 (fun w' => w'.cell? ⟨rb, ro + i * 11 + 3, none⟩ = some (.int .u8 (x1.toNat : Int)) ∧ w'.cell? ⟨rb, ro + i * 11 + 4, none⟩ = some (.int .u8 (x2.toNat : Int)) ∧ w'.cell? ⟨rb, ro + i * 11 + 5, none⟩ = some (.int .u8 (x3.toNat : Int)) ∧ w'.cell? ⟨rb, ro + i * 11 + 6, none⟩ = some (.int .u8 (x4.toNat : Int)) ∧ w'.cell? ⟨rb, ro + i * 11 + 9, none⟩ = some (.bool x5) ∧ w'.cell? ⟨rb, ro + i * 11 + 10, none⟩ = some (.int .i64 x6))
                  ((refine HS.out _ ?_; first | exact hk1 | exact HKd.out | exact HKd.out.alloc _))
                  ((rw [if_pos (by rfl)]; refine wp_append_is _ _ 22 rfl 68 _ 6 24 Tryz.underlying22 HF.out rfl (by decide) (by decide) w5.heap.size _ i _ rfl (ownsRow_kept (HO.out) (((Kept.refl [] wr).drew).alloc _) (by simp)) _ 1 1 (Pr.f ⟨⟨x1, x2, x3, x4⟩, ⟨x5, x6⟩⟩) rfl rfl (fun j u h => cells_new _ (Pr.f ⟨⟨x1, x2, x3, x4⟩, ⟨x5, x6⟩⟩) _ j u h) (by simp [Pr.f, Value.oneCell']) (by omega) (by simp; omega) ?_; intro v' w1 hown1 hgrow hnil; have hk1 := (HKd.out.alloc (.cells (Pr.f ⟨⟨x1, x2, x3, x4⟩, ⟨x5, x6⟩⟩).toArray 68)).grown_own (ownsRow_kept (HO.out) (((Kept.refl [] wr).drew).alloc _) (by simp)) hgrow (Nat.le_refl _)))
                have HK1 := hid hk1
                have H1 := hid hown1
                clear hown1 hgrow hnil hk1
                go_wp2
                go_roundg (dl.length - (i + 1))
                case measure => omega
                case rel => exact ⟨i + 1, by first | rfl | go_num, by omega, Nat.le_refl _, by show World.ownsRow _ _ _ _ _ _ _; rw [HT.out, List.flatMap_append]; simpa using H1.out, HK1.out⟩
              · obtain rfl : i = dl.length := by omega
                have hltz : ¬ (dl.length : Int) < (dl.length : Int) := by omega
                have HO6 := hid (to_own HO.out rfl)
                obtain ⟨a6, c6, rfl⟩ := ownsRow_slice HO6.out
                have hb := HB1.out
                have HTO := hid (to_any _ dl wr (SlAt.of_own HO6.out) (by have := HDL.out; omega))
                have HRE := hid (fun W v (hK : Kept [] w5 W) (hP : PrAt W v dl) (hI : ∀ b, bvB v b → w5.heap.size ≤ b ∧ b < W.heap.size) => HT5.out.restore hK tx hP hI HDL.out hb.ok0 ⟨fun p hp => by simp at hp, by simp⟩ hb.res)
                have HSTA := hid (fun W (h : Two wn.heap.size wn W A A2 s1 n1) => h.swap.state tx hb.st)
                have HDN := hid (fun W (h : Two wn.heap.size wn W A A2 s1 n1) => h.swap.draft hb.okn tx hb.dn)
                have HDS := hid (fun W (h : Two wn.heap.size wn W A A2 s1 n1) => h.draft hb.ok1 tx hb.d1)
                have HES := hid (fun W (h : Two wn.heap.size wn W A A2 s1 n1) => h.end_ hb.ok1 hb.lim1 tx hb.e1)
                have HEN := hid (fun W (h : Two wn.heap.size wn W A A2 s2 n1) => h.swap.end_ hb.okn hb.limn tx hb.en)
                have HBN := hid (fun W (h : Two wn.heap.size wn W A2 A n2 s2) => h.base hb.okn2 hb.bn)
                have HBS := hid (fun W (h : Two wn.heap.size wn W A2 A n2 s2) => h.swap.base hb.ok2 hb.b1)
                have HF1 := hid (fun W v (h : PrAt W v dl) => from_any v dl W h.at' (by have := HDL.out; omega))
                have HF2 := hid HF1.out
                have HF3 := hid (fun W v (h : PrAt W v b2) => from_any v b2 W h.at' (by have := hb.ok2.blen; rw [hb.b1] at this; omega))
                have HF4 := hid HF3.out
                clear hb HB1 HO HC3 HRL
                go_wp2_with first
                  | (go_at_call 12; refine HTO.out.mono ?_; clear HTO; rintro e w7 ⟨v7, rfl, ho7, hk7⟩; obtain ⟨a7, c7, rfl⟩ := ownsRow_slice ho7; have HP7 := hid (PrAt.of_own ho7 rfl); have HIN7 := hid (fun b hb => show w5.heap.size ≤ b ∧ b < w7.heap.size from by have := own_in ho7 b hb; omega); have HK57 := hid (HKL.out.trans hk7 (fun x hx => by cases hx)); clear ho7 hk7)
                  | (go_at_call 27; refine (HRE.out _ _ HK57.out HP7.out HIN7.out).mono ?_; clear HRE; rintro e w8 ⟨rfl, hT8⟩; have HT8 := hid hT8; clear hT8)
                  | (go_at_call 16; refine (HSTA.out _ HT8.out).mono ?_; clear HSTA; rintro e w9 ⟨rfl, hk9⟩; have HT9 := hid (HT8.out.kept hk9); clear hk9)
                  | (go_at_call 15; refine (HDN.out _ HT9.out).mono ?_; clear HDN; rintro e w10 ⟨v10, rfl, hp10, hk10⟩; obtain ⟨a10, c10, rfl, _⟩ := hp10.at'.ex; have HP10 := hid hp10; have HT10 := hid (HT9.out.kept hk10); clear hp10 hk10)
                  | (go_at_call 13; refine (HF1.out _ _ HP10.out).mono ?_; clear HF1; rintro e w11 ⟨v11, rfl, ho11, hk11⟩; obtain ⟨a11, c11, rfl⟩ := ownsRow_slice ho11; have HO11 := hid (SlAt.of_own ho11); have HT11 := hid (HT10.out.kept hk11); clear ho11 hk11 HP10)
                  | (go_at_call 15; refine (HDS.out _ HT11.out).mono ?_; clear HDS; rintro e w12 ⟨v12, rfl, hp12, hk12⟩; obtain ⟨a12, c12, rfl, _⟩ := hp12.at'.ex; have HP12 := hid hp12; have HT12 := hid (HT11.out.kept hk12); have HO12 := hid (HO11.out.kept hk12); clear hp12 hk12 HO11)
                  | (go_at_call 13; refine (HF2.out _ _ HP12.out).mono ?_; clear HF2; rintro e w13 ⟨v13, rfl, ho13, hk13⟩; obtain ⟨a13, c13, rfl⟩ := ownsRow_slice ho13; have HO13 := hid (SlAt.of_own ho13); have HO13b := hid (HO12.out.kept hk13); have HT13 := hid (HT12.out.kept hk13); clear ho13 hk13 HP12)
                  | (go_at_call 21; refine (same_two _ _ dl w13 HO13b.out HO13.out).mono ?_; rintro e w14 ⟨rfl, hk14⟩; have HT14 := hid (HT13.out.kept hk14); clear hk14 HO13 HO13b)
                  | (go_at_call 28; refine (HES.out _ HT14.out).mono ?_; clear HES; rintro e w15 ⟨rfl, hT15⟩; have HT15 := hid hT15; clear hT15)
                  | (go_at_call 28; refine (HEN.out _ HT15.out).mono ?_; clear HEN; rintro e w16 ⟨rfl, hT16⟩; have HT16 := hid hT16; clear hT16)
                  | (go_at_call 14; refine (HBN.out _ HT16.out).mono ?_; clear HBN; rintro e w17 ⟨v17, rfl, hp17, hk17⟩; obtain ⟨a17, c17, rfl, _⟩ := hp17.at'.ex; have HP17 := hid hp17; have HT17 := hid (HT16.out.kept hk17); clear hp17 hk17)
                  | (go_at_call 13; refine (HF3.out _ _ HP17.out).mono ?_; clear HF3; rintro e w18 ⟨v18, rfl, ho18, hk18⟩; obtain ⟨a18, c18, rfl⟩ := ownsRow_slice ho18; have HO18 := hid (SlAt.of_own ho18); have HT18 := hid (HT17.out.kept hk18); clear ho18 hk18 HP17)
                  | (go_at_call 14; refine (HBS.out _ HT18.out).mono ?_; clear HBS; rintro e w19 ⟨v19, rfl, hp19, hk19⟩; obtain ⟨a19, c19, rfl, _⟩ := hp19.at'.ex; have HP19 := hid hp19; have HO19 := hid (HO18.out.kept hk19); have HT19 := hid (HT18.out.kept hk19); clear hp19 hk19 HO18)
                  | (go_at_call 13; refine (HF4.out _ _ HP19.out).mono ?_; clear HF4; rintro e w20 ⟨v20, rfl, ho20, hk20⟩; obtain ⟨a20, c20, rfl⟩ := ownsRow_slice ho20; have HO20 := hid (SlAt.of_own ho20); have HO20b := hid (HO19.out.kept hk20); have HT20 := hid (HT19.out.kept hk20); clear ho20 hk20 HP19)
                  | (go_at_call 21; refine (same_two _ _ b2 w20 HO20b.out HO20.out).mono ?_; rintro e w21 ⟨rfl, hk21⟩; have HT21 := hid (HT20.out.kept hk21); clear hk21)
                go_ret
                exact ⟨rfl, HKN.out.trans (KD.kept HT21.out.kd) (fun x hx => by cases hx)⟩
        · have heb : (er == 0) = false := by simpa using he
          clear hR he HSL HSO HSS
          go_wp2_with (go_at_call 25; refine HVO.out.mono ?_; clear HVO; rintro e w3 ⟨v3, rfl, hv3, _, hk3⟩; obtain ⟨a3, c3, rfl, _⟩ := hv3.ex; have HK3 := hid (HK0.out.trans hk3 (fun _ h => h)); clear hv3 hk3)
          go_ret
          exact ⟨rfl, HKN.out.trans (KD.kept HK3.out) (fun x hx => by cases hx)⟩
--@@ end
end Go.Proofs.YtpfgpbafechncaaGreat.storeRestores
