/- StoreGone: the walk. -/
import Derived.Test.YtpfgpbafechncaaGreatStoreW
set_option linter.all false
namespace Go.Proofs.YtpfgpbafechncaaGreat.storeGone
open Go.RowKit Go.Shelf Go.Lib Go.Sort Go.Proofs Go.Proofs.YtpfgpbafechncaaGreat
set_option linter.unusedVariables false
set_option linter.unusedSimpArgs false

--@@ concordatlaw10.StoreGone
set_option maxHeartbeats 8000000 in
set_option maxRecDepth 100000 in
theorem walk (v0 : Value) (bs : List Pr) (v1 : Value) (L : List (Cs × Value)) (w : World) (hb0 : SlAt w v0 6 bs.length (bs.flatMap Pr.f)) (_hb : ∀ x ∈ bs, x.ok) (h0 : SlAt w v1 14 L.length (L.flatMap csF)) (hok : ∀ q ∈ L, CsOk w q) :
    Calls Tryz.prog 7 #[v0, v1] w fun e w' => e = .returned (.bool true) ∧ Kept [] w w' := by
  have HCA := hid (show CsAt w v1 L from ⟨h0, fun q hq => (hok q hq).row⟩)
  obtain ⟨a, cap, rfl, hmax, _, hc⟩ := h0.ex
  have HC := hid hc
  have HOK := hid hok
  have HB := hid hb0
  obtain ⟨ba0, bc0, rfl, hbm, _⟩ := hb0.ex
  clear hb0 _hb
  clear h0 hc hok 
  obtain ⟨gr, hgr⟩ : ∃ gr, gr = greatC (L.map (·.1)) := ⟨_, rfl⟩
  have HG := hid hgr
  have HGC := hid (fun W (hK : Kept [] w W) => by
    have := great10_any _ L W (HCA.out.kept hK)
    rw [← hgr] at this
    exact this)
  clear hgr
  go_enter Tryz.func7, Tryz.ntmps7
  go_wp2_with (go_at_call 9; refine Here.mk ?_)
  refine Here.of ?_
  refine (alive10_any _).mono ?_
  rintro e w1 ⟨rfl, hk1⟩
  have HK1 := hid hk1
  clear hk1
  cases gr with
  | true =>
    clear HG
    go_wp2_with (go_at_call 10; refine (HGC.out _ HK1.out).mono ?_; rintro e wg ⟨rfl, hwg⟩; obtain rfl := hwg.symm)
    go_ret
    exact ⟨rfl, HK1.out⟩
  | false =>
    by_cases h60 : 60 < bs.length
    · have h60z : (60 : Int) < (bs.length : Int) := by omega
      clear HG
      go_wp2_with (go_at_call 10; refine (HGC.out _ HK1.out).mono ?_; rintro e wg ⟨rfl, hwg⟩; obtain rfl := hwg.symm)
      go_ret
      exact ⟨rfl, HK1.out⟩
    have h60z : (bs.length : Int) ≤ 60 := by omega
    have hbl : bs.length ≤ 60 := by omega
    have hsl := sortP_len' bs
    have HTO := hid (fun W (hK : Kept [] w W) => to_any _ bs W (HB.out.kept hK) (by omega))
    obtain ⟨s0, hs0⟩ : ∃ s0 : Sp, s0 = ⟨sortP bs, ⟨5, [], []⟩, []⟩ := ⟨_, rfl⟩
    have s0ok : SpOk s0 := by rw [hs0]; exact SpOk.new (sortP_srt bs) (sortP_all bs) (by omega)
    have s0lim : Lim s0 0 := by rw [hs0]; exact Lim.new _
    have HNEW := hid (fun W v (h : PrAt W v bs) => by
      have := snew_ok v bs W h (by omega) (by omega)
      rw [← hs0] at this
      exact this)
    have S0OK := hid s0ok
    have S0LIM := hid s0lim
    clear hs0 s0ok s0lim hsl h60
    go_wp2_with first
      | (go_at_call 10; refine (HGC.out _ HK1.out).mono ?_; rintro e wg ⟨rfl, hwg⟩; obtain rfl := hwg.symm)
      | (go_at_call 12; refine (HTO.out _ HK1.out).mono ?_; clear HTO; rintro e wn ⟨vb, rfl, ho, hk⟩; obtain ⟨ab, cb, rfl⟩ := ownsRow_slice ho; have HKN := hid (HK1.out.trans hk (fun x hx => by cases hx)); have HPB := hid (PrAt.of_own ho rfl); clear ho hk)
      | (go_at_call 11; refine (HNEW.out _ _ HPB.out).mono ?_; clear HNEW; rintro e w2 ⟨A, rfl, hS, hk⟩; have HS2 := hid hS; have HK12 := hid hk; clear hS hk)
    clear h60z HPB HGC HK1
    go_loopg [7] L.length (fun kx s9 wr => ∃ k : Nat, s9 = .int .i64 k ∧ k ≤ L.length ∧ L.length - k ≤ kx ∧ Aside (StoreAt wr (fun b => b < wn.heap.size) A (s0.steps ((L.map (·.1)).take k))) ∧ Aside (KD (fun b => b < wn.heap.size) wn wr))
    case atStart => exact ⟨0, by first | rfl | go_num, by omega, by omega, HS2.out, HK12.out.kd⟩
    case round =>
      clear HS2
      obtain ⟨k, rfl, hk, hkx, HS, HK⟩ := hrel
      have hKR := KD.kept HK.out
      have HKR := hid hKR
      have HKW := hid (HKN.out.trans hKR (fun x hx => by cases hx))
      clear hKR
      by_cases hlt : k < L.length
      · have hltz : (k : Int) < (L.length : Int) := by omega
        obtain ⟨b, off, rfl, _, d1⟩ := HC.out (by omega)
        have hcc := cs_cells (fun j u hu => HKW.out.cell (d1 j u hu) (by simp)) hlt
        have HST := hid (do10_step HS.out S0OK.out S0LIM.out HG.out.symm hlt ((HOK.out _ (List.getElem_mem hlt)).row.kept HKW.out))
        clear d1
        generalize L[k] = q at *
        have e0 := hcc 0 _ rfl; simp only [Nat.add_zero] at e0; have e1 := hcc 1 _ rfl; have e2 := hcc 2 _ rfl; have e3 := hcc 3 _ rfl; have e4 := hcc 4 _ rfl; have e5 := hcc 5 _ rfl; have e6 := hcc 6 _ rfl; have e7 := hcc 7 _ rfl; have e8 := hcc 8 _ rfl; have e9 := hcc 9 _ rfl; have e10 := hcc 10 _ rfl; have e11 := hcc 11 _ rfl; have e12 := hcc 12 _ rfl; have e13 := hcc 13 _ rfl
        clear hcc
        simp only [csF] at HST
        go_wp2_with (go_at_call 20; refine HST.out.mono ?_; clear HST; rintro e w3 ⟨rfl, hS3, hk3⟩; have HS3 := hid hS3; have HK3 := hid (HK.out.trans hk3 (fun _ h => h)); clear hS3 hk3)
        go_roundg (L.length - (k + 1))
        case measure => omega
        case rel => exact ⟨k + 1, by first | rfl | go_num, by omega, Nat.le_refl _, HS3.out, HK3.out⟩
      · obtain rfl : k = L.length := by omega
        have hltz : ¬ (L.length : Int) < (L.length : Int) := by omega
        have hS := HS.out
        rw [call_all] at hS
        obtain ⟨hso, hsl⟩ := call_lim S0OK.out S0LIM.out HG.out.symm L.length
        rw [call_all] at hso hsl
        generalize s0.steps (L.map (·.1)) = s at *
        have HSS := hid hS
        have HSO := hid hso
        have HSL := hid hsl
        have HK0 := hid HK.out
        clear hS hso hsl HS HC HOK HCA HG HK S0OK S0LIM
        have hbn := HSO.out.blen
        have HBA := hid (sbase_any HSS.out (by omega))
        have htx := txs_nodup HSO.out
        obtain ⟨T, hT⟩ : ∃ T, T = s.txs := ⟨_, rfl⟩
        have HTX := hid (fun W D (h : StoreAt W D A s) => by
          have := stxs_any h HSO.out.kn (fun x hx => (HSO.out.each x hx).num) (by have := HSO.out.len; omega)
          rw [← hT] at this
          exact this)
        have htm : ∀ x, x ∈ s.works.map (·.1) ↔ x ∈ T := fun x => by rw [hT]; exact mem_txs.symm
        have htl : T.length ≤ 8 := by rw [hT]; unfold Sp.txs; rw [(srtI_perm _).length_eq, List.length_map]; exact HSO.out.len
        rw [← hT] at htx
        have HTM := hid htm
        have HTN := hid htx
        clear htx htm hT
        go_wp2_with first
          | (go_at_call 14; refine HBA.out.mono ?_; clear HBA; rintro e w3 ⟨v3, rfl, hp3, hk3⟩; obtain ⟨a3, c3, rfl, _⟩ := hp3.at'.ex; have HFR := hid (from_any _ s.base w3 hp3.at' (by omega)); have HS3 := hid (HSS.out.kept hk3); have HK3 := hid (HK0.out.trans (hk3.kd' HSS.out.dlt) (fun _ h => h)); clear hp3 hk3)
          | (go_at_call 13; refine HFR.out.mono ?_; clear HFR; rintro e w4 ⟨v4, rfl, ho4, hk4⟩; obtain ⟨a4, c4, rfl⟩ := ownsRow_slice ho4; have HS4 := hid (HS3.out.widen hk4); have HK4 := hid (HK3.out.trans (hk4.kd' HS3.out.dlt) (fun _ h => h)); have HO4 := hid ho4; clear ho4 hk4)
          | (go_at_call 23; refine (HTX.out _ _ HS4.out).mono ?_; clear HTX; rintro e w5 ⟨v5, rfl, ho5, hk5⟩; obtain ⟨a5, c5, rfl⟩ := ownsRow_slice ho5; have HS5 := hid (HS4.out.widen hk5); have HK5 := hid (HK4.out.trans (hk5.kd' (fun b hb => HS4.out.dlt b (.inl hb))) (fun _ h => h)); have HO5 := hid ho5; have HB5 := hid ((SlAt.of_own HO4.out).kept hk5); clear ho5 hk5)
        have HIN4 := hid (own_in HO4.out)
        have HIN5 := hid (own_in HO5.out)
        obtain ⟨P, hP⟩ : ∃ P : Nat → Prop, P = fun b => (b < wn.heap.size ∨ w3.heap.size ≤ b ∧ b < w4.heap.size) ∨ w4.heap.size ≤ b ∧ b < w5.heap.size := ⟨_, rfl⟩
        have hS5 := HS5.out
        rw [← hP] at hS5
        have HP1 := hid (show ∀ b, b < wn.heap.size → P b from fun b hb => by rw [hP]; exact .inl (.inl hb))
        have HP4 := hid (show ∀ b, bvB (.slice a4 s.base.length c4) b → P b from fun b hb => by rw [hP]; exact .inl (.inr (HIN4.out b hb)))
        have HP5 := hid (show ∀ b, bvB (.slice a5 T.length c5) b → P b from fun b hb => by rw [hP]; exact .inr (HIN5.out b hb))
        have HSP := hid hS5
        have HSB := hid (show ∃ base, base = s.base from ⟨_, rfl⟩)
        have HT5 := hid (SlAt.of_own HO5.out)
        clear hP hS5 HS5 HS4 HS3 HSS HK3 HK4 HO4 HO5 HIN4 HIN5
        go_loopg [10] T.length (fun kx s10 wr => ∃ (i : Nat) (si : Sp), s10 = .int .i64 i ∧ i ≤ T.length ∧ T.length - i ≤ kx ∧ Aside (StoreAt wr P A si) ∧ Aside (SpOk si) ∧ Aside (Lim si 1280) ∧ Aside (si.base = s.base) ∧ Aside (∀ x, x ∈ si.works.map (·.1) ↔ x ∈ T.drop i) ∧ Aside (KD P w5 wr))
        case atStart => exact ⟨0, s, by first | rfl | go_num, by omega, by omega, HSP.out, HSO.out, HSL.out, rfl, HTM.out, KD.same⟩
        case round =>
          clear HSP
          obtain ⟨i, si, rfl, hi, hix, HSI, HOI, HLI, HBI, HMI, HKI⟩ := hrel
          by_cases hlt : i < T.length
          · have hltz : (i : Int) < (T.length : Int) := by omega
            obtain ⟨ga, gc, hga, _, _, hg5⟩ := HT5.out.ex
            obtain ⟨g, go, hg1, _, hgc⟩ := hg5 (by omega)
            cases hga
            subst hg1
            have HCE := hid (fun W (hK : KD P w5 W) => hK.cell (hgc i (.int .i64 T[i]) (by simp [hlt])) (HP5.out g ⟨_, _, _, rfl, by omega, rfl⟩))
            have HDR := hid (show T.drop i = T[i] :: T.drop (i + 1) from List.drop_eq_getElem_cons hlt)
            have HND := hid (show (T[i] :: T.drop (i + 1)).Nodup by rw [← HDR.out]; exact HTN.out.sublist (List.drop_sublist _ _))
            clear hg5 hgc
            generalize T[i] = tx at *
            obtain ⟨wk, hwk⟩ : ∃ wk, aget tx si.works = some wk := by
              have h1 : tx ∈ si.works.map (·.1) := (HMI.out tx).2 (by rw [HDR.out]; exact List.mem_cons_self)
              cases hx : aget tx si.works with
              | some wk => exact ⟨wk, rfl⟩
              | none => exact absurd h1 (tget_none.1 hx)
            have hen := end_no hwk
            have HEN := hid (by
              have := send_any HSI.out HLI.out.le (by decide) (by have := HLI.out.rl; omega) HOI.out.wlen (by have := HOI.out.blen; omega) tx false
              rw [hen] at this
              exact this)
            have HOF := hid (HOI.out.forget tx)
            have HLF := hid (HLI.out.forget HOI.out tx)
            have HGF := hid (forget_gone HOI.out tx)
            have HBF := hid (show (si.forget tx).base = s.base from HBI.out)
            have HMF := hid (forget_works HOI.out (T.drop (i + 1)) (fun x => (HMI.out x).trans (by rw [HDR.out])) HND.out)
            generalize si.forget tx = sf at *
            have HSTF := hid (fun W (h : StoreAt W P A sf) => by
              have := sstate_any h tx
              rw [state_gone HGF.out] at this
              exact this)
            have HLCF := hid (fun W (h : StoreAt W P A sf) => by
              have := slocks_any h HLF.out.le (by decide) (by have := HLF.out.rl; omega) tx
              rw [gone_keys HOF.out HGF.out] at this
              exact this)
            have ce := HCE.out _ HKI.out
            clear hwk hen HSI HOI HLI HBI HMI HDR HND
            go_wp2_with first
              | (go_at_call 28; refine HEN.out.mono ?_; clear HEN; rintro e w6 ⟨rfl, hS6, hk6⟩; have HS6 := hid hS6; have HK6 := hid (HKI.out.trans hk6 (fun _ h => h)); clear ce hS6 hk6; have ce := HCE.out _ HK6.out)
              | (go_at_call 16; refine (HSTF.out _ HS6.out).mono ?_; clear HSTF; rintro e w7 ⟨rfl, hk7⟩; have HS7 := hid (HS6.out.kept hk7); have HK7 := hid (HK6.out.trans (hk7.kd' HS6.out.dlt) (fun _ h => h)); clear ce hk7; have ce := HCE.out _ HK7.out)
              | (go_at_call 22; refine (HLCF.out _ HS7.out).mono ?_; clear HLCF; rintro e w8 ⟨v8, rfl, ho8, hk8⟩; obtain ⟨a8, c8, rfl⟩ := ownsRow_slice ho8; have HS8 := hid (HS7.out.kept hk8); have HK8 := hid (HK7.out.trans (hk8.kd' HS7.out.dlt) (fun _ h => h)); clear ho8 hk8)
            go_roundg (T.length - (i + 1))
            case measure => omega
            case rel => exact ⟨i + 1, sf, by first | rfl | go_num, by omega, Nat.le_refl _, HS8.out, HOF.out, HLF.out, HBF.out, HMF.out, HK8.out⟩
          · obtain rfl : i = T.length := by omega
            have hltz : ¬ (T.length : Int) < (T.length : Int) := by omega
            have hwe : si.works = [] := by
              cases hw : si.works with
              | nil => rfl
              | cons x l =>
                have := (HMI.out x.1).1 (by rw [hw]; simp)
                rw [List.drop_length] at this
                cases this
            have hte : si.txs = [] := by unfold Sp.txs; rw [hwe]; unfold srtI; simp
            have HTE := hid (by
              have := stxs_any HSI.out HOI.out.kn (fun x hx => (HOI.out.each x hx).num) (by have := HOI.out.len; omega)
              rw [hte] at this
              exact this)
            have HBE := hid (fun W (h : StoreAt W P A si) => by
              have := sbase_any h (by have := HOI.out.blen; omega)
              rw [HBI.out] at this
              exact this)
            have hbe : (si.begin_ 1).1 = 0 := by
              unfold Sp.begin_ Sp.may
              rw [hwe]
              rfl
            have HBG := hid (fun W (h : StoreAt W P A si) => by
              have := sbegin_any h 1
              rw [hbe] at this
              exact this)
            have HBR := hid (fun W (hK : KD P w5 W) => HB5.out.kd' hK HP4.out)
            clear hwe hte hbe HOI HLI HBI HMI HTM HTN
            go_wp2_with first
              | (go_at_call 23; refine HTE.out.mono ?_; clear HTE; rintro e w6 ⟨v6, rfl, ho6, hk6⟩; obtain ⟨a6, c6, rfl⟩ := ownsRow_slice ho6; have HS6 := hid (HSI.out.kept hk6); have HK6 := hid (HKI.out.trans (hk6.kd' HSI.out.dlt) (fun _ h => h)); clear ho6 hk6)
              | (go_at_call 14; refine (HBE.out _ HS6.out).mono ?_; clear HBE; rintro e w7 ⟨v7, rfl, hp7, hk7⟩; obtain ⟨a7, c7, rfl, _⟩ := hp7.at'.ex; have HFR := hid (from_any _ s.base w7 hp7.at' (by omega)); have HS7 := hid (HS6.out.kept hk7); have HK7 := hid (HK6.out.trans (hk7.kd' HS6.out.dlt) (fun _ h => h)); clear hp7 hk7)
              | (go_at_call 13; refine HFR.out.mono ?_; clear HFR; rintro e w8 ⟨v8, rfl, ho8, hk8⟩; obtain ⟨a8, c8, rfl⟩ := ownsRow_slice ho8; have HS8 := hid (HS7.out.kept hk8); have HK8 := hid (HK7.out.trans (hk8.kd' HS7.out.dlt) (fun _ h => h)); have HO8 := hid ho8; clear ho8 hk8)
              | (go_at_call 21; refine (samePairs_any _ _ s.base s.base w8 (SlAt.of_own HO8.out) (HBR.out _ HK8.out)).mono ?_; rintro e w9 ⟨rfl, hk9⟩; have HS9 := hid (HS8.out.kept hk9); have HK9 := hid (HK8.out.trans (hk9.kd' HS8.out.dlt) (fun _ h => h)); clear hk9)
              | (go_at_call 24; refine (HBG.out _ HS9.out).mono ?_; clear HBG; rintro e w10 ⟨rfl, hS10, hk10⟩; have HK10 := hid (HK9.out.trans hk10 (fun _ h => h)); clear hS10 hk10)
            go_ret
            exact ⟨rfl, HKN.out.trans (KD.kept (HK5.out.trans HK10.out HP1.out)) (fun x hx => by cases hx)⟩
--@@ end
end Go.Proofs.YtpfgpbafechncaaGreat.storeGone
