/- StoreHidden: the walk. -/
import Derived.Test.YtpfgpbafechncaaGreatStoreW
import Derived.BigQuiet
set_option linter.all false
namespace Go.Proofs.YtpfgpbafechncaaGreat.storeHidden
open Go.RowKit Go.Shelf Go.Lib Go.Sort Go.Proofs Go.Proofs.YtpfgpbafechncaaGreat
theorem val_same (b : Bool) (n : Int) (w : World) : (Op.equalIn 10000 44 (.agg #[.bool b, .int .i64 n]) (.agg #[.bool b, .int .i64 n])).run Tryz.prog w = .ok true w := by
  have := eq_val w 9998 ⟨b, n⟩ ⟨b, n⟩
  simpa [V.v] using this
theorem meas_lt {n k g : Nat} (h : k < n) (hx : n - k ≤ g) : n - (k + 1) < g := by omega
theorem same_any (v1 v2 : Value) (xs : List Pr) (w : World) (h1 : SlAt w v1 6 xs.length (xs.flatMap Pr.f)) (h2 : SlAt w v2 6 xs.length (xs.flatMap Pr.f)) :
    Calls Tryz.prog 21 #[v1, v2] w fun e w' => e = .returned (.bool true) ∧ Kept [] w w' := by
  have := samePairs_any v1 v2 xs xs w h1 h2
  simpa using this
theorem rfind_is (v : Value) (l : List Pr) (k : K4) (rt : Bool) (rn : Int) (w : World) (h : SlAt w v 6 l.length (l.flatMap Pr.f)) (hg : (⟨rt, rn⟩ : V) = findP l k) :
    Calls Tryz.prog 18 #[v, k.v] w fun e w' => e = .returned (.agg #[.bool rt, .int .i64 rn]) ∧ Kept [] w w' := by
  have := rfind_any v l k w h
  rw [← hg] at this
  exact this
theorem draft_len16 {s : Sp} (H : SpOk s) (tx : Int) : (s.draftOf tx).length ≤ 16 := by
  unfold Sp.draftOf
  cases hx : aget tx s.works with
  | none => simp
  | some wk =>
    have := keysP_len (wk.ws.map toPr)
    have h2 := (H.each _ (tget_mem hx)).len
    simp only [Option.map_some, Option.getD_some, List.length_map] at this ⊢
    simp only at h2
    omega
--@@ concordatlaw10.StoreHidden
set_option maxHeartbeats 8000000 in
set_option maxRecDepth 100000 in
theorem walk (v0 : Value) (bs : List Pr) (v1 : Value) (L : List (Cs × Value)) (w : World) (hb0 : SlAt w v0 6 bs.length (bs.flatMap Pr.f)) (_hb : ∀ x ∈ bs, x.ok) (h0 : SlAt w v1 14 L.length (L.flatMap csF)) (hok : ∀ q ∈ L, CsOk w q) :
    Calls Tryz.prog 3 #[v0, v1] w fun e w' => e = .returned (.bool true) ∧ Kept [] w w' := by
  have HCA := hid (show CsAt w v1 L from ⟨h0, fun q hq => (hok q hq).row⟩)
  obtain ⟨a, cap, rfl, hmax, _, hc⟩ := h0.ex
  have HC := hid hc
  have HOK := hid hok
  have HB := hid hb0
  obtain ⟨ba0, bc0, rfl, hbm, _⟩ := hb0.ex
  clear hb0 _hb
  clear h0 hc hok 
  obtain ⟨gr, hgr⟩ : ∃ gr, gr = greatC (L.map (·.1)) := ⟨_, rfl⟩
  have HG := hid hgr
  have HGC := hid (fun W (hK : Kept [] w W) => by
    have := great10_any _ L W (HCA.out.kept hK)
    rw [← hgr] at this
    exact this)
  clear hgr
  go_enter Tryz.func3, Tryz.ntmps3
  go_wp2_with (go_at_call 9; refine Here.mk ?_)
  refine Here.of ?_
  refine (alive10_any _).mono ?_
  rintro e w1 ⟨rfl, hk1⟩
  have HK1 := hid hk1
  clear hk1
  cases gr with
  | true =>
    clear HG
    go_wp2_with (go_at_call 10; refine (HGC.out _ HK1.out).mono ?_; rintro e wg ⟨rfl, hwg⟩; obtain rfl := hwg.symm)
    go_ret
    exact ⟨rfl, HK1.out⟩
  | false =>
    by_cases h60 : 60 < bs.length
    · have h60z : (60 : Int) < (bs.length : Int) := by omega
      clear HG
      go_wp2_with (go_at_call 10; refine (HGC.out _ HK1.out).mono ?_; rintro e wg ⟨rfl, hwg⟩; obtain rfl := hwg.symm)
      go_ret
      exact ⟨rfl, HK1.out⟩
    have h60z : (bs.length : Int) ≤ 60 := by omega
    have hbl : bs.length ≤ 60 := by omega
    have hsl := sortP_len' bs
    have HTO := hid (fun W (hK : Kept [] w W) => to_any _ bs W (HB.out.kept hK) (by omega))
    obtain ⟨s0, hs0⟩ : ∃ s0 : Sp, s0 = ⟨sortP bs, ⟨5, [], []⟩, []⟩ := ⟨_, rfl⟩
    have s0ok : SpOk s0 := by rw [hs0]; exact SpOk.new (sortP_srt bs) (sortP_all bs) (by omega)
    have s0lim : Lim s0 0 := by rw [hs0]; exact Lim.new _
    have HNEW := hid (fun W v (h : PrAt W v bs) => by
      have := snew_ok v bs W h (by omega) (by omega)
      rw [← hs0] at this
      exact this)
    have S0OK := hid s0ok
    have S0LIM := hid s0lim
    clear hs0 s0ok s0lim hsl h60
    go_wp2_with first
      | (go_at_call 10; refine (HGC.out _ HK1.out).mono ?_; rintro e wg ⟨rfl, hwg⟩; obtain rfl := hwg.symm)
      | (go_at_call 12; refine (HTO.out _ HK1.out).mono ?_; clear HTO; rintro e wn ⟨vb, rfl, ho, hk⟩; obtain ⟨ab, cb, rfl⟩ := ownsRow_slice ho; have HKN := hid (HK1.out.trans hk (fun x hx => by cases hx)); have HPB := hid (PrAt.of_own ho rfl); clear ho hk)
      | (go_at_call 11; refine (HNEW.out _ _ HPB.out).mono ?_; clear HNEW; rintro e w2 ⟨A, rfl, hS, hk⟩; have HS2 := hid hS; have HK12 := hid hk; clear hS hk)
    clear h60z HPB HGC HK1
    go_loopg [7] L.length (fun kx s9 wr => ∃ k : Nat, s9 = .int .i64 k ∧ k ≤ L.length ∧ L.length - k ≤ kx ∧ Aside (StoreAt wr (fun b => b < wn.heap.size) A (s0.steps ((L.map (·.1)).take k))) ∧ Aside (KD (fun b => b < wn.heap.size) wn wr))
    case atStart => exact ⟨0, by first | rfl | go_num, by omega, by omega, HS2.out, HK12.out.kd⟩
    case round =>
      clear HS2
      obtain ⟨k, rfl, hk, hkx, HS, HK⟩ := hrel
      have hKR := KD.kept HK.out
      have HKR := hid hKR
      have HKW := hid (HKN.out.trans hKR (fun x hx => by cases hx))
      clear hKR
      by_cases hlt : k < L.length
      · have hltz : (k : Int) < (L.length : Int) := by omega
        obtain ⟨b, off, rfl, _, d1⟩ := HC.out (by omega)
        have hcc := cs_cells (fun j u hu => HKW.out.cell (d1 j u hu) (by simp)) hlt
        have HSTEP := hid (show s0.steps ((L.map (·.1)).take (k + 1)) = (s0.steps ((L.map (·.1)).take k)).step L[k].1 from by
          have hkl : k < (L.map (·.1)).length := by simpa using hlt
          rw [steps_take s0 (L.map (·.1)) k hkl]
          simp)
        have HDOS := hid (fun W D (h : StoreAt W D A (s0.steps ((L.map (·.1)).take k))) (hr : SlAt W L[k].2 6 L[k].1.pairs.length (L[k].1.pairs.flatMap Pr.f)) => do10_step h S0OK.out S0LIM.out HG.out.symm hlt hr)
        have HROW := hid ((HOK.out _ (List.getElem_mem hlt)).row.kept HKW.out)
        obtain ⟨hso, hsl⟩ := call_lim S0OK.out S0LIM.out HG.out.symm k
        have HSOK := hid hso
        have HSLK := hid hsl
        clear d1 hso hsl
        generalize L[k] = q at *
        have e0 := hcc 0 _ rfl; simp only [Nat.add_zero] at e0; have e1 := hcc 1 _ rfl; have e2 := hcc 2 _ rfl; have e3 := hcc 3 _ rfl; have e4 := hcc 4 _ rfl; have e5 := hcc 5 _ rfl; have e6 := hcc 6 _ rfl; have e7 := hcc 7 _ rfl; have e8 := hcc 8 _ rfl; have e9 := hcc 9 _ rfl; have e10 := hcc 10 _ rfl; have e11 := hcc 11 _ rfl; have e12 := hcc 12 _ rfl; have e13 := hcc 13 _ rfl
        clear hcc
        generalize s0.steps ((L.map (·.1)).take k) = sk at *
        obtain ⟨⟨what, tx, now, kind, otx, ⟨ka, kb, kc, kd⟩, m, er, mask, commit, pairs⟩, pv⟩ := q
        dsimp only at e0 e1 e2 e3 e4 e5 e6 e7 e8 e9 e10 e11 e12 e13 HSTEP HDOS HROW
        simp only [csF] at HDOS
        obtain ⟨pa, pc, rfl, _⟩ := HROW.out.ex
        have HA := hid ((Kept.refl [] wr).alloc (.cells #[.int .i64 what, .int .i64 tx, .int .i64 now, .int .i64 kind, .int .i64 otx, .int .u8 (ka.toNat : Int), .int .u8 (kb.toNat : Int), .int .u8 (kc.toNat : Int), .int .u8 (kd.toNat : Int), .int .i64 m, .int .i64 er, .int .u16 (mask : Int), .bool commit, .slice pa pairs.length pc] 38))
        have HBX := hid (heap_alloc_new wr (.cells #[.int .i64 what, .int .i64 tx, .int .i64 now, .int .i64 kind, .int .i64 otx, .int .u8 (ka.toNat : Int), .int .u8 (kb.toNat : Int), .int .u8 (kc.toNat : Int), .int .u8 (kd.toNat : Int), .int .i64 m, .int .i64 er, .int .u16 (mask : Int), .bool commit, .slice pa pairs.length pc] 38))
        have HCB := hid (fun (W : World) (hB : W.heap[wr.heap.size]? = some (.cells #[.int .i64 what, .int .i64 tx, .int .i64 now, .int .i64 kind, .int .i64 otx, .int .u8 (ka.toNat : Int), .int .u8 (kb.toNat : Int), .int .u8 (kc.toNat : Int), .int .u8 (kd.toNat : Int), .int .i64 m, .int .i64 er, .int .u16 (mask : Int), .bool commit, .slice pa pairs.length pc] 38 (0, 0))) => show W.cell? ⟨wr.heap.size, 0, none⟩ = some (.int .i64 what) ∧ W.cell? ⟨wr.heap.size, 1, none⟩ = some (.int .i64 tx) ∧ W.cell? ⟨wr.heap.size, 2, none⟩ = some (.int .i64 now) ∧ W.cell? ⟨wr.heap.size, 3, none⟩ = some (.int .i64 kind) ∧ W.cell? ⟨wr.heap.size, 4, none⟩ = some (.int .i64 otx) ∧ W.cell? ⟨wr.heap.size, 5, none⟩ = some (.int .u8 (ka.toNat : Int)) ∧ W.cell? ⟨wr.heap.size, 6, none⟩ = some (.int .u8 (kb.toNat : Int)) ∧ W.cell? ⟨wr.heap.size, 7, none⟩ = some (.int .u8 (kc.toNat : Int)) ∧ W.cell? ⟨wr.heap.size, 8, none⟩ = some (.int .u8 (kd.toNat : Int)) ∧ W.cell? ⟨wr.heap.size, 9, none⟩ = some (.int .i64 m) ∧ W.cell? ⟨wr.heap.size, 10, none⟩ = some (.int .i64 er) ∧ W.cell? ⟨wr.heap.size, 11, none⟩ = some (.int .u16 (mask : Int)) ∧ W.cell? ⟨wr.heap.size, 12, none⟩ = some (.bool commit) ∧ W.cell? ⟨wr.heap.size, 13, none⟩ = some (.slice pa pairs.length pc) from by
          refine ⟨?_, ?_, ?_, ?_, ?_, ?_, ?_, ?_, ?_, ?_, ?_, ?_, ?_, ?_⟩ <;> simp [World.cell?, hB])
        have hl1 := draft_len16 HSOK.out tx
        have hl2 := draft_len16 HSOK.out otx
        have hbl2 := HSOK.out.blen
        have hwl := HSOK.out.wlen
        have HFB := hid (fun W v (h : PrAt W v sk.base) => from_any v sk.base W h.at' (by omega))
        have HFD := hid (fun W v (h : PrAt W v (sk.draftOf tx)) => from_any v (sk.draftOf tx) W h.at' (by omega))
        have HFO := hid (fun W v (h : PrAt W v (sk.draftOf otx)) => from_any v (sk.draftOf otx) W h.at' (by omega))
        have HRO := hid (fun W v1 v2 (h1 : SlAt W v1 6 sk.base.length (sk.base.flatMap Pr.f)) (h2 : SlAt W v2 6 (sk.draftOf tx).length ((sk.draftOf tx).flatMap Pr.f)) => rover_any v1 v2 _ _ W h1 h2 (by omega) (by omega))
        have HRP := hid (fun W v1 v2 (h1 : SlAt W v1 6 sk.base.length (sk.base.flatMap Pr.f)) (h2 : SlAt W v2 6 (sk.draftOf otx).length ((sk.draftOf otx).flatMap Pr.f)) => rover_any v1 v2 _ _ W h1 h2 (by omega) (by omega))
        obtain ⟨wA, hwA⟩ : ∃ wA, wA = wr.alloc (.cells #[.int .i64 what, .int .i64 tx, .int .i64 now, .int .i64 kind, .int .i64 otx, .int .u8 (ka.toNat : Int), .int .u8 (kb.toNat : Int), .int .u8 (kc.toNat : Int), .int .u8 (kd.toNat : Int), .int .i64 m, .int .i64 er, .int .u16 (mask : Int), .bool commit, .slice pa pairs.length pc] 38) := ⟨_, rfl⟩
        have HBA := hid (fun W (hK : Kept [] wr W) => sbase_any (HS.out.kept hK) (by omega))
        have HDT := hid (fun W (hK : Kept [] wr W) => sdraft_any (HS.out.kept hK) hwl tx)
        have HDO2 := hid (fun W (hK : Kept [] wr W) => sdraft_any (HS.out.kept hK) hwl otx)
        have HST := hid (fun W (hK : Kept [] wr W) => sstate_any (HS.out.kept hK) tx)
        rw [← hwA] at HA HBX
        have HCK := hid (fun W (hK : Kept [] wA W) => HCB.out W ((hK.block _ (Array.getElem?_eq_some_iff.1 HBX.out).1 (by simp)).trans HBX.out))
        have HWA := hid hwA
        have HSZ := hid (show wr.heap.size < wA.heap.size from (Array.getElem?_eq_some_iff.1 HBX.out).1)
        rw [hwA] at HCK
        obtain ⟨c0, c1, c2, c3, c4, c5, c6, c7, c8, c9, c10, c11, c12, c13⟩ := HCK.out _ (Kept.refl _ _)
        rw [← hwA] at HCK
        clear hwA hl1 hl2 hbl2 hwl
        have HAR := hid (fun W (hK : Kept [] wA W) => HA.out.trans hK (fun x hx => by cases hx))
        go_wp2_with first
          | (go_at_call 14; rw [← HWA.out]; refine (HBA.out _ HA.out).mono ?_; clear HBA c0 c1 c2 c3 c4 c5 c6 c7 c8 c9 c10 c11 c12 c13; rintro e w3 ⟨v3, rfl, hp3, hk3⟩; obtain ⟨a3, b3, rfl, _⟩ := hp3.at'.ex; have HF3 := hid (HFB.out _ _ hp3); have HA3 := hid hk3; obtain ⟨c0, c1, c2, c3, c4, c5, c6, c7, c8, c9, c10, c11, c12, c13⟩ := HCK.out _ hk3; clear hp3 hk3 HFB)
          | (go_at_call 13; refine HF3.out.mono ?_; clear HF3 c0 c1 c2 c3 c4 c5 c6 c7 c8 c9 c10 c11 c12 c13; rintro e w4 ⟨v4, rfl, ho4, hk4⟩; obtain ⟨a4, b4, rfl⟩ := ownsRow_slice ho4; have HIN4 := hid (own_in ho4); have HO4 := hid (SlAt.of_own ho4); have HA4 := hid (HA3.out.trans hk4 (fun x hx => by cases hx)); obtain ⟨c0, c1, c2, c3, c4, c5, c6, c7, c8, c9, c10, c11, c12, c13⟩ := HCK.out _ HA4.out; clear ho4 hk4)
          | (go_at_call 15; refine (HDT.out _ (HAR.out _ HA4.out)).mono ?_; clear HDT c0 c1 c2 c3 c4 c5 c6 c7 c8 c9 c10 c11 c12 c13; rintro e w5 ⟨v5, rfl, hp5, hk5⟩; obtain ⟨a5, b5, rfl, _⟩ := hp5.at'.ex; have HF5 := hid (HFD.out _ _ hp5); have HK5 := hid hk5; have HA5 := hid (HA4.out.trans hk5 (fun x hx => by cases hx)); obtain ⟨c0, c1, c2, c3, c4, c5, c6, c7, c8, c9, c10, c11, c12, c13⟩ := HCK.out _ HA5.out; clear hp5 hk5 HFD)
          | (go_at_call 13; refine HF5.out.mono ?_; clear HF5 c0 c1 c2 c3 c4 c5 c6 c7 c8 c9 c10 c11 c12 c13; rintro e w6 ⟨v6, rfl, ho6, hk6⟩; obtain ⟨a6, b6, rfl⟩ := ownsRow_slice ho6; have HIN6 := hid (own_in ho6); have HO6 := hid (SlAt.of_own ho6); have HK6 := hid hk6; have HA6 := hid (HA5.out.trans hk6 (fun x hx => by cases hx)); obtain ⟨c0, c1, c2, c3, c4, c5, c6, c7, c8, c9, c10, c11, c12, c13⟩ := HCK.out _ HA6.out; clear ho6 hk6)
          | (go_at_call 15; refine (HDO2.out _ (HAR.out _ HA6.out)).mono ?_; clear HDO2 c0 c1 c2 c3 c4 c5 c6 c7 c8 c9 c10 c11 c12 c13; rintro e w7 ⟨v7, rfl, hp7, hk7⟩; obtain ⟨a7, b7, rfl, _⟩ := hp7.at'.ex; have HF7 := hid (HFO.out _ _ hp7); have HK7 := hid hk7; have HA7 := hid (HA6.out.trans hk7 (fun x hx => by cases hx)); obtain ⟨c0, c1, c2, c3, c4, c5, c6, c7, c8, c9, c10, c11, c12, c13⟩ := HCK.out _ HA7.out; clear hp7 hk7 HFO)
          | (go_at_call 13; refine HF7.out.mono ?_; clear HF7 c0 c1 c2 c3 c4 c5 c6 c7 c8 c9 c10 c11 c12 c13; rintro e w8 ⟨v8, rfl, ho8, hk8⟩; obtain ⟨a8, b8, rfl⟩ := ownsRow_slice ho8; have HIN8 := hid (own_in ho8); have HO8 := hid (SlAt.of_own ho8); have HK8 := hid hk8; have HA8 := hid (HA7.out.trans hk8 (fun x hx => by cases hx)); obtain ⟨c0, c1, c2, c3, c4, c5, c6, c7, c8, c9, c10, c11, c12, c13⟩ := HCK.out _ HA8.out; clear ho8 hk8)
          | (go_at_call 16; refine Here.mk ?_)
        refine Here.of ?_
        refine (HST.out _ (HAR.out _ HA8.out)).mono ?_
        clear HST c0 c1 c2 c3 c4 c5 c6 c7 c8 c9 c10 c11 c12 c13
        rintro e w9 ⟨rfl, hk9⟩
        have HK9 := hid hk9
        have HA9 := hid (HA8.out.trans hk9 (fun x hx => by cases hx))
        obtain ⟨c0, c1, c2, c3, c4, c5, c6, c7, c8, c9, c10, c11, c12, c13⟩ := HCK.out _ HA9.out
        clear hk9
        have hk89 := HK9.out
        have hk79 := HK8.out.trans hk89 (fun x hx => by cases hx)
        have hk69 := HK7.out.trans hk79 (fun x hx => by cases hx)
        have hk59 := HK6.out.trans hk69 (fun x hx => by cases hx)
        have hk49 := HK5.out.trans hk59 (fun x hx => by cases hx)
        have HR4 := hid (HO4.out.kept hk49)
        have HR6 := hid (HO6.out.kept hk69)
        have HR8 := hid (HO8.out.kept hk89)
        have hrA := HA.out.size
        have hA3 := HA3.out.size
        have hA5 := HA5.out.size
        have hA7 := HA7.out.size
        have hA9 := HA9.out.size
        have HIP4 := hid (fun b hb => show wr.heap.size ≤ b ∧ b < w9.heap.size from by have := HIN4.out b hb; have := hk49.size; omega)
        have HIP6 := hid (fun b hb => show wr.heap.size ≤ b ∧ b < w9.heap.size from by have := HIN6.out b hb; have := hk69.size; omega)
        have HIP8 := hid (fun b hb => show wr.heap.size ≤ b ∧ b < w9.heap.size from by have := HIN8.out b hb; have := hk89.size; omega)
        have hSW := HS.out.widen (HAR.out _ HA9.out)
        obtain ⟨P, hP⟩ : ∃ P : Nat → Prop, P = fun b => b < wn.heap.size ∨ wr.heap.size ≤ b ∧ b < w9.heap.size := ⟨_, rfl⟩
        rw [← hP] at hSW
        have HP0 := hid (show ∀ b, b < wn.heap.size → P b from fun b hb => by rw [hP]; exact .inl hb)
        have HP4 := hid (show ∀ b, bvB (.slice a4 sk.base.length b4) b → P b from fun b hb => by rw [hP]; exact .inr (HIP4.out b hb))
        have HP6 := hid (show ∀ b, bvB (.slice a6 (sk.draftOf tx).length b6) b → P b from fun b hb => by rw [hP]; exact .inr (HIP6.out b hb))
        have HP8 := hid (show ∀ b, bvB (.slice a8 (sk.draftOf otx).length b8) b → P b from fun b hb => by rw [hP]; exact .inr (HIP8.out b hb))
        have HPB := hid (show P wr.heap.size from by rw [hP]; exact .inr ⟨Nat.le_refl _, by have := HSZ.out; omega⟩)
        have HB9 := hid (((HA9.out.block _ (Array.getElem?_eq_some_iff.1 HBX.out).1 (by simp)).trans HBX.out))
        have HSP := hid hSW
        have HK9P := hid (HK.out.trans ((HAR.out _ HA9.out).kd' HS.out.dlt) (fun _ h => h))
        have HRW := hid (HROW.out.kept (HAR.out _ HA9.out))
        clear hP hSW HIP4 HIP6 HIP8 hrA hA3 hA5 hA7 hA9 hk89 hk79 hk69 hk59 hk49 HIN4 HIN6 HIN8 HO4 HO6 HO8 HK5 HK6 HK7 HK8 HK9 HA3 HA4 HA5 HA6 HA7 HA8 HA9 HAR HWA HBX HCK HSZ HA
        by_cases hw1 : what = 1
        · have hwb : (what == 1) = true := by simpa using hw1
          have hw5 : (what == 5) = false := by subst hw1; rfl
          have hst : s0.steps ((L.map (·.1)).take (k + 1)) = (sk.doOp kind otx ⟨ka, kb, kc, kd⟩ m now).2 := by rw [HSTEP.out]; unfold Sp.step; rw [if_neg (by simp [hw1]), if_pos hw1]
          obtain ⟨R, hR⟩ : ∃ R, R = sk.doOp kind otx ⟨ka, kb, kc, kd⟩ m now := ⟨_, rfl⟩
          rw [← hR] at hst
          have HDO := hid (fun W D (h : StoreAt W D A sk) => by
            have := sdo_any h HSLK.out.le (by decide) HSOK.out.wlen (by have := HSOK.out.blen; omega) kind otx ⟨ka, kb, kc, kd⟩ m now
            rw [← hR] at this
            exact this)
          have HOK1 := hid (show SpOk R.2 by rw [hR]; exact HSOK.out.doOp _ _ _ _ _)
          have HBS := hid (show R.2.base = sk.base by rw [hR]; exact doOp_base _ _ _ _ _ _)
          have HGET := hid (fun (hk1 : kind = 1) (h0 : R.1.1 = 0) => show R.1.2 = findP (sortP (sk.base ++ sk.draftOf otx)) ⟨ka, kb, kc, kd⟩ from by
            rw [hR] at h0 ⊢
            exact hidden_get HSOK.out hk1 h0)
          have HSK1 := hid hst
          obtain ⟨⟨re, ⟨rt, rn⟩⟩, rs⟩ := R
          dsimp only at HDO HOK1 HBS HGET HSK1
          clear HDOS hR hst hw1 HSTEP
          go_wp2_with (go_at_call 17; refine Here.mk ?_)
          refine Here.of ?_
          refine (HDO.out _ _ HSP.out).mono ?_
          rintro e w10 ⟨rfl, hS10, hk10⟩
          have HR4b := hid (HR4.out.kd' hk10 HP4.out)
          have HR8b := hid (HR8.out.kd' hk10 HP8.out)
          have hb10 := (hk10.block wr.heap.size HPB.out).trans HB9.out
          have HB10 := hid hb10
          have HS10 := hid (hS10.less HP0.out)
          have HK10 := hid (HK9P.out.trans hk10 HP0.out)
          clear c0 c1 c2 c3 c4 c5 c6 c7 c8 c9 c10 c11 c12 c13 hS10 hk10 HDO HR4 HR6 HR8 HSP HK9P HB9 HRW HP4 HP6 HP8 HPB HP0 HRO
          have HAQ := hid ((Kept.refl [] w10).alloc (.cells #[.int .i64 re, .bool rt, .int .i64 rn] 46))
          have HRQ := hid (heap_alloc_new w10 (.cells #[.int .i64 re, .bool rt, .int .i64 rn] 46))
          obtain ⟨wq, hwq⟩ : ∃ wq, wq = w10.alloc (.cells #[.int .i64 re, .bool rt, .int .i64 rn] 46) := ⟨_, rfl⟩
          have hBQ : wq.heap[wr.heap.size]? = some (.cells #[.int .i64 what, .int .i64 tx, .int .i64 now, .int .i64 kind, .int .i64 otx, .int .u8 (ka.toNat : Int), .int .u8 (kb.toNat : Int), .int .u8 (kc.toNat : Int), .int .u8 (kd.toNat : Int), .int .i64 m, .int .i64 er, .int .u16 (mask : Int), .bool commit, .slice pa pairs.length pc] 38 (0, 0)) := by rw [hwq]; exact (HAQ.out.block _ (Array.getElem?_eq_some_iff.1 hb10).1 (by simp)).trans hb10
          have hRQ := HRQ.out
          rw [← hwq] at HAQ HRQ hRQ
          have HTQ := hid (fun W (hK : Kept [] wq W) => show W.cell? ⟨w10.heap.size, 0, none⟩ = some (.int .i64 re) ∧ W.cell? ⟨w10.heap.size, 1, none⟩ = some (.bool rt) ∧ W.cell? ⟨w10.heap.size, 2, none⟩ = some (.int .i64 rn) from by
            have hB := (hK.block _ (Array.getElem?_eq_some_iff.1 HRQ.out).1 (by simp)).trans HRQ.out
            have h3 := cell3 hB
            exact ⟨h3.1, h3.2.1, h3.2.2.1⟩)
          have HBQ := hid hBQ
          have HCQ := hid (fun W (hK : Kept [] wq W) => HCB.out W ((hK.block _ (Array.getElem?_eq_some_iff.1 HBQ.out).1 (by simp)).trans HBQ.out))
          have HS11 := hid (HS10.out.kept HAQ.out)
          have HK11 := hid (HK10.out.trans (HAQ.out.kd' HS10.out.dlt) (fun _ h => h))
          have HR4c := hid (HR4b.out.kept HAQ.out)
          have HR8c := hid (HR8b.out.kept HAQ.out)
          have hbl1 : rs.base.length ≤ 100000 := Nat.le_trans HOK1.out.blen (by decide)
          have hbl2 : sk.base.length ≤ 20000 := Nat.le_trans HSOK.out.blen (by decide)
          have HBN := hid (fun W (h : StoreAt W (fun b => b < wn.heap.size) A rs) => show Calls Tryz.prog 14 #[.pointer (some ⟨A, 0, none⟩)] W fun e w' => ∃ v, e = .returned v ∧ PrAt w' v sk.base ∧ Kept [] W w' from by
            rw [← HBS.out]
            exact sbase_any h hbl1)
          have HFN := hid (fun W v (h : PrAt W v sk.base) => from_any v sk.base W h.at' hbl2)
          clear hbl1 hbl2
          have HSAME := hid (fun W v1 (h1 : SlAt W v1 6 sk.base.length (sk.base.flatMap Pr.f)) (hK : Kept [] wq W) => same_any v1 _ sk.base W h1 (HR4c.out.kept hK))
          clear HR4b HS10 HK10 hb10 HB10 HR8b
          by_cases hk1 : kind = 1
          · have hkb : (kind == 1) = true := by simpa using hk1
            by_cases hre : re = 0
            · have hreb : (re == 0) = true := by simpa using hre
              have hg := HGET.out hk1 hre
              obtain ⟨fl, hfl⟩ : ∃ fl, fl = sortP (sk.base ++ sk.draftOf otx) := ⟨_, rfl⟩
              have HRP2 := hid (fun W (hK : Kept [] wq W) => HRP.out W _ _ (HR4c.out.kept hK) (HR8c.out.kept hK))
              rw [← hfl] at hg HRP2
              have HFI := hid (fun v W (h : SlAt W v 6 fl.length (fl.flatMap Pr.f)) => rfind_is v fl ⟨ka, kb, kc, kd⟩ rt rn W h hg)
              clear hfl hg hre hk1 HRP
              simp only [K4.v] at HFI
              have hne : (Op.equalIn 10000 44 (.agg #[.bool rt, .int .i64 rn]) (.agg #[.bool rt, .int .i64 rn])).run Tryz.prog wq = .ok true wq := val_same rt rn wq
              subst hwq
              go_wp2_with fail
              generalize w10.alloc (.cells #[.int .i64 re, .bool rt, .int .i64 rn] 46) = wq at *
              -- [rows hidden18]
              refine wp_region_rows (yieldDen [.eq (.pointer (some ⟨wr.heap.size, 3, none⟩)), .eq (.pointer (some ⟨wr.heap.size, 3, none⟩)), .eq (.int .i64 kind), .eq (.bool true), .eq (.bool true), .eq (.pointer (some ⟨w10.heap.size, 0, none⟩)), .eq (.int .i64 re), .eq (.bool true), .eq (.bool true), .eq (.bool true), .eq (.pointer (some ⟨w10.heap.size, 1, none⟩)), .eq (.agg #[.bool rt, .int .i64 rn]), .eq (.slice a4 sk.base.length b4), .eq (.slice a8 (sk.draftOf otx).length b8), .is (fun v w' => (∃ pa pc, v = .slice pa fl.length pc) ∧ SlAt w' v 6 fl.length (fl.flatMap Pr.f)) (fun v w w' hk h => ⟨h.1, h.2.kept hk⟩), .eq (.pointer (some ⟨wr.heap.size, 3, none⟩)), .eq (.pointer (some ⟨wr.heap.size, 5, none⟩)), .eq (.agg #[.int .u8 (ka.toNat : Int), .int .u8 (kb.toNat : Int), .int .u8 (kc.toNat : Int), .int .u8 (kd.toNat : Int)]), .eq (.agg #[.bool rt, .int .i64 rn]), .eq (.bool false), .eq (.bool false)]) (fun w' => Kept [] wq w') (Kept []) (by kernel_rfl) (fun j v w w' h h' => yieldDen_kept _ j v w w' h h') (fun w => Kept.refl [] w) (by kernel_rfl) (by kernel_rfl) ((Kept.refl [] wq).drew) ?_ ?_
              · skip
                refine AllFrom.cons (k := 0) ?_ ?_
                · intro a w' hC hO hd
                  rw [if_pos (wanted_none rfl)]
                  have p8 : a.tmps[8]? = some (.pointer (some ⟨wr.heap.size, 0, none⟩)) := hO.at (by kernel_rfl) rfl
                  clear hd hO
                  refine pure_step (.pointer (some ⟨wr.heap.size, 3, none⟩)) rfl hC (Kept.refl _ _) ?_
                  go_simp
                refine AllFrom.cons (k := 1) ?_ ?_
                · intro a w' hC hO hd
                  obtain ⟨x79, e79, r79⟩ := hd ⟨0, .data⟩ (by simp) rfl _ _ rfl rfl
                  obtain rfl : x79 = .pointer (some ⟨wr.heap.size, 3, none⟩) := r79
                  rw [if_pos (wanted_none rfl)]
                  clear hd hO
                  refine pure_step (.pointer (some ⟨wr.heap.size, 3, none⟩)) rfl hC (Kept.refl _ _) ?_
                  go_simp
                refine AllFrom.cons (k := 2) ?_ ?_
                · intro a w' hC hO hd
                  obtain ⟨x80, e80, r80⟩ := hd ⟨1, .data⟩ (by simp) rfl _ _ rfl rfl
                  obtain rfl : x80 = .pointer (some ⟨wr.heap.size, 3, none⟩) := r80
                  rw [if_pos (wanted_none rfl)]
                  obtain ⟨c0, c1, c2, c3, c4, c5, c6, c7, c8, c9, c10, c11, c12, c13⟩ := HCQ.out w' hC
                  clear hd hO
                  refine pure_step (.int .i64 kind) rfl hC (Kept.refl _ _) ?_
                  go_simp
                refine AllFrom.cons (k := 3) ?_ ?_
                · intro a w' hC hO hd
                  obtain ⟨x81, e81, r81⟩ := hd ⟨2, .data⟩ (by simp) rfl _ _ rfl rfl
                  obtain rfl : x81 = .int .i64 kind := r81
                  rw [if_pos (wanted_none rfl)]
                  clear hd hO
                  refine pure_step (.bool true) rfl hC (Kept.refl _ _) ?_
                  go_simp
                refine AllFrom.cons (k := 4) ?_ ?_
                · intro a w' hC hO hd
                  obtain ⟨x82, e82, r82⟩ := hd ⟨3, .data⟩ (by simp) rfl _ _ rfl rfl
                  obtain rfl : x82 = .bool true := r82
                  rw [if_pos (wanted_none rfl)]
                  clear hd hO
                  refine pure_step (.bool true) rfl hC (Kept.refl _ _) ?_
                  go_simp
                refine AllFrom.cons (k := 5) ?_ ?_
                · intro a w' hC hO hd
                  obtain ⟨x83, e83, r83⟩ := hd ⟨4, .guard⟩ (by simp) rfl _ _ rfl rfl
                  obtain rfl : x83 = .bool true := r83
                  rw [if_pos (wanted_some (j := 4) (b := true) rfl (yielded_of (o := _) rfl rfl e83))]
                  have p13 : a.tmps[13]? = some (.pointer (some ⟨w10.heap.size, 0, none⟩)) := hO.at (by kernel_rfl) rfl
                  clear hd hO
                  refine pure_step (.pointer (some ⟨w10.heap.size, 0, none⟩)) rfl hC (Kept.refl _ _) ?_
                  go_simp
                refine AllFrom.cons (k := 6) ?_ ?_
                · intro a w' hC hO hd
                  obtain ⟨x84, e84, r84⟩ := hd ⟨5, .data⟩ (by simp) rfl _ _ rfl rfl
                  obtain rfl : x84 = .pointer (some ⟨w10.heap.size, 0, none⟩) := r84
                  obtain ⟨x83, e83, r83⟩ := hd ⟨4, .guard⟩ (by simp) rfl _ _ rfl rfl
                  obtain rfl : x83 = .bool true := r83
                  rw [if_pos (wanted_some (j := 4) (b := true) rfl (yielded_of (o := _) rfl rfl e83))]
                  obtain ⟨t0, t1, t2⟩ := HTQ.out w' hC
                  clear hd hO
                  refine pure_step (.int .i64 re) rfl hC (Kept.refl _ _) ?_
                  go_simp
                refine AllFrom.cons (k := 7) ?_ ?_
                · intro a w' hC hO hd
                  obtain ⟨x85, e85, r85⟩ := hd ⟨6, .data⟩ (by simp) rfl _ _ rfl rfl
                  obtain rfl : x85 = .int .i64 re := r85
                  obtain ⟨x83, e83, r83⟩ := hd ⟨4, .guard⟩ (by simp) rfl _ _ rfl rfl
                  obtain rfl : x83 = .bool true := r83
                  rw [if_pos (wanted_some (j := 4) (b := true) rfl (yielded_of (o := _) rfl rfl e83))]
                  clear hd hO
                  refine pure_step (.bool true) rfl hC (Kept.refl _ _) ?_
                  go_simp
                refine AllFrom.cons (k := 8) ?_ ?_
                · intro a w' hC hO hd
                  obtain ⟨x83, e83, r83⟩ := hd ⟨4, .data⟩ (by simp) rfl _ _ rfl rfl
                  obtain rfl : x83 = .bool true := r83
                  obtain ⟨x86, e86, r86⟩ := hd ⟨7, .data⟩ (by simp) rfl _ _ rfl rfl
                  obtain rfl : x86 = .bool true := r86
                  rw [if_pos (wanted_none rfl)]
                  clear hd hO
                  refine pure_step (.bool true) rfl hC (Kept.refl _ _) ?_
                  go_simp
                refine AllFrom.cons (k := 9) ?_ ?_
                · intro a w' hC hO hd
                  obtain ⟨x87, e87, r87⟩ := hd ⟨8, .data⟩ (by simp) rfl _ _ rfl rfl
                  obtain rfl : x87 = .bool true := r87
                  rw [if_pos (wanted_none rfl)]
                  clear hd hO
                  refine pure_step (.bool true) rfl hC (Kept.refl _ _) ?_
                  go_simp
                refine AllFrom.cons (k := 10) ?_ ?_
                · intro a w' hC hO hd
                  obtain ⟨x88, e88, r88⟩ := hd ⟨9, .guard⟩ (by simp) rfl _ _ rfl rfl
                  obtain rfl : x88 = .bool true := r88
                  rw [if_pos (wanted_some (j := 9) (b := true) rfl (yielded_of (o := _) rfl rfl e88))]
                  have p13 : a.tmps[13]? = some (.pointer (some ⟨w10.heap.size, 0, none⟩)) := hO.at (by kernel_rfl) rfl
                  clear hd hO
                  refine pure_step (.pointer (some ⟨w10.heap.size, 1, none⟩)) rfl hC (Kept.refl _ _) ?_
                  go_simp
                refine AllFrom.cons (k := 11) ?_ ?_
                · intro a w' hC hO hd
                  obtain ⟨x89, e89, r89⟩ := hd ⟨10, .data⟩ (by simp) rfl _ _ rfl rfl
                  obtain rfl : x89 = .pointer (some ⟨w10.heap.size, 1, none⟩) := r89
                  obtain ⟨x88, e88, r88⟩ := hd ⟨9, .guard⟩ (by simp) rfl _ _ rfl rfl
                  obtain rfl : x88 = .bool true := r88
                  rw [if_pos (wanted_some (j := 9) (b := true) rfl (yielded_of (o := _) rfl rfl e88))]
                  obtain ⟨t0, t1, t2⟩ := HTQ.out w' hC
                  clear hd hO
                  refine pure_step (.agg #[.bool rt, .int .i64 rn]) rfl hC (Kept.refl _ _) ?_
                  go_simp
                refine AllFrom.cons (k := 12) ?_ ?_
                · intro a w' hC hO hd
                  obtain ⟨x88, e88, r88⟩ := hd ⟨9, .guard⟩ (by simp) rfl _ _ rfl rfl
                  obtain rfl : x88 = .bool true := r88
                  rw [if_pos (wanted_some (j := 9) (b := true) rfl (yielded_of (o := _) rfl rfl e88))]
                  have p9 : a.tmps[9]? = some (.slice a4 sk.base.length b4) := hO.at (by kernel_rfl) rfl
                  clear hd hO
                  refine pure_step (.slice a4 sk.base.length b4) rfl hC (Kept.refl _ _) ?_
                  go_simp
                refine AllFrom.cons (k := 13) ?_ ?_
                · intro a w' hC hO hd
                  obtain ⟨x88, e88, r88⟩ := hd ⟨9, .guard⟩ (by simp) rfl _ _ rfl rfl
                  obtain rfl : x88 = .bool true := r88
                  rw [if_pos (wanted_some (j := 9) (b := true) rfl (yielded_of (o := _) rfl rfl e88))]
                  have p11 : a.tmps[11]? = some (.slice a8 (sk.draftOf otx).length b8) := hO.at (by kernel_rfl) rfl
                  clear hd hO
                  refine pure_step (.slice a8 (sk.draftOf otx).length b8) rfl hC (Kept.refl _ _) ?_
                  go_simp
                refine AllFrom.cons (k := 14) ?_ ?_
                · intro a w' hC hO hd
                  obtain ⟨x91, e91, r91⟩ := hd ⟨12, .data⟩ (by simp) rfl _ _ rfl rfl
                  obtain rfl : x91 = .slice a4 sk.base.length b4 := r91
                  obtain ⟨x92, e92, r92⟩ := hd ⟨13, .data⟩ (by simp) rfl _ _ rfl rfl
                  obtain rfl : x92 = .slice a8 (sk.draftOf otx).length b8 := r92
                  obtain ⟨x88, e88, r88⟩ := hd ⟨9, .guard⟩ (by simp) rfl _ _ rfl rfl
                  obtain rfl : x88 = .bool true := r88
                  rw [if_pos (wanted_some (j := 9) (b := true) rfl (yielded_of (o := _) rfl rfl e88))]
                  clear hd hO
                  go_simp
                  refine (HRP2.out w' hC).mono ?_
                  rintro e y ⟨v2, rfl, ho2, _, hk⟩
                  obtain ⟨ra, rc, rfl⟩ := ownsRow_slice ho2
                  exact ⟨_, rfl, ⟨⟨_, _, rfl⟩, SlAt.of_own ho2⟩, hC.trans hk (fun x hx => .inl hx), hk⟩
                refine AllFrom.cons (k := 15) ?_ ?_
                · intro a w' hC hO hd
                  obtain ⟨x88, e88, r88⟩ := hd ⟨9, .guard⟩ (by simp) rfl _ _ rfl rfl
                  obtain rfl : x88 = .bool true := r88
                  rw [if_pos (wanted_some (j := 9) (b := true) rfl (yielded_of (o := _) rfl rfl e88))]
                  have p8 : a.tmps[8]? = some (.pointer (some ⟨wr.heap.size, 0, none⟩)) := hO.at (by kernel_rfl) rfl
                  clear hd hO
                  refine pure_step (.pointer (some ⟨wr.heap.size, 3, none⟩)) rfl hC (Kept.refl _ _) ?_
                  go_simp
                refine AllFrom.cons (k := 16) ?_ ?_
                · intro a w' hC hO hd
                  obtain ⟨x94, e94, r94⟩ := hd ⟨15, .data⟩ (by simp) rfl _ _ rfl rfl
                  obtain rfl : x94 = .pointer (some ⟨wr.heap.size, 3, none⟩) := r94
                  obtain ⟨x88, e88, r88⟩ := hd ⟨9, .guard⟩ (by simp) rfl _ _ rfl rfl
                  obtain rfl : x88 = .bool true := r88
                  rw [if_pos (wanted_some (j := 9) (b := true) rfl (yielded_of (o := _) rfl rfl e88))]
                  clear hd hO
                  refine pure_step (.pointer (some ⟨wr.heap.size, 5, none⟩)) rfl hC (Kept.refl _ _) ?_
                  go_simp
                refine AllFrom.cons (k := 17) ?_ ?_
                · intro a w' hC hO hd
                  obtain ⟨x95, e95, r95⟩ := hd ⟨16, .data⟩ (by simp) rfl _ _ rfl rfl
                  obtain rfl : x95 = .pointer (some ⟨wr.heap.size, 5, none⟩) := r95
                  obtain ⟨x88, e88, r88⟩ := hd ⟨9, .guard⟩ (by simp) rfl _ _ rfl rfl
                  obtain rfl : x88 = .bool true := r88
                  rw [if_pos (wanted_some (j := 9) (b := true) rfl (yielded_of (o := _) rfl rfl e88))]
                  obtain ⟨c0, c1, c2, c3, c4, c5, c6, c7, c8, c9, c10, c11, c12, c13⟩ := HCQ.out w' hC
                  clear hd hO
                  refine pure_step (.agg #[.int .u8 (ka.toNat : Int), .int .u8 (kb.toNat : Int), .int .u8 (kc.toNat : Int), .int .u8 (kd.toNat : Int)]) rfl hC (Kept.refl _ _) ?_
                  go_simp
                refine AllFrom.cons (k := 18) ?_ ?_
                · intro a w' hC hO hd
                  obtain ⟨x93, e93, r93⟩ := hd ⟨14, .data⟩ (by simp) rfl _ _ rfl rfl
                  obtain ⟨⟨ra93, rc93, rfl⟩, hs93⟩ := r93
                  obtain ⟨x96, e96, r96⟩ := hd ⟨17, .data⟩ (by simp) rfl _ _ rfl rfl
                  obtain rfl : x96 = .agg #[.int .u8 (ka.toNat : Int), .int .u8 (kb.toNat : Int), .int .u8 (kc.toNat : Int), .int .u8 (kd.toNat : Int)] := r96
                  obtain ⟨x88, e88, r88⟩ := hd ⟨9, .guard⟩ (by simp) rfl _ _ rfl rfl
                  obtain rfl : x88 = .bool true := r88
                  rw [if_pos (wanted_some (j := 9) (b := true) rfl (yielded_of (o := _) rfl rfl e88))]
                  clear hd hO
                  go_simp
                  refine (HFI.out _ _ hs93).mono ?_
                  rintro e y ⟨rfl, hk⟩
                  exact ⟨_, rfl, rfl, hC.trans hk (fun x hx => .inl hx), hk⟩
                refine AllFrom.cons (k := 19) ?_ ?_
                · intro a w' hC hO hd
                  obtain ⟨x90, e90, r90⟩ := hd ⟨11, .data⟩ (by simp) rfl _ _ rfl rfl
                  obtain rfl : x90 = .agg #[.bool rt, .int .i64 rn] := r90
                  obtain ⟨x97, e97, r97⟩ := hd ⟨18, .data⟩ (by simp) rfl _ _ rfl rfl
                  obtain rfl : x97 = .agg #[.bool rt, .int .i64 rn] := r97
                  obtain ⟨x88, e88, r88⟩ := hd ⟨9, .guard⟩ (by simp) rfl _ _ rfl rfl
                  obtain rfl : x88 = .bool true := r88
                  rw [if_pos (wanted_some (j := 9) (b := true) rfl (yielded_of (o := _) rfl rfl e88))]
                  clear hd hO
                  have hne := val_same rt rn w'
                  refine pure_step (.bool false) rfl hC (Kept.refl _ _) ?_
                  go_simp
                refine AllFrom.cons (k := 20) ?_ ?_
                · intro a w' hC hO hd
                  obtain ⟨x88, e88, r88⟩ := hd ⟨9, .data⟩ (by simp) rfl _ _ rfl rfl
                  obtain rfl : x88 = .bool true := r88
                  obtain ⟨x98, e98, r98⟩ := hd ⟨19, .data⟩ (by simp) rfl _ _ rfl rfl
                  obtain rfl : x98 = .bool false := r98
                  rw [if_pos (wanted_none rfl)]
                  clear hd hO
                  refine pure_step (.bool false) rfl hC (Kept.refl _ _) ?_
                  go_simp
                exact trivial
              · intro a' w4 hC hO hrows
                obtain ⟨xp, ep, rp⟩ := hrows 20 _ _ rfl rfl
                obtain rfl : xp = .bool false := rp
                obtain ⟨us, hus, ha⟩ := hO.lit rfl [false, false, false, false, false, false, false, false, false, false, false, false, false, false, false, false, false, false, false, false, false, false, false, false, false, false, false, false, false, false, false, false, false, false, false, false, false, false, false, false, false, false, false, false, false, false, false, false, false, false, false, false, false, false, false, false, false, false, false, false, false, false, false, false, false, false, false, false, false, false, false, false, false, false, false, false, false, false, false, true, true, true, true, true, true, true, true, true, true, true, true, true, true, true, true, true, true, true, true, true, false, false, false, false, false, false, false, false, false, false, false, false, false, false, false, false, false, false, false, false, false, false, false, false, false, false, false] (by kernel_rfl)
                have up := hus 99 _ rfl ep
                clear hrows hO hus ep
                subst ha
                simp only [merge, Nat.reduceAdd, up, List.drop_succ_cons, List.drop_zero]
                clear up
                have HQX := hid hC
                clear hC
                obtain ⟨c0, c1, c2, c3, c4, c5, c6, c7, c8, c9, c10, c11, c12, c13⟩ := HCQ.out _ HQX.out
                obtain ⟨t0, t1, t2⟩ := HTQ.out _ HQX.out
                go_wp2_with first
                  | (go_at_call 14; refine (HBN.out _ (HS11.out.kept HQX.out)).mono ?_; clear c0 c1 c2 c3 c4 c5 c6 c7 c8 c9 c10 c11 c12 c13 t0 t1 t2 HBN; rintro e w12 ⟨v12, rfl, hp12, hk12⟩; obtain ⟨a12, b12, rfl, _⟩ := hp12.at'.ex; have HF12 := hid (HFN.out _ _ hp12); have HQ12 := hid (HQX.out.trans hk12 (fun x hx => by cases hx)); obtain ⟨c0, c1, c2, c3, c4, c5, c6, c7, c8, c9, c10, c11, c12, c13⟩ := HCQ.out _ HQ12.out; clear hp12 hk12 HFN)
                  | (go_at_call 13; refine HF12.out.mono ?_; clear HF12 c0 c1 c2 c3 c4 c5 c6 c7 c8 c9 c10 c11 c12 c13; rintro e w13 ⟨v13, rfl, ho13, hk13⟩; obtain ⟨a13, b13, rfl⟩ := ownsRow_slice ho13; have HO13 := hid (SlAt.of_own ho13); have HQ13 := hid (HQ12.out.trans hk13 (fun x hx => by cases hx)); obtain ⟨c0, c1, c2, c3, c4, c5, c6, c7, c8, c9, c10, c11, c12, c13⟩ := HCQ.out _ HQ13.out; clear ho13 hk13)
                  | (go_at_call 21; refine (HSAME.out _ _ HO13.out HQ13.out).mono ?_; clear HSAME c0 c1 c2 c3 c4 c5 c6 c7 c8 c9 c10 c11 c12 c13; rintro e w14 ⟨rfl, hk14⟩; have HQ14 := hid (HQ13.out.trans hk14 (fun x hx => by cases hx)); clear hk14)
                have HSZ := hid (HS11.out.kept HQ14.out)
                have HKZ := hid (HK11.out.trans (HQ14.out.kd' HS11.out.dlt) (fun _ h => h))
                go_roundg (L.length - (k + 1))
                case measure => exact meas_lt hlt hkx
                case rel => exact ⟨k + 1, by first | rfl | go_num, Nat.succ_le_of_lt hlt, Nat.le_refl _, by show StoreAt _ _ _ _; rw [HSK1.out]; exact HSZ.out, HKZ.out⟩
              -- [end rows]
            · have hreb : (re == 0) = false := by simpa using hre
              clear hre hk1 HGET HRP
              subst hwq
              go_wp2_with fail
              generalize w10.alloc (.cells #[.int .i64 re, .bool rt, .int .i64 rn] 46) = wq at *
              obtain ⟨c0, c1, c2, c3, c4, c5, c6, c7, c8, c9, c10, c11, c12, c13⟩ := HCQ.out _ (Kept.refl _ _)
              obtain ⟨t0, t1, t2⟩ := HTQ.out _ (Kept.refl _ _)
              go_quiet (fail)
              go_wp2_with first
                | (go_at_call 14; refine (HBN.out _ (HS11.out.kept ((Kept.refl [] wq).drewN _))).mono ?_; clear c0 c1 c2 c3 c4 c5 c6 c7 c8 c9 c10 c11 c12 c13 t0 t1 t2 HBN; rintro e w12 ⟨v12, rfl, hp12, hk12⟩; obtain ⟨a12, b12, rfl, _⟩ := hp12.at'.ex; have HF12 := hid (HFN.out _ _ hp12); have HQ12 := hid (((Kept.refl [] wq).drewN _).trans hk12 (fun x hx => by cases hx)); obtain ⟨c0, c1, c2, c3, c4, c5, c6, c7, c8, c9, c10, c11, c12, c13⟩ := HCQ.out _ HQ12.out; clear hp12 hk12 HFN)
                | (go_at_call 13; refine HF12.out.mono ?_; clear HF12 c0 c1 c2 c3 c4 c5 c6 c7 c8 c9 c10 c11 c12 c13; rintro e w13 ⟨v13, rfl, ho13, hk13⟩; obtain ⟨a13, b13, rfl⟩ := ownsRow_slice ho13; have HO13 := hid (SlAt.of_own ho13); have HQ13 := hid (HQ12.out.trans hk13 (fun x hx => by cases hx)); obtain ⟨c0, c1, c2, c3, c4, c5, c6, c7, c8, c9, c10, c11, c12, c13⟩ := HCQ.out _ HQ13.out; clear ho13 hk13)
                | (go_at_call 21; refine (HSAME.out _ _ HO13.out HQ13.out).mono ?_; clear HSAME c0 c1 c2 c3 c4 c5 c6 c7 c8 c9 c10 c11 c12 c13; rintro e w14 ⟨rfl, hk14⟩; have HQ14 := hid (HQ13.out.trans hk14 (fun x hx => by cases hx)); clear hk14)
              have HSZ := hid (HS11.out.kept HQ14.out)
              have HKZ := hid (HK11.out.trans (HQ14.out.kd' HS11.out.dlt) (fun _ h => h))
              go_roundg (L.length - (k + 1))
              case measure => exact meas_lt hlt hkx
              case rel => exact ⟨k + 1, by first | rfl | go_num, Nat.succ_le_of_lt hlt, Nat.le_refl _, by show StoreAt _ _ _ _; rw [HSK1.out]; exact HSZ.out, HKZ.out⟩
          · have hkb : (kind == 1) = false := by simpa using hk1
            clear hk1 HGET HRP
            subst hwq
            go_wp2_with fail
            generalize w10.alloc (.cells #[.int .i64 re, .bool rt, .int .i64 rn] 46) = wq at *
            obtain ⟨c0, c1, c2, c3, c4, c5, c6, c7, c8, c9, c10, c11, c12, c13⟩ := HCQ.out _ (Kept.refl _ _)
            obtain ⟨t0, t1, t2⟩ := HTQ.out _ (Kept.refl _ _)
            go_quiet (fail)
            go_wp2_with first
              | (go_at_call 14; refine (HBN.out _ (HS11.out.kept ((Kept.refl [] wq).drewN _))).mono ?_; clear c0 c1 c2 c3 c4 c5 c6 c7 c8 c9 c10 c11 c12 c13 t0 t1 t2 HBN; rintro e w12 ⟨v12, rfl, hp12, hk12⟩; obtain ⟨a12, b12, rfl, _⟩ := hp12.at'.ex; have HF12 := hid (HFN.out _ _ hp12); have HQ12 := hid (((Kept.refl [] wq).drewN _).trans hk12 (fun x hx => by cases hx)); obtain ⟨c0, c1, c2, c3, c4, c5, c6, c7, c8, c9, c10, c11, c12, c13⟩ := HCQ.out _ HQ12.out; clear hp12 hk12 HFN)
              | (go_at_call 13; refine HF12.out.mono ?_; clear HF12 c0 c1 c2 c3 c4 c5 c6 c7 c8 c9 c10 c11 c12 c13; rintro e w13 ⟨v13, rfl, ho13, hk13⟩; obtain ⟨a13, b13, rfl⟩ := ownsRow_slice ho13; have HO13 := hid (SlAt.of_own ho13); have HQ13 := hid (HQ12.out.trans hk13 (fun x hx => by cases hx)); obtain ⟨c0, c1, c2, c3, c4, c5, c6, c7, c8, c9, c10, c11, c12, c13⟩ := HCQ.out _ HQ13.out; clear ho13 hk13)
              | (go_at_call 21; refine (HSAME.out _ _ HO13.out HQ13.out).mono ?_; clear HSAME c0 c1 c2 c3 c4 c5 c6 c7 c8 c9 c10 c11 c12 c13; rintro e w14 ⟨rfl, hk14⟩; have HQ14 := hid (HQ13.out.trans hk14 (fun x hx => by cases hx)); clear hk14)
            have HSZ := hid (HS11.out.kept HQ14.out)
            have HKZ := hid (HK11.out.trans (HQ14.out.kd' HS11.out.dlt) (fun _ h => h))
            go_roundg (L.length - (k + 1))
            case measure => exact meas_lt hlt hkx
            case rel => exact ⟨k + 1, by first | rfl | go_num, Nat.succ_le_of_lt hlt, Nat.le_refl _, by show StoreAt _ _ _ _; rw [HSK1.out]; exact HSZ.out, HKZ.out⟩
        · have hwb : (what == 1) = false := by simpa using hw1
          have HSK1 := hid HSTEP.out
          obtain ⟨rs, hrs⟩ : ∃ rs, rs = sk.step ⟨what, tx, now, kind, otx, ⟨ka, kb, kc, kd⟩, m, er, mask, commit, pairs⟩ := ⟨_, rfl⟩
          have hbs := step_base sk ⟨what, tx, now, kind, otx, ⟨ka, kb, kc, kd⟩, m, er, mask, commit, pairs⟩
          dsimp only at hbs
          have HOK1 := hid (show SpOk rs by rw [hrs]; exact HSOK.out.step _)
          rw [← hrs] at HSK1 hbs
          have HBS := hid hbs
          obtain ⟨sst, hsst⟩ : ∃ sst, sst = sk.stateOf tx := ⟨_, rfl⟩
          have HSST := hid hsst
          clear hrs hbs hw1 HSTEP HRP hsst
          go_wp2_with (go_at_call 20; refine Here.mk ?_)
          refine Here.of ?_
          refine (HDOS.out _ _ HSP.out HRW.out).mono ?_
          rintro e w10 ⟨rfl, hS10', hk10⟩
          have hS10 : StoreAt w10 P A rs := HSK1.out ▸ hS10'
          have HR4c := hid (HR4.out.kd' hk10 HP4.out)
          have HR6c := hid (HR6.out.kd' hk10 HP6.out)
          have HB10 := hid ((hk10.block wr.heap.size HPB.out).trans HB9.out)
          have HS11 := hid (hS10.less HP0.out)
          have HK11 := hid (HK9P.out.trans hk10 HP0.out)
          have HCQ := hid (fun W (hK : Kept [] w10 W) => HCB.out W ((hK.block _ (Array.getElem?_eq_some_iff.1 HB10.out).1 (by simp)).trans HB10.out))
          clear c0 c1 c2 c3 c4 c5 c6 c7 c8 c9 c10 c11 c12 c13 hS10 hS10' hk10 HDOS HR4 HR6 HR8 HSP HK9P HB9 HRW HP4 HP6 HP8 HPB HP0
          rw [← HSST.out]
          have HQX := hid (Kept.refl [] w10)
          obtain ⟨c0, c1, c2, c3, c4, c5, c6, c7, c8, c9, c10, c11, c12, c13⟩ := HCQ.out _ HQX.out
          have hrl : rs.base.length ≤ 20000 := Nat.le_trans HOK1.out.blen (by decide)
          by_cases h5 : what = 5 ∧ commit = true ∧ sst = 3
          · have hbs : rs.base = sortP (sk.base ++ sk.draftOf tx) := HBS.out.trans (if_pos ⟨h5.1, h5.2.1, HSST.out.symm.trans h5.2.2⟩)
            obtain ⟨fl, hfl⟩ : ∃ fl, fl = sortP (sk.base ++ sk.draftOf tx) := ⟨_, rfl⟩
            have HRO2 := hid (fun W (hK : Kept [] w10 W) => hfl ▸ HRO.out W _ _ (HR4c.out.kept hK) (HR6c.out.kept hK))
            replace hbs : rs.base = fl := hbs.trans hfl.symm
            have hbl1 : rs.base.length ≤ 100000 := Nat.le_trans hrl (by decide)
            have hbl2 : fl.length ≤ 20000 := by rw [← hbs]; exact hrl
            have HBN := hid (fun W (h : StoreAt W (fun b => b < wn.heap.size) A rs) => show Calls Tryz.prog 14 #[.pointer (some ⟨A, 0, none⟩)] W fun e w' => ∃ v, e = .returned v ∧ PrAt w' v fl ∧ Kept [] W w' from by
              rw [← hbs]
              exact sbase_any h hbl1)
            have HFN := hid (fun W v (h : PrAt W v fl) => from_any v fl W h.at' hbl2)
            clear hbl1 hbl2 hrl
            obtain ⟨rfl, rfl, rfl⟩ := h5
            clear hfl hbs HRO
            go_wp2_with first
              | (go_at_call 14; refine (HBN.out _ (HS11.out.kept HQX.out)).mono ?_; clear c0 c1 c2 c3 c4 c5 c6 c7 c8 c9 c10 c11 c12 c13 HBN; rintro e w12 ⟨v12, rfl, hp12, hk12⟩; obtain ⟨a12, b12, rfl, _⟩ := hp12.at'.ex; have HF12 := hid (HFN.out _ _ hp12); have HQ12 := hid (HQX.out.trans hk12 (fun x hx => by cases hx)); obtain ⟨c0, c1, c2, c3, c4, c5, c6, c7, c8, c9, c10, c11, c12, c13⟩ := HCQ.out _ HQ12.out; clear hp12 hk12 HFN)
              | (go_at_call 13; refine HF12.out.mono ?_; clear HF12 c0 c1 c2 c3 c4 c5 c6 c7 c8 c9 c10 c11 c12 c13; rintro e w13 ⟨v13, rfl, ho13, hk13⟩; obtain ⟨a13, b13, rfl⟩ := ownsRow_slice ho13; have HO13 := hid (SlAt.of_own ho13); have HQ13 := hid (HQ12.out.trans hk13 (fun x hx => by cases hx)); obtain ⟨c0, c1, c2, c3, c4, c5, c6, c7, c8, c9, c10, c11, c12, c13⟩ := HCQ.out _ HQ13.out; clear ho13 hk13)
              | (go_at_call 19; refine (HRO2.out _ HQ13.out).mono ?_; clear HRO2 c0 c1 c2 c3 c4 c5 c6 c7 c8 c9 c10 c11 c12 c13; rintro e w14 ⟨v14, rfl, ho14, _, hk14⟩; obtain ⟨a14, b14, rfl⟩ := ownsRow_slice ho14; have HSA := hid (same_any _ _ fl w14 (HO13.out.kept hk14) (SlAt.of_own ho14)); have HQ14 := hid (HQ13.out.trans hk14 (fun x hx => by cases hx)); clear ho14 hk14)
              | (go_at_call 21; refine HSA.out.mono ?_; clear HSA; rintro e w15 ⟨rfl, hk15⟩; have HQ15 := hid (HQ14.out.trans hk15 (fun x hx => by cases hx)); clear hk15)
            have HSZ := hid (HS11.out.kept HQ15.out)
            have HKZ := hid (HK11.out.trans (HQ15.out.kd' HS11.out.dlt) (fun _ h => h))
            go_roundg (L.length - (k + 1))
            case measure => exact meas_lt hlt hkx
            case rel => exact ⟨k + 1, by first | rfl | go_num, Nat.succ_le_of_lt hlt, Nat.le_refl _, by show StoreAt _ _ _ _; rw [HSK1.out]; exact HSZ.out, HKZ.out⟩
          · have hbs : rs.base = sk.base := HBS.out.trans (if_neg (fun h => h5 ⟨h.1, h.2.1, HSST.out.trans h.2.2⟩))
            have hbl1 : rs.base.length ≤ 100000 := Nat.le_trans hrl (by decide)
            have hbl2 : sk.base.length ≤ 20000 := by rw [← hbs]; exact hrl
            have HBN := hid (fun W (h : StoreAt W (fun b => b < wn.heap.size) A rs) => show Calls Tryz.prog 14 #[.pointer (some ⟨A, 0, none⟩)] W fun e w' => ∃ v, e = .returned v ∧ PrAt w' v sk.base ∧ Kept [] W w' from by
              rw [← hbs]
              exact sbase_any h hbl1)
            have HFN := hid (fun W v (h : PrAt W v sk.base) => from_any v sk.base W h.at' hbl2)
            clear hbl1 hbl2 hrl
            have HSAME := hid (fun W v1 (h1 : SlAt W v1 6 sk.base.length (sk.base.flatMap Pr.f)) (hK : Kept [] w10 W) => same_any v1 _ sk.base W h1 (HR4c.out.kept hK))
            clear hbs HRO
            by_cases hw5 : what = 5
            · have hw5b : (what == 5) = true := by simpa using hw5
              cases commit with
              | false =>
                clear h5 hw5
                go_wp2_with first
                  | (go_at_call 14; refine (HBN.out _ (HS11.out.kept HQX.out)).mono ?_; clear c0 c1 c2 c3 c4 c5 c6 c7 c8 c9 c10 c11 c12 c13 HBN; rintro e w12 ⟨v12, rfl, hp12, hk12⟩; obtain ⟨a12, b12, rfl, _⟩ := hp12.at'.ex; have HF12 := hid (HFN.out _ _ hp12); have HQ12 := hid (HQX.out.trans hk12 (fun x hx => by cases hx)); obtain ⟨c0, c1, c2, c3, c4, c5, c6, c7, c8, c9, c10, c11, c12, c13⟩ := HCQ.out _ HQ12.out; clear hp12 hk12 HFN)
                  | (go_at_call 13; refine HF12.out.mono ?_; clear HF12 c0 c1 c2 c3 c4 c5 c6 c7 c8 c9 c10 c11 c12 c13; rintro e w13 ⟨v13, rfl, ho13, hk13⟩; obtain ⟨a13, b13, rfl⟩ := ownsRow_slice ho13; have HO13 := hid (SlAt.of_own ho13); have HQ13 := hid (HQ12.out.trans hk13 (fun x hx => by cases hx)); obtain ⟨c0, c1, c2, c3, c4, c5, c6, c7, c8, c9, c10, c11, c12, c13⟩ := HCQ.out _ HQ13.out; clear ho13 hk13)
                  | (go_at_call 21; refine (HSAME.out _ _ HO13.out HQ13.out).mono ?_; clear HSAME c0 c1 c2 c3 c4 c5 c6 c7 c8 c9 c10 c11 c12 c13; rintro e w14 ⟨rfl, hk14⟩; have HQ14 := hid (HQ13.out.trans hk14 (fun x hx => by cases hx)); clear hk14)
                have HSZ := hid (HS11.out.kept HQ14.out)
                have HKZ := hid (HK11.out.trans (HQ14.out.kd' HS11.out.dlt) (fun _ h => h))
                go_roundg (L.length - (k + 1))
                case measure => exact meas_lt hlt hkx
                case rel => exact ⟨k + 1, by first | rfl | go_num, Nat.succ_le_of_lt hlt, Nat.le_refl _, by show StoreAt _ _ _ _; rw [HSK1.out]; exact HSZ.out, HKZ.out⟩
              | true =>
                have hsb : (sst == 3) = false := by
                  simp only [beq_eq_false_iff_ne, ne_eq]
                  exact fun h => h5 ⟨hw5, rfl, h⟩
                clear h5 hw5
                go_wp2_with first
                  | (go_at_call 14; refine (HBN.out _ (HS11.out.kept HQX.out)).mono ?_; clear c0 c1 c2 c3 c4 c5 c6 c7 c8 c9 c10 c11 c12 c13 HBN; rintro e w12 ⟨v12, rfl, hp12, hk12⟩; obtain ⟨a12, b12, rfl, _⟩ := hp12.at'.ex; have HF12 := hid (HFN.out _ _ hp12); have HQ12 := hid (HQX.out.trans hk12 (fun x hx => by cases hx)); obtain ⟨c0, c1, c2, c3, c4, c5, c6, c7, c8, c9, c10, c11, c12, c13⟩ := HCQ.out _ HQ12.out; clear hp12 hk12 HFN)
                  | (go_at_call 13; refine HF12.out.mono ?_; clear HF12 c0 c1 c2 c3 c4 c5 c6 c7 c8 c9 c10 c11 c12 c13; rintro e w13 ⟨v13, rfl, ho13, hk13⟩; obtain ⟨a13, b13, rfl⟩ := ownsRow_slice ho13; have HO13 := hid (SlAt.of_own ho13); have HQ13 := hid (HQ12.out.trans hk13 (fun x hx => by cases hx)); obtain ⟨c0, c1, c2, c3, c4, c5, c6, c7, c8, c9, c10, c11, c12, c13⟩ := HCQ.out _ HQ13.out; clear ho13 hk13)
                  | (go_at_call 21; refine (HSAME.out _ _ HO13.out HQ13.out).mono ?_; clear HSAME c0 c1 c2 c3 c4 c5 c6 c7 c8 c9 c10 c11 c12 c13; rintro e w14 ⟨rfl, hk14⟩; have HQ14 := hid (HQ13.out.trans hk14 (fun x hx => by cases hx)); clear hk14)
                have HSZ := hid (HS11.out.kept HQ14.out)
                have HKZ := hid (HK11.out.trans (HQ14.out.kd' HS11.out.dlt) (fun _ h => h))
                go_roundg (L.length - (k + 1))
                case measure => exact meas_lt hlt hkx
                case rel => exact ⟨k + 1, by first | rfl | go_num, Nat.succ_le_of_lt hlt, Nat.le_refl _, by show StoreAt _ _ _ _; rw [HSK1.out]; exact HSZ.out, HKZ.out⟩
            · have hw5b : (what == 5) = false := by simpa using hw5
              clear h5 hw5
              go_wp2_with first
                | (go_at_call 14; refine (HBN.out _ (HS11.out.kept HQX.out)).mono ?_; clear c0 c1 c2 c3 c4 c5 c6 c7 c8 c9 c10 c11 c12 c13 HBN; rintro e w12 ⟨v12, rfl, hp12, hk12⟩; obtain ⟨a12, b12, rfl, _⟩ := hp12.at'.ex; have HF12 := hid (HFN.out _ _ hp12); have HQ12 := hid (HQX.out.trans hk12 (fun x hx => by cases hx)); obtain ⟨c0, c1, c2, c3, c4, c5, c6, c7, c8, c9, c10, c11, c12, c13⟩ := HCQ.out _ HQ12.out; clear hp12 hk12 HFN)
                | (go_at_call 13; refine HF12.out.mono ?_; clear HF12 c0 c1 c2 c3 c4 c5 c6 c7 c8 c9 c10 c11 c12 c13; rintro e w13 ⟨v13, rfl, ho13, hk13⟩; obtain ⟨a13, b13, rfl⟩ := ownsRow_slice ho13; have HO13 := hid (SlAt.of_own ho13); have HQ13 := hid (HQ12.out.trans hk13 (fun x hx => by cases hx)); obtain ⟨c0, c1, c2, c3, c4, c5, c6, c7, c8, c9, c10, c11, c12, c13⟩ := HCQ.out _ HQ13.out; clear ho13 hk13)
                | (go_at_call 21; refine (HSAME.out _ _ HO13.out HQ13.out).mono ?_; clear HSAME c0 c1 c2 c3 c4 c5 c6 c7 c8 c9 c10 c11 c12 c13; rintro e w14 ⟨rfl, hk14⟩; have HQ14 := hid (HQ13.out.trans hk14 (fun x hx => by cases hx)); clear hk14)
              have HSZ := hid (HS11.out.kept HQ14.out)
              have HKZ := hid (HK11.out.trans (HQ14.out.kd' HS11.out.dlt) (fun _ h => h))
              go_roundg (L.length - (k + 1))
              case measure => exact meas_lt hlt hkx
              case rel => exact ⟨k + 1, by first | rfl | go_num, Nat.succ_le_of_lt hlt, Nat.le_refl _, by show StoreAt _ _ _ _; rw [HSK1.out]; exact HSZ.out, HKZ.out⟩
      · obtain rfl : k = L.length := by omega
        have hltz : ¬ (L.length : Int) < (L.length : Int) := by omega
        have hS := HS.out
        rw [call_all] at hS
        obtain ⟨hso, hsl⟩ := call_lim S0OK.out S0LIM.out HG.out.symm L.length
        rw [call_all] at hso hsl
        generalize s0.steps (L.map (·.1)) = s at *
        have HSS := hid hS
        have HSO := hid hso
        have HSL := hid hsl
        have HK0 := hid HK.out
        clear hS hso hsl HS HC HOK HCA HG HK S0OK S0LIM
        go_wp2_with fail
        go_ret
        exact ⟨rfl, HKN.out.trans (KD.kept HK0.out) (fun x hx => by cases hx)⟩
--@@ end
end Go.Proofs.YtpfgpbafechncaaGreat.storeHidden
