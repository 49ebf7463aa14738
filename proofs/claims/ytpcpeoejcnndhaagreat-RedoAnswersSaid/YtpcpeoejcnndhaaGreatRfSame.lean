/- The reference: are two states one? -/
import Derived.Test.YtpcpeoejcnndhaaGreatRedoSame
import Derived.Test.YtpcpeoejcnndhaaGreatM2
import Derived.Test.YtpcpeoejcnndhaaGreatM11
import Derived.Test.YtpcpeoejcnndhaaGreatM8
set_option linter.all false
namespace Go.Proofs.YtpcpeoejcnndhaaGreat
open Go.RowKit Go.Shelf Go.Lib Go.Sort Go.Proofs
theorem map_at {L : List (Txp × Value)} {l : List Txp} (h : L.map (·.1) = l) {i : Nat} (hi : i < L.length) : l[i]? = some L[i].1 := by
  rw [← h, List.getElem?_map, List.getElem?_eq_getElem hi]
  rfl
--@@ concordatref11.Same
set_option maxHeartbeats 8000000 in
set_option maxRecDepth 100000 in
theorem rsame_any (b1 t1 b2 t2 : Value) (s t : Stp) (w : World) (h1 : RSt w b1 t1 s) (h2 : RSt w b2 t2 t) :
    Calls Tryz.prog 9 #[.agg #[b1, t1], .agg #[b2, t2]] w fun e w' => e = .returned (.bool (decide (s = t))) ∧ Kept [] w w' := by
  obtain ⟨base, txs⟩ := s
  obtain ⟨base2, txs2⟩ := t
  obtain ⟨L, hL, hS, hP⟩ := h1.txs.ex
  obtain ⟨L2, hL2, hS2, hP2⟩ := h2.txs.ex
  have hb1 := h1.base
  have hb2 := h2.base
  obtain ⟨ba, bc, rfl, _⟩ := h1.base.ex
  obtain ⟨ba2, bc2, rfl, _⟩ := h2.base.ex
  obtain ⟨ta, tc, rfl, htm, _, htc⟩ := hS.ex
  obtain ⟨ta2, tc2, rfl, htm2, _, htc2⟩ := hS2.ex
  dsimp only at hL hL2 hb1 hb2 ⊢
  have HW1 := hid (((Kept.refl [] w).alloc (.cells #[.slice ba base.length bc, .slice ta L.length tc] 26)).alloc (.cells #[.slice ba2 base2.length bc2, .slice ta2 L2.length tc2] 26))
  have HC1 := hid (fun W (hK : Kept [] ((w.alloc (.cells #[.slice ba base.length bc, .slice ta L.length tc] 26)).alloc (.cells #[.slice ba2 base2.length bc2, .slice ta2 L2.length tc2] 26)) W) => And.intro (blk2 (((Kept.refl [] _).alloc _).trans hK (fun x hx => .inl hx))) (show W.cell? ⟨w.heap.size + 1, 0, none⟩ = some (.slice ba2 base2.length bc2) ∧ W.cell? ⟨w.heap.size + 1, 1, none⟩ = some (.slice ta2 L2.length tc2) from by have := blk2 hK; simpa using this))
  have HSP := hid (fun W (hK : Kept [] w W) => samePairs_any _ _ base base2 W (hb1.kept hK) (hb2.kept hK))
  obtain ⟨r, hr⟩ : ∃ r, r = decide ((⟨base, txs⟩ : Stp) = ⟨base2, txs2⟩) := ⟨_, rfl⟩
  rw [← hr]
  have HR := hid hr
  have HTC := hid htc
  have HTC2 := hid htc2
  have HP := hid hP
  have HP2 := hid hP2
  have HL := hid hL
  have HL2 := hid hL2
  clear h1 h2 hS hS2 hP hP2 hb1 hb2 htc htc2 hL hL2 hr
  obtain ⟨d, hd⟩ : ∃ d, d = decide (base = base2) := ⟨_, rfl⟩
  rw [← hd] at HSP
  cases d with
  | false =>
    have HRF := hid (show r = false by
      rw [HR.out]
      refine decide_eq_false fun e => ?_
      have : base = base2 := congrArg Stp.base e
      rw [decide_eq_true this] at hd
      cases hd)
    clear hd HR HTC HTC2 HP HP2
    go_enter Tryz.func9, Tryz.ntmps9
    go_wp2_with (go_at_call 25; refine (HSP.out _ HW1.out).mono ?_; clear HSP; rintro e w2 ⟨rfl, hk2⟩)
    go_returns
    exact ⟨ret_bool HRF.out.symm, HW1.out.trans hk2 (fun x hx => .inl hx)⟩
  | true =>
  have hbe : base = base2 := of_decide_eq_true hd.symm
  have HBE := hid hbe
  clear hd hbe
  by_cases hll : L.length = L2.length
  · have hllb : ((L.length : Int) != (L2.length : Int)) = false := by simp [hll]
    have HLL := hid hll
    clear hll
    go_enter Tryz.func9, Tryz.ntmps9
    go_wp2_with (go_at_call 25; refine (HSP.out _ HW1.out).mono ?_; clear HSP; rintro e w2 ⟨rfl, hk2⟩; obtain ⟨⟨y0, y1⟩, y2, y3⟩ := HC1.out w2 hk2; have HK2 := hid hk2; clear hk2)
    generalize (w.alloc (.cells #[.slice ba base.length bc, .slice ta L.length tc] 26)).alloc (.cells #[.slice ba2 base2.length bc2, .slice ta2 L2.length tc2] 26) = W1 at *
    go_loopg [5] L.length (fun kx s5 wr => ∃ k : Nat, s5 = .int .i64 k ∧ k ≤ L.length ∧ L.length - k ≤ kx ∧ Aside (∀ i, i < k → txs[i]? = txs2[i]?) ∧ Aside (Kept [] W1 wr))
    case atStart => exact ⟨0, by first | rfl | go_num, by omega, by omega, (fun i hi => by omega), HK2.out⟩
    case round =>
      clear y0 y1 y2 y3 HK2
      obtain ⟨k, rfl, hk, hkx, HE, HK⟩ := hrel
      obtain ⟨⟨y0, y1⟩, y2, y3⟩ := HC1.out wr HK.out
      have HKW := hid (HW1.out.trans HK.out (fun x hx => .inl hx))
      by_cases hlt : k < L.length
      · have hltz : (k : Int) < (L.length : Int) := by omega
        have hlt2 : k < L2.length := by have := HLL.out; omega
        have hltz2 : (k : Int) < (L2.length : Int) := by omega
        obtain ⟨b, off, rfl, _, d1⟩ := HTC.out (by omega)
        obtain ⟨b', off', rfl, _, d2⟩ := HTC2.out (by omega)
        obtain ⟨e0, e1, e2, e3⟩ := tx_cells (fun j u hu => HKW.out.cell (d1 j u hu) (by simp)) hlt
        have HD2 := hid (fun (W : World) (hW : Kept [] wr W) => tx_cells (fun j u hu => (HKW.out.trans hW (fun x hx => .inl hx)).cell (d2 j u hu) (by simp)) hlt2)
        have HQ1 := hid (fun (W : World) (hW : Kept [] wr W) => (HP.out _ (List.getElem_mem hlt)).kept (HKW.out.trans hW (fun x hx => .inl hx)))
        have HQ2 := hid (fun (W : World) (hW : Kept [] wr W) => (HP2.out _ (List.getElem_mem hlt2)).kept (HKW.out.trans hW (fun x hx => .inl hx)))
        have HX1 := hid (map_at HL.out hlt)
        have HX2 := hid (map_at HL2.out hlt2)
        clear d1 d2
        generalize L[k] = q1 at *
        generalize L2[k] = q2 at *
        obtain ⟨⟨n, mask, com, ws⟩, qv⟩ := q1
        obtain ⟨⟨n', mask', com', ws'⟩, qv'⟩ := q2
        dsimp only at e0 e1 e2 e3 HD2 HQ1 HQ2 HX1 HX2
        obtain ⟨qa, qc, rfl, _⟩ := (HQ1.out wr (Kept.refl [] wr)).ex
        obtain ⟨qa', qc', rfl, _⟩ := (HQ2.out wr (Kept.refl [] wr)).ex
        have HNE := hid (fun (h : (⟨n, mask, com, ws⟩ : Txp) ≠ ⟨n', mask', com', ws'⟩) => show r = false by
          rw [HR.out]
          refine decide_eq_false fun e => h ?_
          have e2 : txs = txs2 := congrArg Stp.txs e
          have h1 := HX1.out
          rw [e2, HX2.out] at h1
          exact (Option.some.inj h1).symm)
        have HBX := hid (((Kept.refl [] wr).alloc (.cells #[.int .i64 n, .int .u16 (mask : Int), .bool com, .slice qa ws.length qc] 61)).alloc (.cells #[.int .i64 n', .int .u16 (mask' : Int), .bool com', .slice qa' ws'.length qc'] 61))
        obtain ⟨f0, f1, f2, f3⟩ := HD2.out _ ((Kept.refl [] wr).alloc (.cells #[.int .i64 n, .int .u16 (mask : Int), .bool com, .slice qa ws.length qc] 61))
        have z3 := HC1.out _ (HK.out.alloc (.cells #[.int .i64 n, .int .u16 (mask : Int), .bool com, .slice qa ws.length qc] 61))
        obtain ⟨_, _, z3⟩ := z3
        by_cases hn : n = n'
        · subst hn
          by_cases hm : mask = mask'
          · subst hm
            by_cases hc : com = com'
            · subst hc
              have HSQ := hid (fun (W : World) (hW : Kept [] wr W) => samePairs_any _ _ ws ws' W (HQ1.out W hW) (HQ2.out W hW))
              obtain ⟨dw, hdw⟩ : ∃ dw, dw = decide (ws = ws') := ⟨_, rfl⟩
              rw [← hdw] at HSQ
              cases dw with
              | false =>
                have HRF := hid (HNE.out fun e => by
                  have : ws = ws' := congrArg Txp.ws e
                  rw [decide_eq_true this] at hdw
                  cases hdw)
                clear hdw HX1 HX2
                go_wp2_with (go_at_call 25; refine (HSQ.out _ HBX.out).mono ?_; clear HSQ; rintro e w3 ⟨rfl, hk3⟩)
                go_returns
                exact ⟨ret_bool HRF.out.symm, HKW.out.trans (HBX.out.trans hk3 (fun x hx => .inl hx)) (fun x hx => .inl hx)⟩
              | true =>
                have HE2 := hid (show ∀ i, i < k + 1 → txs[i]? = txs2[i]? from fun i hi => by
                  by_cases hik : i = k
                  · subst hik
                    rw [HX1.out, HX2.out, of_decide_eq_true hdw.symm]
                  · exact HE.out i (by omega))
                clear hdw HX1 HX2
                go_wp2_with (go_at_call 25; refine (HSQ.out _ HBX.out).mono ?_; clear HSQ; rintro e w3 ⟨rfl, hk3⟩; have HK3 := hid (HK.out.trans (HBX.out.trans hk3 (fun x hx => .inl hx)) (fun x hx => .inl hx)); clear hk3)
                go_roundg (L.length - (k + 1))
                case measure => exact Nat.lt_of_lt_of_le (Nat.sub_succ_lt_self _ _ hlt) hkx
                case rel => exact ⟨k + 1, by first | rfl | go_num, by omega, Nat.le_refl _, HE2.out, HK3.out⟩
            · have HRF := hid (HNE.out fun e => hc (congrArg Txp.com e))
              clear HX1 HX2 HNE
              cases com <;> cases com'
              · exact absurd rfl hc
              · clear hc
                go_wp2
                go_returns
                exact ⟨ret_bool HRF.out.symm, HKW.out.trans HBX.out (fun x hx => .inl hx)⟩
              · clear hc
                go_wp2
                go_returns
                exact ⟨ret_bool HRF.out.symm, HKW.out.trans HBX.out (fun x hx => .inl hx)⟩
              · exact absurd rfl hc
          · have hmb : ((mask : Int) != (mask' : Int)) = true := by simp; omega
            have HRF := hid (HNE.out fun e => hm (congrArg Txp.mask e))
            clear hm HX1 HX2
            go_wp2
            go_returns
            exact ⟨ret_bool HRF.out.symm, HKW.out.trans HBX.out (fun x hx => .inl hx)⟩
        · have hnb : (n != n') = true := by simpa using hn
          have HRF := hid (HNE.out fun e => hn (congrArg Txp.n e))
          clear hn HX1 HX2
          go_wp2
          go_returns
          exact ⟨ret_bool HRF.out.symm, HKW.out.trans HBX.out (fun x hx => .inl hx)⟩
      · obtain rfl : k = L.length := by omega
        have hltz : ¬ (L.length : Int) < (L.length : Int) := by omega
        have HRT := hid (show r = true by
          rw [HR.out]
          refine decide_eq_true ?_
          have h1 : txs.length = L.length := by rw [← HL.out, List.length_map]
          have h2 : txs2.length = L2.length := by rw [← HL2.out, List.length_map]
          have h3 := HLL.out
          have : txs = txs2 := List.ext_getElem? fun i => by
            by_cases hi : i < L.length
            · exact HE.out i hi
            · rw [List.getElem?_eq_none (by omega), List.getElem?_eq_none (by omega)]
          rw [this, HBE.out])
        clear HR
        go_wp2
        go_returns
        exact ⟨ret_bool HRT.out.symm, HKW.out⟩
  · have hllb : ((L.length : Int) != (L2.length : Int)) = true := by simp; omega
    have HRF := hid (show r = false by
      rw [HR.out]
      refine decide_eq_false fun e => hll ?_
      have e2 : txs = txs2 := congrArg Stp.txs e
      have h1 := congrArg List.length HL.out
      have h2 := congrArg List.length HL2.out
      rw [List.length_map] at h1 h2
      rw [h1, h2, e2])
    clear hll HR HTC HTC2 HP HP2
    go_enter Tryz.func9, Tryz.ntmps9
    go_wp2_with (go_at_call 25; refine (HSP.out _ HW1.out).mono ?_; clear HSP; rintro e w2 ⟨rfl, hk2⟩; obtain ⟨⟨y0, y1⟩, y2, y3⟩ := HC1.out w2 hk2)
    go_returns
    exact ⟨ret_bool HRF.out.symm, HW1.out.trans hk2 (fun x hx => .inl hx)⟩
--@@ end
end Go.Proofs.YtpcpeoejcnndhaaGreat
