/- Is a state right? -/
import Derived.Test.YtpcpeoejcnndhaaGreatRedoEq
import Derived.Test.YtpcpeoejcnndhaaGreatM1
import Derived.Deep.DeepCutAuto
import Derived.Deep.CutBlock
set_option linter.all false
namespace Go.Proofs.YtpcpeoejcnndhaaGreat
open Go.RowKit Go.Shelf Go.Lib Go.Sort Go.Proofs
theorem any_wrong (l : List Pr) : (!(l.any fun x => !x.val.right)) = okV l := by
  unfold okV
  rw [List.not_any_eq_all_not]
  simp
theorem any_absent (l : List Pr) : (!(l.any fun x => !x.val.there)) = l.all fun p => p.val.there := by
  rw [List.not_any_eq_all_not]
  simp
--@@ (redo.Tx).right
theorem tx_box {w W : World} {t : TypeId} {a b c d : Value} (hK : Kept [] (w.alloc (.cells #[a, b, c, d] t)) W) :
    W.cell? ⟨w.heap.size, 0, none⟩ = some a ∧ W.cell? ⟨w.heap.size, 1, none⟩ = some b ∧ W.cell? ⟨w.heap.size, 2, none⟩ = some c ∧ W.cell? ⟨w.heap.size, 3, none⟩ = some d :=
  ⟨hK.cell (new_cell w [a, b, c, d] t 0 _ rfl) (by simp), hK.cell (new_cell w [a, b, c, d] t 1 _ rfl) (by simp), hK.cell (new_cell w [a, b, c, d] t 2 _ rfl) (by simp), hK.cell (new_cell w [a, b, c, d] t 3 _ rfl) (by simp)⟩
set_option maxHeartbeats 4000000 in
set_option maxRecDepth 100000 in
theorem txright_any (x : Txp) (v : Value) (behind : Int) (w : World) (h : SlAt w v 6 x.ws.length (x.ws.flatMap Pr.f)) :
    Calls Tryz.prog 42 #[.agg #[.int .i64 x.n, .int .u16 (x.mask : Int), .bool x.com, v], .int .i64 behind] w fun e w' => e = .returned (.bool (x.right behind)) ∧ Kept [] w w' := by
  obtain ⟨a, cap, rfl, _⟩ := h.ex
  obtain ⟨n, mask, com, ws⟩ := x
  dsimp only at h ⊢
  have HORD := hid (fun W (hK : Kept [] w W) => ordered_any (.slice a ws.length cap) ws W (h.kept hK))
  have HCON := hid (fun W (hK : Kept [] w W) => contains_anyP 64 (fun x => !x.val.right) (enters_of Tryz.func64 (by kernel_rfl) rfl) wrong_any (.slice a ws.length cap) ws W (h.kept hK))
  have HB := hid (fun W (hK : Kept [] (w.alloc (.cells #[.int .i64 n, .int .u16 (mask : Int), .bool com, .slice a ws.length cap] 59)) W) => tx_box hK)
  clear h
  obtain ⟨r, hr⟩ : ∃ r, r = Txp.right ⟨n, mask, com, ws⟩ behind := ⟨_, rfl⟩
  rw [← hr]
  unfold Txp.right at hr
  dsimp only at hr
  by_cases h1 : behind < n
  · by_cases h2 : n ≤ 1048576
    · by_cases h3 : mask = 0
      · subst h3
        have hr' : r = false := by rw [hr]; simp
        have HR := hid hr'
        clear hr hr' HORD HCON HB
        go_enter Tryz.func42, Tryz.ntmps42
        go_wp2
        go_returns
        exact ⟨ret_bool HR.out.symm, (Kept.refl [] w).alloc _⟩
      · have h3b : ((mask : Int) != 0) = true := by simpa using h3
        have hcl : (com = true ∧ ws.length ≠ 0) ∨ (com = false ∨ com = true ∧ ws.length = 0) := by
          cases com
          · exact .inr (.inl rfl)
          · by_cases hz : ws.length = 0
            · exact .inr (.inr ⟨rfl, hz⟩)
            · exact .inl ⟨rfl, hz⟩
        rcases hcl with ⟨rfl, hz⟩ | hcl
        · have hr' : r = false := by rw [hr]; simp [hz]
          have HR := hid hr'
          have hzb : ((ws.length : Int) == 0) = false := by simp; intro e; exact hz (by rw [e]; rfl)
          clear hr hr' HORD HCON HB h3 hz
          go_enter Tryz.func42, Tryz.ntmps42
          go_wp2
          go_returns
          exact ⟨ret_bool HR.out.symm, (Kept.refl [] w).alloc _⟩
        · by_cases hs : Srt ws
          · have hr' : r = okV ws := by
              rw [hr]
              rcases hcl with rfl | ⟨rfl, hz⟩
              · simp [h1, h2, h3, hs]
              · simp [h1, h2, h3, hs, hz]
            rw [← any_wrong] at hr'
            have hsd : decide (Srt ws) = true := decide_eq_true hs
            rw [hsd] at HORD
            have HR := hid hr'
            clear hr hr' hs hsd h3
            generalize (ws.any fun x => !x.val.right) = aw at HCON HR
            rcases hcl with rfl | ⟨rfl, hz⟩
            · go_enter Tryz.func42, Tryz.ntmps42
              go_wp2_with (first
                | (go_at_call 40; refine (HORD.out _ (show Kept [] w _ by (repeat (first | assumption | (with_reducible exact Kept.refl _ _) | (with_reducible refine Kept.drew ?_) | (with_reducible refine Kept.alloc ?_ _) | (with_reducible refine Kept.setCell ?_ (by right; simp; try omega) _))))).mono ?_; clear HORD; rintro e w2 ⟨rfl, hk2⟩; obtain ⟨y0, y1, y2, y3⟩ := HB.out w2 hk2; have HK2 := hid (((Kept.refl [] w).alloc _).trans hk2 (fun x hx => .inl hx)); clear hk2)
                | (go_at_call 41; refine (HCON.out _ HK2.out).mono ?_; clear HCON; rintro e w3 ⟨rfl, hk3⟩))
              go_returns
              exact ⟨ret_bool HR.out.symm, HK2.out.trans hk3 (fun x hx => .inl hx)⟩
            · have hzb : ((ws.length : Int) == 0) = true := by rw [hz]; rfl
              clear hz
              go_enter Tryz.func42, Tryz.ntmps42
              go_wp2_with (first
                | (go_at_call 40; refine (HORD.out _ (show Kept [] w _ by (repeat (first | assumption | (with_reducible exact Kept.refl _ _) | (with_reducible refine Kept.drew ?_) | (with_reducible refine Kept.alloc ?_ _) | (with_reducible refine Kept.setCell ?_ (by right; simp; try omega) _))))).mono ?_; clear HORD; rintro e w2 ⟨rfl, hk2⟩; obtain ⟨y0, y1, y2, y3⟩ := HB.out w2 hk2; have HK2 := hid (((Kept.refl [] w).alloc _).trans hk2 (fun x hx => .inl hx)); clear hk2)
                | (go_at_call 41; refine (HCON.out _ HK2.out).mono ?_; clear HCON; rintro e w3 ⟨rfl, hk3⟩))
              go_returns
              exact ⟨ret_bool HR.out.symm, HK2.out.trans hk3 (fun x hx => .inl hx)⟩
          · have hr' : r = false := by rw [hr]; simp [hs]
            have hsd : decide (Srt ws) = false := decide_eq_false hs
            rw [hsd] at HORD
            have HR := hid hr'
            clear hr hr' hs hsd h3 HCON
            rcases hcl with rfl | ⟨rfl, hz⟩
            · go_enter Tryz.func42, Tryz.ntmps42
              go_wp2_with (first
                | (go_at_call 40; refine (HORD.out _ (show Kept [] w _ by (repeat (first | assumption | (with_reducible exact Kept.refl _ _) | (with_reducible refine Kept.drew ?_) | (with_reducible refine Kept.alloc ?_ _) | (with_reducible refine Kept.setCell ?_ (by right; simp; try omega) _))))).mono ?_; clear HORD; rintro e w2 ⟨rfl, hk2⟩; have HK2 := hid (((Kept.refl [] w).alloc _).trans hk2 (fun x hx => .inl hx)); clear hk2))
              go_returns
              exact ⟨ret_bool HR.out.symm, HK2.out⟩
            · have hzb : ((ws.length : Int) == 0) = true := by rw [hz]; rfl
              clear hz
              go_enter Tryz.func42, Tryz.ntmps42
              go_wp2_with (first
                | (go_at_call 40; refine (HORD.out _ (show Kept [] w _ by (repeat (first | assumption | (with_reducible exact Kept.refl _ _) | (with_reducible refine Kept.drew ?_) | (with_reducible refine Kept.alloc ?_ _) | (with_reducible refine Kept.setCell ?_ (by right; simp; try omega) _))))).mono ?_; clear HORD; rintro e w2 ⟨rfl, hk2⟩; have HK2 := hid (((Kept.refl [] w).alloc _).trans hk2 (fun x hx => .inl hx)); clear hk2))
              go_returns
              exact ⟨ret_bool HR.out.symm, HK2.out⟩
    · have hr' : r = false := by rw [hr]; simp [h2]
      have HR := hid hr'
      clear hr hr' HORD HCON HB
      go_enter Tryz.func42, Tryz.ntmps42
      go_wp2
      go_returns
      exact ⟨ret_bool HR.out.symm, (Kept.refl [] w).alloc _⟩
  · have hr' : r = false := by rw [hr]; simp [h1]
    have HR := hid hr'
    clear hr hr' HORD HCON HB
    go_enter Tryz.func42, Tryz.ntmps42
    go_wp2
    go_returns
    exact ⟨ret_bool HR.out.symm, (Kept.refl [] w).alloc _⟩
--@@ end
theorem box2 {w W : World} {t : TypeId} {a b : Value} (hK : Kept [] (w.alloc (.cells #[a, b] t)) W) :
    W.cell? ⟨w.heap.size, 0, none⟩ = some a ∧ W.cell? ⟨w.heap.size, 1, none⟩ = some b :=
  ⟨hK.cell (new_cell w [a, b] t 0 _ rfl) (by simp), hK.cell (new_cell w [a, b] t 1 _ rfl) (by simp)⟩
--@@ (redo.State).right
set_option maxHeartbeats 8000000 in
set_option maxRecDepth 100000 in
theorem stright_any (bv tv : Value) (s : Stp) (w : World) (h : StAt w bv tv s) :
    Calls Tryz.prog 21 #[.agg #[bv, tv]] w fun e w' => e = .returned (.bool s.right) ∧ Kept [] w w' := by
  obtain ⟨base, txs⟩ := s
  obtain ⟨L, hL, hS, hP⟩ := h.txs.ex
  obtain ⟨ba, bc, rfl, _⟩ := h.base.at'.ex
  obtain ⟨ta, tc, rfl, htm, _, htc⟩ := hS.ex
  dsimp only at hL ⊢
  have hbase := h.base.at'
  dsimp only at hbase
  have HORD := hid (fun W (hK : Kept [] w W) => ordered_any (.slice ba base.length bc) base W (hbase.kept hK))
  have HCON := hid (fun W (hK : Kept [] w W) => contains_anyP 39 (fun x => !x.val.there) (enters_of Tryz.func39 (by kernel_rfl) rfl) absent_any (.slice ba base.length bc) base W (hbase.kept hK))
  have HB := hid (fun W (hK : Kept [] (w.alloc (.cells #[.slice ba base.length bc, .slice ta L.length tc] 32)) W) => box2 hK)
  have HTC := hid htc
  have HP := hid hP
  have HL := hid hL
  clear h hS hP hbase htc hL
  obtain ⟨r, hr⟩ : ∃ r, r = Stp.right ⟨base, txs⟩ := ⟨_, rfl⟩
  rw [← hr]
  unfold Stp.right at hr
  dsimp only at hr
  rw [← any_absent] at hr
  by_cases h1 : base.length ≤ 64
  · have h1b : ¬ (64 : Int) < (base.length : Int) := by omega
    by_cases h2 : Srt base
    · have hsd : decide (Srt base) = true := decide_eq_true h2
      rw [hsd] at HORD
      obtain ⟨aw, haw⟩ : ∃ aw, (base.any fun x => !x.val.there) = aw := ⟨_, rfl⟩
      rw [haw] at HCON hr
      have hr2 : r = (!aw && rightTs 0 txs) := by rw [hr]; simp [h1, h2]
      have HR := hid hr2
      clear hr hr2 hsd h2 haw h1
      go_enter Tryz.func21, Tryz.ntmps21
      go_upto_region 2 with (fail)
      go_cut [22] (fun s22 wx => s22 = .bool aw ∧ Aside (Kept [] (w.alloc (.cells #[.slice ba base.length bc, .slice ta L.length tc] 32)) wx))
      case first =>
        clear HTC HP HL HR
        go_wp2_with (first
          | (go_at_call 40; refine (HORD.out _ (show Kept [] w _ by (repeat (first | assumption | (with_reducible exact Kept.refl _ _) | (with_reducible refine Kept.drew ?_) | (with_reducible refine Kept.alloc ?_ _) | (with_reducible refine Kept.setCell ?_ (by right; simp; try omega) _))))).mono ?_; clear HORD; rintro e w2 ⟨rfl, hk2⟩; obtain ⟨y0, y1⟩ := HB.out w2 hk2; have HK2 := hid (((Kept.refl [] w).alloc _).trans hk2 (fun x hx => .inl hx)); have HK2b := hid hk2; clear hk2)
          | (go_at_call 41; refine (HCON.out _ HK2.out).mono ?_; clear HCON; rintro e w3 ⟨rfl, hk3⟩))
        go_meet
        exact ⟨rfl, HK2b.out.trans hk3 (fun x hx => .inl hx)⟩
      case rest =>
      obtain ⟨rfl, HK⟩ := hcut
      rename World => wb
      have HKW := hid (((Kept.refl [] w).alloc _).trans HK.out (fun x hx => .inl hx))
      obtain ⟨y0, y1⟩ := HB.out wb HK.out
      clear HORD HCON HB HK
      cases aw with
      | true =>
        clear HTC HP HL
        go_wp2
        go_returns
        exact ⟨ret_bool (by rw [HR.out]; rfl), HKW.out⟩
      | false =>
        have hR2 : r = rightTs 0 txs := by rw [HR.out]; simp
        have HR2 := hid hR2
        clear HR hR2
        go_wp2
        go_loopw [26, 4] (fun i s4 wr => ∃ (k : Nat) (lk : Int), k ≤ L.length ∧ i = .int .i64 k ∧ s4 = .int .i64 lk ∧ Hid (rightTs 0 txs = rightTs lk (txs.drop k)) ∧ Aside (Kept [] w wr)) (fun i _ _ => L.length - (intOf i).toNat)
        case atStart => exact ⟨0, 0, Nat.zero_le _, rfl, rfl, rfl, HKW.out⟩
        case round =>
          obtain ⟨k, lk, hk, rfl, rfl, HD, HK⟩ := hrel
          clear y0 y1
          have hll : txs.length = L.length := by rw [← HL.out, List.length_map]
          by_cases hlt : k < L.length
          · obtain ⟨b, off, rfl, _, d1⟩ := HTC.out (by omega)
            obtain ⟨e0, e1, e2, e3⟩ := tx_cells (fun j u hu => HK.out.cell (d1 j u hu) (by simp)) hlt
            have hdr : txs.drop k = L[k].1 :: txs.drop (k + 1) := by
              rw [List.drop_eq_getElem_cons (by omega)]
              congr 1
              simp [← HL.out]
            have HQ := hid ((HP.out _ (List.getElem_mem hlt)).kept HK.out)
            have HDR := hid hdr
            clear d1 hdr hll
            generalize L[k] = q at *
            obtain ⟨x, qv⟩ := q
            dsimp only at e0 e1 e2 e3
            have HQ2 := hid (show PrAt wr qv x.ws from HQ.out)
            clear HQ
            obtain ⟨qa, qc, rfl, _⟩ := HQ2.out.at'.ex
            have HTR := hid (fun W (hK : Kept [] wr W) => txright_any x _ lk W (HQ2.out.at'.kept hK))
            cases hxr : x.right lk with
            | true =>
              rw [hxr] at HTR
              have hD2 : rightTs 0 txs = rightTs x.n (txs.drop (k + 1)) := by rw [HD.out, HDR.out]; show (x.right lk && _) = _; rw [hxr, Bool.true_and]
              have HD2 := hid hD2
              have HB2 := hid (fun W (hK : Kept [] (wr.alloc (.cells #[.int .i64 x.n, .int .u16 (x.mask : Int), .bool x.com, .slice qa x.ws.length qc] 59)) W) => tx_box hK)
              clear hxr hD2 HDR HD
              go_wp2_with (go_at_call 42; refine (HTR.out _ (show Kept [] wr _ by (repeat (first | assumption | (with_reducible exact Kept.refl _ _) | (with_reducible refine Kept.drew ?_) | (with_reducible refine Kept.alloc ?_ _) | (with_reducible refine Kept.setCell ?_ (by right; simp; try omega) _))))).mono ?_; clear HTR; rintro e w2 ⟨rfl, hk2⟩; obtain ⟨z0, z1, z2, z3⟩ := HB2.out w2 hk2; have HK2 := hid (((Kept.refl [] wr).alloc _).trans hk2 (fun x hx => .inl hx)); clear hk2)
              go_roundw
              case rel => exact ⟨k + 1, x.n, by omega, by go_num, rfl, HD2.out, HK.out.trans HK2.out (fun x hx => .inl hx)⟩
              case measure => simp [intOf]; omega
            | false =>
              rw [hxr] at HTR
              have hrf : r = false := by rw [HR2.out, HD.out, HDR.out]; show (x.right lk && _) = _; rw [hxr, Bool.false_and]
              have HRF := hid hrf
              clear hxr hrf HDR HD
              go_wp2_with (go_at_call 42; refine (HTR.out _ (show Kept [] wr _ by (repeat (first | assumption | (with_reducible exact Kept.refl _ _) | (with_reducible refine Kept.drew ?_) | (with_reducible refine Kept.alloc ?_ _) | (with_reducible refine Kept.setCell ?_ (by right; simp; try omega) _))))).mono ?_; clear HTR; rintro e w2 ⟨rfl, hk2⟩; have HK2 := hid (((Kept.refl [] wr).alloc _).trans hk2 (fun x hx => .inl hx)); clear hk2)
              go_returns
              exact ⟨ret_bool HRF.out.symm, HK.out.trans HK2.out (fun x hx => .inl hx)⟩
          · obtain rfl : k = L.length := by omega
            have hltz : ¬ (L.length : Int) < (L.length : Int) := by omega
            have hrt : r = true := by rw [HR2.out, HD.out, List.drop_of_length_le (by omega)]; rfl
            have HRT := hid hrt
            clear hrt hll HD
            go_wp2
            go_returns
            exact ⟨ret_bool HRT.out.symm, HK.out⟩
    · have hsd : decide (Srt base) = false := decide_eq_false h2
      rw [hsd] at HORD
      have hr' : r = false := by rw [hr]; simp [h2]
      have HR := hid hr'
      clear hr hr' h2 hsd HCON
      go_enter Tryz.func21, Tryz.ntmps21
      go_wp2_with (first
        | (go_at_call 40; refine (HORD.out _ (show Kept [] w _ by (repeat (first | assumption | (with_reducible exact Kept.refl _ _) | (with_reducible refine Kept.drew ?_) | (with_reducible refine Kept.alloc ?_ _) | (with_reducible refine Kept.setCell ?_ (by right; simp; try omega) _))))).mono ?_; clear HORD; rintro e w2 ⟨rfl, hk2⟩; have HK2 := hid (((Kept.refl [] w).alloc _).trans hk2 (fun x hx => .inl hx)); clear hk2))
      go_returns
      exact ⟨ret_bool HR.out.symm, HK2.out⟩
  · have h1b : (64 : Int) < (base.length : Int) := by omega
    have hr' : r = false := by rw [hr]; simp [h1]
    have HR := hid hr'
    clear hr hr' h1 HORD HCON
    go_enter Tryz.func21, Tryz.ntmps21
    go_wp2
    go_returns
    exact ⟨ret_bool HR.out.symm, (Kept.refl [] w).alloc _⟩
--@@ end
theorem cells_new1 (w : World) (o : Obj) (l : List Value) (t : TypeId) (j : Nat) (u : Value) (h : l[j]? = some u) : ((w.alloc o).alloc (.cells l.toArray t)).cell? ((⟨w.heap.size + 1, 0, none⟩ : Addr).add j) = some u := by
  have := cells_new (w.alloc o) l t j u h
  rw [World.size_alloc] at this
  exact this
def numsL (l : List Txp) (c : Bool) : List Int := (l.filter fun x => x.com == c).map (·.n)
theorem numsL_le (l : List Txp) (c : Bool) : (numsL l c).length ≤ l.length := by unfold numsL; rw [List.length_map]; exact List.length_filter_le _ _
--@@ (redo.State).numbers
set_option maxHeartbeats 4000000 in
set_option maxRecDepth 100000 in
theorem numbers_any (bv tv : Value) (s : Stp) (c : Bool) (w : World) (h : StAt w bv tv s) (hlen : s.txs.length ≤ 1000000) :
    Calls Tryz.prog 35 #[.agg #[bv, tv], .bool c] w fun e w' => ∃ v, e = .returned v ∧ w'.ownsRow w.heap.size 3 1 v (numbersS s c).length ((numbersS s c).map (Value.int .i64)) ∧ Kept [] w w' := by
  obtain ⟨base, txs⟩ := s
  dsimp only at hlen
  show Calls Tryz.prog 35 #[.agg #[bv, tv], .bool c] w fun e w' => ∃ v, e = .returned v ∧ w'.ownsRow w.heap.size 3 1 v (numsL txs c).length ((numsL txs c).map (Value.int .i64)) ∧ Kept [] w w'
  obtain ⟨L, hL, hS, hP⟩ := h.txs.ex
  obtain ⟨_, _, rfl, _⟩ := h.base.at'.ex
  obtain ⟨ta, tc, rfl, htm, _, htc⟩ := hS.ex
  dsimp only at hL
  have info3 : (Tryz.prog.info? 3).map (fun i => (i.zero, i.size, i.bytes)) = some (some (.int .i64 0), 1, 8) := by kernel_rfl
  have HF := hid info3
  have HTC := hid htc
  have HP := hid hP
  have HL := hid hL
  clear h hS hP htc hL info3
  have hll : txs.length = L.length := by rw [← HL.out, List.length_map]
  have HLL := hid hll
  have HLEN := hid hlen
  clear hll hlen
  go_enter Tryz.func35, Tryz.ntmps35
  go_wp2
  go_loopw [5, 11] (fun v i wr => ∃ k : Nat, k ≤ L.length ∧ i = .int .i64 k ∧ wr.ownsRow w.heap.size 3 1 v (numsL (txs.take k) c).length ((numsL (txs.take k) c).map (Value.int .i64)) ∧ Kept [] w wr) (fun _ i _ => L.length - (intOf i).toNat)
  case atStart => exact ⟨0, Nat.zero_le _, rfl, ⟨rfl, .inl ⟨rfl, rfl⟩⟩, (Kept.refl [] w).alloc _⟩
  case round =>
    obtain ⟨k, hk, rfl, hown, hkp⟩ := hrel
    have HO := hid hown
    have HK := hid hkp
    have hsz := hkp.size
    have HLE := hid (Nat.le_trans (numsL_le (txs.take k) c) (Nat.le_trans (List.length_take_le _ _) (by have := HLEN.out; have := HLL.out; omega : k ≤ 1000000)))
    clear hown hkp
    by_cases hlt : k < L.length
    · obtain ⟨b, off, rfl, _, d1⟩ := HTC.out (by omega)
      obtain ⟨e0, e1, e2, e3⟩ := tx_cells (fun j u hu => HK.out.cell (d1 j u hu) (by simp)) hlt
      have hq1 : txs[k]'(by rw [HLL.out]; exact hlt) = L[k].1 := by simp [← HL.out]
      have HT := hid (show txs.take (k + 1) = txs.take k ++ [L[k].1] by rw [List.take_succ_eq_append_getElem (by rw [HLL.out]; exact hlt), hq1])
      clear d1 hq1
      have HQ := hid (HP.out _ (List.getElem_mem hlt))
      generalize L[k] = q at *
      obtain ⟨⟨n, mask, com, ws⟩, qv⟩ := q
      dsimp only at e0 e1 e2 e3
      have HQ2 := hid (show PrAt w qv ws from HQ.out)
      clear HQ
      obtain ⟨qa, qc, rfl, _⟩ := HQ2.out.at'.ex
      clear HQ2
      cases c <;> cases com
      ·
        have hnx : numsL (txs.take (k + 1)) false = numsL (txs.take k) false ++ [n] := by rw [HT.out]; simp [numsL]
        have HNX := hid hnx
        clear hnx
        go_wp2_with (at_builtin; refine wpList_append_is rfl _ _ 43 rfl 3 _ 1 8 Tryz.underlying43 HF.out rfl (by decide) (by decide) w.heap.size _ _ _ rfl ((HO.out.alloc _).alloc _) _ 1 1 [.int .i64 n] rfl rfl (fun j u h => cells_new1 _ _ [.int .i64 n] _ j u h) (by simp [Value.oneCell']) (by have := HLE.out; omega) (by simp; omega) ?_; intro v' w1 hown1 hgrow hnil)
        have H2 := hid (((HK.out.alloc _).alloc _).grown_own ((HO.out.alloc _).alloc _) hgrow (Nat.le_refl _))
        have H1 := hid hown1
        clear hown1 hgrow hnil
        go_roundw
        case rel => exact ⟨k + 1, by omega, by go_num, by rw [HNX.out]; simpa using H1.out, H2.out⟩
        case measure => simp [intOf]; omega
      ·
        have hnx : numsL (txs.take (k + 1)) false = numsL (txs.take k) false := by rw [HT.out]; simp [numsL]
        have HNX := hid hnx
        clear hnx
        go_wp2
        go_roundw
        case rel => exact ⟨k + 1, by omega, by go_num, by show World.ownsRow _ _ _ _ _ _ _; rw [HNX.out]; exact HO.out.alloc _, HK.out.alloc _⟩
        case measure => simp [intOf]; omega
      ·
        have hnx : numsL (txs.take (k + 1)) true = numsL (txs.take k) true := by rw [HT.out]; simp [numsL]
        have HNX := hid hnx
        clear hnx
        go_wp2
        go_roundw
        case rel => exact ⟨k + 1, by omega, by go_num, by show World.ownsRow _ _ _ _ _ _ _; rw [HNX.out]; exact HO.out.alloc _, HK.out.alloc _⟩
        case measure => simp [intOf]; omega
      ·
        have hnx : numsL (txs.take (k + 1)) true = numsL (txs.take k) true ++ [n] := by rw [HT.out]; simp [numsL]
        have HNX := hid hnx
        clear hnx
        go_wp2_with (at_builtin; refine wpList_append_is rfl _ _ 43 rfl 3 _ 1 8 Tryz.underlying43 HF.out rfl (by decide) (by decide) w.heap.size _ _ _ rfl ((HO.out.alloc _).alloc _) _ 1 1 [.int .i64 n] rfl rfl (fun j u h => cells_new1 _ _ [.int .i64 n] _ j u h) (by simp [Value.oneCell']) (by have := HLE.out; omega) (by simp; omega) ?_; intro v' w1 hown1 hgrow hnil)
        have H2 := hid (((HK.out.alloc _).alloc _).grown_own ((HO.out.alloc _).alloc _) hgrow (Nat.le_refl _))
        have H1 := hid hown1
        clear hown1 hgrow hnil
        go_roundw
        case rel => exact ⟨k + 1, by omega, by go_num, by rw [HNX.out]; simpa using H1.out, H2.out⟩
        case measure => simp [intOf]; omega
    · go_wp2
      go_returns
      obtain rfl : k = L.length := by omega
      refine ⟨_, rfl, ?_, HK.out⟩
      have := HO.out
      rw [List.take_of_length_le (by rw [HLL.out]; exact Nat.le_refl _)] at this
      exact this
--@@ redo.Doubt
set_option maxRecDepth 100000 in
theorem doubt_any (bv tv : Value) (s : Stp) (w : World) (h : StAt w bv tv s) (hlen : s.txs.length ≤ 1000000) :
    Calls Tryz.prog 15 #[.agg #[bv, tv]] w fun e w' => ∃ v, e = .returned v ∧ w'.ownsRow w.heap.size 3 1 v (numbersS s false).length ((numbersS s false).map (Value.int .i64)) ∧ Kept [] w w' := by
  have HN := hid (fun W (hK : Kept [] w W) => numbers_any bv tv s false W (h.kept hK) hlen)
  obtain ⟨_, _, hS, _⟩ := h.txs.ex
  obtain ⟨_, _, rfl, _⟩ := h.base.at'.ex
  obtain ⟨_, _, rfl, _⟩ := hS.ex
  clear h hS
  go_enter Tryz.func15, Tryz.ntmps15
  go_wp2_with (go_at_call 35; refine (HN.out _ (show Kept [] w _ by (repeat (first | assumption | (with_reducible exact Kept.refl _ _) | (with_reducible refine Kept.drew ?_) | (with_reducible refine Kept.alloc ?_ _) | (with_reducible refine Kept.setCell ?_ (by right; simp; try omega) _))))).mono ?_; clear HN; rintro e w2 ⟨v2, rfl, ho, hk⟩)
  go_returns
  exact ⟨_, rfl, ownsRow_base ho (by simp), ((Kept.refl [] w).alloc _).trans hk (fun x hx => .inl hx)⟩
--@@ redo.Told
set_option maxRecDepth 100000 in
theorem told_any (bv tv : Value) (s : Stp) (w : World) (h : StAt w bv tv s) (hlen : s.txs.length ≤ 1000000) :
    Calls Tryz.prog 17 #[.agg #[bv, tv]] w fun e w' => ∃ v, e = .returned v ∧ w'.ownsRow w.heap.size 3 1 v (numbersS s true).length ((numbersS s true).map (Value.int .i64)) ∧ Kept [] w w' := by
  have HN := hid (fun W (hK : Kept [] w W) => numbers_any bv tv s true W (h.kept hK) hlen)
  obtain ⟨_, _, hS, _⟩ := h.txs.ex
  obtain ⟨_, _, rfl, _⟩ := h.base.at'.ex
  obtain ⟨_, _, rfl, _⟩ := hS.ex
  clear h hS
  go_enter Tryz.func17, Tryz.ntmps17
  go_wp2_with (go_at_call 35; refine (HN.out _ (show Kept [] w _ by (repeat (first | assumption | (with_reducible exact Kept.refl _ _) | (with_reducible refine Kept.drew ?_) | (with_reducible refine Kept.alloc ?_ _) | (with_reducible refine Kept.setCell ?_ (by right; simp; try omega) _))))).mono ?_; clear HN; rintro e w2 ⟨v2, rfl, ho, hk⟩)
  go_returns
  exact ⟨_, rfl, ownsRow_base ho (by simp), ((Kept.refl [] w).alloc _).trans hk (fun x hx => .inl hx)⟩
--@@ end
end Go.Proofs.YtpcpeoejcnndhaaGreat
