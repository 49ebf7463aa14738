/- A state's records. -/
import Derived.Test.YtpcpeoejcnndhaaGreatRedoRecs
import Derived.Test.YtpcpeoejcnndhaaGreatM3
set_option linter.all false
namespace Go.Proofs.YtpcpeoejcnndhaaGreat
open Go.RowKit Go.Shelf Go.Lib Go.Sort Go.Proofs
def startR (base : List Pr) : Rc := ⟨8, 0, base.length, ⟨0, 0, 0, 0⟩, V.zero, V.zero⟩
def baseR (l : List Pr) : List Rc := l.map fun p => ⟨7, 0, 0, p.key, V.zero, p.val⟩
theorem baseR_len (l : List Pr) : (baseR l).length = l.length := by simp [baseR]
theorem recsS_eq (base : List Pr) (txs : List Txp) : recsS ⟨base, txs⟩ = (startR base :: baseR base) ++ txs.flatMap (recsT base) := rfl
theorem recsT_ge (b : List Pr) (x : Txp) : x.ws.length + 1 ≤ (recsT b x).length := by
  unfold recsT
  split <;> simp
theorem flat_mem (b : List Pr) {x : Txp} : ∀ {l : List Txp}, x ∈ l → (recsT b x).length ≤ (l.flatMap (recsT b)).length
  | y :: l, h => by
    rw [List.flatMap_cons, List.length_append]
    rcases List.mem_cons.1 h with rfl | h
    · omega
    · have := flat_mem b h; omega
theorem flat_take (b : List Pr) : ∀ (l : List Txp) (k : Nat), ((l.take k).flatMap (recsT b)).length ≤ (l.flatMap (recsT b)).length
  | [], k => by simp
  | y :: l, 0 => by simp
  | y :: l, k + 1 => by
    have := flat_take b l k
    rw [List.take_succ_cons, List.flatMap_cons, List.flatMap_cons, List.length_append, List.length_append]; omega
theorem own_some {w : World} {base : Nat} {e : TypeId} {size n : Nat} {v : Value} {xs : List Value} (h : w.ownsRow base e size v n xs) (hn : 0 < n) : ∃ g cap, v = .slice (some ⟨g, 0, none⟩) n cap := by
  rcases h.2 with ⟨rfl, rfl⟩ | ⟨g, cap, cur, rfl, _⟩
  · omega
  · exact ⟨g, cap, rfl⟩
def recW (base : List Pr) (txs : List Txp) (k : Nat) : List Rc := (startR base :: baseR base) ++ (txs.take k).flatMap (recsT base)
theorem recW_zero (base : List Pr) (txs : List Txp) : recW base txs 0 = startR base :: baseR base := by unfold recW; simp
theorem recW_succ (base : List Pr) (txs : List Txp) {k : Nat} (h : k < txs.length) : recW base txs (k + 1) = recW base txs k ++ recsT base txs[k] := by
  unfold recW
  rw [List.take_succ_eq_append_getElem h, List.flatMap_append, List.append_assoc]
  simp
theorem recW_all (base : List Pr) (txs : List Txp) {k : Nat} (h : txs.length ≤ k) : recW base txs k = recsS ⟨base, txs⟩ := by
  unfold recW
  rw [List.take_of_length_le h]; rfl
theorem recW_le (base : List Pr) (txs : List Txp) (k : Nat) : (recW base txs k).length ≤ (recsS ⟨base, txs⟩).length := by
  rw [recsS_eq]
  unfold recW
  have := flat_take base txs k
  rw [List.length_append, List.length_append]; omega
--@@ redo.Recs
set_option maxHeartbeats 8000000 in
set_option maxRecDepth 100000 in
theorem redoRecs_any (bv tv : Value) (s : Stp) (w : World) (h : StAt w bv tv s) (hl : (recsS s).length ≤ 100000) :
    Calls Tryz.prog 7 #[.agg #[bv, tv]] w fun e w' => ∃ v, e = .returned (.tuple #[v, .bool s.right]) ∧ (s.right = true → w'.ownsRow w.heap.size 55 11 v (recsS s).length ((recsS s).flatMap Rc.f)) ∧ (s.right = false → v = .slice none 0 0) ∧ Kept [] w w' := by
  have HRT := hid (fun W (hK : Kept [] w W) => stright_any bv tv s W (h.kept hK))
  obtain ⟨base, txs⟩ := s
  obtain ⟨L, hL, hS, hP⟩ := h.txs.ex
  obtain ⟨ba, bc, rfl, _, _, hbc⟩ := h.base.at'.ex
  obtain ⟨ta, tc, rfl, htm, _, htc⟩ := hS.ex
  dsimp only at hL hbc
  have hbase := h.base
  dsimp only at hbase
  have HB := hid (fun W (hK : Kept [] (w.alloc (.cells #[.slice ba base.length bc, .slice ta L.length tc] 32)) W) => box2 hK)
  have HX := hid ((Kept.refl [] w).alloc (.cells #[.slice ba base.length bc, .slice ta L.length tc] 32))
  have HBC := hid hbc
  have HTC := hid htc
  have HP := hid hP
  have HL := hid hL
  have HBA := hid hbase
  have HF := hid redoRecInfo
  clear h hS hP hbc htc hL hbase
  have HLEN := hid hl
  clear hl
  obtain ⟨rt, hrt⟩ : ∃ rt, rt = Stp.right ⟨base, txs⟩ := ⟨_, rfl⟩
  rw [← hrt] at HRT ⊢
  dsimp only at HRT ⊢
  cases rt with
  | false =>
    clear hrt
    go_enter Tryz.func7, Tryz.ntmps7
    go_wp2_with (go_at_call 21; refine (HRT.out _ (show Kept [] w _ by (repeat (first | assumption | (with_reducible exact Kept.refl _ _) | (with_reducible refine Kept.drew ?_) | (with_reducible refine Kept.alloc ?_ _) | (with_reducible refine Kept.setCell ?_ (by right; simp; try omega) _))))).mono ?_; clear HRT; rintro e w2 ⟨rfl, hk2⟩)
    go_returns
    exact ⟨_, rfl, (fun h => by cases h), (fun _ => rfl), HX.out.trans hk2 (fun x hx => .inl hx)⟩
  | true =>
    have hb64 : base.length ≤ 64 := by
      unfold Stp.right at hrt
      have := hrt.symm
      simp only [Bool.and_eq_true, decide_eq_true_eq] at this
      exact this.1.1.1
    clear hrt
    go_enter Tryz.func7, Tryz.ntmps7
    go_wp2_with (go_at_call 21; refine (HRT.out _ (show Kept [] w _ by (repeat (first | assumption | (with_reducible exact Kept.refl _ _) | (with_reducible refine Kept.drew ?_) | (with_reducible refine Kept.alloc ?_ _) | (with_reducible refine Kept.setCell ?_ (by right; simp; try omega) _))))).mono ?_; clear HRT; rintro e w2 ⟨rfl, hk2⟩; obtain ⟨z2, z3⟩ := HB.out w2 hk2; obtain ⟨z0, z1⟩ := HB.out (w2.alloc (.cells #[.int .i64 8, .int .i64 0, .int .u16 (base.length : Int), .int .u8 0, .int .u8 0, .int .u8 0, .int .u8 0, .bool false, .int .i64 0, .bool false, .int .i64 0] 55)) (hk2.alloc _); have hs2 := hk2.size; simp only [World.size_alloc] at hs2; have HK2 := hid (hk2.alloc (.cells #[.int .i64 8, .int .i64 0, .int .u16 (base.length : Int), .int .u8 0, .int .u8 0, .int .u8 0, .int .u8 0, .bool false, .int .i64 0, .bool false, .int .i64 0] 55)); clear hk2)
    have HO0 := hid (ownsRow_new w2 (Rc.f (startR base)) 55 11 1 (w.heap.size + 1) (by omega) (by decide) rfl)
    clear z0 z1 z2 z3
    go_loopg [4, 21] base.length (fun kx s4 s21 wr => ∃ k : Nat, s21 = .int .i64 k ∧ k ≤ base.length ∧ base.length - k ≤ kx ∧ Aside (wr.ownsRow (w.heap.size + 1) 55 11 s4 (k + 1) ((startR base :: baseR (base.take k)).flatMap Rc.f)) ∧ Aside (Kept [] (w.alloc (.cells #[.slice ba base.length bc, .slice ta L.length tc] 32)) wr))
    case atStart => exact ⟨0, by first | rfl | go_num, by omega, by omega, by show World.ownsRow _ _ _ _ _ _ _; have h : (startR base :: baseR (base.take 0)).flatMap Rc.f = Rc.f (startR base) := (by simp [baseR]); rw [h]; exact HO0.out, HK2.out⟩
    case round =>
      clear HO0 HK2 hs2
      obtain ⟨k, rfl, hk, hkx, HO, HK⟩ := hrel
      have HKW := hid (HX.out.trans HK.out (fun x hx => .inl hx))
      have hsz := HK.out.size
      simp only [World.size_alloc] at hsz
      by_cases hlt : k < base.length
      · have hltz : (k : Int) < (base.length : Int) := by omega
        obtain ⟨b, off, rfl, hb, hcs⟩ := HBC.out (by omega)
        have hcW : ∀ j u, (base.flatMap Pr.f)[j]? = some u → wr.cell? ⟨b, off + j, none⟩ = some u := fun j u hj => HKW.out.cell (hcs j u hj) (by simp)
        obtain ⟨e0, e1, e2, e3, e4, e5⟩ := pair_cells hcW hlt
        have HT := hid (show baseR (base.take (k + 1)) = baseR (base.take k) ++ baseR [base[k]] by rw [List.take_succ_eq_append_getElem hlt]; unfold baseR; rw [List.map_append])
        clear hcW hcs
        generalize base[k] = x at *
        obtain ⟨⟨x1, x2, x3, x4⟩, ⟨x5, x6⟩⟩ := x
        dsimp only at e0 e1 e2 e3 e4 e5
        go_wp2_with (at_builtin; refine wpList_append_is rfl _ _ 22 rfl 55 _ 11 56 Tryz.underlying22 HF.out rfl (by decide) (by decide) (w.heap.size + 1) _ (k + 1) _ rfl ((HO.out.alloc _).alloc _) _ 1 1 (Rc.f ⟨7, 0, 0, ⟨x1, x2, x3, x4⟩, V.zero, ⟨x5, x6⟩⟩) rfl rfl (fun j u h => cells_new1 _ _ (Rc.f ⟨7, 0, 0, ⟨x1, x2, x3, x4⟩, V.zero, ⟨x5, x6⟩⟩) _ j u h) (by simp [Rc.f, Value.oneCell']) (by omega) (by simp; omega) ?_; intro v' w1 hown1 hgrow hnil)
        have H2 := hid (((HK.out.alloc _).alloc _).grown_own ((HO.out.alloc _).alloc _) hgrow (by simp))
        have H1 := hid hown1
        clear hown1 hgrow hnil
        go_roundg (base.length - (k + 1))
        case measure => omega
        case rel =>
          refine ⟨k + 1, by first | rfl | go_num, by omega, Nat.le_refl _, ?_, H2.out⟩
          show World.ownsRow _ _ _ _ _ _ _
          rw [HT.out, ← List.cons_append, List.flatMap_append]
          exact H1.out
      · obtain rfl : k = base.length := by omega
        have hltz : ¬ (base.length : Int) < (base.length : Int) := by omega
        have ho2 := HO.out
        rw [List.take_length] at ho2
        have HO2 := hid ho2
        clear ho2 HO hkx hk
        obtain ⟨z0, z1⟩ := HB.out wr HK.out
        have HR0 := hid (show (startR base :: baseR base).length = base.length + 1 by rw [List.length_cons, baseR_len])
        have HZ := hid z0
        have HKQ := hid HKW.out
        go_wp2_with fail
        go_loopg [4, 37] L.length (fun kx s4 s37 wr => ∃ k : Nat, s37 = .int .i64 k ∧ k ≤ L.length ∧ L.length - k ≤ kx ∧ Aside (wr.ownsRow (w.heap.size + 1) 55 11 s4 (recW base txs k).length ((recW base txs k).flatMap Rc.f)) ∧ Aside (Kept [] (w.alloc (.cells #[.slice ba base.length bc, .slice ta L.length tc] 32)) wr))
        case atStart => exact ⟨0, by first | rfl | go_num, by omega, by omega, by show World.ownsRow _ _ _ _ _ _ _; rw [recW_zero, HR0.out]; exact HO2.out, HK.out⟩
        case round =>
          clear HO2 HK HKW hsz z0 z1 HZ HKQ
          obtain ⟨k, rfl, hk, hkx, HO, HK⟩ := hrel
          have HKW := hid (HX.out.trans HK.out (fun x hx => .inl hx))
          have hsz := HK.out.size
          simp only [World.size_alloc] at hsz
          have hll : txs.length = L.length := by rw [← HL.out, List.length_map]
          by_cases hlt : k < L.length
          · have hltz : (k : Int) < (L.length : Int) := by omega
            obtain ⟨b, off, rfl, _, d1⟩ := HTC.out (by omega)
            obtain ⟨e0, e1, e2, e3⟩ := tx_cells (fun j u hu => HKW.out.cell (d1 j u hu) (by simp)) hlt
            have hq1 : txs[k]'(by omega) = L[k].1 := by simp [← HL.out]
            have HT := hid (show recW base txs (k + 1) = recW base txs k ++ recsT base L[k].1 by rw [recW_succ base txs (by omega), hq1])
            have hle := recW_le base txs (k + 1)
            rw [HT.out, List.length_append] at hle
            have HSZ := hid (Nat.le_trans hle HLEN.out)
            clear d1 hq1 hll hle
            have HQ := hid (HP.out _ (List.getElem_mem hlt))
            generalize L[k] = q at *
            obtain ⟨x, qv⟩ := q
            dsimp only at e0 e1 e2 e3
            have HQ2 := hid (show PrAt w qv x.ws from HQ.out)
            have HSX := hid (show (recW base txs k).length + (recsT base x).length ≤ 100000 from HSZ.out)
            have HTX := hid (show recW base txs (k + 1) = recW base txs k ++ recsT base x from HT.out)
            clear HQ HSZ HT
            obtain ⟨qa, qc, rfl, _⟩ := HQ2.out.at'.ex
            have HTR := hid (fun W (hK : Kept [] w W) => txrecs_any x _ _ base W (HQ2.out.kept hK) (HBA.out.kept hK) (by have := HSX.out; have := recsT_ge base x; omega))
            have hpos : 0 < (recsT base x).length := by have := recsT_ge base x; omega
            obtain ⟨z0, z1⟩ := HB.out (wr.alloc (.cells #[.int .i64 x.n, .int .u16 (x.mask : Int), .bool x.com, .slice qa x.ws.length qc] 59)) (HK.out.alloc _)
            go_wp2_with (first
              | (go_at_call 22; refine (HTR.out _ (HKW.out.alloc _)).mono ?_; clear HTR; rintro e w2 ⟨v2, rfl, ho2, hk2⟩; obtain ⟨g2, c2, rfl⟩ := own_some ho2 hpos; have HK2 := hid (((Kept.refl [] wr).alloc (.cells #[.int .i64 x.n, .int .u16 (x.mask : Int), .bool x.com, .slice qa x.ws.length qc] 59)).trans hk2 (fun x hx => .inl hx)); have HO2 := hid ho2; clear hk2 ho2)
              | (at_builtin; refine wpList_append_is rfl _ _ 22 rfl 55 _ 11 56 Tryz.underlying22 HF.out rfl (by decide) (by decide) (w.heap.size + 1) _ _ _ rfl (ownsRow_kept HO.out HK2.out (by simp)) _ _ _ _ rfl HO2.out.1 (fun j u h => HO2.out.cells (g := g2) rfl j u h) (rc_one _) (by have := HSX.out; omega) (by have := HK2.out.size; omega) ?_; intro v' w3 hown3 hgrow3 hnil3))
            have H3 := hid ((HK.out.trans HK2.out (fun x hx => .inl hx)).grown_own (ownsRow_kept HO.out HK2.out (by simp)) hgrow3 (by simp))
            have H1 := hid hown3
            clear hown3 hgrow3 hnil3
            go_roundg (L.length - (k + 1))
            case measure => omega
            case rel =>
              refine ⟨k + 1, by first | rfl | go_num, by omega, Nat.le_refl _, ?_, H3.out⟩
              show World.ownsRow _ _ _ _ _ _ _
              rw [HTX.out, List.flatMap_append, List.length_append]
              exact H1.out
          · obtain rfl : k = L.length := by omega
            have hltz : ¬ (L.length : Int) < (L.length : Int) := by omega
            have ho2 := HO.out
            rw [recW_all base txs (by omega)] at ho2
            go_wp2
            go_returns
            exact ⟨_, rfl, ownsRow_base ho2 (Nat.le_succ w.heap.size), HKW.out⟩
--@@ end
end Go.Proofs.YtpcpeoejcnndhaaGreat
