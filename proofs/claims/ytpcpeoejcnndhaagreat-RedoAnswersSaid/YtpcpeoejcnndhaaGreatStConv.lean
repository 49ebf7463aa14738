/- The statements' own helpers: states of the one kind made states of the other. -/
import Derived.Test.YtpcpeoejcnndhaaGreatM2
import Derived.Test.YtpcpeoejcnndhaaGreatM1
import Derived.Test.YtpcpeoejcnndhaaGreatM8
import Derived.Test.YtpcpeoejcnndhaaGreatM3
set_option linter.all false
namespace Go.Proofs.YtpcpeoejcnndhaaGreat
open Go.RowKit Go.Shelf Go.Lib Go.Sort Go.Proofs
def notBlkG (v : Value) (g : Option Nat) : Prop := ∀ a n c, v = .slice (some a) n c → 0 < n → g ≠ some a.block
structure OutG (st tt : TypeId) (w : World) (lo BO : Nat) (bv tv : Value) (L : List (Txp × Value)) : Prop where
  blk : w.heap[BO]? = some (.cells #[bv, tv] st (0, 0))
  own : w.ownsRow lo tt 4 tv L.length (L.flatMap txF)
  prs : ∀ q ∈ L, PrAt w q.2 q.1.ws ∧ notBlkG q.2 tv.ownBlock ∧ ∀ a n c, q.2 = .slice (some a) n c → 0 < n → a.block < w.heap.size
  hi : lo ≤ w.heap.size
  bo : BO < lo
theorem OutG.step {st tt : TypeId} {wr w4 w5 W : World} {lo BO g c : Nat} {bv tv : Value} {L : List (Txp × Value)} {q : Txp × Value} (H : OutG st tt wr lo BO bv tv L) (hk4 : Kept [] wr w4) (hp : PrAt w4 q.2 q.1.ws) (hf : ∀ a n c, q.2 = .slice (some a) n c → 0 < n → wr.heap.size ≤ a.block)
    (hW : Kept [] w4 W) (hown : w5.ownsRow lo tt 4 (.slice (some ⟨g, 0, none⟩) (L.length + 1) c) (L.length + 1) (L.flatMap txF ++ txF q)) (hgr : W.grownBy w5 tv.ownBlock) (hwh : tv.ownBlock = some g ∨ g = W.heap.size) :
    OutG st tt (w5.setCell ⟨BO, 1, none⟩ (.slice (some ⟨g, 0, none⟩) (L.length + 1) c)) lo BO bv (.slice (some ⟨g, 0, none⟩) (L.length + 1) c) (L ++ [q]) ∧ Kept (BO :: tv.ownBlock.toList) wr (w5.setCell ⟨BO, 1, none⟩ (.slice (some ⟨g, 0, none⟩) (L.length + 1) c)) := by
  have hk5 : Kept tv.ownBlock.toList W w5 := Kept.of_grown hgr _ (fun k hk => by simpa using hk)
  have hkW : Kept [] wr W := hk4.trans hW (fun x hx => .inl hx)
  have hkr : Kept tv.ownBlock.toList wr w5 := (hkW.mono (by simp)).trans hk5 (fun x hx => .inl hx)
  have ho : ∀ x, tv.ownBlock = some x → lo ≤ x ∧ x < wr.heap.size := fun x hx => H.own.lt x hx
  have hbo := H.bo
  have hBr := (Array.getElem?_eq_some_iff.1 H.blk).1
  have hB5 : w5.heap[BO]? = some (.cells #[bv, tv] st (0, 0)) := (hkr.block BO hBr (fun hx => by have := ho BO (by simpa using hx); omega)).trans H.blk
  have hk6 : Kept [BO] w5 (w5.setCell ⟨BO, 1, none⟩ (.slice (some ⟨g, 0, none⟩) (L.length + 1) c)) := (Kept.refl _ w5).setCell (.inl (by simp)) _
  have hsm := small_cells hB5 (by simp)
  have hgl : lo ≤ g := by
    rcases hown.2 with ⟨h, _⟩ | ⟨g', cap, cur, h, hb, _⟩
    · cases h
    · cases h; exact hb
  have s1 := hkW.size
  have s2 := hk5.size
  have s3 := hW.size
  have s4 := hk4.size
  have pr6 : ∀ v l, PrAt w5 v l → PrAt (w5.setCell ⟨BO, 1, none⟩ (.slice (some ⟨g, 0, none⟩) (L.length + 1) c)) v l := fun v l h => h.kept_of hk6 fun a n cc hv hn hb => by
    simp only [List.mem_singleton] at hb
    exact h.far hsm a n cc hv hn hb
  have hset : (w5.setCell ⟨BO, 1, none⟩ (.slice (some ⟨g, 0, none⟩) (L.length + 1) c)).heap.size = w5.heap.size := by simp [World.setCell]
  refine ⟨⟨heap_put hB5 1 _, ?_, fun r hr => ?_, ?_, hbo⟩, ?_⟩
  · have := ownK_kept hown hk6 (fun x hx hb => by
      simp only [List.mem_singleton] at hb
      have hx' : g = x := by simpa [Value.ownBlock] using hx
      omega)
    simpa using this
  · rw [hset]
    rcases List.mem_append.1 hr with hr | hr
    · obtain ⟨h1, h2, h3⟩ := H.prs r hr
      refine ⟨pr6 _ _ (h1.kept_of hkr fun a n cc hv hn hb => h2 a n cc hv hn (by simpa using hb)), fun a n cc hv hn e => ?_, fun a n cc hv hn => by have := h3 a n cc hv hn; omega⟩
      have h4 := h3 a n cc hv hn
      have e' : g = a.block := by simpa [Value.ownBlock] using e
      rcases hwh with h | h
      · exact h2 a n cc hv hn (h.trans (by rw [e']))
      · omega
    · rw [List.mem_singleton] at hr
      subst hr
      have h4 := hp.lt
      refine ⟨pr6 _ _ ((hp.kept hW).kept_of hk5 fun a n cc hv hn hb => ?_), fun a n cc hv hn e => ?_, fun a n cc hv hn => by have := h4 a n cc hv hn; omega⟩
      · have := hf a n cc hv hn
        have := ho a.block (by simpa using hb)
        omega
      · have h5 := hf a n cc hv hn
        have h6 := h4 a n cc hv hn
        have e' : g = a.block := by simpa [Value.ownBlock] using e
        rcases hwh with h | h
        · have := ho g h; omega
        · omega
  · rw [hset]; have := H.hi; omega
  · exact (hkr.mono (T := BO :: tv.ownBlock.toList) (fun x hx => List.mem_cons_of_mem _ hx)).trans hk6 (fun x hx => .inl (by simp at hx; simp [hx]))
theorem boxG {w w2 W : World} {t1 t2 : TypeId} {a b c d : Value} {o : Obj} (hk2 : Kept [] ((w.alloc (.cells #[a, b] t1)).alloc (.cells #[c, d] t2)) w2) (hK : Kept [w2.heap.size] (w2.alloc o) W) :
    W.heap[w.heap.size]? = some (.cells #[a, b] t1 (0, 0)) ∧ W.heap[w.heap.size + 1]? = some (.cells #[c, d] t2 (0, 0)) := by
  have hs := hk2.size
  simp only [World.size_alloc] at hs
  have hkk : Kept [w2.heap.size] w2 W := ((Kept.refl _ w2).alloc o).trans hK (fun x hx => .inl hx)
  have e1 := heap_alloc_new w (.cells #[a, b] t1)
  have e2 := heap_alloc_new (w.alloc (.cells #[a, b] t1)) (.cells #[c, d] t2)
  rw [World.size_alloc] at e2
  have k1 := ((Kept.refl [] (w.alloc (.cells #[a, b] t1))).alloc (.cells #[c, d] t2)).trans hk2 (fun x hx => .inl hx)
  refine ⟨?_, ?_⟩
  · exact (hkk.block _ (by omega) (by simp; omega)).trans ((k1.block _ (by simp) (by simp)).trans e1)
  · exact (hkk.block _ (by omega) (by simp; omega)).trans ((hk2.block _ (by simp) (by simp)).trans e2)
--@@ concordatlaw11.Of
theorem txInfoOf : (Tryz.prog.info? 61).map (fun i => (i.zero, i.size, i.bytes)) = some (some (.agg #[.int .i64 0, .int .u16 0, .bool false, .slice none 0 0]), 4, 40) := by kernel_rfl
set_option maxHeartbeats 8000000 in
set_option maxRecDepth 100000 in
theorem stof_any (bv tv : Value) (s : Stp) (w : World) (h : RSt w bv tv s) (hl : s.txs.length ≤ 100000) (hb : s.base.length ≤ 20000) (hx : ∀ x ∈ s.txs, x.ws.length ≤ 20000) :
    Calls Tryz.prog 10 #[.agg #[bv, tv]] w fun e w' => ∃ bv' tv', e = .returned (.agg #[bv', tv']) ∧ StAt w' bv' tv' s ∧ Kept [] w w' := by
  obtain ⟨base, txs⟩ := s
  obtain ⟨L, hL, hS, hP⟩ := h.txs.ex
  have hba := h.base
  dsimp only at hL hl hb hx hba
  have HFB := hid (fun W (hK : Kept [] w W) => from_any bv base W (hba.kept hK) hb)
  obtain ⟨ba, bc, rfl, _, _, _⟩ := hba.ex
  obtain ⟨ta, tc, rfl, htm, _, htc⟩ := hS.ex
  have HTC := hid htc
  have HP := hid (fun q (hq : q ∈ L) W (hK : Kept [] w W) => from_any q.2 q.1.ws W ((hP q hq).kept hK) (hx q.1 (by rw [← hL]; exact List.mem_map_of_mem hq)))
  have HPV := hid (fun q (hq : q ∈ L) => show ∃ a c, q.2 = .slice a q.1.ws.length c from by obtain ⟨a, c, e, _⟩ := (hP q hq).ex; exact ⟨a, c, e⟩)
  have hLl : L.length ≤ 100000 := by rw [← hL, List.length_map] at hl; exact hl
  have HL := hid hL
  clear h hS hP htc hL hba hx hl
  go_enter Tryz.func10, Tryz.ntmps10
  go_wp2_with (go_at_call 26; refine (HFB.out _ (show Kept [] w _ by (repeat (first | assumption | (with_reducible exact Kept.refl _ _) | (with_reducible refine Kept.drew ?_) | (with_reducible refine Kept.alloc ?_ _) | (with_reducible refine Kept.setCell ?_ (by right; simp; try omega) _))))).mono ?_; clear HFB; rintro e w2 ⟨v2, rfl, ho2, hk2⟩; obtain ⟨va, vc, rfl⟩ := ownsRow_slice ho2)
  have hs2 := hk2.size
  simp only [World.size_alloc] at hs2
  have HO2 := hid ho2
  have HBX := hid (fun W (hK : Kept [w2.heap.size] (w2.alloc (.cells #[.slice va base.length vc, .slice none 0 0] 26)) W) => boxG hk2 hK)
  have HK2 := hid ((((Kept.refl [] w).alloc _).alloc _).trans hk2 (fun x hx => .inl hx))
  have hfr := own_from ho2
  simp only [World.size_alloc] at hfr
  have hlt2 := (PrAt.of_own ho2 rfl).lt
  have HFR := hid hfr
  have HLT := hid hlt2
  clear ho2 hk2 hfr hlt2
  go_loopg [4] L.length (fun kx s4 wr => ∃ k : Nat, s4 = .int .i64 k ∧ k ≤ L.length ∧ L.length - k ≤ kx ∧ ∃ M tx, Aside (OutG 26 61 wr (w2.heap.size + 1) w2.heap.size (.slice va base.length vc) tx M) ∧ Aside (M.map (·.1) = txs.take k) ∧ Aside (Kept [w2.heap.size] (w2.alloc (.cells #[.slice va base.length vc, .slice none 0 0] 26)) wr))
  case atStart => exact ⟨0, by first | rfl | go_num, by omega, by omega, [], _, ⟨heap_alloc_new w2 _, ⟨rfl, .inl ⟨rfl, rfl⟩⟩, fun q hq => (by cases hq), by simp, by omega⟩, rfl, Kept.refl _ _⟩
  case round =>
    obtain ⟨k, rfl, hk, hkx, M, tx, HO, HM, HK⟩ := hrel
    obtain ⟨hx0, hx1⟩ := HBX.out wr HK.out
    obtain ⟨b0, b1, _, _⟩ := cell2 hx0
    obtain ⟨c0, c1, z0, z1⟩ := cell2 HO.out.blk
    obtain ⟨xa, xc, rfl⟩ := ownsRow_slice HO.out.own
    have hll : txs.length = L.length := by rw [← HL.out, List.length_map]
    have hml : M.length ≤ 100000 := by have := congrArg List.length HM.out; rw [List.length_map, List.length_take] at this; omega
    have hsw := HK.out.size
    simp only [World.size_alloc] at hsw
    have HKW := hid (show Kept [] w wr from (HK2.out.alloc _).trans HK.out (fun x hx => .inr (by simp at hx; omega)))
    by_cases hlt : k < L.length
    · have hltz : (k : Int) < (L.length : Int) := by omega
      obtain ⟨b, off, rfl, _, d1⟩ := HTC.out (by omega)
      obtain ⟨e0, e1, e2, e3⟩ := tx_cells (fun j u hu => HKW.out.cell (d1 j u hu) (by simp)) hlt
      have hq1 : txs[k]'(by omega) = L[k].1 := by simp [← HL.out]
      have HT := hid (show txs.take (k + 1) = txs.take k ++ [L[k].1] by rw [List.take_succ_eq_append_getElem (by omega), hq1])
      clear d1 hq1
      have HQ := hid (HP.out _ (List.getElem_mem hlt))
      obtain ⟨qa, qc, hqv⟩ := HPV.out _ (List.getElem_mem hlt)
      generalize L[k] = q at *
      obtain ⟨⟨n, mask, com, ws⟩, qv⟩ := q
      dsimp only at e0 e1 e2 e3 HQ HT hqv
      subst hqv
      have hBr := (Array.getElem?_eq_some_iff.1 HO.out.blk).1
      have HBN := hid (fun x hx => (HO.out.own.lt x hx).1)
      have HSK := hid (fun (T : List Nat) W (hT : wr.heap.size ∉ T) (hK : Kept T (wr.alloc (.cells #[.int .i64 n, .int .u16 (mask : Int), .bool com, .slice qa ws.length qc] 59)) W) => show W.cell? ⟨wr.heap.size, 0, none⟩ = some (.int .i64 n) ∧ W.cell? ⟨wr.heap.size, 1, none⟩ = some (.int .u16 (mask : Int)) ∧ W.cell? ⟨wr.heap.size, 2, none⟩ = some (.bool com) ∧ W.cell? ⟨wr.heap.size, 3, none⟩ = some (.slice qa ws.length qc) from
        have nc := new_cell wr [.int .i64 n, .int .u16 (mask : Int), .bool com, .slice qa ws.length qc] 59
        ⟨hK.cell (nc 0 _ rfl) hT, hK.cell (nc 1 _ rfl) hT, hK.cell (nc 2 _ rfl) hT, hK.cell (nc 3 _ rfl) hT⟩)
      have HKA := hid ((Kept.refl [] wr).alloc (.cells #[.int .i64 n, .int .u16 (mask : Int), .bool com, .slice qa ws.length qc] 59))
      have HWd := hid (Kept.refl [] (wr.alloc (.cells #[.int .i64 n, .int .u16 (mask : Int), .bool com, .slice qa ws.length qc] 59))).drew
      have y0 := HKA.out.cell c1 (by simp)
      have zA := (cell2 ((HKA.out.block _ hBr (by simp)).trans HO.out.blk)).2.2
      have HB2 := hid (fun (g : Nat) (hg : g ∈ (Value.slice xa M.length xc).ownBlock.toList) => show g < wr.heap.size from (HO.out.own.lt g (by simpa using hg)).2)
      go_wp2_with fail
      clear e0 e1 e2 e3 b0 b1
      refine wp_region_rows_tail 13 (yieldDen [.eq (.pointer (some ⟨w2.heap.size, 1, none⟩)), .eq (.slice xa M.length xc), .eq (.pointer (some ⟨wr.heap.size, 0, none⟩)), .eq (.int .i64 n), .eq (.pointer (some ⟨wr.heap.size, 1, none⟩)), .eq (.int .u16 (mask : Int)), .eq (.pointer (some ⟨wr.heap.size, 2, none⟩)), .eq (.bool com), .eq (.pointer (some ⟨wr.heap.size, 3, none⟩)), .eq (.slice qa ws.length qc), .is (fun v w => PrN (wr.heap.size) ws v w) (fun v w w' hk h => PrN.kept hk h), .is (fun v w => AggN (wr.heap.size) (⟨n, mask, com, ws⟩ : Txp) v w) (fun v w w' hk h => AggN.kept hk h), .is (fun v w => RowN (wr.heap.size) (⟨n, mask, com, ws⟩ : Txp) v w) (fun v w w' hk h => RowN.kept hk h)]) (fun w' => Kept [] (wr.alloc (.cells #[.int .i64 n, .int .u16 (mask : Int), .bool com, .slice qa ws.length qc] 59)) w') (Kept []) (by kernel_rfl) (fun j v w w' h h' => yieldDen_kept _ j v w w' h h') (fun w => Kept.refl [] w) (by kernel_rfl) (by kernel_rfl) (by kernel_rfl) (by kernel_rfl) (by kernel_rfl) (by kernel_rfl) ((Kept.refl [] (wr.alloc (.cells #[.int .i64 n, .int .u16 (mask : Int), .bool com, .slice qa ws.length qc] 59))).drew) ?_ ?_
      · skip
        refine AllUpto.cons (n := 12) (k := 0) ?_ ?_
        · intro a w' hC hO hd
          rw [if_pos (wanted_none rfl)]
          have p3 : a.tmps[3]? = some (.pointer (some ⟨w2.heap.size, 0, none⟩)) := hO.at (by kernel_rfl) rfl
          clear hd hO
          refine pure_step (.pointer (some ⟨w2.heap.size, 1, none⟩)) rfl hC (Kept.refl _ _) ?_
          go_simp
        refine AllUpto.cons (n := 11) (k := 1) ?_ ?_
        · intro a w' hC hO hd
          obtain ⟨x22, e22, r22⟩ := hd ⟨0, .data⟩ (by simp) rfl _ _ rfl rfl
          obtain rfl : x22 = .pointer (some ⟨w2.heap.size, 1, none⟩) := r22
          rw [if_pos (wanted_none rfl)]
          have y1 := (HKA.out.trans hC (fun x hx => .inl hx)).cell c1 (by simp)
          clear hd hO
          refine pure_step (.slice xa M.length xc) rfl hC (Kept.refl _ _) ?_
          go_simp
        refine AllUpto.cons (n := 10) (k := 2) ?_ ?_
        · intro a w' hC hO hd
          rw [if_pos (wanted_none rfl)]
          have p5 : a.tmps[5]? = some (.pointer (some ⟨wr.heap.size, 0, none⟩)) := hO.at (by kernel_rfl) rfl
          clear hd hO
          refine pure_step (.pointer (some ⟨wr.heap.size, 0, none⟩)) rfl hC (Kept.refl _ _) ?_
          go_simp
        refine AllUpto.cons (n := 9) (k := 3) ?_ ?_
        · intro a w' hC hO hd
          obtain ⟨x24, e24, r24⟩ := hd ⟨2, .data⟩ (by simp) rfl _ _ rfl rfl
          obtain rfl : x24 = .pointer (some ⟨wr.heap.size, 0, none⟩) := r24
          rw [if_pos (wanted_none rfl)]
          obtain ⟨s0, s1, s2, s3⟩ := HSK.out [] w' (by simp) hC
          clear hd hO
          refine pure_step (.int .i64 n) rfl hC (Kept.refl _ _) ?_
          go_simp
        refine AllUpto.cons (n := 8) (k := 4) ?_ ?_
        · intro a w' hC hO hd
          rw [if_pos (wanted_none rfl)]
          have p5 : a.tmps[5]? = some (.pointer (some ⟨wr.heap.size, 0, none⟩)) := hO.at (by kernel_rfl) rfl
          clear hd hO
          refine pure_step (.pointer (some ⟨wr.heap.size, 1, none⟩)) rfl hC (Kept.refl _ _) ?_
          go_simp
        refine AllUpto.cons (n := 7) (k := 5) ?_ ?_
        · intro a w' hC hO hd
          obtain ⟨x26, e26, r26⟩ := hd ⟨4, .data⟩ (by simp) rfl _ _ rfl rfl
          obtain rfl : x26 = .pointer (some ⟨wr.heap.size, 1, none⟩) := r26
          rw [if_pos (wanted_none rfl)]
          obtain ⟨s0, s1, s2, s3⟩ := HSK.out [] w' (by simp) hC
          clear hd hO
          refine pure_step (.int .u16 (mask : Int)) rfl hC (Kept.refl _ _) ?_
          go_simp
        refine AllUpto.cons (n := 6) (k := 6) ?_ ?_
        · intro a w' hC hO hd
          rw [if_pos (wanted_none rfl)]
          have p5 : a.tmps[5]? = some (.pointer (some ⟨wr.heap.size, 0, none⟩)) := hO.at (by kernel_rfl) rfl
          clear hd hO
          refine pure_step (.pointer (some ⟨wr.heap.size, 2, none⟩)) rfl hC (Kept.refl _ _) ?_
          go_simp
        refine AllUpto.cons (n := 5) (k := 7) ?_ ?_
        · intro a w' hC hO hd
          obtain ⟨x28, e28, r28⟩ := hd ⟨6, .data⟩ (by simp) rfl _ _ rfl rfl
          obtain rfl : x28 = .pointer (some ⟨wr.heap.size, 2, none⟩) := r28
          rw [if_pos (wanted_none rfl)]
          obtain ⟨s0, s1, s2, s3⟩ := HSK.out [] w' (by simp) hC
          clear hd hO
          refine pure_step (.bool com) rfl hC (Kept.refl _ _) ?_
          go_simp
        refine AllUpto.cons (n := 4) (k := 8) ?_ ?_
        · intro a w' hC hO hd
          rw [if_pos (wanted_none rfl)]
          have p5 : a.tmps[5]? = some (.pointer (some ⟨wr.heap.size, 0, none⟩)) := hO.at (by kernel_rfl) rfl
          clear hd hO
          refine pure_step (.pointer (some ⟨wr.heap.size, 3, none⟩)) rfl hC (Kept.refl _ _) ?_
          go_simp
        refine AllUpto.cons (n := 3) (k := 9) ?_ ?_
        · intro a w' hC hO hd
          obtain ⟨x30, e30, r30⟩ := hd ⟨8, .data⟩ (by simp) rfl _ _ rfl rfl
          obtain rfl : x30 = .pointer (some ⟨wr.heap.size, 3, none⟩) := r30
          rw [if_pos (wanted_none rfl)]
          obtain ⟨s0, s1, s2, s3⟩ := HSK.out [] w' (by simp) hC
          clear hd hO
          refine pure_step (.slice qa ws.length qc) rfl hC (Kept.refl _ _) ?_
          go_simp
        refine AllUpto.cons (n := 2) (k := 10) ?_ ?_
        · intro a w' hC hO hd
          obtain ⟨x31, e31, r31⟩ := hd ⟨9, .data⟩ (by simp) rfl _ _ rfl rfl
          obtain rfl : x31 = .slice qa ws.length qc := r31
          rw [if_pos (wanted_none rfl)]
          clear hd hO
          go_simp
          refine (HQ.out _ ((HKW.out.trans HKA.out (fun x hx => .inl hx)).trans hC (fun x hx => .inl hx))).mono ?_
          rintro e y ⟨v4, rfl, ho4, hk⟩
          obtain ⟨pa, pc, rfl⟩ := ownsRow_slice ho4
          exact ⟨_, rfl, ⟨⟨_, _, rfl⟩, PrAt.of_own ho4 rfl, fun a m c hv hm => Nat.le_trans (Nat.le_trans HKA.out.size hC.size) (own_from ho4 a m c hv hm)⟩, hC.trans hk (fun x hx => .inl hx), hk⟩
        refine AllUpto.cons (n := 1) (k := 11) ?_ ?_
        · intro a w' hC hO hd
          obtain ⟨x25, e25, r25⟩ := hd ⟨3, .data⟩ (by simp) rfl _ _ rfl rfl
          obtain rfl : x25 = .int .i64 n := r25
          obtain ⟨x27, e27, r27⟩ := hd ⟨5, .data⟩ (by simp) rfl _ _ rfl rfl
          obtain rfl : x27 = .int .u16 (mask : Int) := r27
          obtain ⟨x29, e29, r29⟩ := hd ⟨7, .data⟩ (by simp) rfl _ _ rfl rfl
          obtain rfl : x29 = .bool com := r29
          obtain ⟨x32, e32, r32⟩ := hd ⟨10, .data⟩ (by simp) rfl _ _ rfl rfl
          obtain ⟨⟨pa32, pc32, rfl⟩, hp32⟩ := show (∃ pa pc, x32 = .slice pa _ pc) ∧ _ from r32
          rw [if_pos (wanted_none rfl)]
          clear hd hO
          refine pure_step (.agg #[.int .i64 n, .int .u16 (mask : Int), .bool com, .slice pa32 ws.length pc32]) ⟨_, _, rfl, r32⟩ hC (Kept.refl _ _) ?_
          go_simp
        refine AllUpto.cons (n := 0) (k := 12) ?_ ?_
        · intro a w' hC hO hd
          obtain ⟨x33, e33, r33⟩ := hd ⟨11, .data⟩ (by simp) rfl _ _ rfl rfl
          obtain ⟨pa33, pc33, rfl, hp33⟩ := show AggN _ _ x33 w' from r33
          rw [if_pos (wanted_none rfl)]
          clear hd hO
          go_simp
          exact ⟨_, rfl, ⟨_, _, _, rfl, hp33.kept ((Kept.refl [] w').alloc _), fun jj u h => cells_new w' (txF ((⟨n, mask, com, ws⟩ : Txp), .slice pa33 ws.length pc33)) 61 jj u h⟩, hC.alloc _, (Kept.refl [] w').alloc _⟩
        exact AllUpto.nil
      · intro a' w4 hC hO hrows
        obtain ⟨xs1, es1, rs1⟩ := hrows 1 (by decide) _ _ rfl rfl
        obtain ⟨xs2, es2, rs2⟩ := hrows 12 (by decide) _ _ rfl rfl
        obtain rfl : xs1 = .slice xa M.length xc := rs1
        obtain ⟨us, hus, ha⟩ := hO.lit rfl [false, false, false, false, false, false, false, false, false, false, false, false, false, false, false, false, false, false, false, false, false, false, true, true, true, true, true, true, true, true, true, true, true, true, true, true, true, false] (by kernel_rfl)
        have u1 := hus 23 _ rfl es1
        have u2 := hus 34 _ rfl es2
        clear hrows hO hus es1 es2
        subst ha
        simp only [merge, Nat.reduceAdd, u1, u2, List.drop_succ_cons, List.drop_zero]
        clear u1 u2
        obtain ⟨g0, pa, pc, rfl, hp4, hcl⟩ := show RowN _ _ xs2 w4 from rs2
        clear rs2
        have hkw := HKA.out.trans hC (fun x hx => .inl hx)
        have y1 := hkw.cell c1 (by simp)
        refine wpList_plain rfl fun _ hKK => wp_append_ow (.tmp 23) (.tmp 34) 24 rfl 61 (.agg #[.int .i64 0, .int .u16 0, .bool false, .slice none 0 0]) 4 40 Tryz.underlying24 txInfoOf rfl (by decide) (by decide) (w2.heap.size + 1) (.slice xa M.length xc) M.length (M.flatMap txF) rfl (ownK_kept HO.out.own hkw (fun _ _ => List.not_mem_nil)) ⟨g0, 0, none⟩ 1 1 (txF ((⟨n, mask, com, ws⟩ : Txp), .slice pa ws.length pc)) rfl rfl hcl (by simp [txF, Value.oneCell']) (by decide) (by omega) (by have := HKA.out.size; have := hC.size; simp at this; omega) ?_
        intro g5 gc5 w5 hown5 hgr5 hwh5
        have hk5 := Kept.trans ((hkw).mono (T := (Value.slice xa M.length xc).ownBlock.toList) (by simp)) (Kept.of_grown hgr5 _ (fun k hk => by simpa using hk)) (fun x hx => .inl hx)
        have hBO5 := (hk5.block w2.heap.size hBr (fun hx => by have := HBN.out w2.heap.size (by simpa using hx); omega)).trans HO.out.blk
        obtain ⟨_, y5, _, zz5⟩ := cell2 hBO5
        obtain ⟨ho6, hk6⟩ := HO.out.step (q := ((⟨n, mask, com, ws⟩ : Txp), .slice pa ws.length pc)) hkw hp4.2.1 (fun a m c hv hm => hp4.2.2 a m c hv hm) (Kept.refl [] w4) hown5 hgr5 hwh5
        have HO6 := hid ho6
        have HK6 := hid (HK.out.trans hk6 (fun x hx => by
          rcases List.mem_cons.1 hx with rfl | hx
          · exact .inl (by simp)
          · exact .inr (by have := HBN.out x (by simpa using hx); simp; omega)))
        refine hKK _ _ ?_
        clear ho6 hk6 hk5 hBO5 hown5 hgr5 hwh5 y1 hp4 hcl hkw HQ c0 c1 z0 z1 y0 zA
        go_wp2
        go_roundg (L.length - (k + 1))
        case measure => omega
        case rel => exact ⟨k + 1, by first | rfl | go_num, by omega, Nat.le_refl _, M ++ [((⟨n, mask, com, ws⟩ : Txp), Value.slice pa ws.length pc)], Value.slice (some ⟨g5, 0, none⟩) (M.length + 1) gc5, HO6.out, by show _ = _; rw [HT.out, List.map_append, HM.out]; rfl, HK6.out⟩
    · obtain rfl : k = L.length := by omega
      have hltz : ¬ (L.length : Int) < (L.length : Int) := by omega
      obtain ⟨d0, d1, _, _⟩ := cell2 hx1
      obtain ⟨_, _, y0, y1⟩ := cell2 hx1
      have hm2 := HM.out
      rw [← hll, List.take_length] at hm2
      go_wp2
      have hE := set2 hx1 (.slice va base.length vc) (.slice xa M.length xc)
      obtain ⟨g0, g1, _, _⟩ := cell2 hE
      have hKE : Kept [w.heap.size + 1] wr ((wr.setCell ⟨w.heap.size + 1, 0, none⟩ (.slice va base.length vc)).setCell ⟨w.heap.size + 1, 1, none⟩ (.slice xa M.length xc)) := ((Kept.refl _ wr).setCell (.inl (by simp)) _).setCell (.inl (by simp)) _
      generalize (wr.setCell ⟨w.heap.size + 1, 0, none⟩ (.slice va base.length vc)).setCell ⟨w.heap.size + 1, 1, none⟩ (.slice xa M.length xc) = we at *
      refine bodyPost_ret (by simp [results, Tryz.results10, go_sem, g0, g1]; rfl) rfl ?_
      have hsm := small_cells hx1 (by simp)
      refine ⟨_, _, rfl, ⟨?_, ⟨M, hm2, ?_, fun q hq => ?_⟩⟩, ?_⟩
      · have hb1 : PrAt wr (.slice va base.length vc) base := (PrAt.of_own HO2.out rfl).kept_of (((Kept.refl [w2.heap.size] w2).alloc _).trans HK.out (fun x hx => .inl hx)) (fun a n c hv hn hb => by
          simp only [List.mem_singleton] at hb
          have := HLT.out a n c hv hn
          omega)
        exact hb1.kept_of hKE (fun a n c hv hn hb => by
          simp only [List.mem_singleton] at hb
          exact hb1.far hsm a n c hv hn hb)
      · exact SlAt.of_own (ownK_kept HO.out.own hKE (fun x hx hb => by
          simp only [List.mem_singleton] at hb
          have := (HO.out.own.lt x hx).1
          omega))
      · exact (HO.out.prs q hq).1.kept_of hKE (fun a n c hv hn hb => by
          simp only [List.mem_singleton] at hb
          exact (HO.out.prs q hq).1.far hsm a n c hv hn hb)
      · exact HKW.out.trans hKE (fun x hx => .inr (by simp at hx; omega))
--@@ concordatlaw11.To
theorem txInfoTo : (Tryz.prog.info? 59).map (fun i => (i.zero, i.size, i.bytes)) = some (some (.agg #[.int .i64 0, .int .u16 0, .bool false, .slice none 0 0]), 4, 40) := by kernel_rfl
set_option maxHeartbeats 8000000 in
set_option maxRecDepth 100000 in
theorem stto_any (bv tv : Value) (s : Stp) (w : World) (h : RSt w bv tv s) (hl : s.txs.length ≤ 100000) (hb : s.base.length ≤ 20000) (hx : ∀ x ∈ s.txs, x.ws.length ≤ 20000) :
    Calls Tryz.prog 6 #[.agg #[bv, tv]] w fun e w' => ∃ bv' tv', e = .returned (.agg #[bv', tv']) ∧ StAt w' bv' tv' s ∧ Kept [] w w' := by
  obtain ⟨base, txs⟩ := s
  obtain ⟨L, hL, hS, hP⟩ := h.txs.ex
  have hba := h.base
  dsimp only at hL hl hb hx hba
  have HFB := hid (fun W (hK : Kept [] w W) => to_any bv base W (hba.kept hK) hb)
  obtain ⟨ba, bc, rfl, _, _, _⟩ := hba.ex
  obtain ⟨ta, tc, rfl, htm, _, htc⟩ := hS.ex
  have HTC := hid htc
  have HP := hid (fun q (hq : q ∈ L) W (hK : Kept [] w W) => to_any q.2 q.1.ws W ((hP q hq).kept hK) (hx q.1 (by rw [← hL]; exact List.mem_map_of_mem hq)))
  have HPV := hid (fun q (hq : q ∈ L) => show ∃ a c, q.2 = .slice a q.1.ws.length c from by obtain ⟨a, c, e, _⟩ := (hP q hq).ex; exact ⟨a, c, e⟩)
  have hLl : L.length ≤ 100000 := by rw [← hL, List.length_map] at hl; exact hl
  have HL := hid hL
  clear h hS hP htc hL hba hx hl
  go_enter Tryz.func6, Tryz.ntmps6
  go_wp2_with (go_at_call 20; refine (HFB.out _ (show Kept [] w _ by (repeat (first | assumption | (with_reducible exact Kept.refl _ _) | (with_reducible refine Kept.drew ?_) | (with_reducible refine Kept.alloc ?_ _) | (with_reducible refine Kept.setCell ?_ (by right; simp; try omega) _))))).mono ?_; clear HFB; rintro e w2 ⟨v2, rfl, ho2, hk2⟩; obtain ⟨va, vc, rfl⟩ := ownsRow_slice ho2)
  have hs2 := hk2.size
  simp only [World.size_alloc] at hs2
  have HO2 := hid ho2
  have HBX := hid (fun W (hK : Kept [w2.heap.size] (w2.alloc (.cells #[.slice va base.length vc, .slice none 0 0] 32)) W) => boxG hk2 hK)
  have HK2 := hid ((((Kept.refl [] w).alloc _).alloc _).trans hk2 (fun x hx => .inl hx))
  have hfr := own_from ho2
  simp only [World.size_alloc] at hfr
  have hlt2 := (PrAt.of_own ho2 rfl).lt
  have HFR := hid hfr
  have HLT := hid hlt2
  clear ho2 hk2 hfr hlt2
  go_loopg [4] L.length (fun kx s4 wr => ∃ k : Nat, s4 = .int .i64 k ∧ k ≤ L.length ∧ L.length - k ≤ kx ∧ ∃ M tx, Aside (OutG 32 59 wr (w2.heap.size + 1) w2.heap.size (.slice va base.length vc) tx M) ∧ Aside (M.map (·.1) = txs.take k) ∧ Aside (Kept [w2.heap.size] (w2.alloc (.cells #[.slice va base.length vc, .slice none 0 0] 32)) wr))
  case atStart => exact ⟨0, by first | rfl | go_num, by omega, by omega, [], _, ⟨heap_alloc_new w2 _, ⟨rfl, .inl ⟨rfl, rfl⟩⟩, fun q hq => (by cases hq), by simp, by omega⟩, rfl, Kept.refl _ _⟩
  case round =>
    obtain ⟨k, rfl, hk, hkx, M, tx, HO, HM, HK⟩ := hrel
    obtain ⟨hx0, hx1⟩ := HBX.out wr HK.out
    obtain ⟨b0, b1, _, _⟩ := cell2 hx0
    obtain ⟨c0, c1, z0, z1⟩ := cell2 HO.out.blk
    obtain ⟨xa, xc, rfl⟩ := ownsRow_slice HO.out.own
    have hll : txs.length = L.length := by rw [← HL.out, List.length_map]
    have hml : M.length ≤ 100000 := by have := congrArg List.length HM.out; rw [List.length_map, List.length_take] at this; omega
    have hsw := HK.out.size
    simp only [World.size_alloc] at hsw
    have HKW := hid (show Kept [] w wr from (HK2.out.alloc _).trans HK.out (fun x hx => .inr (by simp at hx; omega)))
    by_cases hlt : k < L.length
    · have hltz : (k : Int) < (L.length : Int) := by omega
      obtain ⟨b, off, rfl, _, d1⟩ := HTC.out (by omega)
      obtain ⟨e0, e1, e2, e3⟩ := tx_cells (fun j u hu => HKW.out.cell (d1 j u hu) (by simp)) hlt
      have hq1 : txs[k]'(by omega) = L[k].1 := by simp [← HL.out]
      have HT := hid (show txs.take (k + 1) = txs.take k ++ [L[k].1] by rw [List.take_succ_eq_append_getElem (by omega), hq1])
      clear d1 hq1
      have HQ := hid (HP.out _ (List.getElem_mem hlt))
      obtain ⟨qa, qc, hqv⟩ := HPV.out _ (List.getElem_mem hlt)
      generalize L[k] = q at *
      obtain ⟨⟨n, mask, com, ws⟩, qv⟩ := q
      dsimp only at e0 e1 e2 e3 HQ HT hqv
      subst hqv
      have hBr := (Array.getElem?_eq_some_iff.1 HO.out.blk).1
      have HBN := hid (fun x hx => (HO.out.own.lt x hx).1)
      have HSK := hid (fun (T : List Nat) W (hT : wr.heap.size ∉ T) (hK : Kept T (wr.alloc (.cells #[.int .i64 n, .int .u16 (mask : Int), .bool com, .slice qa ws.length qc] 61)) W) => show W.cell? ⟨wr.heap.size, 0, none⟩ = some (.int .i64 n) ∧ W.cell? ⟨wr.heap.size, 1, none⟩ = some (.int .u16 (mask : Int)) ∧ W.cell? ⟨wr.heap.size, 2, none⟩ = some (.bool com) ∧ W.cell? ⟨wr.heap.size, 3, none⟩ = some (.slice qa ws.length qc) from
        have nc := new_cell wr [.int .i64 n, .int .u16 (mask : Int), .bool com, .slice qa ws.length qc] 61
        ⟨hK.cell (nc 0 _ rfl) hT, hK.cell (nc 1 _ rfl) hT, hK.cell (nc 2 _ rfl) hT, hK.cell (nc 3 _ rfl) hT⟩)
      have HKA := hid ((Kept.refl [] wr).alloc (.cells #[.int .i64 n, .int .u16 (mask : Int), .bool com, .slice qa ws.length qc] 61))
      have HWd := hid (Kept.refl [] (wr.alloc (.cells #[.int .i64 n, .int .u16 (mask : Int), .bool com, .slice qa ws.length qc] 61))).drew
      have y0 := HKA.out.cell c1 (by simp)
      have zA := (cell2 ((HKA.out.block _ hBr (by simp)).trans HO.out.blk)).2.2
      have HB2 := hid (fun (g : Nat) (hg : g ∈ (Value.slice xa M.length xc).ownBlock.toList) => show g < wr.heap.size from (HO.out.own.lt g (by simpa using hg)).2)
      go_wp2_with fail
      clear e0 e1 e2 e3 b0 b1
      refine wp_region_rows_tail 13 (yieldDen [.eq (.pointer (some ⟨w2.heap.size, 1, none⟩)), .eq (.slice xa M.length xc), .eq (.pointer (some ⟨wr.heap.size, 0, none⟩)), .eq (.int .i64 n), .eq (.pointer (some ⟨wr.heap.size, 1, none⟩)), .eq (.int .u16 (mask : Int)), .eq (.pointer (some ⟨wr.heap.size, 2, none⟩)), .eq (.bool com), .eq (.pointer (some ⟨wr.heap.size, 3, none⟩)), .eq (.slice qa ws.length qc), .is (fun v w => PrN (wr.heap.size) ws v w) (fun v w w' hk h => PrN.kept hk h), .is (fun v w => AggN (wr.heap.size) (⟨n, mask, com, ws⟩ : Txp) v w) (fun v w w' hk h => AggN.kept hk h), .is (fun v w => RowN (wr.heap.size) (⟨n, mask, com, ws⟩ : Txp) v w) (fun v w w' hk h => RowN.kept hk h)]) (fun w' => Kept [] (wr.alloc (.cells #[.int .i64 n, .int .u16 (mask : Int), .bool com, .slice qa ws.length qc] 61)) w') (Kept []) (by kernel_rfl) (fun j v w w' h h' => yieldDen_kept _ j v w w' h h') (fun w => Kept.refl [] w) (by kernel_rfl) (by kernel_rfl) (by kernel_rfl) (by kernel_rfl) (by kernel_rfl) (by kernel_rfl) ((Kept.refl [] (wr.alloc (.cells #[.int .i64 n, .int .u16 (mask : Int), .bool com, .slice qa ws.length qc] 61))).drew) ?_ ?_
      · skip
        refine AllUpto.cons (n := 12) (k := 0) ?_ ?_
        · intro a w' hC hO hd
          rw [if_pos (wanted_none rfl)]
          have p3 : a.tmps[3]? = some (.pointer (some ⟨w2.heap.size, 0, none⟩)) := hO.at (by kernel_rfl) rfl
          clear hd hO
          refine pure_step (.pointer (some ⟨w2.heap.size, 1, none⟩)) rfl hC (Kept.refl _ _) ?_
          go_simp
        refine AllUpto.cons (n := 11) (k := 1) ?_ ?_
        · intro a w' hC hO hd
          obtain ⟨x22, e22, r22⟩ := hd ⟨0, .data⟩ (by simp) rfl _ _ rfl rfl
          obtain rfl : x22 = .pointer (some ⟨w2.heap.size, 1, none⟩) := r22
          rw [if_pos (wanted_none rfl)]
          have y1 := (HKA.out.trans hC (fun x hx => .inl hx)).cell c1 (by simp)
          clear hd hO
          refine pure_step (.slice xa M.length xc) rfl hC (Kept.refl _ _) ?_
          go_simp
        refine AllUpto.cons (n := 10) (k := 2) ?_ ?_
        · intro a w' hC hO hd
          rw [if_pos (wanted_none rfl)]
          have p5 : a.tmps[5]? = some (.pointer (some ⟨wr.heap.size, 0, none⟩)) := hO.at (by kernel_rfl) rfl
          clear hd hO
          refine pure_step (.pointer (some ⟨wr.heap.size, 0, none⟩)) rfl hC (Kept.refl _ _) ?_
          go_simp
        refine AllUpto.cons (n := 9) (k := 3) ?_ ?_
        · intro a w' hC hO hd
          obtain ⟨x24, e24, r24⟩ := hd ⟨2, .data⟩ (by simp) rfl _ _ rfl rfl
          obtain rfl : x24 = .pointer (some ⟨wr.heap.size, 0, none⟩) := r24
          rw [if_pos (wanted_none rfl)]
          obtain ⟨s0, s1, s2, s3⟩ := HSK.out [] w' (by simp) hC
          clear hd hO
          refine pure_step (.int .i64 n) rfl hC (Kept.refl _ _) ?_
          go_simp
        refine AllUpto.cons (n := 8) (k := 4) ?_ ?_
        · intro a w' hC hO hd
          rw [if_pos (wanted_none rfl)]
          have p5 : a.tmps[5]? = some (.pointer (some ⟨wr.heap.size, 0, none⟩)) := hO.at (by kernel_rfl) rfl
          clear hd hO
          refine pure_step (.pointer (some ⟨wr.heap.size, 1, none⟩)) rfl hC (Kept.refl _ _) ?_
          go_simp
        refine AllUpto.cons (n := 7) (k := 5) ?_ ?_
        · intro a w' hC hO hd
          obtain ⟨x26, e26, r26⟩ := hd ⟨4, .data⟩ (by simp) rfl _ _ rfl rfl
          obtain rfl : x26 = .pointer (some ⟨wr.heap.size, 1, none⟩) := r26
          rw [if_pos (wanted_none rfl)]
          obtain ⟨s0, s1, s2, s3⟩ := HSK.out [] w' (by simp) hC
          clear hd hO
          refine pure_step (.int .u16 (mask : Int)) rfl hC (Kept.refl _ _) ?_
          go_simp
        refine AllUpto.cons (n := 6) (k := 6) ?_ ?_
        · intro a w' hC hO hd
          rw [if_pos (wanted_none rfl)]
          have p5 : a.tmps[5]? = some (.pointer (some ⟨wr.heap.size, 0, none⟩)) := hO.at (by kernel_rfl) rfl
          clear hd hO
          refine pure_step (.pointer (some ⟨wr.heap.size, 2, none⟩)) rfl hC (Kept.refl _ _) ?_
          go_simp
        refine AllUpto.cons (n := 5) (k := 7) ?_ ?_
        · intro a w' hC hO hd
          obtain ⟨x28, e28, r28⟩ := hd ⟨6, .data⟩ (by simp) rfl _ _ rfl rfl
          obtain rfl : x28 = .pointer (some ⟨wr.heap.size, 2, none⟩) := r28
          rw [if_pos (wanted_none rfl)]
          obtain ⟨s0, s1, s2, s3⟩ := HSK.out [] w' (by simp) hC
          clear hd hO
          refine pure_step (.bool com) rfl hC (Kept.refl _ _) ?_
          go_simp
        refine AllUpto.cons (n := 4) (k := 8) ?_ ?_
        · intro a w' hC hO hd
          rw [if_pos (wanted_none rfl)]
          have p5 : a.tmps[5]? = some (.pointer (some ⟨wr.heap.size, 0, none⟩)) := hO.at (by kernel_rfl) rfl
          clear hd hO
          refine pure_step (.pointer (some ⟨wr.heap.size, 3, none⟩)) rfl hC (Kept.refl _ _) ?_
          go_simp
        refine AllUpto.cons (n := 3) (k := 9) ?_ ?_
        · intro a w' hC hO hd
          obtain ⟨x30, e30, r30⟩ := hd ⟨8, .data⟩ (by simp) rfl _ _ rfl rfl
          obtain rfl : x30 = .pointer (some ⟨wr.heap.size, 3, none⟩) := r30
          rw [if_pos (wanted_none rfl)]
          obtain ⟨s0, s1, s2, s3⟩ := HSK.out [] w' (by simp) hC
          clear hd hO
          refine pure_step (.slice qa ws.length qc) rfl hC (Kept.refl _ _) ?_
          go_simp
        refine AllUpto.cons (n := 2) (k := 10) ?_ ?_
        · intro a w' hC hO hd
          obtain ⟨x31, e31, r31⟩ := hd ⟨9, .data⟩ (by simp) rfl _ _ rfl rfl
          obtain rfl : x31 = .slice qa ws.length qc := r31
          rw [if_pos (wanted_none rfl)]
          clear hd hO
          go_simp
          refine (HQ.out _ ((HKW.out.trans HKA.out (fun x hx => .inl hx)).trans hC (fun x hx => .inl hx))).mono ?_
          rintro e y ⟨v4, rfl, ho4, hk⟩
          obtain ⟨pa, pc, rfl⟩ := ownsRow_slice ho4
          exact ⟨_, rfl, ⟨⟨_, _, rfl⟩, PrAt.of_own ho4 rfl, fun a m c hv hm => Nat.le_trans (Nat.le_trans HKA.out.size hC.size) (own_from ho4 a m c hv hm)⟩, hC.trans hk (fun x hx => .inl hx), hk⟩
        refine AllUpto.cons (n := 1) (k := 11) ?_ ?_
        · intro a w' hC hO hd
          obtain ⟨x25, e25, r25⟩ := hd ⟨3, .data⟩ (by simp) rfl _ _ rfl rfl
          obtain rfl : x25 = .int .i64 n := r25
          obtain ⟨x27, e27, r27⟩ := hd ⟨5, .data⟩ (by simp) rfl _ _ rfl rfl
          obtain rfl : x27 = .int .u16 (mask : Int) := r27
          obtain ⟨x29, e29, r29⟩ := hd ⟨7, .data⟩ (by simp) rfl _ _ rfl rfl
          obtain rfl : x29 = .bool com := r29
          obtain ⟨x32, e32, r32⟩ := hd ⟨10, .data⟩ (by simp) rfl _ _ rfl rfl
          obtain ⟨⟨pa32, pc32, rfl⟩, hp32⟩ := show (∃ pa pc, x32 = .slice pa _ pc) ∧ _ from r32
          rw [if_pos (wanted_none rfl)]
          clear hd hO
          refine pure_step (.agg #[.int .i64 n, .int .u16 (mask : Int), .bool com, .slice pa32 ws.length pc32]) ⟨_, _, rfl, r32⟩ hC (Kept.refl _ _) ?_
          go_simp
        refine AllUpto.cons (n := 0) (k := 12) ?_ ?_
        · intro a w' hC hO hd
          obtain ⟨x33, e33, r33⟩ := hd ⟨11, .data⟩ (by simp) rfl _ _ rfl rfl
          obtain ⟨pa33, pc33, rfl, hp33⟩ := show AggN _ _ x33 w' from r33
          rw [if_pos (wanted_none rfl)]
          clear hd hO
          go_simp
          exact ⟨_, rfl, ⟨_, _, _, rfl, hp33.kept ((Kept.refl [] w').alloc _), fun jj u h => cells_new w' (txF ((⟨n, mask, com, ws⟩ : Txp), .slice pa33 ws.length pc33)) 59 jj u h⟩, hC.alloc _, (Kept.refl [] w').alloc _⟩
        exact AllUpto.nil
      · intro a' w4 hC hO hrows
        obtain ⟨xs1, es1, rs1⟩ := hrows 1 (by decide) _ _ rfl rfl
        obtain ⟨xs2, es2, rs2⟩ := hrows 12 (by decide) _ _ rfl rfl
        obtain rfl : xs1 = .slice xa M.length xc := rs1
        obtain ⟨us, hus, ha⟩ := hO.lit rfl [false, false, false, false, false, false, false, false, false, false, false, false, false, false, false, false, false, false, false, false, false, false, true, true, true, true, true, true, true, true, true, true, true, true, true, true, true, false] (by kernel_rfl)
        have u1 := hus 23 _ rfl es1
        have u2 := hus 34 _ rfl es2
        clear hrows hO hus es1 es2
        subst ha
        simp only [merge, Nat.reduceAdd, u1, u2, List.drop_succ_cons, List.drop_zero]
        clear u1 u2
        obtain ⟨g0, pa, pc, rfl, hp4, hcl⟩ := show RowN _ _ xs2 w4 from rs2
        clear rs2
        have hkw := HKA.out.trans hC (fun x hx => .inl hx)
        have y1 := hkw.cell c1 (by simp)
        refine wpList_plain rfl fun _ hKK => wp_append_ow (.tmp 23) (.tmp 34) 30 rfl 59 (.agg #[.int .i64 0, .int .u16 0, .bool false, .slice none 0 0]) 4 40 Tryz.underlying30 txInfoTo rfl (by decide) (by decide) (w2.heap.size + 1) (.slice xa M.length xc) M.length (M.flatMap txF) rfl (ownK_kept HO.out.own hkw (fun _ _ => List.not_mem_nil)) ⟨g0, 0, none⟩ 1 1 (txF ((⟨n, mask, com, ws⟩ : Txp), .slice pa ws.length pc)) rfl rfl hcl (by simp [txF, Value.oneCell']) (by decide) (by omega) (by have := HKA.out.size; have := hC.size; simp at this; omega) ?_
        intro g5 gc5 w5 hown5 hgr5 hwh5
        have hk5 := Kept.trans ((hkw).mono (T := (Value.slice xa M.length xc).ownBlock.toList) (by simp)) (Kept.of_grown hgr5 _ (fun k hk => by simpa using hk)) (fun x hx => .inl hx)
        have hBO5 := (hk5.block w2.heap.size hBr (fun hx => by have := HBN.out w2.heap.size (by simpa using hx); omega)).trans HO.out.blk
        obtain ⟨_, y5, _, zz5⟩ := cell2 hBO5
        obtain ⟨ho6, hk6⟩ := HO.out.step (q := ((⟨n, mask, com, ws⟩ : Txp), .slice pa ws.length pc)) hkw hp4.2.1 (fun a m c hv hm => hp4.2.2 a m c hv hm) (Kept.refl [] w4) hown5 hgr5 hwh5
        have HO6 := hid ho6
        have HK6 := hid (HK.out.trans hk6 (fun x hx => by
          rcases List.mem_cons.1 hx with rfl | hx
          · exact .inl (by simp)
          · exact .inr (by have := HBN.out x (by simpa using hx); simp; omega)))
        refine hKK _ _ ?_
        clear ho6 hk6 hk5 hBO5 hown5 hgr5 hwh5 y1 hp4 hcl hkw HQ c0 c1 z0 z1 y0 zA
        go_wp2
        go_roundg (L.length - (k + 1))
        case measure => omega
        case rel => exact ⟨k + 1, by first | rfl | go_num, by omega, Nat.le_refl _, M ++ [((⟨n, mask, com, ws⟩ : Txp), Value.slice pa ws.length pc)], Value.slice (some ⟨g5, 0, none⟩) (M.length + 1) gc5, HO6.out, by show _ = _; rw [HT.out, List.map_append, HM.out]; rfl, HK6.out⟩
    · obtain rfl : k = L.length := by omega
      have hltz : ¬ (L.length : Int) < (L.length : Int) := by omega
      obtain ⟨d0, d1, _, _⟩ := cell2 hx1
      obtain ⟨_, _, y0, y1⟩ := cell2 hx1
      have hm2 := HM.out
      rw [← hll, List.take_length] at hm2
      go_wp2
      have hE := set2 hx1 (.slice va base.length vc) (.slice xa M.length xc)
      obtain ⟨g0, g1, _, _⟩ := cell2 hE
      have hKE : Kept [w.heap.size + 1] wr ((wr.setCell ⟨w.heap.size + 1, 0, none⟩ (.slice va base.length vc)).setCell ⟨w.heap.size + 1, 1, none⟩ (.slice xa M.length xc)) := ((Kept.refl _ wr).setCell (.inl (by simp)) _).setCell (.inl (by simp)) _
      generalize (wr.setCell ⟨w.heap.size + 1, 0, none⟩ (.slice va base.length vc)).setCell ⟨w.heap.size + 1, 1, none⟩ (.slice xa M.length xc) = we at *
      refine bodyPost_ret (by simp [results, Tryz.results6, go_sem, g0, g1]; rfl) rfl ?_
      have hsm := small_cells hx1 (by simp)
      refine ⟨_, _, rfl, ⟨?_, ⟨M, hm2, ?_, fun q hq => ?_⟩⟩, ?_⟩
      · have hb1 : PrAt wr (.slice va base.length vc) base := (PrAt.of_own HO2.out rfl).kept_of (((Kept.refl [w2.heap.size] w2).alloc _).trans HK.out (fun x hx => .inl hx)) (fun a n c hv hn hb => by
          simp only [List.mem_singleton] at hb
          have := HLT.out a n c hv hn
          omega)
        exact hb1.kept_of hKE (fun a n c hv hn hb => by
          simp only [List.mem_singleton] at hb
          exact hb1.far hsm a n c hv hn hb)
      · exact SlAt.of_own (ownK_kept HO.out.own hKE (fun x hx hb => by
          simp only [List.mem_singleton] at hb
          have := (HO.out.own.lt x hx).1
          omega))
      · exact (HO.out.prs q hq).1.kept_of hKE (fun a n c hv hn hb => by
          simp only [List.mem_singleton] at hb
          exact (HO.out.prs q hq).1.far hsm a n c hv hn hb)
      · exact HKW.out.trans hKE (fun x hx => .inr (by simp at hx; omega))
--@@ end
end Go.Proofs.YtpcpeoejcnndhaaGreat
