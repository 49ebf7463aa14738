/- A transaction's records; a state's records. -/
import Derived.Test.YtpcpeoejcnndhaaGreatM3
import Derived.Test.YtpcpeoejcnndhaaGreatM1
import Derived.Deep.RegionHeld3
set_option linter.all false
namespace Go.Proofs.YtpcpeoejcnndhaaGreat
open Go.RowKit Go.Shelf Go.Lib Go.Sort Go.Proofs
def wrS (n : Int) (base l : List Pr) : List Rc := l.map fun p => ⟨1, n, 0, p.key, findP base p.key, p.val⟩
theorem wrS_len (n : Int) (base l : List Pr) : (wrS n base l).length = l.length := by simp [wrS]
theorem rc_one (l : List Rc) : ∀ u ∈ l.flatMap Rc.f, u.oneCell' = true := fun u hu => by
  obtain ⟨r, _, hr⟩ := List.mem_flatMap.1 hu
  simp only [Rc.f, List.mem_cons, List.not_mem_nil, or_false] at hr
  rcases hr with rfl | rfl | rfl | rfl | rfl | rfl | rfl | rfl | rfl | rfl | rfl <;> rfl
--@@ (redo.Tx).recs
theorem redoRecInfo : (Tryz.prog.info? 55).map (fun i => (i.zero, i.size, i.bytes)) = some (some (.agg #[.int .i64 0, .int .i64 0, .int .u16 0, .int .u8 0, .int .u8 0, .int .u8 0, .int .u8 0, .bool false, .int .i64 0, .bool false, .int .i64 0]), 11, 56) := by kernel_rfl
set_option maxHeartbeats 8000000 in
set_option maxRecDepth 100000 in
theorem txrecs_any (x : Txp) (v bv : Value) (base : List Pr) (w : World) (hx : PrAt w v x.ws) (hb : PrAt w bv base) (hl : x.ws.length ≤ 100000) :
    Calls Tryz.prog 22 #[.agg #[.int .i64 x.n, .int .u16 (x.mask : Int), .bool x.com, v], bv] w fun e w' => ∃ v', e = .returned v' ∧ w'.ownsRow w.heap.size 55 11 v' (recsT base x).length ((recsT base x).flatMap Rc.f) ∧ Kept [] w w' := by
  obtain ⟨n, mask, com, ws⟩ := x
  dsimp only at hx hl ⊢
  obtain ⟨a1, c1, rfl, _, _, hcs⟩ := hx.at'.ex
  have HC := hid hcs
  have HF := hid redoRecInfo
  have HV := hid hb
  have HX := hid ((Kept.refl [] w).alloc (.cells #[.int .i64 n, .int .u16 (mask : Int), .bool com, .slice a1 ws.length c1] 59))
  have HB := hid (fun W (hK : Kept [] (w.alloc (.cells #[.int .i64 n, .int .u16 (mask : Int), .bool com, .slice a1 ws.length c1] 59)) W) => tx_box hK)
  obtain ⟨R, hR⟩ : ∃ R, R = recsT base ⟨n, mask, com, ws⟩ := ⟨_, rfl⟩
  rw [← hR]
  have HRR := hid (show R = wrS n base ws ++ (⟨2, n, mask, ⟨0, 0, 0, 0⟩, V.zero, V.zero⟩ :: if com = true then [⟨4, n, 0, ⟨0, 0, 0, 0⟩, V.zero, V.zero⟩] else []) by rw [hR]; rfl)
  clear hx hb hcs hR
  go_enter Tryz.func22, Tryz.ntmps22
  go_wp2
  go_loopg [5, 11] ws.length (fun kx s5 s11 wr => ∃ k : Nat, s11 = .int .i64 k ∧ k ≤ ws.length ∧ ws.length - k ≤ kx ∧ Aside (wr.ownsRow (w.heap.size + 1) 55 11 s5 k ((wrS n base (ws.take k)).flatMap Rc.f)) ∧ Aside (Kept [] (w.alloc (.cells #[.int .i64 n, .int .u16 (mask : Int), .bool com, .slice a1 ws.length c1] 59)) wr))
  case atStart => exact ⟨0, by first | rfl | go_num, by omega, by omega, ⟨rfl, .inl ⟨rfl, rfl⟩⟩, Kept.refl _ _⟩
  case round =>
    obtain ⟨k, rfl, hk, hkx, HO, HK⟩ := hrel
    have HKW := hid (HX.out.trans HK.out (fun x hx => .inl hx))
    have hsz := HKW.out.size
    obtain ⟨y0, y1, y2, y3⟩ := HB.out wr HK.out
    by_cases hlt : k < ws.length
    · have hltz : (k : Int) < (ws.length : Int) := by omega
      obtain ⟨b, off, rfl, hb, hcs⟩ := HC.out (by omega)
      have hcW : ∀ j u, (ws.flatMap Pr.f)[j]? = some u → wr.cell? ⟨b, off + j, none⟩ = some u := fun j u hj => HKW.out.cell (hcs j u hj) (by simp)
      obtain ⟨e0, e1, e2, e3, e4, e5⟩ := pair_cells hcW hlt
      have HT := hid (show wrS n base (ws.take (k + 1)) = wrS n base (ws.take k) ++ wrS n base [ws[k]] by rw [List.take_succ_eq_append_getElem hlt]; unfold wrS; rw [List.map_append])
      clear hcW hcs y1 y2 y3
      generalize ws[k] = x at *
      obtain ⟨⟨x1, x2, x3, x4⟩, ⟨x5, x6⟩⟩ := x
      dsimp only at e0 e1 e2 e3 e4 e5
      have HS := hid (show ∀ (o : Option Nat) w', (∀ x, o = some x → w.heap.size + 1 ≤ x ∧ x < wr.heap.size) → Kept o.toList (wr.alloc (.cells #[.int .u8 (x1.toNat : Int), .int .u8 (x2.toNat : Int), .int .u8 (x3.toNat : Int), .int .u8 (x4.toNat : Int), .bool x5, .int .i64 x6] 57)) w' → w'.cell? ⟨w.heap.size, 0, none⟩ = some (.int .i64 n) ∧ w'.cell? ⟨wr.heap.size, 0, none⟩ = some (.int .u8 (x1.toNat : Int)) ∧ w'.cell? ⟨wr.heap.size, 1, none⟩ = some (.int .u8 (x2.toNat : Int)) ∧ w'.cell? ⟨wr.heap.size, 2, none⟩ = some (.int .u8 (x3.toNat : Int)) ∧ w'.cell? ⟨wr.heap.size, 3, none⟩ = some (.int .u8 (x4.toNat : Int)) ∧ w'.cell? ⟨wr.heap.size, 4, none⟩ = some (.bool x5) ∧ w'.cell? ⟨wr.heap.size, 5, none⟩ = some (.int .i64 x6) from fun o w' ho hk' =>
        have hn1 : w.heap.size ∉ o.toList := fun h => by have := ho _ (by simpa using h); omega
        have hn2 : wr.heap.size ∉ o.toList := fun h => by have := ho _ (by simpa using h); omega
        have nc := new_cell wr [.int .u8 (x1.toNat : Int), .int .u8 (x2.toNat : Int), .int .u8 (x3.toNat : Int), .int .u8 (x4.toNat : Int), .bool x5, .int .i64 x6] 57
        ⟨hk'.cell (((Kept.refl [] wr).alloc _).cell y0 (by simp)) hn1, hk'.cell (nc 0 _ rfl) hn2, hk'.cell (nc 1 _ rfl) hn2, hk'.cell (nc 2 _ rfl) hn2, hk'.cell (nc 3 _ rfl) hn2, hk'.cell (nc 4 _ rfl) hn2, hk'.cell (nc 5 _ rfl) hn2⟩)
      have HWd := hid (Kept.refl [] (wr.alloc (.cells #[.int .u8 (x1.toNat : Int), .int .u8 (x2.toNat : Int), .int .u8 (x3.toNat : Int), .int .u8 (x4.toNat : Int), .bool x5, .int .i64 x6] 57))).drew
      have HW := hid ((Kept.refl [] wr).alloc (.cells #[.int .u8 (x1.toNat : Int), .int .u8 (x2.toNat : Int), .int .u8 (x3.toNat : Int), .int .u8 (x4.toNat : Int), .bool x5, .int .i64 x6] 57))
      have HFI := hid (fun W (hK : Kept [] wr W) => find_any bv base ⟨x1, x2, x3, x4⟩ W ((HV.out.kept HKW.out).kept hK).at')
      obtain ⟨fv, hfv⟩ : ∃ fv, fv = findP base ⟨x1, x2, x3, x4⟩ := ⟨_, rfl⟩
      have HFV := hid hfv
      rw [← hfv] at HFI
      clear hfv
      obtain ⟨f1, f2⟩ := fv
      simp only [V.v] at HFI
      go_wp2_with fail
      clear e0 e1 e2 e3 e4 e5 y0
      go_region_held3 (fun w' => w'.cell? ⟨w.heap.size, 0, none⟩ = some (.int .i64 n) ∧ w'.cell? ⟨wr.heap.size, 0, none⟩ = some (.int .u8 (x1.toNat : Int)) ∧ w'.cell? ⟨wr.heap.size, 1, none⟩ = some (.int .u8 (x2.toNat : Int)) ∧ w'.cell? ⟨wr.heap.size, 2, none⟩ = some (.int .u8 (x3.toNat : Int)) ∧ w'.cell? ⟨wr.heap.size, 3, none⟩ = some (.int .u8 (x4.toNat : Int)) ∧ w'.cell? ⟨wr.heap.size, 4, none⟩ = some (.bool x5) ∧ w'.cell? ⟨wr.heap.size, 5, none⟩ = some (.int .i64 x6))
        (first | exact HS.out none _ (by simp) hkf | exact HS.out none _ (by simp) HWd.out | exact HS.out none _ (by simp) (hkf.alloc _) | exact HS.out none _ (by simp) (HWd.out.alloc _) | exact HS.out _ _ (fun x hx => HO.out.lt x hx) hkb)
        (first
          | (go_at_call 43; refine (HFI.out _ (HW.out.trans HWd.out (fun x hx => .inl hx))).mono ?_; clear HFI; rintro e w2 ⟨rfl, hk2⟩; have hkf := HWd.out.trans hk2 (fun x hx => .inl hx))
          | (rw [if_pos (by rfl)]; refine wp_append_is _ _ 22 rfl 55 _ 11 56 Tryz.underlying22 HF.out rfl (by decide) (by decide) (w.heap.size + 1) _ k _ rfl ((ownsRow_kept HO.out (HW.out.trans hkf (fun x hx => .inl hx)) (by simp)).alloc _) _ 1 1 (Rc.f ⟨1, n, 0, ⟨x1, x2, x3, x4⟩, ⟨f1, f2⟩, ⟨x5, x6⟩⟩) rfl rfl (fun j u h => cells_new _ (Rc.f ⟨1, n, 0, ⟨x1, x2, x3, x4⟩, ⟨f1, f2⟩, ⟨x5, x6⟩⟩) _ j u h) (by simp [Rc.f, Value.oneCell']) (by omega) (by have := (HW.out.trans hkf (fun x hx => .inl hx)).size; simp at this ⊢; omega) ?_; intro v' w1 hown1 hgrow hnil; have hka := ((HK.out.trans (HW.out.trans hkf (fun x hx => .inl hx)) (fun x hx => .inl hx)).alloc (.cells (Rc.f ⟨1, n, 0, ⟨x1, x2, x3, x4⟩, ⟨f1, f2⟩, ⟨x5, x6⟩⟩).toArray 55)).grown_own ((ownsRow_kept HO.out (HW.out.trans hkf (fun x hx => .inl hx)) (by simp)).alloc _) hgrow (by simp); have hkb := ((hkf.mono (T := Option.toList _) (fun x hx => by simp at hx)).alloc (.cells (Rc.f ⟨1, n, 0, ⟨x1, x2, x3, x4⟩, ⟨f1, f2⟩, ⟨x5, x6⟩⟩).toArray 55)).trans (Kept.of_grown hgrow _ (fun k hk => Option.mem_toList.2 hk)) (fun x hx => .inl hx)))
      have HKA := hid hka
      have H1 := hid hown1
      clear hown1 hgrow hnil hka hkf hkb
      go_wp2
      go_roundg (ws.length - (k + 1))
      case measure => omega
      case rel =>
        refine ⟨k + 1, by first | rfl | go_num, by omega, Nat.le_refl _, ?_, HKA.out⟩
        show World.ownsRow _ _ _ _ _ _ _
        rw [HT.out, List.flatMap_append]
        have hw1 : (wrS n base [(⟨⟨x1, x2, x3, x4⟩, ⟨x5, x6⟩⟩ : Pr)]).flatMap Rc.f = Rc.f ⟨1, n, 0, ⟨x1, x2, x3, x4⟩, ⟨f1, f2⟩, ⟨x5, x6⟩⟩ := by
          unfold wrS
          rw [List.map_cons, List.map_nil, ← HFV.out]
          simp
        rw [hw1]
        exact H1.out
    · obtain rfl : k = ws.length := by omega
      have hltz : ¬ (ws.length : Int) < (ws.length : Int) := by omega
      have ho2 := HO.out
      rw [List.take_length] at ho2
      have HO2 := hid ho2
      clear ho2 HO hkx hk
      cases com with
      | false =>
        go_wp2_with (at_builtin; refine wpList_append_is rfl _ _ 22 rfl 55 _ 11 56 Tryz.underlying22 HF.out rfl (by decide) (by decide) (w.heap.size + 1) _ ws.length _ rfl (HO2.out.alloc _) _ 1 1 (Rc.f ⟨2, n, mask, ⟨0, 0, 0, 0⟩, V.zero, V.zero⟩) rfl rfl (fun j u h => cells_new _ (Rc.f ⟨2, n, mask, ⟨0, 0, 0, 0⟩, V.zero, V.zero⟩) _ j u h) (by simp [Rc.f, Value.oneCell']) (by omega) (by simp at hsz ⊢; omega) ?_; intro v' w1 hown1 hgrow hnil; have HKA := hid ((HK.out.alloc (.cells (Rc.f ⟨2, n, mask, ⟨0, 0, 0, 0⟩, V.zero, V.zero⟩).toArray 55)).grown_own (HO2.out.alloc _) hgrow (by simp)); obtain ⟨y0, y1, y2, y3⟩ := HB.out w1 HKA.out)
        have H1 := hid hown1
        clear hown1 hgrow hnil
        go_returns
        refine ⟨_, rfl, ?_, HX.out.trans HKA.out (fun x hx => .inl hx)⟩
        have h := ownsRow_base H1.out (Nat.le_succ w.heap.size)
        have hr : R = wrS n base ws ++ [⟨2, n, mask, ⟨0, 0, 0, 0⟩, V.zero, V.zero⟩] := HRR.out
        rw [hr, List.flatMap_append, List.length_append, wrS_len]
        simpa using h
      | true =>
        go_wp2_with (at_builtin; first
          | (refine wpList_append_is rfl _ _ 22 rfl 55 _ 11 56 Tryz.underlying22 HF.out rfl (by decide) (by decide) (w.heap.size + 1) _ ws.length _ rfl (HO2.out.alloc _) _ 1 1 (Rc.f ⟨2, n, mask, ⟨0, 0, 0, 0⟩, V.zero, V.zero⟩) rfl rfl (fun j u h => cells_new _ (Rc.f ⟨2, n, mask, ⟨0, 0, 0, 0⟩, V.zero, V.zero⟩) _ j u h) (by simp [Rc.f, Value.oneCell']) (by omega) (by simp at hsz ⊢; omega) ?_; intro v1 w1 hown1 hgrow1 hnil1; have HK1 := hid ((HK.out.alloc (.cells (Rc.f ⟨2, n, mask, ⟨0, 0, 0, 0⟩, V.zero, V.zero⟩).toArray 55)).grown_own (HO2.out.alloc _) hgrow1 (by simp)); have H1 := hid hown1; clear hown1 hgrow1 hnil1; obtain ⟨y0, y1, y2, y3⟩ := HB.out w1 HK1.out; have hsz1 := HK1.out.size)
          | (refine wpList_append_is rfl _ _ 22 rfl 55 _ 11 56 Tryz.underlying22 HF.out rfl (by decide) (by decide) (w.heap.size + 1) _ (ws.length + 1) _ rfl (H1.out.alloc _) _ 1 1 (Rc.f ⟨4, n, 0, ⟨0, 0, 0, 0⟩, V.zero, V.zero⟩) rfl rfl (fun j u h => cells_new _ (Rc.f ⟨4, n, 0, ⟨0, 0, 0, 0⟩, V.zero, V.zero⟩) _ j u h) (by simp [Rc.f, Value.oneCell']) (by omega) (by simp at hsz1 ⊢; omega) ?_; intro v2 w2 hown2 hgrow2 hnil2))
        have HK2 := hid ((HK1.out.alloc (.cells (Rc.f ⟨4, n, 0, ⟨0, 0, 0, 0⟩, V.zero, V.zero⟩).toArray 55)).grown_own (H1.out.alloc _) hgrow2 (by simp))
        have H2 := hid hown2
        clear hown2 hgrow2 hnil2
        go_returns
        refine ⟨_, rfl, ?_, HX.out.trans HK2.out (fun x hx => .inl hx)⟩
        have h := ownsRow_base H2.out (Nat.le_succ w.heap.size)
        have hr : R = wrS n base ws ++ [⟨2, n, mask, ⟨0, 0, 0, 0⟩, V.zero, V.zero⟩, ⟨4, n, 0, ⟨0, 0, 0, 0⟩, V.zero, V.zero⟩] := HRR.out
        rw [hr, List.flatMap_append, List.length_append, wrS_len]
        simpa using h
--@@ end
end Go.Proofs.YtpcpeoejcnndhaaGreat
