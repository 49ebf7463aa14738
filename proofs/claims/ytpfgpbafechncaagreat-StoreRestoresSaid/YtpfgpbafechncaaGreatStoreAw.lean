/- The first calls on a store. -/
import Derived.Test.YtpfgpbafechncaaGreatM5
import Derived.Test.YtpfgpbafechncaaGreatM11
import Derived.Test.YtpfgpbafechncaaGreatM2
import Derived.Test.YtpfgpbafechncaaGreatM1
set_option linter.all false
namespace Go.Proofs.YtpfgpbafechncaaGreat
open Go.RowKit Go.Shelf Go.Lib Go.Sort Go.Proofs
theorem PrAt.nilS (W : World) : PrAt W (.slice none 0 0) [] := ⟨⟨none, 0, rfl, by decide, rfl, fun h => absurd h (by decide)⟩, fun a n c h => (by cases h), fun n c h => (by cases h; rfl)⟩
--@@ store.Store
structure StoreX (n0 : Nat) (P : List Nat) (w : World) (A : Nat) (s : Sp) : Prop where
  ex : ∃ D : Nat → Prop, StoreAt w D A s ∧ (∀ b, b < n0 → D b) ∧ ∀ b ∈ P, D b
theorem StoreX.kept {n0 : Nat} {P : List Nat} {w w' : World} {A : Nat} {s : Sp} (h : StoreX n0 P w A s) (hk : Kept [] w w') : StoreX n0 P w' A s := by
  obtain ⟨D, ⟨M, L, bv, ws, H⟩, h1, h2⟩ := h.ex
  exact ⟨D, ⟨M, L, bv, ws, H.kept hk (fun x hx => by cases hx)⟩, h1, h2⟩
theorem StoreX.made {n0 : Nat} {P : List Nat} {w w' : World} {A : Nat} {s : Sp} (h : StoreX n0 P w A s) (hk : Kept [] w w') {p : Nat} (hp : w.heap.size ≤ p ∧ p < w'.heap.size) : StoreX n0 (p :: P) w' A s := by
  obtain ⟨D, ⟨M, L, bv, ws, H⟩, h1, h2⟩ := h.ex
  refine ⟨_, ⟨M, L, bv, ws, H.widen hk (fun x hx => by cases hx)⟩, fun b hb => .inl (h1 b hb), fun b hb => ?_⟩
  rcases List.mem_cons.1 hb with rfl | hb
  · exact .inr hp
  · exact .inl (h2 b hb)
theorem StoreX.alloc {n0 : Nat} {P : List Nat} {w : World} {A : Nat} {s : Sp} (h : StoreX n0 P w A s) (o : Obj) : StoreX n0 (w.heap.size :: P) (w.alloc o) A s := h.made ((Kept.refl [] w).alloc o) ⟨Nat.le_refl _, by simp⟩
theorem StoreX.run {n0 : Nat} {P : List Nat} {w : World} {A : Nat} {s s' : Sp} {f : FuncId} {args : Array Value} {Q : Ending → World → Prop} (h : StoreX n0 P w A s) (hc : ∀ D, StoreAt w D A s → Calls Tryz.prog f args w fun e w' => Q e w' ∧ StoreAt w' D A s' ∧ KD D w w') :
    Calls Tryz.prog f args w fun e w' => Q e w' ∧ StoreX n0 P w' A s' ∧ KD (fun b => b < n0 ∨ b ∈ P) w w' := by
  obtain ⟨D, hS, h1, h2⟩ := h.ex
  refine (hc D hS).mono ?_
  rintro e w' ⟨hq, hS', hk⟩
  exact ⟨hq, ⟨D, hS', h1, h2⟩, hk.mono fun b hb => hb.elim (h1 b) (h2 b)⟩
theorem StoreX.at' {n0 : Nat} {P : List Nat} {w : World} {A : Nat} {s : Sp} (h : StoreX n0 P w A s) : ∃ D, StoreAt w D A s := by
  obtain ⟨D, hS, _⟩ := h.ex
  exact ⟨D, hS⟩
theorem kd_keptX {n0 : Nat} {P : List Nat} {w0 w w' : World} (hk : Kept [] w0 w) (h : KD (fun b => b < n0 ∨ b ∈ P) w w') (hn : n0 = w0.heap.size) : Kept [] w0 w' := KD.then hk h (fun x hx _ => .inl (by omega))
--@@ concordatlaw10.alive
theorem al_tx : ∀ x ∈ aS7.works, 1 ≤ x.1 ∧ x.1 ≤ 1048576 := fun x hx => by simp [aS7] at hx; subst hx; decide
theorem keyA_cells {W : World} {k0 : Nat} {t : TypeId} (h : W.heap[k0]? = some (.cells #[.int .u8 1, .int .u8 0, .int .u8 0, .int .u8 0] t (0, 0))) :
    W.cell? ⟨k0, 0, none⟩ = some (.int .u8 1) ∧ W.cell? ⟨k0, 1, none⟩ = some (.int .u8 0) ∧ W.cell? ⟨k0, 2, none⟩ = some (.int .u8 0) ∧ W.cell? ⟨k0, 3, none⟩ = some (.int .u8 0) := by
  refine ⟨?_, ?_, ?_, ?_⟩ <;> simp [World.cell?, h]
theorem sdoA {w : World} {D : Nat → Prop} {A : Nat} {s : Sp} (h : StoreAt w D A s) (hl : s.tab.le 5) (hw : ∀ x ∈ s.works, x.2.ws.length ≤ 1000) (hb : s.base.length ≤ 10000) (kind tx m now : Int) :
    Calls Tryz.prog 17 #[.pointer (some ⟨A, 0, none⟩), .agg #[.int .i64 kind, .int .i64 tx, .int .u8 1, .int .u8 0, .int .u8 0, .int .u8 0, .int .i64 m], .int .i64 now] w fun e w' =>
      e = .returned (.agg #[.int .i64 (s.doOp kind tx kA m now).1.1, .bool (s.doOp kind tx kA m now).1.2.there, .int .i64 (s.doOp kind tx kA m now).1.2.n]) ∧ StoreAt w' D A (s.doOp kind tx kA m now).2 ∧ KD D w w' :=
  sdo_any h hl (by decide) hw hb kind tx kA m now
set_option maxHeartbeats 16000000 in
set_option maxRecDepth 100000 in
theorem alive10_any (w : World) : Calls Tryz.prog 9 #[] w fun e w' => e = .returned (.bool true) ∧ Kept [] w w' := by
  have hA0 := snew_ok (.slice none 0 0) [] w (PrAt.nilS w) (by decide) (by decide)
  have HA0 := hid hA0
  clear hA0
  go_enter Tryz.func9, Tryz.ntmps9
  go_wp2_with first
    | (go_at_call 11; refine HA0.out.mono ?_; clear HA0; rintro e w1 ⟨A, rfl, hS, hk⟩; have HX := hid (show StoreX w.heap.size [] w1 A aS0 from ⟨_, hS, fun b hb => hb, fun b hb => by cases hb⟩); have HK := hid hk; clear hS hk)
    | (go_at_call 24; refine Here.mk ?_)
  refine Here.of ?_
  refine (HX.out.run (fun D h => sbegin_any h 1)).mono ?_
  rw [al1]
  rintro e w2 ⟨rfl, hX, hk⟩
  have HX2 := hid hX
  have HK2 := hid (kd_keptX HK.out hk rfl)
  clear HX HK hX hk
  go_wp2_with (go_at_call 24; refine Here.mk ?_)
  refine Here.of ?_
  refine (HX2.out.run (fun D h => sbegin_any h 2)).mono ?_
  rw [al2]
  rintro e w3 ⟨rfl, hX, hk⟩
  have HX3 := hid hX
  have HK3 := hid (kd_keptX HK2.out hk rfl)
  clear HX2 HK2 hX hk
  go_wp2_with (go_at_call 17; refine Here.mk ?_)
  refine Here.of ?_
  have hX0 := HX3.out.alloc (.cells #[.int .u8 1, .int .u8 0, .int .u8 0, .int .u8 0] 33)
  have hk0 := heap_alloc_new w3 (.cells #[.int .u8 1, .int .u8 0, .int .u8 0, .int .u8 0] 33)
  have HK30 := hid (HK3.out.alloc (.cells #[.int .u8 1, .int .u8 0, .int .u8 0, .int .u8 0] 33))
  refine (hX0.run (fun D h => sdoA h al_le.2.2.1 al_ws.1 (by decide) 2 1 9 0)).mono ?_
  rw [al3]
  rintro e w4 ⟨rfl, hX, hk⟩
  have HK4 := hid (kd_keptX HK30.out hk rfl)
  have hkb : (w4.alloc (.cells #[.int .i64 0, .bool false, .int .i64 0] 46)).heap[w3.heap.size]? = some (.cells #[.int .u8 1, .int .u8 0, .int .u8 0, .int .u8 0] 33 (0, 0)) := (((Kept.refl [] w4).alloc _).block _ (by have := hk.size; simp at this; omega) (by simp)).trans ((hk.block _ (.inr (by simp))).trans hk0)
  have HX4 := hid (hX.alloc (.cells #[.int .i64 0, .bool false, .int .i64 0] 46))
  have HB4 := hid (heap_alloc_new w4 (.cells #[.int .i64 0, .bool false, .int .i64 0] 46))
  have HKB4 := hid hkb
  obtain ⟨y0, y1, y2, y3⟩ := keyA_cells hkb
  clear hX0 hk0 HK30 HX3 HK3 hX hk hkb
  simp only [V.zero]
  go_wp2_with (go_at_call 17; refine Here.mk ?_)
  refine Here.of ?_
  have HK40 := hid (HK4.out.alloc (.cells #[.int .i64 0, .bool false, .int .i64 0] 46))
  refine (HX4.out.run (fun D h => sdoA h al_le.2.2.2.1 al_ws.2.1 (by decide) 1 2 0 0)).mono ?_
  rw [al4]
  rintro e w5 ⟨rfl, hX, hk⟩
  clear y0 y1 y2 y3
  have HK5 := hid (kd_keptX HK40.out hk rfl)
  have hkb : (w5.alloc (.cells #[.int .i64 17, .bool false, .int .i64 0] 46)).heap[w3.heap.size]? = some (.cells #[.int .u8 1, .int .u8 0, .int .u8 0, .int .u8 0] 33 (0, 0)) := (((Kept.refl [] w5).alloc _).block _ (by have := hk.size; have h2 := (Array.getElem?_eq_some_iff.1 HKB4.out).1; omega) (by simp)).trans ((hk.block _ (.inr (by simp))).trans HKB4.out)
  have hb4 : (w5.alloc (.cells #[.int .i64 17, .bool false, .int .i64 0] 46)).heap[w4.heap.size]? = some (.cells #[.int .i64 0, .bool false, .int .i64 0] 46 (0, 0)) := (((Kept.refl [] w5).alloc _).block _ (by have := hk.size; simp at this; omega) (by simp)).trans ((hk.block _ (.inr (by simp))).trans HB4.out)
  have HX5 := hid (hX.alloc (.cells #[.int .i64 17, .bool false, .int .i64 0] 46))
  have HB5 := hid (heap_alloc_new w5 (.cells #[.int .i64 17, .bool false, .int .i64 0] 46))
  have HKB5 := hid hkb
  have HB45 := hid hb4
  obtain ⟨y0, y1, y2, y3⟩ := keyA_cells hkb
  clear HX4 HK4 HK40 HKB4 HB4 hX hk hkb hb4
  simp only [V.zero]
  go_wp2_with (go_at_call 17; refine Here.mk ?_)
  refine Here.of ?_
  have HK50 := hid (HK5.out.alloc (.cells #[.int .i64 17, .bool false, .int .i64 0] 46))
  refine (HX5.out.run (fun D h => sdoA h al_le.2.2.2.2.1 al_ws.2.2.1 (by decide) 1 1 0 0)).mono ?_
  rw [al5]
  rintro e w6 ⟨rfl, hX, hk⟩
  clear y0 y1 y2 y3
  have HK6 := hid (kd_keptX HK50.out hk rfl)
  have hs := hk.size
  have hkb : (w6.alloc (.cells #[.int .i64 0, .bool true, .int .i64 9] 46)).heap[w3.heap.size]? = some (.cells #[.int .u8 1, .int .u8 0, .int .u8 0, .int .u8 0] 33 (0, 0)) := (((Kept.refl [] w6).alloc _).block _ (by have h2 := (Array.getElem?_eq_some_iff.1 HKB5.out).1; omega) (by simp)).trans ((hk.block _ (.inr (by simp))).trans HKB5.out)
  have hb4 : (w6.alloc (.cells #[.int .i64 0, .bool true, .int .i64 9] 46)).heap[w4.heap.size]? = some (.cells #[.int .i64 0, .bool false, .int .i64 0] 46 (0, 0)) := (((Kept.refl [] w6).alloc _).block _ (by have h2 := (Array.getElem?_eq_some_iff.1 HB45.out).1; omega) (by simp)).trans ((hk.block _ (.inr (by simp))).trans HB45.out)
  have hb5 : (w6.alloc (.cells #[.int .i64 0, .bool true, .int .i64 9] 46)).heap[w5.heap.size]? = some (.cells #[.int .i64 17, .bool false, .int .i64 0] 46 (0, 0)) := (((Kept.refl [] w6).alloc _).block _ (by have h2 := (Array.getElem?_eq_some_iff.1 HB5.out).1; omega) (by simp)).trans ((hk.block _ (.inr (by simp))).trans HB5.out)
  have HX6 := hid (hX.alloc (.cells #[.int .i64 0, .bool true, .int .i64 9] 46))
  have HB6 := hid (heap_alloc_new w6 (.cells #[.int .i64 0, .bool true, .int .i64 9] 46))
  have HKB6 := hid hkb
  have HB46 := hid hb4
  have HB56 := hid hb5
  clear HX5 HK5 HK50 HKB5 HB45 HB5 hX hk hkb hb4 hb5 hs
  dsimp only
  go_wp2_with (go_at_call 25; refine Here.mk ?_)
  refine Here.of ?_
  refine (HX6.out.run (Q := fun e w' => ∃ v, e = .returned (.tuple #[.int .i64 1, v, .int .i64 0]) ∧ ∃ a c, v = .slice a 2 c) (s' := aS6) (fun D h => (svote_any h al_le.2.2.2.2.1 (by decide) (by decide) al_ws.2.2.1 1 3).mono (by
    rw [al6]
    rintro e w' ⟨v, rfl, hv, hS, hk⟩
    obtain ⟨a, c, h1, _⟩ := hv.ex
    exact ⟨⟨v, rfl, a, c, h1⟩, hS, hk⟩))).mono ?_
  rintro e w7 ⟨⟨v7, rfl, va, vc, rfl⟩, hX, hk⟩
  have HK60 := hid (HK6.out.alloc (.cells #[.int .i64 0, .bool true, .int .i64 9] 46))
  have HK7 := hid (kd_keptX HK60.out hk rfl)
  have HX7 := hid hX
  have HKB7 := hid ((hk.block _ (.inr (by simp))).trans HKB6.out)
  have HB47 := hid ((hk.block _ (.inr (by simp))).trans HB46.out)
  have HB57 := hid ((hk.block _ (.inr (by simp))).trans HB56.out)
  have HB67 := hid ((hk.block _ (.inr (by simp))).trans HB6.out)
  clear HX6 HK6 HK60 HKB6 HB46 HB56 HB6 hX hk
  go_wp2_with (go_at_call 28; refine Here.mk ?_)
  refine Here.of ?_
  refine (HX7.out.run (s' := aS7) (fun D h => by have := send_any h al_le.2.2.2.2.2.1 (by decide) (by decide) al_ws.2.2.2.1 (by decide) 1 true; rw [al7] at this; exact this)).mono ?_
  rintro e w8 ⟨rfl, hX, hk⟩
  have HK8 := hid (kd_keptX HK7.out hk rfl)
  have HX8 := hid hX
  have hkb := (hk.block _ (.inr (by simp))).trans HKB7.out
  have HKB8 := hid hkb
  have HB48 := hid ((hk.block _ (.inr (by simp))).trans HB47.out)
  have HB58 := hid ((hk.block _ (.inr (by simp))).trans HB57.out)
  have HB68 := hid ((hk.block _ (.inr (by simp))).trans HB67.out)
  obtain ⟨y0, y1, y2, y3⟩ := keyA_cells hkb
  clear HX7 HK7 HKB7 HB47 HB57 HB67 hX hk hkb
  go_wp2_with (go_at_call 17; refine Here.mk ?_)
  refine Here.of ?_
  refine (HX8.out.run (fun D h => sdoA h al_le.2.2.2.2.2.2 al_ws.2.2.2.2 (by decide) 1 2 0 1)).mono ?_
  rw [al8]
  rintro e w9 ⟨rfl, hX, hk⟩
  clear y0 y1 y2 y3
  have HK9 := hid (kd_keptX HK8.out hk rfl)
  have hs := hk.size
  have HBZ := hid (show (w9.alloc (.cells #[.int .i64 0, .bool true, .int .i64 9] 46)).heap[w4.heap.size]? = some (.cells #[.int .i64 0, .bool false, .int .i64 0] 46 (0, 0)) ∧ (w9.alloc (.cells #[.int .i64 0, .bool true, .int .i64 9] 46)).heap[w5.heap.size]? = some (.cells #[.int .i64 17, .bool false, .int .i64 0] 46 (0, 0)) ∧ (w9.alloc (.cells #[.int .i64 0, .bool true, .int .i64 9] 46)).heap[w6.heap.size]? = some (.cells #[.int .i64 0, .bool true, .int .i64 9] 46 (0, 0)) ∧ (w9.alloc (.cells #[.int .i64 0, .bool true, .int .i64 9] 46)).heap[w9.heap.size]? = some (.cells #[.int .i64 0, .bool true, .int .i64 9] 46 (0, 0)) from
    ⟨(((Kept.refl [] w9).alloc _).block _ (by have h2 := (Array.getElem?_eq_some_iff.1 HB48.out).1; omega) (by simp)).trans ((hk.block _ (.inr (by simp))).trans HB48.out), (((Kept.refl [] w9).alloc _).block _ (by have h2 := (Array.getElem?_eq_some_iff.1 HB58.out).1; omega) (by simp)).trans ((hk.block _ (.inr (by simp))).trans HB58.out), (((Kept.refl [] w9).alloc _).block _ (by have h2 := (Array.getElem?_eq_some_iff.1 HB68.out).1; omega) (by simp)).trans ((hk.block _ (.inr (by simp))).trans HB68.out), heap_alloc_new w9 (.cells #[.int .i64 0, .bool true, .int .i64 9] 46)⟩)
  have HXZ := hid (hX.kept ((Kept.refl [] w9).alloc (.cells #[.int .i64 0, .bool true, .int .i64 9] 46)))
  have HKZ := hid (HK9.out.alloc (.cells #[.int .i64 0, .bool true, .int .i64 9] 46))
  clear HX8 HK8 HKB8 HB48 HB58 HB68 hX hk HK9 hs
  dsimp only
  go_wp2_with fail
  generalize w9.alloc (.cells #[.int .i64 0, .bool true, .int .i64 9] 46) = wz at *
  generalize w9.heap.size = bk10 at *
  generalize w6.heap.size = bk6 at *
  generalize w5.heap.size = bk5 at *
  generalize w4.heap.size = bk4 at *
  have HEV := hid (fun W => show (Op.equalIn 10000 44 (.agg #[.bool true, .int .i64 9]) (.agg #[.bool true, .int .i64 9])).run Tryz.prog W = .ok true W from by
    have := eq_val W 9998 ⟨true, 9⟩ ⟨true, 9⟩
    simpa [V.v] using this)
  have HBC := hid (fun W (hK : Kept [] wz W) => show W.cell? ⟨bk4, 0, none⟩ = some (.int .i64 0) ∧ W.cell? ⟨bk5, 0, none⟩ = some (.int .i64 17) ∧ W.cell? ⟨bk6, 1, none⟩ = some (.bool true) ∧ W.cell? ⟨bk6, 2, none⟩ = some (.int .i64 9) ∧ W.cell? ⟨bk10, 1, none⟩ = some (.bool true) ∧ W.cell? ⟨bk10, 2, none⟩ = some (.int .i64 9) from by
    obtain ⟨hb4q, hb5q, hb6q, hb10q⟩ := HBZ.out
    obtain ⟨i0, _⟩ := cell3 hb4q
    obtain ⟨j0, _⟩ := cell3 hb5q
    obtain ⟨_, k1, k2, _⟩ := cell3 hb6q
    obtain ⟨_, l1, l2, _⟩ := cell3 hb10q
    exact ⟨hK.cell i0 (by simp), hK.cell j0 (by simp), hK.cell k1 (by simp), hK.cell k2 (by simp), hK.cell l1 (by simp), hK.cell l2 (by simp)⟩)
  have HAT := hid (fun W (hK : Kept [] wz W) => (HXZ.out.kept hK).at')
  -- [rows alive11]
  refine wp_region_rows (yieldDen [.eq (.pointer (some ⟨bk4, 0, none⟩)), .eq (.int .i64 0), .eq (.bool true), .eq (.bool true), .eq (.pointer (some ⟨bk5, 0, none⟩)), .eq (.int .i64 17), .eq (.bool true), .eq (.bool true), .eq (.bool true), .eq (.pointer (some ⟨bk6, 1, none⟩)), .eq (.agg #[.bool true, .int .i64 9]), .eq (.agg #[.bool true, .int .i64 9]), .eq (.bool true), .eq (.bool true), .eq (.bool true), .eq (.int .i64 1), .eq (.bool true), .eq (.bool true), .eq (.bool true), .eq (.slice va 2 vc), .eq (.int .i64 2), .eq (.bool true), .eq (.bool true), .eq (.bool true), .eq (.int .i64 0), .eq (.bool true), .eq (.bool true), .eq (.bool true), .eq (.int .i64 0), .eq (.bool true), .eq (.bool true), .eq (.bool true), .eq (.pointer (some ⟨bk10, 1, none⟩)), .eq (.agg #[.bool true, .int .i64 9]), .eq (.agg #[.bool true, .int .i64 9]), .eq (.bool true), .eq (.bool true), .eq (.bool true), .eq (.pointer (some ⟨A, 0, none⟩)), .is (fun v _ => ∃ a c, v = .slice a 1 c) (fun _ _ _ _ h => h), .eq (.int .i64 1), .eq (.bool true), .eq (.bool true), .eq (.bool true), .eq (.pointer (some ⟨A, 0, none⟩)), .eq (.int .i64 0), .eq (.bool true), .eq (.bool true), .eq (.bool true), .eq (.pointer (some ⟨A, 0, none⟩)), .eq (.int .i64 1), .eq (.bool true), .eq (.bool true), .eq (.bool true), .eq (.pointer (some ⟨A, 0, none⟩)), .is (fun v w' => SlAt w' v 1 1 [.int .i64 2] ∧ ∃ a c, v = .slice a 1 c) (fun v w w' hk h => ⟨h.1.kept hk, h.2⟩), .is (fun v w' => SlAt w' v 1 1 [.int .i64 2] ∧ ∃ a c, v = .slice a 1 c) (fun v w w' hk h => ⟨h.1.kept hk, h.2⟩), .eq (.bool true), .eq (.bool true), .eq (.bool true), .eq (.pointer (some ⟨A, 0, none⟩)), .is (fun v _ => ∃ a c, v = .slice a 1 c) (fun _ _ _ _ h => h), .eq (.int .i64 1), .eq (.bool true), .eq (.bool true), .eq (.bool true), .eq (.pointer (some ⟨A, 0, none⟩)), .is (fun v _ => ∃ a c, v = .slice a 0 c) (fun _ _ _ _ h => h), .eq (.int .i64 0), .eq (.bool true), .eq (.bool true), .eq (.bool true)]) (fun w' => Kept [] wz w') (Kept []) (by kernel_rfl) (fun j v w w' h h' => yieldDen_kept _ j v w w' h h') (fun w => Kept.refl [] w) (by kernel_rfl) (by kernel_rfl) ((Kept.refl [] wz).drew) ?_ ?_
  · skip
    refine AllFrom.cons (k := 0) ?_ ?_
    · intro a w' hC hO hd
      rw [if_pos (wanted_none rfl)]
      have p4 : a.tmps[4]? = some (.pointer (some ⟨bk4, 0, none⟩)) := hO.at (by kernel_rfl) rfl
      clear hd hO
      refine pure_step (.pointer (some ⟨bk4, 0, none⟩)) rfl hC (Kept.refl _ _) ?_
      go_simp
    refine AllFrom.cons (k := 1) ?_ ?_
    · intro a w' hC hO hd
      obtain ⟨x56, e56, r56⟩ := hd ⟨0, .data⟩ (by simp) rfl _ _ rfl rfl
      obtain rfl : x56 = .pointer (some ⟨bk4, 0, none⟩) := r56
      rw [if_pos (wanted_none rfl)]
      obtain ⟨c4, c5, c61, c62, c01, c02⟩ := HBC.out w' hC
      clear hd hO
      refine pure_step (.int .i64 0) rfl hC (Kept.refl _ _) ?_
      go_simp
    refine AllFrom.cons (k := 2) ?_ ?_
    · intro a w' hC hO hd
      obtain ⟨x57, e57, r57⟩ := hd ⟨1, .data⟩ (by simp) rfl _ _ rfl rfl
      obtain rfl : x57 = .int .i64 0 := r57
      rw [if_pos (wanted_none rfl)]
      clear hd hO
      refine pure_step (.bool true) rfl hC (Kept.refl _ _) ?_
      go_simp
    refine AllFrom.cons (k := 3) ?_ ?_
    · intro a w' hC hO hd
      obtain ⟨x58, e58, r58⟩ := hd ⟨2, .data⟩ (by simp) rfl _ _ rfl rfl
      obtain rfl : x58 = .bool true := r58
      rw [if_pos (wanted_none rfl)]
      clear hd hO
      refine pure_step (.bool true) rfl hC (Kept.refl _ _) ?_
      go_simp
    refine AllFrom.cons (k := 4) ?_ ?_
    · intro a w' hC hO hd
      obtain ⟨x59, e59, r59⟩ := hd ⟨3, .guard⟩ (by simp) rfl _ _ rfl rfl
      obtain rfl : x59 = .bool true := r59
      rw [if_pos (wanted_some (j := 3) (b := true) rfl (yielded_of (o := _) rfl rfl e59))]
      have p5 : a.tmps[5]? = some (.pointer (some ⟨bk5, 0, none⟩)) := hO.at (by kernel_rfl) rfl
      clear hd hO
      refine pure_step (.pointer (some ⟨bk5, 0, none⟩)) rfl hC (Kept.refl _ _) ?_
      go_simp
    refine AllFrom.cons (k := 5) ?_ ?_
    · intro a w' hC hO hd
      obtain ⟨x60, e60, r60⟩ := hd ⟨4, .data⟩ (by simp) rfl _ _ rfl rfl
      obtain rfl : x60 = .pointer (some ⟨bk5, 0, none⟩) := r60
      obtain ⟨x59, e59, r59⟩ := hd ⟨3, .guard⟩ (by simp) rfl _ _ rfl rfl
      obtain rfl : x59 = .bool true := r59
      rw [if_pos (wanted_some (j := 3) (b := true) rfl (yielded_of (o := _) rfl rfl e59))]
      obtain ⟨c4, c5, c61, c62, c01, c02⟩ := HBC.out w' hC
      clear hd hO
      refine pure_step (.int .i64 17) rfl hC (Kept.refl _ _) ?_
      go_simp
    refine AllFrom.cons (k := 6) ?_ ?_
    · intro a w' hC hO hd
      obtain ⟨x61, e61, r61⟩ := hd ⟨5, .data⟩ (by simp) rfl _ _ rfl rfl
      obtain rfl : x61 = .int .i64 17 := r61
      obtain ⟨x59, e59, r59⟩ := hd ⟨3, .guard⟩ (by simp) rfl _ _ rfl rfl
      obtain rfl : x59 = .bool true := r59
      rw [if_pos (wanted_some (j := 3) (b := true) rfl (yielded_of (o := _) rfl rfl e59))]
      clear hd hO
      refine pure_step (.bool true) rfl hC (Kept.refl _ _) ?_
      go_simp
    refine AllFrom.cons (k := 7) ?_ ?_
    · intro a w' hC hO hd
      obtain ⟨x59, e59, r59⟩ := hd ⟨3, .data⟩ (by simp) rfl _ _ rfl rfl
      obtain rfl : x59 = .bool true := r59
      obtain ⟨x62, e62, r62⟩ := hd ⟨6, .data⟩ (by simp) rfl _ _ rfl rfl
      obtain rfl : x62 = .bool true := r62
      rw [if_pos (wanted_none rfl)]
      clear hd hO
      refine pure_step (.bool true) rfl hC (Kept.refl _ _) ?_
      go_simp
    refine AllFrom.cons (k := 8) ?_ ?_
    · intro a w' hC hO hd
      obtain ⟨x63, e63, r63⟩ := hd ⟨7, .data⟩ (by simp) rfl _ _ rfl rfl
      obtain rfl : x63 = .bool true := r63
      rw [if_pos (wanted_none rfl)]
      clear hd hO
      refine pure_step (.bool true) rfl hC (Kept.refl _ _) ?_
      go_simp
    refine AllFrom.cons (k := 9) ?_ ?_
    · intro a w' hC hO hd
      obtain ⟨x64, e64, r64⟩ := hd ⟨8, .guard⟩ (by simp) rfl _ _ rfl rfl
      obtain rfl : x64 = .bool true := r64
      rw [if_pos (wanted_some (j := 8) (b := true) rfl (yielded_of (o := _) rfl rfl e64))]
      have p6 : a.tmps[6]? = some (.pointer (some ⟨bk6, 0, none⟩)) := hO.at (by kernel_rfl) rfl
      clear hd hO
      refine pure_step (.pointer (some ⟨bk6, 1, none⟩)) rfl hC (Kept.refl _ _) ?_
      go_simp
    refine AllFrom.cons (k := 10) ?_ ?_
    · intro a w' hC hO hd
      obtain ⟨x65, e65, r65⟩ := hd ⟨9, .data⟩ (by simp) rfl _ _ rfl rfl
      obtain rfl : x65 = .pointer (some ⟨bk6, 1, none⟩) := r65
      obtain ⟨x64, e64, r64⟩ := hd ⟨8, .guard⟩ (by simp) rfl _ _ rfl rfl
      obtain rfl : x64 = .bool true := r64
      rw [if_pos (wanted_some (j := 8) (b := true) rfl (yielded_of (o := _) rfl rfl e64))]
      obtain ⟨c4, c5, c61, c62, c01, c02⟩ := HBC.out w' hC
      clear hd hO
      refine pure_step (.agg #[.bool true, .int .i64 9]) rfl hC (Kept.refl _ _) ?_
      go_simp
    refine AllFrom.cons (k := 11) ?_ ?_
    · intro a w' hC hO hd
      obtain ⟨x64, e64, r64⟩ := hd ⟨8, .guard⟩ (by simp) rfl _ _ rfl rfl
      obtain rfl : x64 = .bool true := r64
      rw [if_pos (wanted_some (j := 8) (b := true) rfl (yielded_of (o := _) rfl rfl e64))]
      clear hd hO
      go_simp
      refine (num10_any 9 _).mono ?_
      rintro e y ⟨rfl, hk⟩
      exact ⟨_, rfl, rfl, hC.trans hk (fun x hx => .inl hx), hk⟩
    refine AllFrom.cons (k := 12) ?_ ?_
    · intro a w' hC hO hd
      obtain ⟨x66, e66, r66⟩ := hd ⟨10, .data⟩ (by simp) rfl _ _ rfl rfl
      obtain rfl : x66 = .agg #[.bool true, .int .i64 9] := r66
      obtain ⟨x67, e67, r67⟩ := hd ⟨11, .data⟩ (by simp) rfl _ _ rfl rfl
      obtain rfl : x67 = .agg #[.bool true, .int .i64 9] := r67
      obtain ⟨x64, e64, r64⟩ := hd ⟨8, .guard⟩ (by simp) rfl _ _ rfl rfl
      obtain rfl : x64 = .bool true := r64
      rw [if_pos (wanted_some (j := 8) (b := true) rfl (yielded_of (o := _) rfl rfl e64))]
      clear hd hO
      have hev := HEV.out w'
      refine pure_step (.bool true) rfl hC (Kept.refl _ _) ?_
      go_simp
    refine AllFrom.cons (k := 13) ?_ ?_
    · intro a w' hC hO hd
      obtain ⟨x64, e64, r64⟩ := hd ⟨8, .data⟩ (by simp) rfl _ _ rfl rfl
      obtain rfl : x64 = .bool true := r64
      obtain ⟨x68, e68, r68⟩ := hd ⟨12, .data⟩ (by simp) rfl _ _ rfl rfl
      obtain rfl : x68 = .bool true := r68
      rw [if_pos (wanted_none rfl)]
      clear hd hO
      refine pure_step (.bool true) rfl hC (Kept.refl _ _) ?_
      go_simp
    refine AllFrom.cons (k := 14) ?_ ?_
    · intro a w' hC hO hd
      obtain ⟨x69, e69, r69⟩ := hd ⟨13, .data⟩ (by simp) rfl _ _ rfl rfl
      obtain rfl : x69 = .bool true := r69
      rw [if_pos (wanted_none rfl)]
      clear hd hO
      refine pure_step (.bool true) rfl hC (Kept.refl _ _) ?_
      go_simp
    refine AllFrom.cons (k := 15) ?_ ?_
    · intro a w' hC hO hd
      obtain ⟨x70, e70, r70⟩ := hd ⟨14, .guard⟩ (by simp) rfl _ _ rfl rfl
      obtain rfl : x70 = .bool true := r70
      rw [if_pos (wanted_some (j := 14) (b := true) rfl (yielded_of (o := _) rfl rfl e70))]
      have p7 : a.tmps[7]? = some (.int .i64 1) := hO.at (by kernel_rfl) rfl
      clear hd hO
      refine pure_step (.int .i64 1) rfl hC (Kept.refl _ _) ?_
      go_simp
    refine AllFrom.cons (k := 16) ?_ ?_
    · intro a w' hC hO hd
      obtain ⟨x71, e71, r71⟩ := hd ⟨15, .data⟩ (by simp) rfl _ _ rfl rfl
      obtain rfl : x71 = .int .i64 1 := r71
      obtain ⟨x70, e70, r70⟩ := hd ⟨14, .guard⟩ (by simp) rfl _ _ rfl rfl
      obtain rfl : x70 = .bool true := r70
      rw [if_pos (wanted_some (j := 14) (b := true) rfl (yielded_of (o := _) rfl rfl e70))]
      clear hd hO
      refine pure_step (.bool true) rfl hC (Kept.refl _ _) ?_
      go_simp
    refine AllFrom.cons (k := 17) ?_ ?_
    · intro a w' hC hO hd
      obtain ⟨x70, e70, r70⟩ := hd ⟨14, .data⟩ (by simp) rfl _ _ rfl rfl
      obtain rfl : x70 = .bool true := r70
      obtain ⟨x72, e72, r72⟩ := hd ⟨16, .data⟩ (by simp) rfl _ _ rfl rfl
      obtain rfl : x72 = .bool true := r72
      rw [if_pos (wanted_none rfl)]
      clear hd hO
      refine pure_step (.bool true) rfl hC (Kept.refl _ _) ?_
      go_simp
    refine AllFrom.cons (k := 18) ?_ ?_
    · intro a w' hC hO hd
      obtain ⟨x73, e73, r73⟩ := hd ⟨17, .data⟩ (by simp) rfl _ _ rfl rfl
      obtain rfl : x73 = .bool true := r73
      rw [if_pos (wanted_none rfl)]
      clear hd hO
      refine pure_step (.bool true) rfl hC (Kept.refl _ _) ?_
      go_simp
    refine AllFrom.cons (k := 19) ?_ ?_
    · intro a w' hC hO hd
      obtain ⟨x74, e74, r74⟩ := hd ⟨18, .guard⟩ (by simp) rfl _ _ rfl rfl
      obtain rfl : x74 = .bool true := r74
      rw [if_pos (wanted_some (j := 18) (b := true) rfl (yielded_of (o := _) rfl rfl e74))]
      have p8 : a.tmps[8]? = some (.slice va 2 vc) := hO.at (by kernel_rfl) rfl
      clear hd hO
      refine pure_step (.slice va 2 vc) rfl hC (Kept.refl _ _) ?_
      go_simp
    refine AllFrom.cons (k := 20) ?_ ?_
    · intro a w' hC hO hd
      obtain ⟨x75, e75, r75⟩ := hd ⟨19, .data⟩ (by simp) rfl _ _ rfl rfl
      obtain rfl : x75 = .slice va 2 vc := r75
      obtain ⟨x74, e74, r74⟩ := hd ⟨18, .guard⟩ (by simp) rfl _ _ rfl rfl
      obtain rfl : x74 = .bool true := r74
      rw [if_pos (wanted_some (j := 18) (b := true) rfl (yielded_of (o := _) rfl rfl e74))]
      clear hd hO
      refine pure_step (.int .i64 2) rfl hC (Kept.refl _ _) ?_
      go_simp
    refine AllFrom.cons (k := 21) ?_ ?_
    · intro a w' hC hO hd
      obtain ⟨x76, e76, r76⟩ := hd ⟨20, .data⟩ (by simp) rfl _ _ rfl rfl
      obtain rfl : x76 = .int .i64 2 := r76
      obtain ⟨x74, e74, r74⟩ := hd ⟨18, .guard⟩ (by simp) rfl _ _ rfl rfl
      obtain rfl : x74 = .bool true := r74
      rw [if_pos (wanted_some (j := 18) (b := true) rfl (yielded_of (o := _) rfl rfl e74))]
      clear hd hO
      refine pure_step (.bool true) rfl hC (Kept.refl _ _) ?_
      go_simp
    refine AllFrom.cons (k := 22) ?_ ?_
    · intro a w' hC hO hd
      obtain ⟨x74, e74, r74⟩ := hd ⟨18, .data⟩ (by simp) rfl _ _ rfl rfl
      obtain rfl : x74 = .bool true := r74
      obtain ⟨x77, e77, r77⟩ := hd ⟨21, .data⟩ (by simp) rfl _ _ rfl rfl
      obtain rfl : x77 = .bool true := r77
      rw [if_pos (wanted_none rfl)]
      clear hd hO
      refine pure_step (.bool true) rfl hC (Kept.refl _ _) ?_
      go_simp
    refine AllFrom.cons (k := 23) ?_ ?_
    · intro a w' hC hO hd
      obtain ⟨x78, e78, r78⟩ := hd ⟨22, .data⟩ (by simp) rfl _ _ rfl rfl
      obtain rfl : x78 = .bool true := r78
      rw [if_pos (wanted_none rfl)]
      clear hd hO
      refine pure_step (.bool true) rfl hC (Kept.refl _ _) ?_
      go_simp
    refine AllFrom.cons (k := 24) ?_ ?_
    · intro a w' hC hO hd
      obtain ⟨x79, e79, r79⟩ := hd ⟨23, .guard⟩ (by simp) rfl _ _ rfl rfl
      obtain rfl : x79 = .bool true := r79
      rw [if_pos (wanted_some (j := 23) (b := true) rfl (yielded_of (o := _) rfl rfl e79))]
      have p2 : a.tmps[2]? = some (.int .i64 0) := hO.at (by kernel_rfl) rfl
      clear hd hO
      refine pure_step (.int .i64 0) rfl hC (Kept.refl _ _) ?_
      go_simp
    refine AllFrom.cons (k := 25) ?_ ?_
    · intro a w' hC hO hd
      obtain ⟨x80, e80, r80⟩ := hd ⟨24, .data⟩ (by simp) rfl _ _ rfl rfl
      obtain rfl : x80 = .int .i64 0 := r80
      obtain ⟨x79, e79, r79⟩ := hd ⟨23, .guard⟩ (by simp) rfl _ _ rfl rfl
      obtain rfl : x79 = .bool true := r79
      rw [if_pos (wanted_some (j := 23) (b := true) rfl (yielded_of (o := _) rfl rfl e79))]
      clear hd hO
      refine pure_step (.bool true) rfl hC (Kept.refl _ _) ?_
      go_simp
    refine AllFrom.cons (k := 26) ?_ ?_
    · intro a w' hC hO hd
      obtain ⟨x79, e79, r79⟩ := hd ⟨23, .data⟩ (by simp) rfl _ _ rfl rfl
      obtain rfl : x79 = .bool true := r79
      obtain ⟨x81, e81, r81⟩ := hd ⟨25, .data⟩ (by simp) rfl _ _ rfl rfl
      obtain rfl : x81 = .bool true := r81
      rw [if_pos (wanted_none rfl)]
      clear hd hO
      refine pure_step (.bool true) rfl hC (Kept.refl _ _) ?_
      go_simp
    refine AllFrom.cons (k := 27) ?_ ?_
    · intro a w' hC hO hd
      obtain ⟨x82, e82, r82⟩ := hd ⟨26, .data⟩ (by simp) rfl _ _ rfl rfl
      obtain rfl : x82 = .bool true := r82
      rw [if_pos (wanted_none rfl)]
      clear hd hO
      refine pure_step (.bool true) rfl hC (Kept.refl _ _) ?_
      go_simp
    refine AllFrom.cons (k := 28) ?_ ?_
    · intro a w' hC hO hd
      obtain ⟨x83, e83, r83⟩ := hd ⟨27, .guard⟩ (by simp) rfl _ _ rfl rfl
      obtain rfl : x83 = .bool true := r83
      rw [if_pos (wanted_some (j := 27) (b := true) rfl (yielded_of (o := _) rfl rfl e83))]
      have p9 : a.tmps[9]? = some (.int .i64 0) := hO.at (by kernel_rfl) rfl
      clear hd hO
      refine pure_step (.int .i64 0) rfl hC (Kept.refl _ _) ?_
      go_simp
    refine AllFrom.cons (k := 29) ?_ ?_
    · intro a w' hC hO hd
      obtain ⟨x84, e84, r84⟩ := hd ⟨28, .data⟩ (by simp) rfl _ _ rfl rfl
      obtain rfl : x84 = .int .i64 0 := r84
      obtain ⟨x83, e83, r83⟩ := hd ⟨27, .guard⟩ (by simp) rfl _ _ rfl rfl
      obtain rfl : x83 = .bool true := r83
      rw [if_pos (wanted_some (j := 27) (b := true) rfl (yielded_of (o := _) rfl rfl e83))]
      clear hd hO
      refine pure_step (.bool true) rfl hC (Kept.refl _ _) ?_
      go_simp
    refine AllFrom.cons (k := 30) ?_ ?_
    · intro a w' hC hO hd
      obtain ⟨x83, e83, r83⟩ := hd ⟨27, .data⟩ (by simp) rfl _ _ rfl rfl
      obtain rfl : x83 = .bool true := r83
      obtain ⟨x85, e85, r85⟩ := hd ⟨29, .data⟩ (by simp) rfl _ _ rfl rfl
      obtain rfl : x85 = .bool true := r85
      rw [if_pos (wanted_none rfl)]
      clear hd hO
      refine pure_step (.bool true) rfl hC (Kept.refl _ _) ?_
      go_simp
    refine AllFrom.cons (k := 31) ?_ ?_
    · intro a w' hC hO hd
      obtain ⟨x86, e86, r86⟩ := hd ⟨30, .data⟩ (by simp) rfl _ _ rfl rfl
      obtain rfl : x86 = .bool true := r86
      rw [if_pos (wanted_none rfl)]
      clear hd hO
      refine pure_step (.bool true) rfl hC (Kept.refl _ _) ?_
      go_simp
    refine AllFrom.cons (k := 32) ?_ ?_
    · intro a w' hC hO hd
      obtain ⟨x87, e87, r87⟩ := hd ⟨31, .guard⟩ (by simp) rfl _ _ rfl rfl
      obtain rfl : x87 = .bool true := r87
      rw [if_pos (wanted_some (j := 31) (b := true) rfl (yielded_of (o := _) rfl rfl e87))]
      have p10 : a.tmps[10]? = some (.pointer (some ⟨bk10, 0, none⟩)) := hO.at (by kernel_rfl) rfl
      clear hd hO
      refine pure_step (.pointer (some ⟨bk10, 1, none⟩)) rfl hC (Kept.refl _ _) ?_
      go_simp
    refine AllFrom.cons (k := 33) ?_ ?_
    · intro a w' hC hO hd
      obtain ⟨x88, e88, r88⟩ := hd ⟨32, .data⟩ (by simp) rfl _ _ rfl rfl
      obtain rfl : x88 = .pointer (some ⟨bk10, 1, none⟩) := r88
      obtain ⟨x87, e87, r87⟩ := hd ⟨31, .guard⟩ (by simp) rfl _ _ rfl rfl
      obtain rfl : x87 = .bool true := r87
      rw [if_pos (wanted_some (j := 31) (b := true) rfl (yielded_of (o := _) rfl rfl e87))]
      obtain ⟨c4, c5, c61, c62, c01, c02⟩ := HBC.out w' hC
      clear hd hO
      refine pure_step (.agg #[.bool true, .int .i64 9]) rfl hC (Kept.refl _ _) ?_
      go_simp
    refine AllFrom.cons (k := 34) ?_ ?_
    · intro a w' hC hO hd
      obtain ⟨x87, e87, r87⟩ := hd ⟨31, .guard⟩ (by simp) rfl _ _ rfl rfl
      obtain rfl : x87 = .bool true := r87
      rw [if_pos (wanted_some (j := 31) (b := true) rfl (yielded_of (o := _) rfl rfl e87))]
      clear hd hO
      go_simp
      refine (num10_any 9 _).mono ?_
      rintro e y ⟨rfl, hk⟩
      exact ⟨_, rfl, rfl, hC.trans hk (fun x hx => .inl hx), hk⟩
    refine AllFrom.cons (k := 35) ?_ ?_
    · intro a w' hC hO hd
      obtain ⟨x89, e89, r89⟩ := hd ⟨33, .data⟩ (by simp) rfl _ _ rfl rfl
      obtain rfl : x89 = .agg #[.bool true, .int .i64 9] := r89
      obtain ⟨x90, e90, r90⟩ := hd ⟨34, .data⟩ (by simp) rfl _ _ rfl rfl
      obtain rfl : x90 = .agg #[.bool true, .int .i64 9] := r90
      obtain ⟨x87, e87, r87⟩ := hd ⟨31, .guard⟩ (by simp) rfl _ _ rfl rfl
      obtain rfl : x87 = .bool true := r87
      rw [if_pos (wanted_some (j := 31) (b := true) rfl (yielded_of (o := _) rfl rfl e87))]
      clear hd hO
      have hev := HEV.out w'
      refine pure_step (.bool true) rfl hC (Kept.refl _ _) ?_
      go_simp
    refine AllFrom.cons (k := 36) ?_ ?_
    · intro a w' hC hO hd
      obtain ⟨x87, e87, r87⟩ := hd ⟨31, .data⟩ (by simp) rfl _ _ rfl rfl
      obtain rfl : x87 = .bool true := r87
      obtain ⟨x91, e91, r91⟩ := hd ⟨35, .data⟩ (by simp) rfl _ _ rfl rfl
      obtain rfl : x91 = .bool true := r91
      rw [if_pos (wanted_none rfl)]
      clear hd hO
      refine pure_step (.bool true) rfl hC (Kept.refl _ _) ?_
      go_simp
    refine AllFrom.cons (k := 37) ?_ ?_
    · intro a w' hC hO hd
      obtain ⟨x92, e92, r92⟩ := hd ⟨36, .data⟩ (by simp) rfl _ _ rfl rfl
      obtain rfl : x92 = .bool true := r92
      rw [if_pos (wanted_none rfl)]
      clear hd hO
      refine pure_step (.bool true) rfl hC (Kept.refl _ _) ?_
      go_simp
    refine AllFrom.cons (k := 38) ?_ ?_
    · intro a w' hC hO hd
      obtain ⟨x93, e93, r93⟩ := hd ⟨37, .guard⟩ (by simp) rfl _ _ rfl rfl
      obtain rfl : x93 = .bool true := r93
      rw [if_pos (wanted_some (j := 37) (b := true) rfl (yielded_of (o := _) rfl rfl e93))]
      have p1 : a.tmps[1]? = some (.pointer (some ⟨A, 0, none⟩)) := hO.at (by kernel_rfl) rfl
      clear hd hO
      refine pure_step (.pointer (some ⟨A, 0, none⟩)) rfl hC (Kept.refl _ _) ?_
      go_simp
    refine AllFrom.cons (k := 39) ?_ ?_
    · intro a w' hC hO hd
      obtain ⟨x94, e94, r94⟩ := hd ⟨38, .data⟩ (by simp) rfl _ _ rfl rfl
      obtain rfl : x94 = .pointer (some ⟨A, 0, none⟩) := r94
      obtain ⟨x93, e93, r93⟩ := hd ⟨37, .guard⟩ (by simp) rfl _ _ rfl rfl
      obtain rfl : x93 = .bool true := r93
      rw [if_pos (wanted_some (j := 37) (b := true) rfl (yielded_of (o := _) rfl rfl e93))]
      clear hd hO
      obtain ⟨DD, hAT⟩ := HAT.out w' hC
      go_simp
      refine (sbase_any hAT (by decide)).mono ?_
      rintro e y ⟨v2, rfl, hp, hk⟩
      obtain ⟨ra, rc, rfl, _⟩ := hp.at'.ex
      exact ⟨_, rfl, ⟨_, _, rfl⟩, hC.trans hk (fun x hx => .inl hx), hk⟩
    refine AllFrom.cons (k := 40) ?_ ?_
    · intro a w' hC hO hd
      obtain ⟨x95, e95, r95⟩ := hd ⟨39, .data⟩ (by simp) rfl _ _ rfl rfl
      obtain ⟨a95, c95, rfl⟩ := r95
      obtain ⟨x93, e93, r93⟩ := hd ⟨37, .guard⟩ (by simp) rfl _ _ rfl rfl
      obtain rfl : x93 = .bool true := r93
      rw [if_pos (wanted_some (j := 37) (b := true) rfl (yielded_of (o := _) rfl rfl e93))]
      clear hd hO
      refine pure_step (.int .i64 1) rfl hC (Kept.refl _ _) ?_
      go_simp
    refine AllFrom.cons (k := 41) ?_ ?_
    · intro a w' hC hO hd
      obtain ⟨x96, e96, r96⟩ := hd ⟨40, .data⟩ (by simp) rfl _ _ rfl rfl
      obtain rfl : x96 = .int .i64 1 := r96
      obtain ⟨x93, e93, r93⟩ := hd ⟨37, .guard⟩ (by simp) rfl _ _ rfl rfl
      obtain rfl : x93 = .bool true := r93
      rw [if_pos (wanted_some (j := 37) (b := true) rfl (yielded_of (o := _) rfl rfl e93))]
      clear hd hO
      refine pure_step (.bool true) rfl hC (Kept.refl _ _) ?_
      go_simp
    refine AllFrom.cons (k := 42) ?_ ?_
    · intro a w' hC hO hd
      obtain ⟨x93, e93, r93⟩ := hd ⟨37, .data⟩ (by simp) rfl _ _ rfl rfl
      obtain rfl : x93 = .bool true := r93
      obtain ⟨x97, e97, r97⟩ := hd ⟨41, .data⟩ (by simp) rfl _ _ rfl rfl
      obtain rfl : x97 = .bool true := r97
      rw [if_pos (wanted_none rfl)]
      clear hd hO
      refine pure_step (.bool true) rfl hC (Kept.refl _ _) ?_
      go_simp
    refine AllFrom.cons (k := 43) ?_ ?_
    · intro a w' hC hO hd
      obtain ⟨x98, e98, r98⟩ := hd ⟨42, .data⟩ (by simp) rfl _ _ rfl rfl
      obtain rfl : x98 = .bool true := r98
      rw [if_pos (wanted_none rfl)]
      clear hd hO
      refine pure_step (.bool true) rfl hC (Kept.refl _ _) ?_
      go_simp
    refine AllFrom.cons (k := 44) ?_ ?_
    · intro a w' hC hO hd
      obtain ⟨x99, e99, r99⟩ := hd ⟨43, .guard⟩ (by simp) rfl _ _ rfl rfl
      obtain rfl : x99 = .bool true := r99
      rw [if_pos (wanted_some (j := 43) (b := true) rfl (yielded_of (o := _) rfl rfl e99))]
      have p1 : a.tmps[1]? = some (.pointer (some ⟨A, 0, none⟩)) := hO.at (by kernel_rfl) rfl
      clear hd hO
      refine pure_step (.pointer (some ⟨A, 0, none⟩)) rfl hC (Kept.refl _ _) ?_
      go_simp
    refine AllFrom.cons (k := 45) ?_ ?_
    · intro a w' hC hO hd
      obtain ⟨x100, e100, r100⟩ := hd ⟨44, .data⟩ (by simp) rfl _ _ rfl rfl
      obtain rfl : x100 = .pointer (some ⟨A, 0, none⟩) := r100
      obtain ⟨x99, e99, r99⟩ := hd ⟨43, .guard⟩ (by simp) rfl _ _ rfl rfl
      obtain rfl : x99 = .bool true := r99
      rw [if_pos (wanted_some (j := 43) (b := true) rfl (yielded_of (o := _) rfl rfl e99))]
      clear hd hO
      obtain ⟨DD, hAT⟩ := HAT.out w' hC
      go_simp
      refine (sstate_any hAT 1).mono ?_
      rintro e y ⟨rfl, hk⟩
      exact ⟨_, rfl, rfl, hC.trans hk (fun x hx => .inl hx), hk⟩
    refine AllFrom.cons (k := 46) ?_ ?_
    · intro a w' hC hO hd
      obtain ⟨x101, e101, r101⟩ := hd ⟨45, .data⟩ (by simp) rfl _ _ rfl rfl
      obtain rfl : x101 = .int .i64 0 := r101
      obtain ⟨x99, e99, r99⟩ := hd ⟨43, .guard⟩ (by simp) rfl _ _ rfl rfl
      obtain rfl : x99 = .bool true := r99
      rw [if_pos (wanted_some (j := 43) (b := true) rfl (yielded_of (o := _) rfl rfl e99))]
      clear hd hO
      refine pure_step (.bool true) rfl hC (Kept.refl _ _) ?_
      go_simp
    refine AllFrom.cons (k := 47) ?_ ?_
    · intro a w' hC hO hd
      obtain ⟨x99, e99, r99⟩ := hd ⟨43, .data⟩ (by simp) rfl _ _ rfl rfl
      obtain rfl : x99 = .bool true := r99
      obtain ⟨x102, e102, r102⟩ := hd ⟨46, .data⟩ (by simp) rfl _ _ rfl rfl
      obtain rfl : x102 = .bool true := r102
      rw [if_pos (wanted_none rfl)]
      clear hd hO
      refine pure_step (.bool true) rfl hC (Kept.refl _ _) ?_
      go_simp
    refine AllFrom.cons (k := 48) ?_ ?_
    · intro a w' hC hO hd
      obtain ⟨x103, e103, r103⟩ := hd ⟨47, .data⟩ (by simp) rfl _ _ rfl rfl
      obtain rfl : x103 = .bool true := r103
      rw [if_pos (wanted_none rfl)]
      clear hd hO
      refine pure_step (.bool true) rfl hC (Kept.refl _ _) ?_
      go_simp
    refine AllFrom.cons (k := 49) ?_ ?_
    · intro a w' hC hO hd
      obtain ⟨x104, e104, r104⟩ := hd ⟨48, .guard⟩ (by simp) rfl _ _ rfl rfl
      obtain rfl : x104 = .bool true := r104
      rw [if_pos (wanted_some (j := 48) (b := true) rfl (yielded_of (o := _) rfl rfl e104))]
      have p1 : a.tmps[1]? = some (.pointer (some ⟨A, 0, none⟩)) := hO.at (by kernel_rfl) rfl
      clear hd hO
      refine pure_step (.pointer (some ⟨A, 0, none⟩)) rfl hC (Kept.refl _ _) ?_
      go_simp
    refine AllFrom.cons (k := 50) ?_ ?_
    · intro a w' hC hO hd
      obtain ⟨x105, e105, r105⟩ := hd ⟨49, .data⟩ (by simp) rfl _ _ rfl rfl
      obtain rfl : x105 = .pointer (some ⟨A, 0, none⟩) := r105
      obtain ⟨x104, e104, r104⟩ := hd ⟨48, .guard⟩ (by simp) rfl _ _ rfl rfl
      obtain rfl : x104 = .bool true := r104
      rw [if_pos (wanted_some (j := 48) (b := true) rfl (yielded_of (o := _) rfl rfl e104))]
      clear hd hO
      obtain ⟨DD, hAT⟩ := HAT.out w' hC
      go_simp
      refine (sstate_any hAT 2).mono ?_
      rintro e y ⟨rfl, hk⟩
      exact ⟨_, rfl, rfl, hC.trans hk (fun x hx => .inl hx), hk⟩
    refine AllFrom.cons (k := 51) ?_ ?_
    · intro a w' hC hO hd
      obtain ⟨x106, e106, r106⟩ := hd ⟨50, .data⟩ (by simp) rfl _ _ rfl rfl
      obtain rfl : x106 = .int .i64 1 := r106
      obtain ⟨x104, e104, r104⟩ := hd ⟨48, .guard⟩ (by simp) rfl _ _ rfl rfl
      obtain rfl : x104 = .bool true := r104
      rw [if_pos (wanted_some (j := 48) (b := true) rfl (yielded_of (o := _) rfl rfl e104))]
      clear hd hO
      refine pure_step (.bool true) rfl hC (Kept.refl _ _) ?_
      go_simp
    refine AllFrom.cons (k := 52) ?_ ?_
    · intro a w' hC hO hd
      obtain ⟨x104, e104, r104⟩ := hd ⟨48, .data⟩ (by simp) rfl _ _ rfl rfl
      obtain rfl : x104 = .bool true := r104
      obtain ⟨x107, e107, r107⟩ := hd ⟨51, .data⟩ (by simp) rfl _ _ rfl rfl
      obtain rfl : x107 = .bool true := r107
      rw [if_pos (wanted_none rfl)]
      clear hd hO
      refine pure_step (.bool true) rfl hC (Kept.refl _ _) ?_
      go_simp
    refine AllFrom.cons (k := 53) ?_ ?_
    · intro a w' hC hO hd
      obtain ⟨x108, e108, r108⟩ := hd ⟨52, .data⟩ (by simp) rfl _ _ rfl rfl
      obtain rfl : x108 = .bool true := r108
      rw [if_pos (wanted_none rfl)]
      clear hd hO
      refine pure_step (.bool true) rfl hC (Kept.refl _ _) ?_
      go_simp
    refine AllFrom.cons (k := 54) ?_ ?_
    · intro a w' hC hO hd
      obtain ⟨x109, e109, r109⟩ := hd ⟨53, .guard⟩ (by simp) rfl _ _ rfl rfl
      obtain rfl : x109 = .bool true := r109
      rw [if_pos (wanted_some (j := 53) (b := true) rfl (yielded_of (o := _) rfl rfl e109))]
      have p1 : a.tmps[1]? = some (.pointer (some ⟨A, 0, none⟩)) := hO.at (by kernel_rfl) rfl
      clear hd hO
      refine pure_step (.pointer (some ⟨A, 0, none⟩)) rfl hC (Kept.refl _ _) ?_
      go_simp
    refine AllFrom.cons (k := 55) ?_ ?_
    · intro a w' hC hO hd
      obtain ⟨x110, e110, r110⟩ := hd ⟨54, .data⟩ (by simp) rfl _ _ rfl rfl
      obtain rfl : x110 = .pointer (some ⟨A, 0, none⟩) := r110
      obtain ⟨x109, e109, r109⟩ := hd ⟨53, .guard⟩ (by simp) rfl _ _ rfl rfl
      obtain rfl : x109 = .bool true := r109
      rw [if_pos (wanted_some (j := 53) (b := true) rfl (yielded_of (o := _) rfl rfl e109))]
      clear hd hO
      obtain ⟨DD, hAT⟩ := HAT.out w' hC
      go_simp
      refine (stxs_any hAT (by decide) al_tx (by decide)).mono ?_
      rw [al9]
      rintro e y ⟨v2, rfl, ho, hk⟩
      obtain ⟨ra, rc, rfl⟩ := ownsRow_slice ho
      exact ⟨_, rfl, ⟨SlAt.of_own ho, _, _, rfl⟩, hC.trans hk (fun x hx => .inl hx), hk⟩
    refine AllFrom.cons (k := 56) ?_ ?_
    · intro a w' hC hO hd
      obtain ⟨x109, e109, r109⟩ := hd ⟨53, .guard⟩ (by simp) rfl _ _ rfl rfl
      obtain rfl : x109 = .bool true := r109
      rw [if_pos (wanted_some (j := 53) (b := true) rfl (yielded_of (o := _) rfl rfl e109))]
      clear hd hO
      go_simp
      exact ⟨_, rfl, ⟨SlAt.of_own (ownsRow_new w' [.int .i64 2] 3 1 1 0 (Nat.zero_le _) (by decide) rfl), _, _, rfl⟩, hC.alloc _, (Kept.refl [] w').alloc _⟩
    refine AllFrom.cons (k := 57) ?_ ?_
    · intro a w' hC hO hd
      obtain ⟨x111, e111, r111⟩ := hd ⟨55, .data⟩ (by simp) rfl _ _ rfl rfl
      obtain ⟨hs111, a111, c111, rfl⟩ := r111
      obtain ⟨x112, e112, r112⟩ := hd ⟨56, .data⟩ (by simp) rfl _ _ rfl rfl
      obtain ⟨hs112, a112, c112, rfl⟩ := r112
      obtain ⟨x109, e109, r109⟩ := hd ⟨53, .guard⟩ (by simp) rfl _ _ rfl rfl
      obtain rfl : x109 = .bool true := r109
      rw [if_pos (wanted_some (j := 53) (b := true) rfl (yielded_of (o := _) rfl rfl e109))]
      clear hd hO
      obtain ⟨DD, hAT⟩ := HAT.out w' hC
      go_simp
      refine (sameInts_any _ _ [2] [2] _ hs111 hs112).mono ?_
      rintro e y ⟨rfl, hk⟩
      exact ⟨_, rfl, rfl, hC.trans hk (fun x hx => .inl hx), hk⟩
    refine AllFrom.cons (k := 58) ?_ ?_
    · intro a w' hC hO hd
      obtain ⟨x109, e109, r109⟩ := hd ⟨53, .data⟩ (by simp) rfl _ _ rfl rfl
      obtain rfl : x109 = .bool true := r109
      obtain ⟨x113, e113, r113⟩ := hd ⟨57, .data⟩ (by simp) rfl _ _ rfl rfl
      obtain rfl : x113 = .bool true := r113
      rw [if_pos (wanted_none rfl)]
      clear hd hO
      refine pure_step (.bool true) rfl hC (Kept.refl _ _) ?_
      go_simp
    refine AllFrom.cons (k := 59) ?_ ?_
    · intro a w' hC hO hd
      obtain ⟨x114, e114, r114⟩ := hd ⟨58, .data⟩ (by simp) rfl _ _ rfl rfl
      obtain rfl : x114 = .bool true := r114
      rw [if_pos (wanted_none rfl)]
      clear hd hO
      refine pure_step (.bool true) rfl hC (Kept.refl _ _) ?_
      go_simp
    refine AllFrom.cons (k := 60) ?_ ?_
    · intro a w' hC hO hd
      obtain ⟨x115, e115, r115⟩ := hd ⟨59, .guard⟩ (by simp) rfl _ _ rfl rfl
      obtain rfl : x115 = .bool true := r115
      rw [if_pos (wanted_some (j := 59) (b := true) rfl (yielded_of (o := _) rfl rfl e115))]
      have p1 : a.tmps[1]? = some (.pointer (some ⟨A, 0, none⟩)) := hO.at (by kernel_rfl) rfl
      clear hd hO
      refine pure_step (.pointer (some ⟨A, 0, none⟩)) rfl hC (Kept.refl _ _) ?_
      go_simp
    refine AllFrom.cons (k := 61) ?_ ?_
    · intro a w' hC hO hd
      obtain ⟨x116, e116, r116⟩ := hd ⟨60, .data⟩ (by simp) rfl _ _ rfl rfl
      obtain rfl : x116 = .pointer (some ⟨A, 0, none⟩) := r116
      obtain ⟨x115, e115, r115⟩ := hd ⟨59, .guard⟩ (by simp) rfl _ _ rfl rfl
      obtain rfl : x115 = .bool true := r115
      rw [if_pos (wanted_some (j := 59) (b := true) rfl (yielded_of (o := _) rfl rfl e115))]
      clear hd hO
      obtain ⟨DD, hAT⟩ := HAT.out w' hC
      go_simp
      refine (slocks_any hAT al_le.2.2.2.2.2.2 (by decide) (by decide) 2).mono ?_
      rw [al10]
      rintro e y ⟨v2, rfl, ho, hk⟩
      obtain ⟨ra, rc, rfl⟩ := ownsRow_slice ho
      exact ⟨_, rfl, ⟨_, _, rfl⟩, hC.trans hk (fun x hx => .inl hx), hk⟩
    refine AllFrom.cons (k := 62) ?_ ?_
    · intro a w' hC hO hd
      obtain ⟨x117, e117, r117⟩ := hd ⟨61, .data⟩ (by simp) rfl _ _ rfl rfl
      obtain ⟨a117, c117, rfl⟩ := r117
      obtain ⟨x115, e115, r115⟩ := hd ⟨59, .guard⟩ (by simp) rfl _ _ rfl rfl
      obtain rfl : x115 = .bool true := r115
      rw [if_pos (wanted_some (j := 59) (b := true) rfl (yielded_of (o := _) rfl rfl e115))]
      clear hd hO
      refine pure_step (.int .i64 1) rfl hC (Kept.refl _ _) ?_
      go_simp
    refine AllFrom.cons (k := 63) ?_ ?_
    · intro a w' hC hO hd
      obtain ⟨x118, e118, r118⟩ := hd ⟨62, .data⟩ (by simp) rfl _ _ rfl rfl
      obtain rfl : x118 = .int .i64 1 := r118
      obtain ⟨x115, e115, r115⟩ := hd ⟨59, .guard⟩ (by simp) rfl _ _ rfl rfl
      obtain rfl : x115 = .bool true := r115
      rw [if_pos (wanted_some (j := 59) (b := true) rfl (yielded_of (o := _) rfl rfl e115))]
      clear hd hO
      refine pure_step (.bool true) rfl hC (Kept.refl _ _) ?_
      go_simp
    refine AllFrom.cons (k := 64) ?_ ?_
    · intro a w' hC hO hd
      obtain ⟨x115, e115, r115⟩ := hd ⟨59, .data⟩ (by simp) rfl _ _ rfl rfl
      obtain rfl : x115 = .bool true := r115
      obtain ⟨x119, e119, r119⟩ := hd ⟨63, .data⟩ (by simp) rfl _ _ rfl rfl
      obtain rfl : x119 = .bool true := r119
      rw [if_pos (wanted_none rfl)]
      clear hd hO
      refine pure_step (.bool true) rfl hC (Kept.refl _ _) ?_
      go_simp
    refine AllFrom.cons (k := 65) ?_ ?_
    · intro a w' hC hO hd
      obtain ⟨x120, e120, r120⟩ := hd ⟨64, .data⟩ (by simp) rfl _ _ rfl rfl
      obtain rfl : x120 = .bool true := r120
      rw [if_pos (wanted_none rfl)]
      clear hd hO
      refine pure_step (.bool true) rfl hC (Kept.refl _ _) ?_
      go_simp
    refine AllFrom.cons (k := 66) ?_ ?_
    · intro a w' hC hO hd
      obtain ⟨x121, e121, r121⟩ := hd ⟨65, .guard⟩ (by simp) rfl _ _ rfl rfl
      obtain rfl : x121 = .bool true := r121
      rw [if_pos (wanted_some (j := 65) (b := true) rfl (yielded_of (o := _) rfl rfl e121))]
      have p1 : a.tmps[1]? = some (.pointer (some ⟨A, 0, none⟩)) := hO.at (by kernel_rfl) rfl
      clear hd hO
      refine pure_step (.pointer (some ⟨A, 0, none⟩)) rfl hC (Kept.refl _ _) ?_
      go_simp
    refine AllFrom.cons (k := 67) ?_ ?_
    · intro a w' hC hO hd
      obtain ⟨x122, e122, r122⟩ := hd ⟨66, .data⟩ (by simp) rfl _ _ rfl rfl
      obtain rfl : x122 = .pointer (some ⟨A, 0, none⟩) := r122
      obtain ⟨x121, e121, r121⟩ := hd ⟨65, .guard⟩ (by simp) rfl _ _ rfl rfl
      obtain rfl : x121 = .bool true := r121
      rw [if_pos (wanted_some (j := 65) (b := true) rfl (yielded_of (o := _) rfl rfl e121))]
      clear hd hO
      obtain ⟨DD, hAT⟩ := HAT.out w' hC
      go_simp
      refine (sdraft_any hAT al_ws.2.2.2.2 2).mono ?_
      rintro e y ⟨v2, rfl, hp, hk⟩
      obtain ⟨ra, rc, rfl, _⟩ := hp.at'.ex
      exact ⟨_, rfl, ⟨_, _, rfl⟩, hC.trans hk (fun x hx => .inl hx), hk⟩
    refine AllFrom.cons (k := 68) ?_ ?_
    · intro a w' hC hO hd
      obtain ⟨x123, e123, r123⟩ := hd ⟨67, .data⟩ (by simp) rfl _ _ rfl rfl
      obtain ⟨a123, c123, rfl⟩ := r123
      obtain ⟨x121, e121, r121⟩ := hd ⟨65, .guard⟩ (by simp) rfl _ _ rfl rfl
      obtain rfl : x121 = .bool true := r121
      rw [if_pos (wanted_some (j := 65) (b := true) rfl (yielded_of (o := _) rfl rfl e121))]
      clear hd hO
      refine pure_step (.int .i64 0) rfl hC (Kept.refl _ _) ?_
      go_simp
    refine AllFrom.cons (k := 69) ?_ ?_
    · intro a w' hC hO hd
      obtain ⟨x124, e124, r124⟩ := hd ⟨68, .data⟩ (by simp) rfl _ _ rfl rfl
      obtain rfl : x124 = .int .i64 0 := r124
      obtain ⟨x121, e121, r121⟩ := hd ⟨65, .guard⟩ (by simp) rfl _ _ rfl rfl
      obtain rfl : x121 = .bool true := r121
      rw [if_pos (wanted_some (j := 65) (b := true) rfl (yielded_of (o := _) rfl rfl e121))]
      clear hd hO
      refine pure_step (.bool true) rfl hC (Kept.refl _ _) ?_
      go_simp
    refine AllFrom.cons (k := 70) ?_ ?_
    · intro a w' hC hO hd
      obtain ⟨x121, e121, r121⟩ := hd ⟨65, .data⟩ (by simp) rfl _ _ rfl rfl
      obtain rfl : x121 = .bool true := r121
      obtain ⟨x125, e125, r125⟩ := hd ⟨69, .data⟩ (by simp) rfl _ _ rfl rfl
      obtain rfl : x125 = .bool true := r125
      rw [if_pos (wanted_none rfl)]
      clear hd hO
      refine pure_step (.bool true) rfl hC (Kept.refl _ _) ?_
      go_simp
    refine AllFrom.cons (k := 71) ?_ ?_
    · intro a w' hC hO hd
      obtain ⟨x126, e126, r126⟩ := hd ⟨70, .data⟩ (by simp) rfl _ _ rfl rfl
      obtain rfl : x126 = .bool true := r126
      rw [if_pos (wanted_none rfl)]
      clear hd hO
      refine pure_step (.bool true) rfl hC (Kept.refl _ _) ?_
      go_simp
    exact trivial
  · intro a' w4 hC hO hrows
    obtain ⟨xp, ep, rp⟩ := hrows 71 _ _ rfl rfl
    obtain rfl : xp = .bool true := rp
    obtain ⟨us, hus, ha⟩ := hO.lit rfl [true, false, false, false, false, false, false, false, false, false, false, false, false, false, false, false, false, false, false, false, false, false, false, false, false, false, false, false, false, false, false, false, false, false, false, false, false, false, false, false, false, false, false, false, false, false, false, false, false, false, false, false, false, false, false, false, true, true, true, true, true, true, true, true, true, true, true, true, true, true, true, true, true, true, true, true, true, true, true, true, true, true, true, true, true, true, true, true, true, true, true, true, true, true, true, true, true, true, true, true, true, true, true, true, true, true, true, true, true, true, true, true, true, true, true, true, true, true, true, true, true, true, true, true, true, true, true] (by kernel_rfl)
    have up := hus 0 _ rfl ep
    clear hrows hO hus ep
    subst ha
    simp only [merge, Nat.reduceAdd, up, List.drop_succ_cons, List.drop_zero]
    clear up
  -- [end rows]
    go_wp2
    go_returns
    exact ⟨rfl, HKZ.out.trans hC (fun x hx => .inl hx)⟩
--@@ end
end Go.Proofs.YtpfgpbafechncaaGreat
