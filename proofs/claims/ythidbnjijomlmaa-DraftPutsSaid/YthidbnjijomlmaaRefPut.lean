/- The reference's own answers on pairs: find, put. -/
import Derived.Test.YthidbnjijomlmaaRefSort
set_option linter.all false
namespace Go.Proofs.Ythidbnjijomlmaa
open Go.RowKit Go.Shelf Go.Lib Go.Sort Go.Proofs
set_option linter.unusedVariables false
set_option linter.unusedSimpArgs false

theorem two_kept {w w' : World} {t : TypeId} {x y : Value} (hk : Kept [] (w.alloc (.cells #[x, y] t)) w') : w'.heap[w.heap.size]? = some (.cells #[x, y] t (0, 0)) :=
  (hk.block w.heap.size (by simp) (by simp)).trans (heap_alloc_new w _)
theorem cell2 {w : World} {B : Nat} {t : TypeId} {x y : Value} (hb : w.heap[B]? = some (.cells #[x, y] t (0, 0))) :
    w.cell? ⟨B, 0, none⟩ = some x ∧ w.cell? ⟨B, 1, none⟩ = some y ∧ w.frozen? ⟨B, 0, none⟩ = false ∧ w.frozen? ⟨B, 1, none⟩ = false := by
  refine ⟨?_, ?_, ?_, ?_⟩ <;> simp [World.cell?, World.frozen?, hb]
theorem set2 {w : World} {B : Nat} {t : TypeId} {fr : Nat × Nat} {x y : Value} (hb : w.heap[B]? = some (.cells #[x, y] t fr)) (x' y' : Value) :
    ((w.setCell ⟨B, 0, none⟩ x').setCell ⟨B, 1, none⟩ y').heap[B]? = some (.cells #[x', y'] t fr) := by
  simp [World.setCell, Array.getElem?_modify, hb]
theorem src_far2 {w w1 : World} {t e : TypeId} {L : List Value} {row : Option Nat} (hgr : ((w.alloc (.cells #[] e)).alloc (.cells L.toArray t)).grownBy w1 row) (hrow : row = some w.heap.size) :
    ∀ j u, L[j]? = some u → w1.cell? ((⟨w.heap.size + 1, 0, none⟩ : Addr).add j) = some u := fun j u h => by
  have h1 := cells_new (w.alloc (.cells #[] e)) L t j u h
  simp only [World.size_alloc] at h1
  rw [Addr.add_lit] at h1 ⊢
  rw [World.cell?_of_block (a := ⟨w.heap.size + 1, 0 + j, none⟩) (hgr.block (w.heap.size + 1) (by simp) (by rw [hrow]; simp))]
  exact h1
theorem src_far3 {w w1 : World} {t e : TypeId} {L : List Value} {row : Option Nat} (hgr : ((w.alloc (.cells L.toArray t)).alloc (.cells #[] e)).grownBy w1 row) (hrow : row = some (w.heap.size + 1)) :
    ∀ j u, L[j]? = some u → w1.cell? ((⟨w.heap.size, 0, none⟩ : Addr).add j) = some u := fun j u h => by
  have h1 := cells_new w L t j u h
  rw [Addr.add_lit] at h1 ⊢
  rw [World.cell?_of_block (a := ⟨w.heap.size, 0 + j, none⟩) (hgr.block w.heap.size (by simp; omega) (by rw [hrow]; simp))]
  exact ((Kept.refl [] _).alloc _).cell h1 (by simp)
--@@ concordatref09.Find
set_option maxHeartbeats 4000000 in
set_option maxRecDepth 100000 in
theorem rfind_any (v : Value) (l : List Pr) (k : K4) (w : World) (h : SlAt w v 6 l.length (l.flatMap Pr.f)) :
    Calls Try.prog 14 #[v, k.v] w fun e w' => e = .returned (.agg #[.bool (findP l k).there, .int .i64 (findP l k).n]) ∧ Kept [] w w' := by
  obtain ⟨a, cap, rfl, hmax, _, hcs⟩ := h.ex
  have HC := hid hcs
  have HFind := hid (findP_snoc (k := k))
  obtain ⟨k1, k2, k3, k4⟩ := k
  simp only [K4.v]
  clear h hcs
  go_enter Try.func14, Try.ntmps14
  go_wp2
  have HB0 := hid (heap_alloc_new ((w.alloc (.cells #[.int .u8 (k1.toNat : Int), .int .u8 (k2.toNat : Int), .int .u8 (k3.toNat : Int), .int .u8 (k4.toNat : Int)] 24)).alloc (.cells #[.bool false, .int .i64 0] 32)) (.cells #[.bool false, .int .i64 0] 32))
  have HB4 := hid (two_kept (t := 32) (x := .bool false) (y := .int .i64 0) (w := w.alloc (.cells #[.int .u8 (k1.toNat : Int), .int .u8 (k2.toNat : Int), .int .u8 (k3.toNat : Int), .int .u8 (k4.toNat : Int)] 24)) ((Kept.refl [] _).alloc (.cells #[.bool false, .int .i64 0] 32)))
  have HK0 := hid ((((Kept.refl [] w).alloc (.cells #[.int .u8 (k1.toNat : Int), .int .u8 (k2.toNat : Int), .int .u8 (k3.toNat : Int), .int .u8 (k4.toNat : Int)] 24)).alloc (.cells #[.bool false, .int .i64 0] 32)).alloc (.cells #[.bool false, .int .i64 0] 32))
  have HKK := hid (fun j u h => (((Kept.refl [] (w.alloc (.cells #[.int .u8 (k1.toNat : Int), .int .u8 (k2.toNat : Int), .int .u8 (k3.toNat : Int), .int .u8 (k4.toNat : Int)] 24))).alloc (.cells #[.bool false, .int .i64 0] 32)).alloc (.cells #[.bool false, .int .i64 0] 32)).cell (new_cell w [.int .u8 (k1.toNat : Int), .int .u8 (k2.toNat : Int), .int .u8 (k3.toNat : Int), .int .u8 (k4.toNat : Int)] 24 j u h) (by simp))
  obtain ⟨W2, hW2⟩ : ∃ W2, W2 = ((w.alloc (.cells #[.int .u8 (k1.toNat : Int), .int .u8 (k2.toNat : Int), .int .u8 (k3.toNat : Int), .int .u8 (k4.toNat : Int)] 24)).alloc (.cells #[.bool false, .int .i64 0] 32)).alloc (.cells #[.bool false, .int .i64 0] 32) := ⟨_, rfl⟩
  have hWs : W2.heap.size = w.heap.size + 3 := by rw [hW2]; simp
  rw [← hW2] at HB0 HB4 HK0 HKK
  rw [← hW2]
  simp only [World.size_alloc] at HB0 HB4
  clear hW2
  go_loopg [6] l.length (fun kx s6 wr => ∃ (i : Nat) (fv : V), s6 = .int .i64 i ∧ i ≤ l.length ∧ l.length - i ≤ kx ∧ Aside (fv = findP (l.take i) (⟨k1, k2, k3, k4⟩ : K4)) ∧ Aside (wr.heap[w.heap.size + 2]? = some (.cells #[.bool fv.there, .int .i64 fv.n] 32 (0, 0))) ∧ Aside (Kept [w.heap.size + 2] W2 wr))
  case atStart => exact ⟨0, V.zero, by first | rfl | go_num, by omega, by omega, rfl, HB0.out, Kept.refl _ _⟩
  case round =>
    obtain ⟨i, fv, rfl, hi, hix, HFV, HB, HK⟩ := hrel
    obtain ⟨y0, y1, y2, y3⟩ := cell2 HB.out
    have HBlt := (Array.getElem?_eq_some_iff.1 HB.out).1
    by_cases hlt : i < l.length
    · have hltz : (i : Int) < (l.length : Int) := by omega
      obtain ⟨b, off, rfl, hb, hcs⟩ := HC.out (by omega)
      obtain ⟨e0, e1, e2, e3, e4, e5⟩ := pair_cells (fun j u hj => HK.out.cell (HK0.out.cell (hcs j u hj) (by simp)) (by simp; omega)) hlt
      have q0 := HK.out.cell (HKK.out 0 _ rfl) (by simp)
      have q1 := HK.out.cell (HKK.out 1 _ rfl) (by simp)
      have q2 := HK.out.cell (HKK.out 2 _ rfl) (by simp)
      have q3 := HK.out.cell (HKK.out 3 _ rfl) (by simp)
      have HT := hid (show l.take (i + 1) = l.take i ++ [l[i]] by rw [List.take_succ_eq_append_getElem hlt])
      have hbn : b ≠ w.heap.size + 2 := by omega
      clear hcs
      generalize l[i] = x at *
      obtain ⟨⟨x1, x2, x3, x4⟩, ⟨x5, x6⟩⟩ := x
      dsimp only at e0 e1 e2 e3 e4 e5
      have hq := fun (w : World) => eqK w ⟨x1, x2, x3, x4⟩ ⟨k1, k2, k3, k4⟩
      simp only [K4.v] at hq
      by_cases hxk : (⟨x1, x2, x3, x4⟩ : K4) = ⟨k1, k2, k3, k4⟩
      · rw [decide_eq_true hxk] at hq
        have HX := hid hxk
        clear hxk
        go_wp2_with fail
        go_quiet (fail)
        go_wp2_with fail
        go_roundg (l.length - (i + 1))
        case measure => omega
        case rel => exact ⟨i + 1, ⟨x5, x6⟩, by first | rfl | go_num, by omega, Nat.le_refl _, by show _ = _; rw [HT.out, HFind.out, if_pos HX.out], set2 HB.out _ _, ((HK.out.drewN _).setCell (.inl (by simp)) _).setCell (.inl (by simp)) _⟩
      · rw [decide_eq_false hxk] at hq
        have HX := hid hxk
        clear hxk
        go_wp2_with fail
        go_quiet (fail)
        go_wp2_with fail
        go_roundg (l.length - (i + 1))
        case measure => omega
        case rel => exact ⟨i + 1, fv, by first | rfl | go_num, by omega, Nat.le_refl _, by show _ = _; rw [HT.out, HFind.out, if_neg HX.out]; exact HFV.out, HB.out, HK.out.drewN _⟩
    · obtain rfl : i = l.length := by omega
      have hltz : ¬ (l.length : Int) < (l.length : Int) := by omega
      rw [List.take_length] at HFV
      obtain ⟨z0, z1, z2, z3⟩ := cell2 ((HK.out.block (w.heap.size + 1) (by omega) (by simp)).trans HB4.out)
      obtain ⟨g0, g1, _, _⟩ := cell2 (set2 ((HK.out.block (w.heap.size + 1) (by omega) (by simp)).trans HB4.out) (.bool fv.there) (.int .i64 fv.n))
      have HKZ := hid (((HK.out.mono (T := [w.heap.size + 2, w.heap.size + 1]) (by simp)).setCell (p := ⟨w.heap.size + 1, 0, none⟩) (.inl (by simp)) (.bool fv.there)).setCell (p := ⟨w.heap.size + 1, 1, none⟩) (.inl (by simp)) (.int .i64 fv.n))
      go_wp2_with fail
      try simp only [Exit.inBlock, Exit.then]
      refine bodyPost_ret (by simp [results, Try.results14, go_sem, g0, g1]; rfl) rfl ?_
      exact ⟨by rw [HFV.out], HK0.out.trans HKZ.out (fun x hx => .inr (by simp at hx; omega))⟩
--@@ concordatref09.Put
set_option maxHeartbeats 4000000 in
set_option maxRecDepth 100000 in
theorem rput_any (v : Value) (l : List Pr) (k : K4) (x : V) (w : World) (h : SlAt w v 6 l.length (l.flatMap Pr.f)) (hl : l.length ≤ 1000) (hv : v ≠ .slice none 0 0) :
    Calls Try.prog 10 #[v, k.v, x.v] w fun e w' => ∃ v', e = .returned (.tuple #[v', .int .i64 (rPut l k x).1]) ∧ SlAt w' v' 6 (rPut l k x).2.length ((rPut l k x).2.flatMap Pr.f) ∧ v' ≠ .slice none 0 0 ∧ Kept [] w w' := by
  have H := hid h
  have HV := hid hv
  obtain ⟨a, cap, rfl, hmax, _, hcs⟩ := h.ex
  have HF := hid refPairInfo
  have HR := hid (rright_any x)
  obtain ⟨rp, hrp⟩ : ∃ rp, rp = rPut l k x := ⟨_, rfl⟩
  rw [← hrp]
  have HRP := hid hrp
  clear h hv hcs hrp
  obtain ⟨k1, k2, k3, k4⟩ := k
  obtain ⟨x1, x2⟩ := x
  simp only [K4.v, V.v] at *
  have HKW := hid (((Kept.refl [] w).alloc (.cells #[.int .u8 (k1.toNat : Int), .int .u8 (k2.toNat : Int), .int .u8 (k3.toNat : Int), .int .u8 (k4.toNat : Int)] 24)).alloc (.cells #[.bool x1, .int .i64 x2] 32))
  have HSK := hid (show ∀ w', Kept [] ((w.alloc (.cells #[.int .u8 (k1.toNat : Int), .int .u8 (k2.toNat : Int), .int .u8 (k3.toNat : Int), .int .u8 (k4.toNat : Int)] 24)).alloc (.cells #[.bool x1, .int .i64 x2] 32)) w' → w'.cell? ⟨w.heap.size, 0, none⟩ = some (.int .u8 (k1.toNat : Int)) ∧ w'.cell? ⟨w.heap.size, 1, none⟩ = some (.int .u8 (k2.toNat : Int)) ∧ w'.cell? ⟨w.heap.size, 2, none⟩ = some (.int .u8 (k3.toNat : Int)) ∧ w'.cell? ⟨w.heap.size, 3, none⟩ = some (.int .u8 (k4.toNat : Int)) ∧ w'.cell? ⟨w.heap.size + 1, 0, none⟩ = some (.bool x1) ∧ w'.cell? ⟨w.heap.size + 1, 1, none⟩ = some (.int .i64 x2) from fun w' hk' => by
    have nc := fun j u h => hk'.cell (((Kept.refl [] _).alloc (.cells #[.bool x1, .int .i64 x2] 32)).cell (new_cell w [.int .u8 (k1.toNat : Int), .int .u8 (k2.toNat : Int), .int .u8 (k3.toNat : Int), .int .u8 (k4.toNat : Int)] 24 j u h) (by simp)) (by simp)
    have nv := fun j u h => hk'.cell (new_cell (w.alloc (.cells #[.int .u8 (k1.toNat : Int), .int .u8 (k2.toNat : Int), .int .u8 (k3.toNat : Int), .int .u8 (k4.toNat : Int)] 24)) [.bool x1, .int .i64 x2] 32 j u h) (by simp)
    simp only [World.size_alloc] at nv
    exact ⟨nc 0 _ rfl, nc 1 _ rfl, nc 2 _ rfl, nc 3 _ rfl, nv 0 _ rfl, nv 1 _ rfl⟩)
  cases hr : V.right ⟨x1, x2⟩ with
  | false =>
    rw [hr] at HR
    have HRP2 := hid (show rp = (10, l) by rw [HRP.out]; unfold rPut; rw [if_pos hr])
    clear hr
    go_enter Try.func10, Try.ntmps10
    go_wp2_with (first
      | (go_at_call 29; refine (HR.out _).mono ?_; rintro e wq ⟨rfl, hkq⟩; have HKQ := hid hkq; clear hkq))
    go_returns
    exact ⟨_, by rw [HRP2.out]; rfl, by rw [HRP2.out]; exact H.out.kept (HKW.out.trans HKQ.out (fun x hx => by cases hx)), HV.out, HKW.out.trans HKQ.out (fun x hx => by cases hx)⟩
  | true =>
    rw [hr] at HR
    have HRP2 := hid (show rp = if 16 < (keysP (l ++ [(⟨⟨k1, k2, k3, k4⟩, ⟨x1, x2⟩⟩ : Pr)])).length then (16, l) else (0, keysP (l ++ [(⟨⟨k1, k2, k3, k4⟩, ⟨x1, x2⟩⟩ : Pr)])) by rw [HRP.out]; unfold rPut; rw [if_neg (by simp [hr])])
    clear hr
    go_enter Try.func10, Try.ntmps10
    go_wp2_with (first
      | (go_at_call 29; refine (HR.out _).mono ?_; rintro e wq ⟨rfl, hkq⟩; have HKQ := hid hkq; clear hkq))
    clear HR
    have HKwq := hid (HKW.out.trans HKQ.out (fun x hx => by cases hx))
    have HS := hid (fun w' (hk' : Kept [] wq w') => HSK.out w' (HKQ.out.trans hk' (fun x hx => by cases hx)))
    obtain ⟨bs, hbs⟩ : ∃ bs, bs = keysP (l ++ [(⟨⟨k1, k2, k3, k4⟩, ⟨x1, x2⟩⟩ : Pr)]) := ⟨_, rfl⟩
    rw [← hbs] at HRP2
    have HKe := hid (show ∀ W v, SlAt W v 6 (l.length + 1) ((l ++ [(⟨⟨k1, k2, k3, k4⟩, ⟨x1, x2⟩⟩ : Pr)]).flatMap Pr.f) → Calls Try.prog 31 #[v] W fun e w' => ∃ v', e = .returned v' ∧ w'.ownsRow W.heap.size 34 6 v' bs.length (bs.flatMap Pr.f) ∧ v' ≠ .slice none 0 0 ∧ Kept [] W w' from fun W v h => by
      rw [hbs]; exact rkeys_any v _ W (by rw [List.length_append]; exact h) (by simp; omega))
    clear hbs
    go_upto_region 3 with (fail)
    go_cut [8] (fun s8 wx => Aside (wx.ownsRow w.heap.size 34 6 s8 bs.length (bs.flatMap Pr.f)) ∧ Aside (s8 ≠ .slice none 0 0) ∧ Aside (Kept [] wq wx))
    case first =>
      go_region_held3 (fun w' => w'.cell? ⟨w.heap.size, 0, none⟩ = some (.int .u8 (k1.toNat : Int)) ∧ w'.cell? ⟨w.heap.size, 1, none⟩ = some (.int .u8 (k2.toNat : Int)) ∧ w'.cell? ⟨w.heap.size, 2, none⟩ = some (.int .u8 (k3.toNat : Int)) ∧ w'.cell? ⟨w.heap.size, 3, none⟩ = some (.int .u8 (k4.toNat : Int)) ∧ w'.cell? ⟨w.heap.size + 1, 0, none⟩ = some (.bool x1) ∧ w'.cell? ⟨w.heap.size + 1, 1, none⟩ = some (.int .i64 x2))
        ((refine HS.out _ ?_; first | exact hk2 | exact hk2.alloc _ | exact hk1 | exact hk1.alloc _ | (repeat (first | assumption | (with_reducible exact Kept.refl _ _) | (with_reducible refine Kept.drew ?_) | (with_reducible refine Kept.alloc ?_ _) | (with_reducible refine Kept.setCell ?_ (by right; simp; try omega) _)))))
        (first
          | (rw [if_pos (by rfl)]; refine wp_append_rp _ _ rfl wq.heap.size _ 0 [] rfl (by first | exact ownsRow_made0 wq.drew 34 6 _ (Nat.le_refl _) | exact (ownsRow_made0 wq.drew 34 6 _ (Nat.le_refl _)).alloc _ | (have h0 := ownsRow_made0 (wq.drew.alloc (.cells (Pr.f ⟨⟨k1, k2, k3, k4⟩, ⟨x1, x2⟩⟩).toArray 34)) 34 6 wq.heap.size (by simp); simp only [World.size_alloc] at h0; exact h0)) _ l rfl (H.out.kept (HKwq.out.trans (show Kept [] wq _ by (repeat (first | assumption | (with_reducible exact Kept.refl _ _) | (with_reducible refine Kept.drew ?_) | (with_reducible refine Kept.alloc ?_ _) | (with_reducible refine Kept.setCell ?_ (by right; simp; try omega) _)))) (fun x hx => by cases hx))) (by omega) (by simp; try omega) ?_; intro v1 w1 hown1 hnn1 hgr1; have hk1 := Kept.grown_own (show Kept [] wq _ by (repeat (first | assumption | (with_reducible exact Kept.refl _ _) | (with_reducible refine Kept.drew ?_) | (with_reducible refine Kept.alloc ?_ _) | (with_reducible refine Kept.setCell ?_ (by right; simp; try omega) _)))) (by first | exact ownsRow_made0 wq.drew 34 6 _ (Nat.le_refl _) | exact (ownsRow_made0 wq.drew 34 6 _ (Nat.le_refl _)).alloc _ | (have h0 := ownsRow_made0 (wq.drew.alloc (.cells (Pr.f ⟨⟨k1, k2, k3, k4⟩, ⟨x1, x2⟩⟩).toArray 34)) 34 6 wq.heap.size (by simp); simp only [World.size_alloc] at h0; exact h0)) hgr1 (Nat.le_refl _); have hn1 := hnn1 (fun e => by cases e); clear hnn1; (first | have hx1 : Aside (∀ j u, (Pr.f ⟨⟨k1, k2, k3, k4⟩, ⟨x1, x2⟩⟩)[j]? = some u → w1.cell? ((⟨wq.heap.size + 1, 0, none⟩ : Addr).add j) = some u) := src_far2 (w := wq.drew) hgr1 rfl | have hx1 : Aside (∀ j u, (Pr.f ⟨⟨k1, k2, k3, k4⟩, ⟨x1, x2⟩⟩)[j]? = some u → w1.cell? ((⟨wq.heap.size, 0, none⟩ : Addr).add j) = some u) := src_far3 (w := wq.drew) hgr1 rfl | have hx1 : Aside True := trivial))
          | (rw [if_pos (by rfl)]; refine wp_append_is _ _ 22 rfl 34 _ 6 24 Try.underlying22 HF.out rfl (by decide) (by decide) wq.heap.size _ (0 + l.length) _ rfl (by first | exact hown1 | exact hown1.alloc _) _ 1 1 (Pr.f ⟨⟨k1, k2, k3, k4⟩, ⟨x1, x2⟩⟩) rfl rfl (fun j u h => by first | exact cells_new _ (Pr.f ⟨⟨k1, k2, k3, k4⟩, ⟨x1, x2⟩⟩) _ j u h | exact hx1.out j u h) (by simp [Pr.f, Value.oneCell']) (by omega) (by have := hk1.size; simp; try omega) ?_; intro v2 w2 hown2 hgr2 hnil2; have hn2 : v2 ≠ .slice none 0 0 := fun h => hn1 (hnil2.1 h).1; have hk2 := (by first | exact hk1.grown_own hown1 hgr2 (Nat.le_refl _) | exact (hk1.alloc _).grown_own (hown1.alloc _) hgr2 (Nat.le_refl _) : Kept [] wq w2); clear hnil2)
          | (go_at_call 31; refine (HKe.out _ _ (by have := SlAt.of_own hown2; rw [List.flatMap_append, List.flatMap_cons, List.flatMap_nil, List.append_nil]; simpa using this)).mono ?_; rintro e w3 ⟨v3, rfl, ho3, hn3, hk3'⟩; have hk3 := hk2.trans hk3' (fun x hx => by cases hx)))
      all_goals (go_wp2; go_meet)
      all_goals exact ⟨ownsRow_base ho3 (Nat.le_trans HKwq.out.size hk2.size), hn3, hk3⟩
    case rest =>
    obtain ⟨HO, HN, HKX⟩ := hcut
    obtain ⟨g, gc, rfl, _⟩ := ownsRow_form HO.out HN.out
    by_cases h16 : 16 < bs.length
    · have h16z : (16 : Int) < (bs.length : Int) := by omega
      rw [if_pos h16] at HRP2
      go_wp2_with fail
      go_returns
      exact ⟨_, by rw [HRP2.out]; rfl, by rw [HRP2.out]; exact H.out.kept (HKwq.out.trans HKX.out (fun x hx => by cases hx)), HV.out, HKwq.out.trans HKX.out (fun x hx => by cases hx)⟩
    · have h16z : (bs.length : Int) ≤ (16 : Int) := by omega
      rw [if_neg h16] at HRP2
      go_wp2_with fail
      go_returns
      exact ⟨_, by rw [HRP2.out]; rfl, by rw [HRP2.out]; exact SlAt.of_own HO.out, HN.out, HKwq.out.trans HKX.out (fun x hx => by cases hx)⟩
--@@ end
end Go.Proofs.Ythidbnjijomlmaa
