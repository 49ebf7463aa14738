/- The reference's own answers on records: recs, right; records that are the same. -/
import Derived.Test.YthidbnjijomlmaaRefPut
import Derived.Test.YthidbnjijomlmaaAlive09
set_option linter.all false
namespace Go.Proofs.Ythidbnjijomlmaa
open Go.RowKit Go.Shelf Go.Lib Go.Sort Go.Proofs
set_option linter.unusedVariables false
set_option linter.unusedSimpArgs false

--@@ concordatref09.Recs
set_option maxHeartbeats 8000000 in
set_option maxRecDepth 100000 in
theorem rrecs_any (tx : Int) (v1 v2 : Value) (base ps : List Pr) (w : World) (h1 : SlAt w v1 6 base.length (base.flatMap Pr.f)) (h2 : SlAt w v2 6 ps.length (ps.flatMap Pr.f)) (hl : ps.length ≤ 1000) :
    Calls Try.prog 23 #[.int .i64 tx, v1, v2] w fun e w' => ∃ v', e = .returned v' ∧ w'.ownsRow w.heap.size 60 11 v' (recsP tx base ps).length ((recsP tx base ps).flatMap Rc.f) ∧ Kept [] w w' := by
  have HF := hid recInfo
  have HV := hid h1
  obtain ⟨a1, c1, rfl, _⟩ := h1.ex
  obtain ⟨a2, c2, rfl, _, _, hcs⟩ := h2.ex
  have HC := hid hcs
  clear h1 h2 hcs
  go_enter Try.func23, Try.ntmps23
  go_wp2
  have HO0 := hid (ownsRow_made0 w 60 11 w.heap.size (Nat.le_refl _))
  have HK0 := hid ((Kept.refl [] w).alloc (.cells #[] 60))
  go_loopg [7, 8] ps.length (fun kx s7 s8 wr => ∃ k : Nat, s8 = .int .i64 k ∧ k ≤ ps.length ∧ ps.length - k ≤ kx ∧ Aside (s7 ≠ .slice none 0 0) ∧ Aside (wr.ownsRow w.heap.size 60 11 s7 k ((recsP tx base (ps.take k)).flatMap Rc.f)) ∧ Aside (Kept [] w wr))
  case atStart => exact ⟨0, by first | rfl | go_num, by omega, by omega, (fun e => by cases e), HO0.out, HK0.out⟩
  case round =>
    clear HO0 HK0
    obtain ⟨k, rfl, hk, hkx, HN, HO, HK⟩ := hrel
    have hsz := HK.out.size
    by_cases hlt : k < ps.length
    · have hltz : (k : Int) < (ps.length : Int) := by omega
      obtain ⟨b, off, rfl, hb, hcs⟩ := HC.out (by omega)
      have HX := hid (fun (w' : World) (hk' : Kept [] w w') => pair_cells (fun j u hj => hk'.cell (hcs j u hj) (by simp)) hlt)
      have HT := hid (show ps.take (k + 1) = ps.take k ++ [ps[k]] by rw [List.take_succ_eq_append_getElem hlt])
      clear hcs
      generalize ps[k] = x at *
      obtain ⟨⟨x1, x2, x3, x4⟩, ⟨x5, x6⟩⟩ := x
      dsimp only at HX
      obtain ⟨fv, hfv⟩ : ∃ fv, fv = findP base ⟨x1, x2, x3, x4⟩ := ⟨_, rfl⟩
      have HFI := hid (fun W (hk : Kept [] w W) => rfind_any _ base ⟨x1, x2, x3, x4⟩ W (HV.out.kept hk))
      rw [← hfv] at HFI
      simp only [K4.v] at HFI
      have hrec : recP tx base ⟨⟨x1, x2, x3, x4⟩, ⟨x5, x6⟩⟩ = ⟨1, tx, 0, ⟨x1, x2, x3, x4⟩, fixV fv, ⟨x5, x6⟩⟩ := by rw [hfv]; rfl
      have HREC := hid hrec
      have HR := hid (rright_any fv)
      obtain ⟨rt, hrt⟩ : ∃ rt, V.right fv = rt := ⟨_, rfl⟩
      rw [hrt] at HR
      have HFX := hid (show fixV fv = if rt = true then fv else V.zero by unfold fixV; rw [hrt])
      clear hrt hrec hfv
      obtain ⟨f1, f2⟩ := fv
      simp only [V.v] at HR
      dsimp only at HFI
      obtain ⟨r, hr⟩ : ∃ r, r = fixV ⟨f1, f2⟩ := ⟨_, rfl⟩
      rw [← hr] at HREC HFX
      clear hr
      obtain ⟨r1, r2⟩ := r
      rename World => wo
      obtain ⟨g, gc, rfl, hg1, hg2, _⟩ := ownsRow_form HO.out HN.out
      obtain ⟨e0, e1, e2, e3, e4, e5⟩ := HX.out wo HK.out
      go_upto_if 26 with (first
        | (go_at_call 14; refine (HFI.out _ HK.out).mono ?_; clear HFI; rintro e w2 ⟨rfl, hk2⟩; have HB2 := hid (heap_alloc_new w2 (.cells #[.bool f1, .int .i64 f2] 32)); have hs2 := hk2.size; have HK2 := hid (hk2.alloc (.cells #[.bool f1, .int .i64 f2] 32)); clear hk2 e0 e1 e2 e3 e4 e5; obtain ⟨y0, y1, _, _⟩ := cell2 HB2.out)
        | (go_at_call 29; refine (HR.out _).mono ?_; clear HR y0 y1; rintro e w3 ⟨rfl, hk3⟩; have HB3 := hid ((hk3.block w2.heap.size (by simp) (by simp)).trans HB2.out); have HK3 := hid (HK2.out.trans hk3 (fun x hx => by cases hx)); clear hk3))
      go_cut [] (fun wx => Aside (wx.heap[w2.heap.size]? = some (.cells #[.bool r1, .int .i64 r2] 32 (0, 0))) ∧ Aside (Kept [] wo wx))
      case first =>
        cases rt with
        | true =>
          have hfx := HFX.out
          rw [if_pos rfl] at hfx
          cases hfx
          go_wp2_with fail
          go_meet
          exact ⟨HB3.out, HK3.out⟩
        | false =>
          have hfx := HFX.out
          rw [if_neg (by simp)] at hfx
          cases hfx
          obtain ⟨y0, y1, y2, y3⟩ := cell2 HB3.out
          go_wp2_with fail
          go_meet
          exact ⟨set2 HB3.out _ _, (HK3.out.setCell (.inr (by simp; omega)) _).setCell (.inr (by simp; omega)) _⟩
      case rest =>
      obtain ⟨HB, HKX⟩ := hcut
      clear HB2 HB3 HK2 HK3 HFX
      generalize w2.heap.size = BT at *
      rename World => wq
      have HS := hid (show ∀ w', Kept [g] wq w' → (w'.cell? ⟨b, off + k * 6, none⟩ = some (.int .u8 (x1.toNat : Int)) ∧ w'.cell? ⟨b, off + k * 6 + 1, none⟩ = some (.int .u8 (x2.toNat : Int)) ∧ w'.cell? ⟨b, off + k * 6 + 2, none⟩ = some (.int .u8 (x3.toNat : Int)) ∧ w'.cell? ⟨b, off + k * 6 + 3, none⟩ = some (.int .u8 (x4.toNat : Int)) ∧ w'.cell? ⟨b, off + k * 6 + 4, none⟩ = some (.bool x5) ∧ w'.cell? ⟨b, off + k * 6 + 5, none⟩ = some (.int .i64 x6)) ∧ w'.cell? ⟨BT, 0, none⟩ = some (.bool r1) ∧ w'.cell? ⟨BT, 1, none⟩ = some (.int .i64 r2) from fun w' hk' => by
        have h1 := HX.out w' ((HK.out.trans HKX.out (fun x hx => by cases hx)).trans hk' (fun x hx => .inr (by simp at hx; omega)))
        have h2 := cell2 ((hk'.block BT (Array.getElem?_eq_some_iff.1 HB.out).1 (by simp; omega)).trans HB.out)
        exact ⟨h1, h2.1, h2.2.1⟩)
      have HOq := hid (ownsRow_kept HO.out HKX.out (by simp))
      have hqs := HKX.out.size
      go_wp2_with fail
      go_region_held3 (fun w' => (w'.cell? ⟨b, off + k * 6, none⟩ = some (.int .u8 (x1.toNat : Int)) ∧ w'.cell? ⟨b, off + k * 6 + 1, none⟩ = some (.int .u8 (x2.toNat : Int)) ∧ w'.cell? ⟨b, off + k * 6 + 2, none⟩ = some (.int .u8 (x3.toNat : Int)) ∧ w'.cell? ⟨b, off + k * 6 + 3, none⟩ = some (.int .u8 (x4.toNat : Int)) ∧ w'.cell? ⟨b, off + k * 6 + 4, none⟩ = some (.bool x5) ∧ w'.cell? ⟨b, off + k * 6 + 5, none⟩ = some (.int .i64 x6)) ∧ w'.cell? ⟨BT, 0, none⟩ = some (.bool r1) ∧ w'.cell? ⟨BT, 1, none⟩ = some (.int .i64 r2))
        ((refine HS.out _ ?_; first | exact hk5 | (repeat (first | assumption | (with_reducible exact Kept.refl _ _) | (with_reducible refine Kept.drew ?_) | (with_reducible refine Kept.alloc ?_ _) | (with_reducible refine Kept.setCell ?_ (by right; simp; try omega) _)))))
        ((rw [if_pos (by rfl)]; refine wp_append_is _ _ 48 rfl 60 _ 11 56 Try.underlying48 HF.out rfl (by decide) (by decide) w.heap.size _ k _ rfl (ownsRow_kept HOq.out (((Kept.refl [] wq).drew).alloc _) (by simp)) _ 1 1 (Rc.f ⟨1, tx, 0, ⟨x1, x2, x3, x4⟩, ⟨r1, r2⟩, ⟨x5, x6⟩⟩) rfl rfl (fun j u h => cells_new _ (Rc.f ⟨1, tx, 0, ⟨x1, x2, x3, x4⟩, ⟨r1, r2⟩, ⟨x5, x6⟩⟩) _ j u h) (by simp [Rc.f, Value.oneCell']) (by omega) (by simp; omega) ?_; intro v' w5 hown5 hgrow hnil; have hk5 : Kept [g] wq w5 := Kept.trans (S := [g]) (((Kept.refl [g] wq).drew).alloc _) (Kept.of_grown hgrow [g] (fun k hk => by cases hk; simp)) (fun x hx => .inl hx); have hn5 : v' ≠ .slice none 0 0 := fun h => by have := (hnil.1 h).1; cases this))
      have HK5 := hid ((HK.out.trans HKX.out (fun x hx => by cases hx)).trans hk5 (fun x hx => .inr (by simp at hx; omega)))
      have H5 := hid hown5
      clear hown5 hgrow hnil hk5
      go_wp2
      go_roundg (ps.length - (k + 1))
      case measure => omega
      case rel => exact ⟨k + 1, by first | rfl | go_num, by omega, Nat.le_refl _, hn5, by show World.ownsRow _ _ _ _ _ _ _; rw [HT.out]; unfold recsP; rw [List.map_append, List.flatMap_append, List.map_cons, HREC.out]; simpa [recsP] using H5.out, HK5.out⟩
    · obtain rfl : k = ps.length := by omega
      have hltz : ¬ (ps.length : Int) < (ps.length : Int) := by omega
      go_wp2
      go_returns
      refine ⟨_, rfl, ?_, HK.out⟩
      have := HO.out
      rw [List.take_length] at this
      have hl1 : (recsP tx base ps).length = ps.length := by simp [recsP]
      rw [hl1]
      exact this
--@@ end
end Go.Proofs.Ythidbnjijomlmaa
