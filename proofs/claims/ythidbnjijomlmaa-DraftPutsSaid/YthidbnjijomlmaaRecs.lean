/- draft.Recs: a draft's records over a base. -/
import Derived.Test.YthidbnjijomlmaaTo
set_option linter.all false
namespace Go.Proofs.Ythidbnjijomlmaa
open Go.RowKit Go.Shelf Go.Lib Go.Sort Go.Proofs
set_option linter.unusedVariables false
set_option linter.unusedSimpArgs false

structure Rc where
  kind : Int
  tx : Int
  mask : Nat
  key : K4
  old : V
  new : V
  deriving DecidableEq
def Rc.f (r : Rc) : List Value := [.int .i64 r.kind, .int .i64 r.tx, .int .u16 (r.mask : Int), .int .u8 (r.key.a.toNat : Int), .int .u8 (r.key.b.toNat : Int), .int .u8 (r.key.c.toNat : Int), .int .u8 (r.key.d.toNat : Int), .bool r.old.there, .int .i64 r.old.n, .bool r.new.there, .int .i64 r.new.n]
def fixV (v : V) : V := if v.right = true then v else V.zero
def recP (tx : Int) (base : List Pr) (p : Pr) : Rc := ⟨1, tx, 0, p.key, fixV (findP base p.key), p.val⟩
def recsP (tx : Int) (base ps : List Pr) : List Rc := ps.map (recP tx base)
--@@ (*draft.Draft).Recs
theorem recInfo : (Try.prog.info? 60).map (fun i => (i.zero, i.size, i.bytes)) = some (some (.agg #[.int .i64 0, .int .i64 0, .int .u16 0, .int .u8 0, .int .u8 0, .int .u8 0, .int .u8 0, .bool false, .int .i64 0, .bool false, .int .i64 0]), 11, 56) := by kernel_rfl
set_option maxHeartbeats 8000000 in
set_option maxRecDepth 100000 in
theorem recs_any (a m : Nat) (l : List (K4 × V)) (tx : Int) (v : Value) (base : List Pr) (w : World) (h : DraftIs w a m l) (hn : (l.map (·.1)).Nodup) (hl : l.length ≤ 1000) (hv : PrAt w v base) :
    Calls Try.prog 22 #[.pointer (some ⟨a, 0, none⟩), .int .i64 tx, v] w fun e w' => ∃ v', e = .returned v' ∧ w'.ownsRow w.heap.size 60 11 v' (recsP tx base (keysP (l.map toPr))).length ((recsP tx base (keysP (l.map toPr))).flatMap Rc.f) ∧ Kept [] w w' := by
  have HF := hid recInfo
  have hkl := keysP_len (l.map toPr)
  have HP := hid (dpairs_any a m l w h hn hl)
  have HV := hid hv
  clear h hv
  have hkl2 : (keysP (l.map toPr)).length ≤ 1000 := by simp at hkl; omega
  generalize keysP (l.map toPr) = ps at HP hkl2 ⊢
  clear hkl
  go_enter Try.func22, Try.ntmps22
  go_wp2_with (first
    | (go_at_call 18; refine HP.out.mono ?_; clear HP; rintro e w1 ⟨v1, rfl, hp1, hk1⟩; obtain ⟨a1, c1, rfl, _, _, hcs⟩ := hp1.at'.ex; have HC := hid hcs; have HK0 := hid hk1; clear hcs hk1 hp1))
  go_loopg [7, 14] ps.length (fun kx s7 s14 wr => ∃ k : Nat, s14 = .int .i64 k ∧ k ≤ ps.length ∧ ps.length - k ≤ kx ∧ Aside (wr.ownsRow w1.heap.size 60 11 s7 k ((recsP tx base (ps.take k)).flatMap Rc.f)) ∧ Aside (Kept [] w1 wr))
  case atStart => exact ⟨0, by first | rfl | go_num, by omega, by omega, ⟨rfl, .inl ⟨rfl, rfl⟩⟩, Kept.refl _ _⟩
  case round =>
    obtain ⟨k, rfl, hk, hkx, HO, HK1⟩ := hrel
    have HK := hid (HK0.out.trans HK1.out (fun x hx => .inl hx))
    have hsz := HK1.out.size
    by_cases hlt : k < ps.length
    · have hltz : (k : Int) < (ps.length : Int) := by omega
      obtain ⟨b, off, rfl, hb, hcs⟩ := HC.out (by omega)
      have hcW : ∀ j u, (ps.flatMap Pr.f)[j]? = some u → wr.cell? ⟨b, off + j, none⟩ = some u := fun j u hj => HK1.out.cell (hcs j u hj) (by simp)
      obtain ⟨e0, e1, e2, e3, e4, e5⟩ := pair_cells hcW hlt
      have HT := hid (show ps.take (k + 1) = ps.take k ++ [ps[k]] by rw [List.take_succ_eq_append_getElem hlt])
      clear hcW hcs
      generalize ps[k] = x at *
      obtain ⟨⟨x1, x2, x3, x4⟩, ⟨x5, x6⟩⟩ := x
      dsimp only at e0 e1 e2 e3 e4 e5
      have HS := hid (show ∀ w', Kept [] (wr.alloc (.cells #[.int .u8 (x1.toNat : Int), .int .u8 (x2.toNat : Int), .int .u8 (x3.toNat : Int), .int .u8 (x4.toNat : Int), .bool x5, .int .i64 x6] 54)) w' → w'.cell? ⟨wr.heap.size, 0, none⟩ = some (.int .u8 (x1.toNat : Int)) ∧ w'.cell? ⟨wr.heap.size, 1, none⟩ = some (.int .u8 (x2.toNat : Int)) ∧ w'.cell? ⟨wr.heap.size, 2, none⟩ = some (.int .u8 (x3.toNat : Int)) ∧ w'.cell? ⟨wr.heap.size, 3, none⟩ = some (.int .u8 (x4.toNat : Int)) ∧ w'.cell? ⟨wr.heap.size, 4, none⟩ = some (.bool x5) ∧ w'.cell? ⟨wr.heap.size, 5, none⟩ = some (.int .i64 x6) from fun w' hk' =>
        have nc := new_cell wr [.int .u8 (x1.toNat : Int), .int .u8 (x2.toNat : Int), .int .u8 (x3.toNat : Int), .int .u8 (x4.toNat : Int), .bool x5, .int .i64 x6] 54
        ⟨hk'.cell (nc 0 _ rfl) (by simp), hk'.cell (nc 1 _ rfl) (by simp), hk'.cell (nc 2 _ rfl) (by simp), hk'.cell (nc 3 _ rfl) (by simp), hk'.cell (nc 4 _ rfl) (by simp), hk'.cell (nc 5 _ rfl) (by simp)⟩)
      have HW := hid ((Kept.refl [] wr).alloc (.cells #[.int .u8 (x1.toNat : Int), .int .u8 (x2.toNat : Int), .int .u8 (x3.toNat : Int), .int .u8 (x4.toNat : Int), .bool x5, .int .i64 x6] 54))
      have HFI := hid (find_any v base ⟨x1, x2, x3, x4⟩ (wr.alloc (.cells #[.int .u8 (x1.toNat : Int), .int .u8 (x2.toNat : Int), .int .u8 (x3.toNat : Int), .int .u8 (x4.toNat : Int), .bool x5, .int .i64 x6] 54)) ((HV.out.kept HK.out).kept HW.out).at')
      obtain ⟨fv, hfv⟩ : ∃ fv, fv = findP base ⟨x1, x2, x3, x4⟩ := ⟨_, rfl⟩
      have HFV := hid hfv
      rw [← hfv] at HFI
      clear hfv
      obtain ⟨f1, f2⟩ := fv
      simp only [V.v] at HFI
      have hr1 := hid (dright_any ⟨f1, f2⟩)
      simp only [V.v] at hr1
      obtain ⟨rt, hrt⟩ : ∃ rt, V.right ⟨f1, f2⟩ = rt := ⟨_, rfl⟩
      have HRT := hid hrt
      rw [hrt] at hr1
      clear hrt
      go_wp2_with (first
        | (go_at_call 24; refine HFI.out.mono ?_; clear HFI; rintro e w2 ⟨rfl, hk2⟩; obtain ⟨d0, d1, d2, d3, d4, d5⟩ := HS.out w2 hk2; have h12 : wr.heap.size < w2.heap.size := (by have := hk2.size; simp at this; omega); have HK2 := hid hk2; clear hk2 e0 e1 e2 e3 e4 e5)
        | (go_at_call 32; refine Here.mk ?_))
      refine Here.of ?_
      refine (hr1.out _).mono ?_
      clear hr1
      rintro e w3 ⟨rfl, hk3⟩
      have h23 : w2.heap.size < w3.heap.size := by have := hk3.size; simp at this; omega
      have hb3 : w3.heap[w2.heap.size]? = some (.cells #[.bool f1, .int .i64 f2] 32 (0, 0)) := (hk3.block _ (by simp) (by simp)).trans (heap_alloc_new w2 _)
      have y0 : w3.cell? ⟨w2.heap.size, 0, none⟩ = some (.bool f1) := by simp [World.cell?, hb3]
      have y1 : w3.cell? ⟨w2.heap.size, 1, none⟩ = some (.int .i64 f2) := by simp [World.cell?, hb3]
      have g0 : w3.frozen? ⟨w2.heap.size, 0, none⟩ = false := by simp [World.frozen?, hb3]
      have g1 : w3.frozen? ⟨w2.heap.size, 1, none⟩ = false := by simp [World.frozen?, hb3]
      clear hb3 d0 d1 d2 d3 d4 d5
      have HK23 := hid (((Kept.refl [] w2).alloc (.cells #[.bool f1, .int .i64 f2] 32)).trans hk3 (fun x hx => .inl hx))
      obtain ⟨d0, d1, d2, d3, d4, d5⟩ := HS.out w3 (HK2.out.trans HK23.out (fun x hx => .inl hx))
      have HK3 := hid ((HW.out.trans HK2.out (fun x hx => .inl hx)).trans HK23.out (fun x hx => .inl hx))
      clear hk3
      cases rt
      · have HK4 := hid ((HK3.out.setCell (p := ⟨w2.heap.size, 0, none⟩) (.inr (by simp; omega)) (.bool false)).setCell (p := ⟨w2.heap.size, 1, none⟩) (.inr (by simp; omega)) (.int .i64 0))
        go_wp2_with (at_builtin; refine Here.mk ?_)
        refine Here.of ?_
        have hs4 : ((w3.setCell ⟨w2.heap.size, 0, none⟩ (.bool false)).setCell ⟨w2.heap.size, 1, none⟩ (.int .i64 0)).heap.size = w3.heap.size := by simp
        clear d0 d1 d2 d3 d4 d5 y0 y1 g0 g1
        generalize (w3.setCell ⟨w2.heap.size, 0, none⟩ (.bool false)).setCell ⟨w2.heap.size, 1, none⟩ (.int .i64 0) = w4 at HK4 hs4 ⊢
        rw [← hs4]
        refine wpList_append_is rfl _ _ 48 rfl 60 _ 11 56 Try.underlying48 HF.out rfl (by decide) (by decide) w1.heap.size _ k _ rfl ((ownsRow_kept HO.out HK4.out (by simp)).alloc _) _ 1 1 (Rc.f ⟨1, tx, 0, ⟨x1, x2, x3, x4⟩, V.zero, ⟨x5, x6⟩⟩) rfl rfl (fun j u h => cells_new _ (Rc.f ⟨1, tx, 0, ⟨x1, x2, x3, x4⟩, V.zero, ⟨x5, x6⟩⟩) _ j u h) (by simp [Rc.f, Value.oneCell']) (by omega) (by have := HK4.out.size; simp at this ⊢; omega) ?_
        intro v' w5 hown5 hgrow hnil
        have HK5 := hid (((HK1.out.trans HK4.out (fun x hx => .inl hx)).alloc (.cells (Rc.f ⟨1, tx, 0, ⟨x1, x2, x3, x4⟩, V.zero, ⟨x5, x6⟩⟩).toArray 60)).grown_own ((ownsRow_kept HO.out HK4.out (by simp)).alloc _) hgrow (Nat.le_refl _))
        have H5 := hid hown5
        clear hown5 hgrow hnil
        go_wp2
        go_roundg (ps.length - (k + 1))
        case measure => omega
        case rel =>
          have hrec : recP tx base ⟨⟨x1, x2, x3, x4⟩, ⟨x5, x6⟩⟩ = ⟨1, tx, 0, ⟨x1, x2, x3, x4⟩, V.zero, ⟨x5, x6⟩⟩ := by
            unfold recP fixV
            dsimp only
            rw [← HFV.out, HRT.out]
            rfl
          exact ⟨k + 1, by first | rfl | go_num, by omega, Nat.le_refl _, by show World.ownsRow _ _ _ _ _ _ _; rw [HT.out]; unfold recsP; rw [List.map_append, List.flatMap_append, List.map_cons, hrec]; simpa [recsP] using H5.out, HK5.out⟩
      ·
        go_wp2_with (at_builtin; refine wpList_append_is rfl _ _ 48 rfl 60 _ 11 56 Try.underlying48 HF.out rfl (by decide) (by decide) w1.heap.size _ k _ rfl ((ownsRow_kept HO.out HK3.out (by simp)).alloc _) _ 1 1 (Rc.f ⟨1, tx, 0, ⟨x1, x2, x3, x4⟩, ⟨f1, f2⟩, ⟨x5, x6⟩⟩) rfl rfl (fun j u h => cells_new _ (Rc.f ⟨1, tx, 0, ⟨x1, x2, x3, x4⟩, ⟨f1, f2⟩, ⟨x5, x6⟩⟩) _ j u h) (by simp [Rc.f, Value.oneCell']) (by omega) (by have := HK3.out.size; simp at this ⊢; omega) ?_; intro v' w5 hown5 hgrow hnil)
        have HK5 := hid (((HK1.out.trans HK3.out (fun x hx => .inl hx)).alloc (.cells (Rc.f ⟨1, tx, 0, ⟨x1, x2, x3, x4⟩, ⟨f1, f2⟩, ⟨x5, x6⟩⟩).toArray 60)).grown_own ((ownsRow_kept HO.out HK3.out (by simp)).alloc _) hgrow (Nat.le_refl _))
        have H5 := hid hown5
        clear hown5 hgrow hnil
        go_wp2
        go_roundg (ps.length - (k + 1))
        case measure => omega
        case rel =>
          have hrec : recP tx base ⟨⟨x1, x2, x3, x4⟩, ⟨x5, x6⟩⟩ = ⟨1, tx, 0, ⟨x1, x2, x3, x4⟩, ⟨f1, f2⟩, ⟨x5, x6⟩⟩ := by
            unfold recP fixV
            dsimp only
            rw [← HFV.out, HRT.out]
            rfl
          exact ⟨k + 1, by first | rfl | go_num, by omega, Nat.le_refl _, by show World.ownsRow _ _ _ _ _ _ _; rw [HT.out]; unfold recsP; rw [List.map_append, List.flatMap_append, List.map_cons, hrec]; simpa [recsP] using H5.out, HK5.out⟩
    · obtain rfl : k = ps.length := by omega
      have hltz : ¬ (ps.length : Int) < (ps.length : Int) := by omega
      go_wp2
      go_returns
      refine ⟨_, rfl, ?_, HK.out⟩
      have := HO.out
      rw [List.take_length] at this
      have hl1 : (recsP tx base ps).length = ps.length := by simp [recsP]
      rw [hl1]
      refine ⟨this.1, ?_⟩
      rcases this.2 with h1 | ⟨g, cap, cur, h1, h2, h3⟩
      · exact .inl h1
      · exact .inr ⟨g, cap, cur, h1, Nat.le_trans HK0.out.size h2, h3⟩
--@@ end
end Go.Proofs.Ythidbnjijomlmaa
