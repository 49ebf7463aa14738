/- DraftPuts: the walk. -/
import Derived.Test.YthidbnjijomlmaaAlive09
import Derived.Test.YthidbnjijomlmaaPutsLaw
import Derived.Test.YthidbnjijomlmaaSameRecs
set_option linter.all false
namespace Go.Proofs.Ythidbnjijomlmaa.draftPuts
open Go.RowKit Go.Shelf Go.Lib Go.Sort Go.Proofs Go.Proofs.Ythidbnjijomlmaa
set_option linter.unusedVariables false
set_option linter.unusedSimpArgs false

/-- a row beside a map that turns -/
theorem slAt_map {w w' : World} {v : Value} {l : List Pr} {A M : Nat} {D : List (K4 × V)} (h : SlAt w v 6 l.length (l.flatMap Pr.f)) (hm : MapIs w M K4.v (dl D)) (hk : Kept [M] w w') : SlAt w' v 6 l.length (l.flatMap Pr.f) := by
  obtain ⟨a, cap, h1, h2, h3, h4⟩ := h.ex
  refine ⟨a, cap, h1, h2, h3, fun hn => ?_⟩
  obtain ⟨b, off, h5, h6, h7⟩ := h4 hn
  have hb : b ≠ M := fun e => by
    obtain ⟨es, clock, hM, _⟩ := hm.ex
    have h0 : (l.flatMap Pr.f)[0]? = some ((l.flatMap Pr.f)[0]'(by rw [h3]; omega)) := by simp
    have := h7 0 _ h0
    subst e
    simp [World.cell?, hM] at this
  exact ⟨b, off, h5, Nat.lt_of_lt_of_le h6 hk.size, fun j u hj => hk.cell (h7 j u hj) (by simpa using hb)⟩
--@@ concordatlaw09.DraftPuts
theorem get_at (A M : Nat) (D : List (K4 × V)) (k : K4) (g : Option V) (hg : aget k D = g) (W : World) (h : DraftIs W A M D) :
    Calls Try.prog 12 #[.pointer (some ⟨A, 0, none⟩), k.v] W fun e w' => e = .returned (.tuple #[.agg #[.bool (g.getD V.zero).there, .int .i64 (g.getD V.zero).n], .bool g.isSome]) ∧ Kept [] W w' := by
  have := dget_any A M D k W h
  rw [hg] at this
  exact this
set_option maxHeartbeats 8000000 in
set_option maxRecDepth 100000 in
theorem walk (v0 : Value) (la : List Pr) (kk : K4) (v1 : Value) (lb : List Pr) (tx : Int) (w : World) (h0 : SlAt w v0 Pr.ps.length la.length (la.flatMap Pr.f)) (_hl : ∀ x ∈ la, x.ok) (_o1 : kk.ok)
    (h1 : SlAt w v1 Pr.ps.length lb.length (lb.flatMap Pr.f)) (_hl1 : ∀ x ∈ lb, x.ok) (_o3 : IntKind.i64.min ≤ tx ∧ tx ≤ IntKind.i64.max) :
    Calls Try.prog 3 #[v0, .agg kk.f.toArray, v1, .int .i64 tx] w fun e w' => e = .returned (.bool true) ∧ Kept [] w w' := by
  clear _hl _hl1 _o1 _o3
  obtain ⟨k1, k2, k3, k4⟩ := kk
  simp only [K4.f]
  obtain ⟨a, cap, rfl, hmax, _, hc⟩ := h0.ex
  obtain ⟨a', cap', rfl, hmax', _, hc'⟩ := h1.ex
  have HC := hid hc
  have H1 := hid h1
  clear h0 h1 hc hc'
  by_cases hlen : 100 < la.length
  · have hlenz : (100 : Int) < (la.length : Int) := by omega
    go_enter Try.func3, Try.ntmps3
    go_wp2_with (go_at_call 8; refine (alive_any _).mono ?_; rintro e wa ⟨rfl, hka⟩)
    go_ret
    exact ⟨rfl, ((Kept.refl [] w).alloc _).trans hka (fun x hx => by cases hx)⟩
  by_cases hlen' : 100 < lb.length
  · have hlenz : (la.length : Int) ≤ 100 := by omega
    have hlenz' : (100 : Int) < (lb.length : Int) := by omega
    go_enter Try.func3, Try.ntmps3
    go_wp2_with (go_at_call 8; refine (alive_any _).mono ?_; rintro e wa ⟨rfl, hka⟩)
    go_ret
    exact ⟨rfl, ((Kept.refl [] w).alloc _).trans hka (fun x hx => by cases hx)⟩
  have hlenz : (la.length : Int) ≤ 100 := by omega
  have hlenz' : (lb.length : Int) ≤ 100 := by omega
  go_enter Try.func3, Try.ntmps3
  go_wp2_with (first
    | (go_at_call 8; refine (alive_any _).mono ?_; rintro e wa ⟨rfl, hka⟩)
    | (go_at_call 9; refine (dnew_any wa).mono ?_; rintro e w1 ⟨rfl, hG, hk⟩))
  have hwa : w.heap.size < wa.heap.size := by have := hka.size; simp at this; omega
  have hw1 : wa.heap.size < w1.heap.size := hG.lt.2
  obtain ⟨M, hM⟩ : ∃ M, M = wa.heap.size := ⟨_, rfl⟩
  obtain ⟨A, hA⟩ : ∃ A, A = wa.heap.size + 1 := ⟨_, rfl⟩
  rw [← hA, ← hM] at hG
  rw [← hA]
  have hMA : w.heap.size < M ∧ M < w1.heap.size ∧ A < w1.heap.size := ⟨by omega, by omega, hG.lt.1⟩
  have HSK := hid (show ∀ w', Kept [M] w1 w' → w'.cell? ⟨w.heap.size, 0, none⟩ = some (.int .u8 (k1.toNat : Int)) ∧ w'.cell? ⟨w.heap.size, 1, none⟩ = some (.int .u8 (k2.toNat : Int)) ∧ w'.cell? ⟨w.heap.size, 2, none⟩ = some (.int .u8 (k3.toNat : Int)) ∧ w'.cell? ⟨w.heap.size, 3, none⟩ = some (.int .u8 (k4.toNat : Int)) from fun w' hk' => by
    have kk := (hka.trans hk (fun x hx => by cases hx)).trans hk' (fun x hx => .inr (by have h1 := hMA.1; rw [List.mem_singleton] at hx; rw [hx, World.size_alloc]; omega))
    have nc := fun j u h => kk.cell (new_cell w [.int .u8 (k1.toNat : Int), .int .u8 (k2.toNat : Int), .int .u8 (k3.toNat : Int), .int .u8 (k4.toNat : Int)] 24 j u h) (by simp)
    exact ⟨nc 0 _ rfl, nc 1 _ rfl, nc 2 _ rfl, nc 3 _ rfl⟩)
  have HKW := hid ((((Kept.refl [] w).alloc (.cells #[.int .u8 (k1.toNat : Int), .int .u8 (k2.toNat : Int), .int .u8 (k3.toNat : Int), .int .u8 (k4.toNat : Int)] 24)).trans hka (fun x hx => by cases hx)).trans hk (fun x hx => by cases hx))
  have HG0 := hid (hG.kept ((Kept.refl [] w1).alloc (.cells #[] 34)) (by simp) (by simp))
  have HS0 := hid (SlAt.of_own (ownsRow_made0 w1 34 6 w1.heap.size (Nat.le_refl _)))
  have HK0 := hid ((Kept.refl [M] w1).alloc (.cells #[] 34))
  clear hG hk hka hw1 hwa hM hA
  go_loopg [10, 11] la.length (fun kx s10 s11 wr => ∃ k : Nat, s11 = .int .i64 k ∧ k ≤ la.length ∧ la.length - k ≤ kx ∧ Aside (s10 ≠ .slice none 0 0) ∧ Aside (DraftIs wr A M (putsD [] (la.take k))) ∧ Aside (SlAt wr s10 6 (keysP ((putsD [] (la.take k)).map toPr)).length ((keysP ((putsD [] (la.take k)).map toPr)).flatMap Pr.f)) ∧ Aside (Kept [M] w1 wr))
  case atStart => exact ⟨0, by first | rfl | go_num, by omega, by omega, (fun e => by cases e), HG0.out, HS0.out, HK0.out⟩
  case round =>
    clear HG0 HS0 HK0
    obtain ⟨k, rfl, hk, hkx, HN, HG, HS, HKC⟩ := hrel
    have HOK := hid (putsD_ok (la.take k))
    by_cases hlt : k < la.length
    · have hltz : (k : Int) < (la.length : Int) := by omega
      obtain ⟨b, off, rfl, hb, hcs⟩ := HC.out (by omega)
      have HX := hid (fun (w' : World) (hk' : Kept [M] w1 w') => pair_cells (fun j u hj => hk'.cell (HKW.out.cell (hcs j u hj) (by simp)) (by simp; omega)) hlt)
      have HT := hid (show putsD [] (la.take (k + 1)) = (dPut (putsD [] (la.take k)) la[k].key la[k].val).2 by rw [List.take_succ_eq_append_getElem hlt, putsD_snoc])
      clear hcs
      generalize putsD [] (la.take k) = D at *
      generalize la[k] = x at *
      obtain ⟨⟨x1, x2, x3, x4⟩, ⟨x5, x6⟩⟩ := x
      dsimp only at HX HT
      have HLAW := hid (rPut_law D HOK.out ⟨x1, x2, x3, x4⟩ ⟨x5, x6⟩)
      have hkl := keysP_nodup_len D HOK.out.1
      have hkl2 : (keysP (D.map toPr)).length ≤ 1000 := by rw [hkl]; have := HOK.out.2; omega
      have HRP := hid (show ∀ W, SlAt W u10 6 (keysP (D.map toPr)).length ((keysP (D.map toPr)).flatMap Pr.f) → Calls Try.prog 10 #[u10, .agg #[.int .u8 (x1.toNat : Int), .int .u8 (x2.toNat : Int), .int .u8 (x3.toNat : Int), .int .u8 (x4.toNat : Int)], .agg #[.bool x5, .int .i64 x6]] W fun e w' => ∃ v', e = .returned (.tuple #[v', .int .i64 (dPut D ⟨x1, x2, x3, x4⟩ ⟨x5, x6⟩).1]) ∧ SlAt w' v' 6 (keysP ((dPut D ⟨x1, x2, x3, x4⟩ ⟨x5, x6⟩).2.map toPr)).length ((keysP ((dPut D ⟨x1, x2, x3, x4⟩ ⟨x5, x6⟩).2.map toPr)).flatMap Pr.f) ∧ v' ≠ .slice none 0 0 ∧ Kept [] W w' from fun W h => by
        have := rput_any u10 _ ⟨x1, x2, x3, x4⟩ ⟨x5, x6⟩ W h hkl2 HN.out
        rw [HLAW.out] at this
        exact this)
      have HDP := hid (show ∀ W, DraftIs W A M D → Calls Try.prog 11 #[.pointer (some ⟨A, 0, none⟩), .agg #[.int .u8 (x1.toNat : Int), .int .u8 (x2.toNat : Int), .int .u8 (x3.toNat : Int), .int .u8 (x4.toNat : Int)], .agg #[.bool x5, .int .i64 x6]] W fun e w' => e = .returned (.int .i64 (dPut D ⟨x1, x2, x3, x4⟩ ⟨x5, x6⟩).1) ∧ DraftIs w' A M (dPut D ⟨x1, x2, x3, x4⟩ ⟨x5, x6⟩).2 ∧ Kept [M] W w' from fun W h => dput_any A M D ⟨x1, x2, x3, x4⟩ ⟨x5, x6⟩ W h)
      clear hkl hkl2 HLAW
      generalize dPut D ⟨x1, x2, x3, x4⟩ ⟨x5, x6⟩ = dp at *
      obtain ⟨er, D2⟩ := dp
      dsimp only at HRP HDP HT
      have hkc0 := HKC.out
      go_wp2_with fail
      go_region_held3 (fun w' => w'.cell? ⟨b, off + k * 6, none⟩ = some (.int .u8 (x1.toNat : Int)) ∧ w'.cell? ⟨b, off + k * 6 + 1, none⟩ = some (.int .u8 (x2.toNat : Int)) ∧ w'.cell? ⟨b, off + k * 6 + 2, none⟩ = some (.int .u8 (x3.toNat : Int)) ∧ w'.cell? ⟨b, off + k * 6 + 3, none⟩ = some (.int .u8 (x4.toNat : Int)) ∧ w'.cell? ⟨b, off + k * 6 + 4, none⟩ = some (.bool x5) ∧ w'.cell? ⟨b, off + k * 6 + 5, none⟩ = some (.int .i64 x6))
        ((refine HX.out _ ?_; (repeat (first | assumption | (with_reducible exact Kept.refl _ _) | (with_reducible refine Kept.drew ?_) | (with_reducible refine Kept.alloc ?_ _) | (with_reducible refine Kept.setCell ?_ (by right; simp; try omega) _)))))
        (first
          | (go_at_call 10; refine (HRP.out _ (HS.out.kept (show Kept [] wr _ by (repeat (first | assumption | (with_reducible exact Kept.refl _ _) | (with_reducible refine Kept.drew ?_) | (with_reducible refine Kept.alloc ?_ _) | (with_reducible refine Kept.setCell ?_ (by right; simp; try omega) _)))))).mono ?_; clear HRP; rintro e w2 ⟨v2, rfl, hs2, hn2, hk2'⟩; have hk2 : Kept [M] w1 w2 := Kept.trans (show Kept [M] w1 _ by (repeat (first | assumption | (with_reducible exact Kept.refl _ _) | (with_reducible refine Kept.drew ?_) | (with_reducible refine Kept.alloc ?_ _) | (with_reducible refine Kept.setCell ?_ (by right; simp; try omega) _)))) hk2' (fun x hx => by cases hx); have hr2 : Kept [] wr w2 := Kept.trans (show Kept [] wr _ by (repeat (first | assumption | (with_reducible exact Kept.refl _ _) | (with_reducible refine Kept.drew ?_) | (with_reducible refine Kept.alloc ?_ _) | (with_reducible refine Kept.setCell ?_ (by right; simp; try omega) _)))) hk2' (fun x hx => by cases hx)))
      have HS2 := hid hs2
      have HG := hid (HG.out.kept hr2 (by simp) (by simp))
      have HKC := hid hk2
      clear hs2 hk2 hk2' hr2 hkc0
      have hkc := HKC.out
      go_wp2_with fail
      go_region_held3 (fun w' => w'.cell? ⟨b, off + k * 6, none⟩ = some (.int .u8 (x1.toNat : Int)) ∧ w'.cell? ⟨b, off + k * 6 + 1, none⟩ = some (.int .u8 (x2.toNat : Int)) ∧ w'.cell? ⟨b, off + k * 6 + 2, none⟩ = some (.int .u8 (x3.toNat : Int)) ∧ w'.cell? ⟨b, off + k * 6 + 3, none⟩ = some (.int .u8 (x4.toNat : Int)) ∧ w'.cell? ⟨b, off + k * 6 + 4, none⟩ = some (.bool x5) ∧ w'.cell? ⟨b, off + k * 6 + 5, none⟩ = some (.int .i64 x6))
        ((refine HX.out _ ?_; (repeat (first | assumption | (with_reducible exact Kept.refl _ _) | (with_reducible refine Kept.drew ?_) | (with_reducible refine Kept.alloc ?_ _) | (with_reducible refine Kept.setCell ?_ (by right; simp; try omega) _)))))
        (first
          | (go_at_call 11; refine (HDP.out _ (HG.out.kept (show Kept [] w2 _ by (repeat (first | assumption | (with_reducible exact Kept.refl _ _) | (with_reducible refine Kept.drew ?_) | (with_reducible refine Kept.alloc ?_ _) | (with_reducible refine Kept.setCell ?_ (by right; simp; try omega) _)))) (by simp) (by simp))).mono ?_; clear HDP; rintro e w3 ⟨rfl, hg3, hk3'⟩; have hk3 : Kept [M] w1 w3 := Kept.trans (show Kept [M] w1 _ by (repeat (first | assumption | (with_reducible exact Kept.refl _ _) | (with_reducible refine Kept.drew ?_) | (with_reducible refine Kept.alloc ?_ _) | (with_reducible refine Kept.setCell ?_ (by right; simp; try omega) _)))) hk3' (fun x hx => .inl hx); have hs3 := slAt_map (A := A) (HS2.out.kept (show Kept [] w2 _ by (repeat (first | assumption | (with_reducible exact Kept.refl _ _) | (with_reducible refine Kept.drew ?_) | (with_reducible refine Kept.alloc ?_ _) | (with_reducible refine Kept.setCell ?_ (by right; simp; try omega) _))))) (HG.out.kept (show Kept [] w2 _ by (repeat (first | assumption | (with_reducible exact Kept.refl _ _) | (with_reducible refine Kept.drew ?_) | (with_reducible refine Kept.alloc ?_ _) | (with_reducible refine Kept.setCell ?_ (by right; simp; try omega) _)))) (by simp) (by simp)).map hk3'))
      have HG3 := hid hg3
      have HS3 := hid hs3
      have HK3 := hid hk3
      clear hkc hg3 hs3 hk3 hk3'
      go_wp2
      go_roundg (la.length - (k + 1))
      case measure => omega
      case rel => exact ⟨k + 1, by first | rfl | go_num, by omega, Nat.le_refl _, hn2, by show DraftIs _ _ _ _; rw [HT.out]; exact HG3.out, by show SlAt _ _ _ _ _; rw [HT.out]; exact HS3.out, HK3.out⟩
    · obtain rfl : k = la.length := by omega
      have hltz : ¬ (la.length : Int) < (la.length : Int) := by omega
      rw [List.take_length] at HG HS HOK
      generalize putsD [] la = D at *
      have hdl : D.length ≤ 16 := HOK.out.2
      have hlsl := keysP_nodup_len D HOK.out.1
      obtain ⟨ls, hls⟩ : ∃ ls, ls = keysP (D.map toPr) := ⟨_, rfl⟩
      rw [← hls] at HS hlsl
      have hlsl2 : ls.length ≤ 16 := by omega
      have hcnt : ((D.length : Int) == (ls.length : Int)) = true := by rw [beq_iff_eq, hlsl]
      clear hlsl
      obtain ⟨g, hg⟩ : ∃ g, aget (⟨k1, k2, k3, k4⟩ : K4) D = g := ⟨_, rfl⟩
      have HGet := hid (fun W h => get_at A M D ⟨k1, k2, k3, k4⟩ g hg W h)
      have hfi : findP ls (⟨k1, k2, k3, k4⟩ : K4) = g.getD V.zero := by rw [hls, find_D D HOK.out.1, hg]
      have hin : inP (⟨k1, k2, k3, k4⟩ : K4) ls = g.isSome := by rw [hls, inP_D D HOK.out.1, hg]
      clear hg
      obtain ⟨⟨g1, g2⟩, hgv⟩ : ∃ q, g.getD V.zero = q := ⟨_, rfl⟩
      obtain ⟨okb, hok⟩ : ∃ q, g.isSome = q := ⟨_, rfl⟩
      rw [hgv, hok] at HGet
      rw [hgv] at hfi
      rw [hok] at hin
      dsimp only at HGet
      have HFI := hid hfi
      have HIN := hid hin
      clear hgv hok hfi hin
      obtain ⟨ss, hss⟩ : ∃ ss, ss = sortP (lb ++ ls) := ⟨_, rfl⟩
      obtain ⟨sb, hsb⟩ : ∃ sb, sb = sortP lb := ⟨_, rfl⟩
      obtain ⟨rs, hrs⟩ : ∃ rs, rs = recsP tx lb ls := ⟨_, rfl⟩
      have hsl : ss.length ≤ 200 := by have := sortP_len' (lb ++ ls); rw [← hss] at this; simp at this; omega
      have hsbl : sb.length ≤ 200 := by have := sortP_len' lb; rw [← hsb] at this; omega
      have HPairs := hid (show ∀ W, DraftIs W A M D → Calls Try.prog 18 #[.pointer (some ⟨A, 0, none⟩)] W fun e w' => ∃ v, e = .returned v ∧ PrAt w' v ls ∧ Kept [] W w' from fun W h => by rw [hls]; exact dpairs_any A M D W h HOK.out.1 (by omega))
      have HOver := hid (show ∀ W v, DraftIs W A M D → PrAt W v lb → Calls Try.prog 19 #[.pointer (some ⟨A, 0, none⟩), v] W fun e w' => ∃ v', e = .returned v' ∧ PrAt w' v' ss ∧ Kept [] W w' from fun W v h hv => by rw [hss, hls]; exact over_any A M D v lb W h HOK.out.1 (by omega) hv (by omega))
      have HRecs := hid (show ∀ W v, DraftIs W A M D → PrAt W v lb → Calls Try.prog 22 #[.pointer (some ⟨A, 0, none⟩), .int .i64 tx, v] W fun e w' => ∃ v', e = .returned v' ∧ w'.ownsRow W.heap.size 60 11 v' rs.length (rs.flatMap Rc.f) ∧ Kept [] W w' from fun W v h hv => by rw [hrs, hls]; exact recs_any A M D tx v lb W h HOK.out.1 (by omega) hv)
      have HSS := hid hss
      have HSB := hid hsb
      have HRS := hid hrs
      clear hls hss hsb hrs HOK
      obtain ⟨al, cl, rfl, _, _, hlc⟩ := HS.out.ex
      have HLC := hid hlc
      clear hlc hmax hmax' hkx hk
      obtain ⟨q0, q1, q2, q3⟩ := HSK.out wr HKC.out
      rename World => wy
      go_wp2_with (first
        | (go_at_call 12; refine (HGet.out _ HG.out).mono ?_; clear HGet; rintro e wg ⟨rfl, hkg⟩; have HBG := hid (heap_alloc_new wg (.cells #[.bool g1, .int .i64 g2] 32)); have HKG := hid (hkg.alloc (.cells #[.bool g1, .int .i64 g2] 32)); clear hkg q0 q1 q2 q3))
      obtain ⟨wl, hwl⟩ : ∃ wl, wl = wg.alloc (.cells #[.bool g1, .int .i64 g2] 32) := ⟨_, rfl⟩
      rw [← hwl] at HBG HKG
      rw [← hwl]
      clear hwl
      generalize wg.heap.size = BG at *
      go_loopg [16, 17] ls.length (fun kx s16 s17 w2 => ∃ (k : Nat) (bb : Bool), s16 = .bool bb ∧ s17 = .int .i64 k ∧ k ≤ ls.length ∧ ls.length - k ≤ kx ∧ Aside (bb = inP (⟨k1, k2, k3, k4⟩ : K4) (ls.take k)) ∧ Aside (Kept [] wl w2))
      case atStart => exact ⟨0, false, by first | rfl | go_num, by first | rfl | go_num, by omega, by omega, rfl, Kept.refl _ _⟩
      case round =>
        obtain ⟨k, bb, rfl, rfl, hk, hkx, HBB, HKL⟩ := hrel
        by_cases hlt : k < ls.length
        · have hltz : (k : Int) < (ls.length : Int) := by omega
          have HT := hid (show ls.take (k + 1) = ls.take k ++ [ls[k]] by rw [List.take_succ_eq_append_getElem hlt])
          cases bb with
          | true =>
            go_wp2_with fail
            go_quiet (fail)
            go_wp2
            go_roundg (ls.length - (k + 1))
            case measure => omega
            case rel => exact ⟨k + 1, true, rfl, by first | rfl | go_num, by omega, Nat.le_refl _, by show _ = _; rw [HT.out, inP_snoc, ← HBB.out]; rfl, HKL.out.drewN _⟩
          | false =>
            obtain ⟨b, off, rfl, hb, hcs⟩ := HLC.out (by omega)
            obtain ⟨e0, e1, e2, e3, e4, e5⟩ := pair_cells (fun j u hj => (HKG.out.trans HKL.out (fun x hx => by cases hx)).cell (hcs j u hj) (by simp)) hlt
            clear hcs
            obtain ⟨q0, q1, q2, q3⟩ := HSK.out wr ((HKC.out.trans HKG.out (fun x hx => by cases hx)).trans HKL.out (fun x hx => by cases hx))
            generalize ls[k] = x at *
            obtain ⟨⟨x1, x2, x3, x4⟩, ⟨x5, x6⟩⟩ := x
            dsimp only at e0 e1 e2 e3 e4 e5
            have hq := fun (w : World) => eqK w ⟨x1, x2, x3, x4⟩ ⟨k1, k2, k3, k4⟩
            simp only [K4.v] at hq
            obtain ⟨rr, hrr⟩ : ∃ rr, decide ((⟨x1, x2, x3, x4⟩ : K4) = ⟨k1, k2, k3, k4⟩) = rr := ⟨_, rfl⟩
            have HRR := hid hrr
            rw [hrr] at hq
            clear hrr e4 e5
            go_wp2_with fail
            go_quiet (fail)
            go_wp2
            go_roundg (ls.length - (k + 1))
            case measure => omega
            case rel => exact ⟨k + 1, rr, by first | rfl | go_num, by first | rfl | go_num, by omega, Nat.le_refl _, by show _ = _; rw [HT.out, inP_snoc, ← HBB.out, ← HRR.out]; rfl, HKL.out.drewN _⟩
        · obtain rfl : k = ls.length := by omega
          have hltz : ¬ (ls.length : Int) < (ls.length : Int) := by omega
          rw [List.take_length, HIN.out] at HBB
          obtain rfl := HBB.out
          have HKyr := hid (HKG.out.trans HKL.out (fun x hx => by cases hx))
          have HKwr := hid ((HKW.out.trans HKC.out (fun x hx => .inr (by simp at hx; omega))).trans HKyr.out (fun x hx => by cases hx))
          have HTo := hid (to_any _ lb wr (H1.out.kept HKwr.out) (by omega))
          go_wp2_with (first
            | (go_at_call 13; refine HTo.out.mono ?_; clear HTo; rintro e wz ⟨vt, rfl, hot, hkt⟩; have HPB := hid (PrAt.of_own hot rfl); have HKT := hid hkt; clear hot hkt))
          have HG := hid (HG.out.kept (HKyr.out.trans HKT.out (fun x hx => by cases hx)) (by simp) (by simp))
          have HS := hid (HS.out.kept (HKyr.out.trans HKT.out (fun x hx => by cases hx)))
          have HKwz := hid (HKwr.out.trans HKT.out (fun x hx => by cases hx))
          have HSZ := hid (show ∀ w', Kept [] wz w' → w'.cell? ⟨w.heap.size, 0, none⟩ = some (.int .u8 (k1.toNat : Int)) ∧ w'.cell? ⟨w.heap.size, 1, none⟩ = some (.int .u8 (k2.toNat : Int)) ∧ w'.cell? ⟨w.heap.size, 2, none⟩ = some (.int .u8 (k3.toNat : Int)) ∧ w'.cell? ⟨w.heap.size, 3, none⟩ = some (.int .u8 (k4.toNat : Int)) ∧ w'.cell? ⟨BG, 0, none⟩ = some (.bool g1) ∧ w'.cell? ⟨BG, 1, none⟩ = some (.int .i64 g2) from fun w' hk' => by
            have h1 := HSK.out w' (((HKC.out.trans HKyr.out (fun x hx => by cases hx)).trans HKT.out (fun x hx => by cases hx)).trans hk' (fun x hx => by cases hx))
            have h2 := cell2 ((((HKL.out.trans HKT.out (fun x hx => by cases hx)).trans hk' (fun x hx => by cases hx)).block BG (Array.getElem?_eq_some_iff.1 HBG.out).1 (by simp)).trans HBG.out)
            exact ⟨h1.1, h1.2.1, h1.2.2.1, h1.2.2.2, h2.1, h2.2.1⟩)
          have HBase := hid (fun W (hk : Kept [] wz W) => H1.out.kept (HKwz.out.trans hk (fun x hx => by cases hx)))
          have HFr := hid (show ∀ W, Kept [] wz W → Calls Try.prog 14 #[.slice al ls.length cl, .agg #[.int .u8 (k1.toNat : Int), .int .u8 (k2.toNat : Int), .int .u8 (k3.toNat : Int), .int .u8 (k4.toNat : Int)]] W fun e w' => e = .returned (.agg #[.bool g1, .int .i64 g2]) ∧ Kept [] W w' from fun W hk => by
            have := rfind_any _ ls ⟨k1, k2, k3, k4⟩ W (HS.out.kept hk)
            rw [HFI.out] at this
            exact this)
          obtain ⟨fb, hfb⟩ : ∃ fb, fb = findP lb (⟨k1, k2, k3, k4⟩ : K4) := ⟨_, rfl⟩
          have HFr2 := hid (show ∀ W, Kept [] wz W → Calls Try.prog 14 #[.slice a' lb.length cap', .agg #[.int .u8 (k1.toNat : Int), .int .u8 (k2.toNat : Int), .int .u8 (k3.toNat : Int), .int .u8 (k4.toNat : Int)]] W fun e w' => e = .returned (.agg #[.bool fb.there, .int .i64 fb.n]) ∧ Kept [] W w' from fun W hk => by
            rw [hfb]; exact rfind_any _ lb ⟨k1, k2, k3, k4⟩ W (HBase.out W hk))
          have HFd := hid (show ∀ W, PrAt W vt lb → Calls Try.prog 24 #[vt, .agg #[.int .u8 (k1.toNat : Int), .int .u8 (k2.toNat : Int), .int .u8 (k3.toNat : Int), .int .u8 (k4.toNat : Int)]] W fun e w' => e = .returned (.agg #[.bool fb.there, .int .i64 fb.n]) ∧ Kept [] W w' from fun W h => by rw [hfb]; exact find_any vt lb ⟨k1, k2, k3, k4⟩ W h.at')
          clear hfb
          obtain ⟨f1, f2⟩ := fb
          dsimp only at HFr2 HFd
          have HROver := hid (show ∀ W, Kept [] wz W → Calls Try.prog 20 #[.slice a' lb.length cap', .slice al ls.length cl] W fun e w' => ∃ v', e = .returned v' ∧ w'.ownsRow W.heap.size 34 6 v' ss.length (ss.flatMap Pr.f) ∧ v' ≠ .slice none 0 0 ∧ Kept [] W w' from fun W hk => by rw [HSS.out]; exact rover_any _ _ lb ls W (HBase.out W hk) (HS.out.kept hk) (by omega) (by omega))
          have HRRecs := hid (show ∀ W, Kept [] wz W → Calls Try.prog 23 #[.int .i64 tx, .slice a' lb.length cap', .slice al ls.length cl] W fun e w' => ∃ v', e = .returned v' ∧ w'.ownsRow W.heap.size 60 11 v' rs.length (rs.flatMap Rc.f) ∧ Kept [] W w' from fun W hk => by rw [HRS.out]; exact rrecs_any tx _ _ lb ls W (HBase.out W hk) (HS.out.kept hk) (by omega))
          have HSort := hid (show ∀ W, PrAt W vt lb → Calls Try.prog 25 #[vt] W fun e w' => ∃ v', e = .returned v' ∧ PrAt w' v' sb ∧ Kept [] W w' from fun W h => by rw [HSB.out]; exact sort_pr vt lb W h (by omega))
          have HRSort := hid (show ∀ W, Kept [] wz W → Calls Try.prog 26 #[.slice a' lb.length cap'] W fun e w' => ∃ v', e = .returned v' ∧ w'.ownsRow W.heap.size 34 6 v' sb.length (sb.flatMap Pr.f) ∧ v' ≠ .slice none 0 0 ∧ Kept [] W w' from fun W hk => by rw [HSB.out]; exact rsort_any _ lb W (HBase.out W hk) (by omega))
          have hq1 : ∀ w, (binOp .eql 32 (.agg #[.bool g1, .int .i64 g2]) (.agg #[.bool g1, .int .i64 g2])).run Try.prog w = .ok (.bool true) w := fun w => by have := eqV w ⟨g1, g2⟩ ⟨g1, g2⟩; rw [decide_eq_true rfl] at this; exact this
          have hq2 : ∀ w, (binOp .eql 32 (.agg #[.bool f1, .int .i64 f2]) (.agg #[.bool f1, .int .i64 f2])).run Try.prog w = .ok (.bool true) w := fun w => by have := eqV w ⟨f1, f2⟩ ⟨f1, f2⟩; rw [decide_eq_true rfl] at this; exact this
          clear HKL HKyr HKwr HKT HSS HSB HRS HBB HIN HFI HLC HBG HKG HKC HSK H1
          go_wp2_with fail
          simp only [List.append_eq, List.cons_append, List.nil_append]
          go_region_held3 (fun w' => w'.cell? ⟨w.heap.size, 0, none⟩ = some (.int .u8 (k1.toNat : Int)) ∧ w'.cell? ⟨w.heap.size, 1, none⟩ = some (.int .u8 (k2.toNat : Int)) ∧ w'.cell? ⟨w.heap.size, 2, none⟩ = some (.int .u8 (k3.toNat : Int)) ∧ w'.cell? ⟨w.heap.size, 3, none⟩ = some (.int .u8 (k4.toNat : Int)) ∧ w'.cell? ⟨BG, 0, none⟩ = some (.bool g1) ∧ w'.cell? ⟨BG, 1, none⟩ = some (.int .i64 g2))
            ((refine HSZ.out _ ?_; (repeat (first | assumption | (with_reducible exact Kept.refl _ _) | (with_reducible refine Kept.drew ?_) | (with_reducible refine Kept.alloc ?_ _) | (with_reducible refine Kept.setCell ?_ (by right; simp; try omega) _)))))
            (first
            | (go_at_call 14; refine (HFr.out _ (show Kept [] wz _ by (repeat (first | assumption | (with_reducible exact Kept.refl _ _) | (with_reducible refine Kept.drew ?_) | (with_reducible refine Kept.alloc ?_ _) | (with_reducible refine Kept.setCell ?_ (by right; simp; try omega) _))))).mono ?_; clear HFr; rintro e w1 ⟨rfl, hk1'⟩; have hk1 : Kept [] wz w1 := Kept.trans (show Kept [] wz _ by (repeat (first | assumption | (with_reducible exact Kept.refl _ _) | (with_reducible refine Kept.drew ?_) | (with_reducible refine Kept.alloc ?_ _) | (with_reducible refine Kept.setCell ?_ (by right; simp; try omega) _)))) hk1' (fun x hx => by cases hx); skip)
            | (go_at_call 15; refine (dcount_any A M D _ (HG.out.kept (show Kept [] wz _ by (repeat (first | assumption | (with_reducible exact Kept.refl _ _) | (with_reducible refine Kept.drew ?_) | (with_reducible refine Kept.alloc ?_ _) | (with_reducible refine Kept.setCell ?_ (by right; simp; try omega) _)))) (by simp) (by simp))).mono ?_; rintro e wc ⟨rfl, rfl⟩)
            | (go_at_call 18; refine (HPairs.out _ (HG.out.kept (show Kept [] wz _ by (repeat (first | assumption | (with_reducible exact Kept.refl _ _) | (with_reducible refine Kept.drew ?_) | (with_reducible refine Kept.alloc ?_ _) | (with_reducible refine Kept.setCell ?_ (by right; simp; try omega) _)))) (by simp) (by simp))).mono ?_; clear HPairs; rintro e w3 ⟨v3, rfl, hp, hk3'⟩; have hk3 : Kept [] wz w3 := Kept.trans (show Kept [] wz _ by (repeat (first | assumption | (with_reducible exact Kept.refl _ _) | (with_reducible refine Kept.drew ?_) | (with_reducible refine Kept.alloc ?_ _) | (with_reducible refine Kept.setCell ?_ (by right; simp; try omega) _)))) hk3' (fun x hx => by cases hx); have HP1 := hid hp; clear hp)
            | (go_at_call 17; refine (from_any _ ls _ HP1.out.at' (by omega)).mono ?_; clear HP1; rintro e w4 ⟨v4, rfl, hp, hk4'⟩; have hk4 : Kept [] wz w4 := Kept.trans (show Kept [] wz _ by (repeat (first | assumption | (with_reducible exact Kept.refl _ _) | (with_reducible refine Kept.drew ?_) | (with_reducible refine Kept.alloc ?_ _) | (with_reducible refine Kept.setCell ?_ (by right; simp; try omega) _)))) hk4' (fun x hx => by cases hx); have HB1 := hid (SlAt.of_own hp); clear hp)
            | (go_at_call 16; refine (samePairs_any _ _ ls ls _ HB1.out (HS.out.kept (show Kept [] wz _ by (repeat (first | assumption | (with_reducible exact Kept.refl _ _) | (with_reducible refine Kept.drew ?_) | (with_reducible refine Kept.alloc ?_ _) | (with_reducible refine Kept.setCell ?_ (by right; simp; try omega) _)))))).mono ?_; clear HB1; rintro e w5 ⟨he, hk5'⟩; have hk5 : Kept [] wz w5 := Kept.trans (show Kept [] wz _ by (repeat (first | assumption | (with_reducible exact Kept.refl _ _) | (with_reducible refine Kept.drew ?_) | (with_reducible refine Kept.alloc ?_ _) | (with_reducible refine Kept.setCell ?_ (by right; simp; try omega) _)))) hk5' (fun x hx => by cases hx); rw [decide_eq_true rfl] at he; subst he; skip)
            | (go_at_call 19; refine (HOver.out _ _ (HG.out.kept (show Kept [] wz _ by (repeat (first | assumption | (with_reducible exact Kept.refl _ _) | (with_reducible refine Kept.drew ?_) | (with_reducible refine Kept.alloc ?_ _) | (with_reducible refine Kept.setCell ?_ (by right; simp; try omega) _)))) (by simp) (by simp)) (HPB.out.kept (show Kept [] wz _ by (repeat (first | assumption | (with_reducible exact Kept.refl _ _) | (with_reducible refine Kept.drew ?_) | (with_reducible refine Kept.alloc ?_ _) | (with_reducible refine Kept.setCell ?_ (by right; simp; try omega) _)))))).mono ?_; clear HOver; rintro e w6 ⟨v6, rfl, hp, hk6'⟩; have hk6 : Kept [] wz w6 := Kept.trans (show Kept [] wz _ by (repeat (first | assumption | (with_reducible exact Kept.refl _ _) | (with_reducible refine Kept.drew ?_) | (with_reducible refine Kept.alloc ?_ _) | (with_reducible refine Kept.setCell ?_ (by right; simp; try omega) _)))) hk6' (fun x hx => by cases hx); have HP2 := hid hp; clear hp)
            | (go_at_call 17; refine (from_any _ ss _ HP2.out.at' (by omega)).mono ?_; clear HP2; rintro e w7 ⟨v7, rfl, hp, hk7'⟩; have hk7 : Kept [] wz w7 := Kept.trans (show Kept [] wz _ by (repeat (first | assumption | (with_reducible exact Kept.refl _ _) | (with_reducible refine Kept.drew ?_) | (with_reducible refine Kept.alloc ?_ _) | (with_reducible refine Kept.setCell ?_ (by right; simp; try omega) _)))) hk7' (fun x hx => by cases hx); have HB2 := hid (SlAt.of_own hp); clear hp)
            | (go_at_call 20; refine (HROver.out _ (show Kept [] wz _ by (repeat (first | assumption | (with_reducible exact Kept.refl _ _) | (with_reducible refine Kept.drew ?_) | (with_reducible refine Kept.alloc ?_ _) | (with_reducible refine Kept.setCell ?_ (by right; simp; try omega) _))))).mono ?_; clear HROver; rintro e w8 ⟨v8, rfl, hp, hn8, hk8'⟩; have hk8 : Kept [] wz w8 := Kept.trans (show Kept [] wz _ by (repeat (first | assumption | (with_reducible exact Kept.refl _ _) | (with_reducible refine Kept.drew ?_) | (with_reducible refine Kept.alloc ?_ _) | (with_reducible refine Kept.setCell ?_ (by right; simp; try omega) _)))) hk8' (fun x hx => by cases hx); have HB2 := hid (HB2.out.kept hk8'); have HB3 := hid (SlAt.of_own hp); clear hp hn8)
            | (go_at_call 16; refine (samePairs_any _ _ ss ss _ HB2.out HB3.out).mono ?_; clear HB2 HB3; rintro e w9 ⟨he, hk9'⟩; have hk9 : Kept [] wz w9 := Kept.trans (show Kept [] wz _ by (repeat (first | assumption | (with_reducible exact Kept.refl _ _) | (with_reducible refine Kept.drew ?_) | (with_reducible refine Kept.alloc ?_ _) | (with_reducible refine Kept.setCell ?_ (by right; simp; try omega) _)))) hk9' (fun x hx => by cases hx); rw [decide_eq_true rfl] at he; subst he; skip)
            | (go_at_call 22; refine (HRecs.out _ _ (HG.out.kept (show Kept [] wz _ by (repeat (first | assumption | (with_reducible exact Kept.refl _ _) | (with_reducible refine Kept.drew ?_) | (with_reducible refine Kept.alloc ?_ _) | (with_reducible refine Kept.setCell ?_ (by right; simp; try omega) _)))) (by simp) (by simp)) (HPB.out.kept (show Kept [] wz _ by (repeat (first | assumption | (with_reducible exact Kept.refl _ _) | (with_reducible refine Kept.drew ?_) | (with_reducible refine Kept.alloc ?_ _) | (with_reducible refine Kept.setCell ?_ (by right; simp; try omega) _)))))).mono ?_; clear HRecs; rintro e w10 ⟨v10, rfl, hp, hk10'⟩; have hk10 : Kept [] wz w10 := Kept.trans (show Kept [] wz _ by (repeat (first | assumption | (with_reducible exact Kept.refl _ _) | (with_reducible refine Kept.drew ?_) | (with_reducible refine Kept.alloc ?_ _) | (with_reducible refine Kept.setCell ?_ (by right; simp; try omega) _)))) hk10' (fun x hx => by cases hx); have HB4 := hid (SlAt.of_own hp); clear hp)
            | (go_at_call 23; refine (HRRecs.out _ (show Kept [] wz _ by (repeat (first | assumption | (with_reducible exact Kept.refl _ _) | (with_reducible refine Kept.drew ?_) | (with_reducible refine Kept.alloc ?_ _) | (with_reducible refine Kept.setCell ?_ (by right; simp; try omega) _))))).mono ?_; clear HRRecs; rintro e w11 ⟨v11, rfl, hp, hk11'⟩; have hk11 : Kept [] wz w11 := Kept.trans (show Kept [] wz _ by (repeat (first | assumption | (with_reducible exact Kept.refl _ _) | (with_reducible refine Kept.drew ?_) | (with_reducible refine Kept.alloc ?_ _) | (with_reducible refine Kept.setCell ?_ (by right; simp; try omega) _)))) hk11' (fun x hx => by cases hx); have HB4 := hid (HB4.out.kept hk11'); have HB5 := hid (SlAt.of_own hp); clear hp)
            | (go_at_call 21; refine (sameRecs_any _ _ rs rs _ HB4.out HB5.out).mono ?_; clear HB4 HB5; rintro e w12 ⟨he, hk12'⟩; have hk12 : Kept [] wz w12 := Kept.trans (show Kept [] wz _ by (repeat (first | assumption | (with_reducible exact Kept.refl _ _) | (with_reducible refine Kept.drew ?_) | (with_reducible refine Kept.alloc ?_ _) | (with_reducible refine Kept.setCell ?_ (by right; simp; try omega) _)))) hk12' (fun x hx => by cases hx); rw [decide_eq_true rfl] at he; subst he; skip)
            | (go_at_call 24; refine (HFd.out _ (HPB.out.kept (show Kept [] wz _ by (repeat (first | assumption | (with_reducible exact Kept.refl _ _) | (with_reducible refine Kept.drew ?_) | (with_reducible refine Kept.alloc ?_ _) | (with_reducible refine Kept.setCell ?_ (by right; simp; try omega) _)))))).mono ?_; clear HFd; rintro e w13 ⟨rfl, hk13'⟩; have hk13 : Kept [] wz w13 := Kept.trans (show Kept [] wz _ by (repeat (first | assumption | (with_reducible exact Kept.refl _ _) | (with_reducible refine Kept.drew ?_) | (with_reducible refine Kept.alloc ?_ _) | (with_reducible refine Kept.setCell ?_ (by right; simp; try omega) _)))) hk13' (fun x hx => by cases hx); skip)
            | (go_at_call 14; refine (HFr2.out _ (show Kept [] wz _ by (repeat (first | assumption | (with_reducible exact Kept.refl _ _) | (with_reducible refine Kept.drew ?_) | (with_reducible refine Kept.alloc ?_ _) | (with_reducible refine Kept.setCell ?_ (by right; simp; try omega) _))))).mono ?_; clear HFr2; rintro e w14 ⟨rfl, hk14'⟩; have hk14 : Kept [] wz w14 := Kept.trans (show Kept [] wz _ by (repeat (first | assumption | (with_reducible exact Kept.refl _ _) | (with_reducible refine Kept.drew ?_) | (with_reducible refine Kept.alloc ?_ _) | (with_reducible refine Kept.setCell ?_ (by right; simp; try omega) _)))) hk14' (fun x hx => by cases hx); skip)
            | (go_at_call 25; refine (HSort.out _ (HPB.out.kept (show Kept [] wz _ by (repeat (first | assumption | (with_reducible exact Kept.refl _ _) | (with_reducible refine Kept.drew ?_) | (with_reducible refine Kept.alloc ?_ _) | (with_reducible refine Kept.setCell ?_ (by right; simp; try omega) _)))))).mono ?_; clear HSort; rintro e w15 ⟨v15, rfl, hp, hk15'⟩; have hk15 : Kept [] wz w15 := Kept.trans (show Kept [] wz _ by (repeat (first | assumption | (with_reducible exact Kept.refl _ _) | (with_reducible refine Kept.drew ?_) | (with_reducible refine Kept.alloc ?_ _) | (with_reducible refine Kept.setCell ?_ (by right; simp; try omega) _)))) hk15' (fun x hx => by cases hx); have HP3 := hid hp; clear hp)
            | (go_at_call 17; refine (from_any _ sb _ HP3.out.at' (by omega)).mono ?_; clear HP3; rintro e w16 ⟨v16, rfl, hp, hk16'⟩; have hk16 : Kept [] wz w16 := Kept.trans (show Kept [] wz _ by (repeat (first | assumption | (with_reducible exact Kept.refl _ _) | (with_reducible refine Kept.drew ?_) | (with_reducible refine Kept.alloc ?_ _) | (with_reducible refine Kept.setCell ?_ (by right; simp; try omega) _)))) hk16' (fun x hx => by cases hx); have HB6 := hid (SlAt.of_own hp); clear hp)
            | (go_at_call 26; refine (HRSort.out _ (show Kept [] wz _ by (repeat (first | assumption | (with_reducible exact Kept.refl _ _) | (with_reducible refine Kept.drew ?_) | (with_reducible refine Kept.alloc ?_ _) | (with_reducible refine Kept.setCell ?_ (by right; simp; try omega) _))))).mono ?_; clear HRSort; rintro e w17 ⟨v17, rfl, hp, hn17, hk17'⟩; have hk17 : Kept [] wz w17 := Kept.trans (show Kept [] wz _ by (repeat (first | assumption | (with_reducible exact Kept.refl _ _) | (with_reducible refine Kept.drew ?_) | (with_reducible refine Kept.alloc ?_ _) | (with_reducible refine Kept.setCell ?_ (by right; simp; try omega) _)))) hk17' (fun x hx => by cases hx); have HB6 := hid (HB6.out.kept hk17'); have HB7 := hid (SlAt.of_own hp); clear hp hn17)
            | (go_at_call 16; refine (samePairs_any _ _ sb sb _ HB6.out HB7.out).mono ?_; clear HB6 HB7; rintro e w18 ⟨he, hk18'⟩; have hk18 : Kept [] wz w18 := Kept.trans (show Kept [] wz _ by (repeat (first | assumption | (with_reducible exact Kept.refl _ _) | (with_reducible refine Kept.drew ?_) | (with_reducible refine Kept.alloc ?_ _) | (with_reducible refine Kept.setCell ?_ (by right; simp; try omega) _)))) hk18' (fun x hx => by cases hx); rw [decide_eq_true rfl] at he; subst he; skip)
            | (go_at_call 17; refine (from_any _ lb _ (HPB.out.kept (show Kept [] wz _ by (repeat (first | assumption | (with_reducible exact Kept.refl _ _) | (with_reducible refine Kept.drew ?_) | (with_reducible refine Kept.alloc ?_ _) | (with_reducible refine Kept.setCell ?_ (by right; simp; try omega) _))))).at' (by omega)).mono ?_; clear HPB; rintro e w19 ⟨v19, rfl, hp, hk19'⟩; have hk19 : Kept [] wz w19 := Kept.trans (show Kept [] wz _ by (repeat (first | assumption | (with_reducible exact Kept.refl _ _) | (with_reducible refine Kept.drew ?_) | (with_reducible refine Kept.alloc ?_ _) | (with_reducible refine Kept.setCell ?_ (by right; simp; try omega) _)))) hk19' (fun x hx => by cases hx); have HB8 := hid (SlAt.of_own hp); clear hp)
            | (go_at_call 16; refine (samePairs_any _ _ lb lb _ HB8.out (HBase.out _ (show Kept [] wz _ by (repeat (first | assumption | (with_reducible exact Kept.refl _ _) | (with_reducible refine Kept.drew ?_) | (with_reducible refine Kept.alloc ?_ _) | (with_reducible refine Kept.setCell ?_ (by right; simp; try omega) _)))))).mono ?_; clear HB8; rintro e w20 ⟨he, hk20'⟩; have hk20 : Kept [] wz w20 := Kept.trans (show Kept [] wz _ by (repeat (first | assumption | (with_reducible exact Kept.refl _ _) | (with_reducible refine Kept.drew ?_) | (with_reducible refine Kept.alloc ?_ _) | (with_reducible refine Kept.setCell ?_ (by right; simp; try omega) _)))) hk20' (fun x hx => by cases hx); rw [decide_eq_true rfl] at he; subst he; skip))
          go_wp2
          go_returns
          exact ⟨rfl, HKwz.out.trans hk20 (fun x hx => by cases hx)⟩
--@@ end
end Go.Proofs.Ythidbnjijomlmaa.draftPuts
