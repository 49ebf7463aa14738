/- DraftBounds: the walk. -/
import Derived.Test.YthidbnjijomlmaaAlive09
import Derived.Test.YthidbnjijomlmaaArgs09
set_option linter.all false
namespace Go.Proofs.Ythidbnjijomlmaa.draftBounds
open Go.RowKit Go.Shelf Go.Lib Go.Sort Go.Proofs Go.Proofs.Ythidbnjijomlmaa
set_option linter.unusedVariables false
set_option linter.unusedSimpArgs false

--@@ concordatlaw09.DraftBounds
theorem get_at (A M : Nat) (D : List (K4 × V)) (k : K4) (g : Option V) (hg : aget k D = g) (W : World) (h : DraftIs W A M D) :
    Calls Try.prog 12 #[.pointer (some ⟨A, 0, none⟩), k.v] W fun e w' => e = .returned (.tuple #[.agg #[.bool (g.getD V.zero).there, .int .i64 (g.getD V.zero).n], .bool g.isSome]) ∧ Kept [] W w' := by
  have := dget_any A M D k W h
  rw [hg] at this
  exact this
set_option maxHeartbeats 8000000 in
set_option maxRecDepth 100000 in
theorem walk (v0 : Value) (l : List Pr) (p : Pr) (w : World) (h0 : SlAt w v0 Pr.ps.length l.length (l.flatMap Pr.f)) (hl : ∀ x ∈ l, x.ok) (_o1 : p.ok) :
    Calls Try.prog 6 #[v0, .agg p.f.toArray] w fun e w' => e = .returned (.bool true) ∧ Kept [] w w' := by
  clear hl _o1
  obtain ⟨⟨p1, p2, p3, p4⟩, ⟨p5, p6⟩⟩ := p
  simp only [Pr.f]
  obtain ⟨a, cap, rfl, hmax, _, hc⟩ := h0.ex
  have HC := hid hc
  clear h0 hc
  by_cases hlen : 100 < l.length
  · go_enter Try.func6, Try.ntmps6
    go_wp2_with (go_at_call 8; refine (alive_any _).mono ?_; rintro e wa ⟨rfl, hka⟩)
    go_ret
    exact ⟨rfl, ((Kept.refl [] w).alloc _).trans hka (fun x hx => by cases hx)⟩
  · go_enter Try.func6, Try.ntmps6
    have hlenz : (l.length : Int) ≤ 100 := by omega
    go_wp2_with (first
      | (go_at_call 8; refine (alive_any _).mono ?_; rintro e wa ⟨rfl, hka⟩)
      | (go_at_call 9; refine (dnew_any wa).mono ?_; rintro e w1 ⟨rfl, hG, hk⟩))
    have hwa : w.heap.size < wa.heap.size := by have := hka.size; simp at this; omega
    have hw1 : wa.heap.size < w1.heap.size := hG.lt.2
    obtain ⟨M, hM⟩ : ∃ M, M = wa.heap.size := ⟨_, rfl⟩
    obtain ⟨A, hA⟩ : ∃ A, A = wa.heap.size + 1 := ⟨_, rfl⟩
    rw [← hA, ← hM] at hG
    rw [← hA]
    have hMA : w.heap.size < M ∧ M < w1.heap.size ∧ A < w1.heap.size := ⟨by omega, by omega, hG.lt.1⟩
    have HSP := hid (show ∀ w', Kept [M] w1 w' → w'.cell? ⟨w.heap.size, 0, none⟩ = some (.int .u8 (p1.toNat : Int)) ∧ w'.cell? ⟨w.heap.size, 1, none⟩ = some (.int .u8 (p2.toNat : Int)) ∧ w'.cell? ⟨w.heap.size, 2, none⟩ = some (.int .u8 (p3.toNat : Int)) ∧ w'.cell? ⟨w.heap.size, 3, none⟩ = some (.int .u8 (p4.toNat : Int)) ∧ w'.cell? ⟨w.heap.size, 4, none⟩ = some (.bool p5) ∧ w'.cell? ⟨w.heap.size, 5, none⟩ = some (.int .i64 p6) from fun w' hk' => by
      have kk := (hka.trans hk (fun x hx => by cases hx)).trans hk' (fun x hx => .inr (by have h1 := hMA.1; rw [List.mem_singleton] at hx; rw [hx, World.size_alloc]; omega))
      have nc := fun j u h => kk.cell (new_cell w [.int .u8 (p1.toNat : Int), .int .u8 (p2.toNat : Int), .int .u8 (p3.toNat : Int), .int .u8 (p4.toNat : Int), .bool p5, .int .i64 p6] 34 j u h) (by simp)
      exact ⟨nc 0 _ rfl, nc 1 _ rfl, nc 2 _ rfl, nc 3 _ rfl, nc 4 _ rfl, nc 5 _ rfl⟩)
    have HKW := hid ((((Kept.refl [] w).alloc (.cells #[.int .u8 (p1.toNat : Int), .int .u8 (p2.toNat : Int), .int .u8 (p3.toNat : Int), .int .u8 (p4.toNat : Int), .bool p5, .int .i64 p6] 34)).trans hka (fun x hx => by cases hx)).trans hk (fun x hx => by cases hx))
    have HG0 := hid hG
    clear hG hk hka hw1 hwa hM hA
    go_loopg [6] l.length (fun kx s6 wr => ∃ k : Nat, s6 = .int .i64 k ∧ k ≤ l.length ∧ l.length - k ≤ kx ∧ Aside (DraftIs wr A M (putsD [] (l.take k))) ∧ Aside (Kept [M] w1 wr))
    case atStart => exact ⟨0, by first | rfl | go_num, by omega, by omega, HG0.out, Kept.refl _ _⟩
    case round =>
      clear HG0
      obtain ⟨k, rfl, hk, hkx, HG, HKC⟩ := hrel
      by_cases hlt : k < l.length
      · have hltz : (k : Int) < (l.length : Int) := by omega
        obtain ⟨b, off, rfl, hb, hcs⟩ := HC.out (by omega)
        have hcW : ∀ j u, (l.flatMap Pr.f)[j]? = some u → wr.drew.cell? ⟨b, off + j, none⟩ = some u := fun j u hj => (HKC.out.drew).cell (HKW.out.cell (hcs j u hj) (by simp)) (by simp; omega)
        obtain ⟨e0, e1, e2, e3, e4, e5⟩ := pair_cells hcW hlt
        have HT := hid (show l.take (k + 1) = l.take k ++ [l[k]] by rw [List.take_succ_eq_append_getElem hlt])
        clear hcW hcs
        generalize l[k] = x at *
        obtain ⟨⟨x1, x2, x3, x4⟩, ⟨x5, x6⟩⟩ := x
        dsimp only at e0 e1 e2 e3 e4 e5
        go_wp2_with fail
        refine region_tail 11 (by kernel_rfl) (by kernel_rfl) ?_
        simp only [List.take_succ_cons, List.take_zero, List.drop_succ_cons, List.drop_zero]
        repeat still_step
        refine wpStill_nil ?_
        go_wp2_with (first | (go_at_call 11; refine (dput_any A M _ ⟨x1, x2, x3, x4⟩ ⟨x5, x6⟩ _ (HG.out.kept ((Kept.refl [] wr).drew) (by simp) (by simp))).mono ?_; rintro e w2 ⟨rfl, hG2, hk2⟩))
        have HG2 := hid hG2
        have HK2 := hid (HKC.out.drew.trans hk2 (fun x hx => .inl hx))
        clear hG2 hk2
        go_roundg (l.length - (k + 1))
        case measure => omega
        case rel => exact ⟨k + 1, by first | rfl | go_num, by omega, Nat.le_refl _, by show DraftIs _ _ _ _; rw [HT.out, putsD_snoc]; exact HG2.out, HK2.out⟩
      · obtain rfl : k = l.length := by omega
        have hltz : ¬ (l.length : Int) < (l.length : Int) := by omega
        rw [List.take_length] at HG
        obtain ⟨hnd, h16⟩ := putsD_ok l
        generalize putsD [] l = D at HG hnd h16
        have hkl := keysP_nodup_len D hnd
        obtain ⟨ps, hps⟩ : ∃ ps, ps = keysP (D.map toPr) := ⟨_, rfl⟩
        have HPairs := hid (show ∀ W, DraftIs W A M D → Calls Try.prog 18 #[.pointer (some ⟨A, 0, none⟩)] W fun e w' => ∃ v, e = .returned v ∧ PrAt w' v ps ∧ Kept [] W w' from fun W h => by rw [hps]; exact dpairs_any A M D W h hnd (by omega))
        have hpl : ps.length ≤ D.length ∧ D.length ≤ ps.length := by rw [hps, hkl]; exact ⟨Nat.le_refl _, Nat.le_refl _⟩
        clear hkl hps hnd hmax hkx hk
        obtain ⟨q0, q1, q2, q3, q4, q5⟩ := HSP.out wr HKC.out
        clear q0 q1 q2 q3 q4 q5
        obtain ⟨g, hg⟩ : ∃ g, aget ⟨p1, p2, p3, p4⟩ D = g := ⟨_, rfl⟩
        have HGet1 := hid (fun W h => get_at A M D ⟨p1, p2, p3, p4⟩ g hg W h)
        obtain ⟨⟨g1, g2⟩, hgv⟩ : ∃ q, g.getD V.zero = q := ⟨_, rfl⟩
        rw [hgv] at HGet1
        dsimp only at HGet1
        have HR := hid (rright_any ⟨p5, p6⟩)
        cases hr : V.right ⟨p5, p6⟩ with
        | false =>
          rw [hr] at HR
          have HPUT := hid (show dPut D ⟨p1, p2, p3, p4⟩ ⟨p5, p6⟩ = (10, D) by unfold dPut; rw [if_pos hr])
          have HGet2 := HGet1
          go_wp2_with (first
            | (go_at_call 18; refine (HPairs.out _ HG.out).mono ?_; rintro e wp ⟨vp, rfl, hpp, hkp⟩; have HPP := hid hpp; have HG := hid (HG.out.kept hkp (by simp) (by simp)); have HKC := hid (HKC.out.trans hkp (fun x hx => by cases hx)); clear hpp hkp)
            | (go_at_call 17; refine (from_any _ _ _ HPP.out.at' (by omega)).mono ?_; rintro e wf ⟨vf, rfl, hof, hkf⟩; obtain ⟨af, cf, rfl⟩ := ownsRow_slice hof; have HB := hid hof; have HBS := hid HKC.out.size; have HG := hid (HG.out.kept hkf (by simp) (by simp)); have HKC := hid (HKC.out.trans hkf (fun x hx => by cases hx)); have HKF := hid (Kept.refl [M] wf); obtain ⟨q0, q1, q2, q3, q4, q5⟩ := HSP.out wf HKC.out; clear hof hkf HPP)
            | (go_at_call 12; refine (HGet1.out _ HG.out).mono ?_; clear HGet1; rintro e wg ⟨rfl, hkg⟩; have HG := hid ((HG.out.kept hkg (by simp) (by simp)).kept ((Kept.refl [] wg).alloc (.cells #[.bool g1, .int .i64 g2] 32)) (by simp) (by simp)); have HKC := hid ((HKC.out.trans hkg (fun x hx => by cases hx)).alloc (.cells #[.bool g1, .int .i64 g2] 32)); have HKF := hid ((HKF.out.trans hkg (fun x hx => by cases hx)).alloc (.cells #[.bool g1, .int .i64 g2] 32)); clear hkg q0 q1 q2 q3 q4 q5; obtain ⟨q0, q1, q2, q3, q4, q5⟩ := HSP.out _ HKC.out)
            | (go_at_call 11; refine (dput_any A M D ⟨p1, p2, p3, p4⟩ ⟨p5, p6⟩ _ HG.out).mono ?_; rw [HPUT.out]; rintro e wu ⟨rfl, hgu, hku⟩; have HG := hid hgu; have HKC := hid (HKC.out.trans hku (fun x hx => .inl hx)); have HKF := hid (HKF.out.trans hku (fun x hx => .inl hx)); clear hgu hku q0 q1 q2 q3 q4 q5; obtain ⟨q0, q1, q2, q3, q4, q5⟩ := HSP.out wu HKC.out)
            | (go_at_call 12; refine (HGet2.out _ HG.out).mono ?_; clear HGet2; rintro e wg2 ⟨rfl, hkg⟩; have HG := hid ((HG.out.kept hkg (by simp) (by simp)).kept ((Kept.refl [] wg2).alloc (.cells #[.bool g1, .int .i64 g2] 32)) (by simp) (by simp)); have HKC := hid ((HKC.out.trans hkg (fun x hx => by cases hx)).alloc (.cells #[.bool g1, .int .i64 g2] 32)); have HKF := hid ((HKF.out.trans hkg (fun x hx => by cases hx)).alloc (.cells #[.bool g1, .int .i64 g2] 32)); clear hkg q0 q1 q2 q3 q4 q5; obtain ⟨q0, q1, q2, q3, q4, q5⟩ := HSP.out _ HKC.out)
            | (go_at_call 29; refine (HR.out _).mono ?_; rintro e wr2 ⟨rfl, hkr⟩; refine Here.mk ?_))
          refine Here.of ?_
          have x0 := hkr.cell (new_cell wg2 [.bool g1, .int .i64 g2] 32 0 _ rfl) (by simp)
          have x1 := hkr.cell (new_cell wg2 [.bool g1, .int .i64 g2] 32 1 _ rfl) (by simp)
          have HG := hid (HG.out.kept hkr (by simp) (by simp))
          have HKC := hid (HKC.out.trans hkr (fun x hx => by cases hx))
          have HKF := hid (HKF.out.trans hkr (fun x hx => by cases hx))
          clear hkr q0 q1 q2 q3 q4 q5 HR
          obtain ⟨q0, q1, q2, q3, q4, q5⟩ := HSP.out _ HKC.out
          clear x0 x1
          go_wp2_with (first
            | (go_at_call 18; refine (HPairs.out _ HG.out).mono ?_; rintro e wp ⟨vp, rfl, hpp, hkp⟩; have HPP := hid hpp; have HKC := hid (HKC.out.trans hkp (fun x hx => by cases hx)); have HKF := hid (HKF.out.trans hkp (fun x hx => by cases hx)); clear hpp hkp)
            | (go_at_call 17; refine (from_any _ _ _ HPP.out.at' (by omega)).mono ?_; rintro e wf ⟨vf, rfl, hof, hkf⟩; obtain ⟨af, cf, rfl⟩ := ownsRow_slice hof; have HB2 := hid hof; have HKC := hid (HKC.out.trans hkf (fun x hx => by cases hx)); have HKF := hid (HKF.out.trans hkf (fun x hx => by cases hx)); clear hof hkf)
            | (go_at_call 16; refine (samePairs_any _ _ ps ps _ (SlAt.of_own HB2.out) (SlAt.of_own (ownsRow_kept HB.out HKF.out (fun x hx => by have := HBS.out; simp at hx; omega)))).mono ?_; rintro e ws ⟨rfl, hks⟩; have HKC := hid (HKC.out.trans hks (fun x hx => by cases hx)); clear hks))
          go_returns
          exact ⟨rfl, HKW.out.trans HKC.out (fun x hx => .inr (by simp at hx; omega))⟩
        | true =>
          rw [hr] at HR
          cases g with
          | none =>
            obtain ⟨rfl, rfl⟩ : false = g1 ∧ (0 : Int) = g2 := by simpa [V.zero] using hgv
            dsimp only [Option.isSome_none] at HGet1
            by_cases h16' : 16 ≤ D.length
            · have HPUT := hid (show dPut D ⟨p1, p2, p3, p4⟩ ⟨p5, p6⟩ = (16, D) by unfold dPut; rw [if_neg (by simp [hr]), if_pos ⟨by rw [hg]; rfl, h16'⟩])
              have h16z : (16 : Int) ≤ (ps.length : Int) := by omega
              have HGet2 := HGet1
              go_wp2_with (first
                | (go_at_call 18; refine (HPairs.out _ HG.out).mono ?_; rintro e wp ⟨vp, rfl, hpp, hkp⟩; have HPP := hid hpp; have HG := hid (HG.out.kept hkp (by simp) (by simp)); have HKC := hid (HKC.out.trans hkp (fun x hx => by cases hx)); clear hpp hkp)
                | (go_at_call 17; refine (from_any _ _ _ HPP.out.at' (by omega)).mono ?_; rintro e wf ⟨vf, rfl, hof, hkf⟩; obtain ⟨af, cf, rfl⟩ := ownsRow_slice hof; have HB := hid hof; have HBS := hid HKC.out.size; have HG := hid (HG.out.kept hkf (by simp) (by simp)); have HKC := hid (HKC.out.trans hkf (fun x hx => by cases hx)); have HKF := hid (Kept.refl [M] wf); obtain ⟨q0, q1, q2, q3, q4, q5⟩ := HSP.out wf HKC.out; clear hof hkf HPP)
                | (go_at_call 12; refine (HGet1.out _ HG.out).mono ?_; clear HGet1; rintro e wg ⟨rfl, hkg⟩; have HG := hid ((HG.out.kept hkg (by simp) (by simp)).kept ((Kept.refl [] wg).alloc (.cells #[.bool false, .int .i64 0] 32)) (by simp) (by simp)); have HKC := hid ((HKC.out.trans hkg (fun x hx => by cases hx)).alloc (.cells #[.bool false, .int .i64 0] 32)); have HKF := hid ((HKF.out.trans hkg (fun x hx => by cases hx)).alloc (.cells #[.bool false, .int .i64 0] 32)); clear hkg q0 q1 q2 q3 q4 q5; obtain ⟨q0, q1, q2, q3, q4, q5⟩ := HSP.out _ HKC.out)
                | (go_at_call 11; refine (dput_any A M D ⟨p1, p2, p3, p4⟩ ⟨p5, p6⟩ _ HG.out).mono ?_; rw [HPUT.out]; rintro e wu ⟨rfl, hgu, hku⟩; have HG := hid hgu; have HKC := hid (HKC.out.trans hku (fun x hx => .inl hx)); have HKF := hid (HKF.out.trans hku (fun x hx => .inl hx)); clear hgu hku q0 q1 q2 q3 q4 q5; obtain ⟨q0, q1, q2, q3, q4, q5⟩ := HSP.out wu HKC.out)
                | (go_at_call 12; refine (HGet2.out _ HG.out).mono ?_; clear HGet2; rintro e w0 ⟨rfl, hkg⟩; have HG := hid ((HG.out.kept hkg (by simp) (by simp)).kept ((Kept.refl [] w0).alloc (.cells #[.bool false, .int .i64 0] 32)) (by simp) (by simp)); have HKC := hid ((HKC.out.trans hkg (fun x hx => by cases hx)).alloc (.cells #[.bool false, .int .i64 0] 32)); have HKF := hid ((HKF.out.trans hkg (fun x hx => by cases hx)).alloc (.cells #[.bool false, .int .i64 0] 32)); clear hkg q0 q1 q2 q3 q4 q5; obtain ⟨q0, q1, q2, q3, q4, q5⟩ := HSP.out _ HKC.out)
                | (go_at_call 29; refine (HR.out _).mono ?_; rintro e wr2 ⟨rfl, hkr⟩; refine Here.mk ?_))
              refine Here.of ?_
              have x0 := hkr.cell (new_cell w0 [.bool false, .int .i64 0] 32 0 _ rfl) (by simp)
              have x1 := hkr.cell (new_cell w0 [.bool false, .int .i64 0] 32 1 _ rfl) (by simp)
              have HG := hid (HG.out.kept hkr (by simp) (by simp))
              have HKC := hid (HKC.out.trans hkr (fun x hx => by cases hx))
              have HKF := hid (HKF.out.trans hkr (fun x hx => by cases hx))
              clear hkr q0 q1 q2 q3 q4 q5 HR
              obtain ⟨q0, q1, q2, q3, q4, q5⟩ := HSP.out _ HKC.out
              clear x0 x1
              go_wp2_with (first
                | (go_at_call 18; refine (HPairs.out _ HG.out).mono ?_; rintro e wp ⟨vp, rfl, hpp, hkp⟩; have HPP := hid hpp; have HKC := hid (HKC.out.trans hkp (fun x hx => by cases hx)); have HKF := hid (HKF.out.trans hkp (fun x hx => by cases hx)); clear hpp hkp)
                | (go_at_call 17; refine (from_any _ _ _ HPP.out.at' (by omega)).mono ?_; rintro e wf ⟨vf, rfl, hof, hkf⟩; obtain ⟨af, cf, rfl⟩ := ownsRow_slice hof; have HB2 := hid hof; have HKC := hid (HKC.out.trans hkf (fun x hx => by cases hx)); have HKF := hid (HKF.out.trans hkf (fun x hx => by cases hx)); clear hof hkf)
                | (go_at_call 16; refine (samePairs_any _ _ ps ps _ (SlAt.of_own HB2.out) (SlAt.of_own (ownsRow_kept HB.out HKF.out (fun x hx => by have := HBS.out; simp at hx; omega)))).mono ?_; rintro e ws ⟨rfl, hks⟩; have HKC := hid (HKC.out.trans hks (fun x hx => by cases hx)); clear hks))
              go_returns
              exact ⟨rfl, HKW.out.trans HKC.out (fun x hx => .inr (by simp at hx; omega))⟩
            · have HPUT := hid (show dPut D ⟨p1, p2, p3, p4⟩ ⟨p5, p6⟩ = (0, aput ⟨p1, p2, p3, p4⟩ ⟨p5, p6⟩ D) by unfold dPut; rw [if_neg (by simp [hr]), if_neg (fun h => h16' h.2)])
              have h16z : ¬ (16 : Int) ≤ (ps.length : Int) := by omega
              have hal : (aput ⟨p1, p2, p3, p4⟩ ⟨p5, p6⟩ D).length = D.length + 1 := by rw [aput_len, hg]; rfl
              have h17z : ((aput ⟨p1, p2, p3, p4⟩ ⟨p5, p6⟩ D).length : Int) ≤ 16 := by omega
              have hcnt : (((aput ⟨p1, p2, p3, p4⟩ ⟨p5, p6⟩ D).length : Int) == (ps.length : Int) + 1) = true := by rw [beq_iff_eq]; omega
              clear hal
              have HGet2 := hid (fun W h => get_at A M (aput ⟨p1, p2, p3, p4⟩ ⟨p5, p6⟩ D) ⟨p1, p2, p3, p4⟩ (some ⟨p5, p6⟩) (by rw [aget_aput, if_pos rfl]) W h)
              dsimp only [Option.getD_some, Option.isSome_some] at HGet2
              go_wp2_with (first
                | (go_at_call 18; refine (HPairs.out _ HG.out).mono ?_; rintro e wp ⟨vp, rfl, hpp, hkp⟩; have HPP := hid hpp; have HG := hid (HG.out.kept hkp (by simp) (by simp)); have HKC := hid (HKC.out.trans hkp (fun x hx => by cases hx)); clear hpp hkp)
                | (go_at_call 17; refine (from_any _ _ _ HPP.out.at' (by omega)).mono ?_; rintro e wf ⟨vf, rfl, hof, hkf⟩; obtain ⟨af, cf, rfl⟩ := ownsRow_slice hof; have HB := hid hof; have HBS := hid HKC.out.size; have HG := hid (HG.out.kept hkf (by simp) (by simp)); have HKC := hid (HKC.out.trans hkf (fun x hx => by cases hx)); have HKF := hid (Kept.refl [M] wf); obtain ⟨q0, q1, q2, q3, q4, q5⟩ := HSP.out wf HKC.out; clear hof hkf HPP)
                | (go_at_call 12; refine (HGet1.out _ HG.out).mono ?_; clear HGet1; rintro e wg ⟨rfl, hkg⟩; have HG := hid ((HG.out.kept hkg (by simp) (by simp)).kept ((Kept.refl [] wg).alloc (.cells #[.bool false, .int .i64 0] 32)) (by simp) (by simp)); have HKC := hid ((HKC.out.trans hkg (fun x hx => by cases hx)).alloc (.cells #[.bool false, .int .i64 0] 32)); have HKF := hid ((HKF.out.trans hkg (fun x hx => by cases hx)).alloc (.cells #[.bool false, .int .i64 0] 32)); clear hkg q0 q1 q2 q3 q4 q5; obtain ⟨q0, q1, q2, q3, q4, q5⟩ := HSP.out _ HKC.out)
                | (go_at_call 11; refine (dput_any A M D ⟨p1, p2, p3, p4⟩ ⟨p5, p6⟩ _ HG.out).mono ?_; rw [HPUT.out]; rintro e wu ⟨rfl, hgu, hku⟩; have HG := hid hgu; have HKC := hid (HKC.out.trans hku (fun x hx => .inl hx)); have HKF := hid (HKF.out.trans hku (fun x hx => .inl hx)); clear hgu hku q0 q1 q2 q3 q4 q5; obtain ⟨q0, q1, q2, q3, q4, q5⟩ := HSP.out wu HKC.out)
                | (go_at_call 12; refine (HGet2.out _ HG.out).mono ?_; clear HGet2; rintro e w0 ⟨rfl, hkg⟩; have HG := hid ((HG.out.kept hkg (by simp) (by simp)).kept ((Kept.refl [] w0).alloc (.cells #[.bool p5, .int .i64 p6] 32)) (by simp) (by simp)); have HKC := hid ((HKC.out.trans hkg (fun x hx => by cases hx)).alloc (.cells #[.bool p5, .int .i64 p6] 32)); have HKF := hid ((HKF.out.trans hkg (fun x hx => by cases hx)).alloc (.cells #[.bool p5, .int .i64 p6] 32)); clear hkg q0 q1 q2 q3 q4 q5; obtain ⟨q0, q1, q2, q3, q4, q5⟩ := HSP.out _ HKC.out)
                | (go_at_call 29; refine (HR.out _).mono ?_; rintro e wr2 ⟨rfl, hkr⟩; refine Here.mk ?_))
              refine Here.of ?_
              have x0 := hkr.cell (new_cell w0 [.bool p5, .int .i64 p6] 32 0 _ rfl) (by simp)
              have x1 := hkr.cell (new_cell w0 [.bool p5, .int .i64 p6] 32 1 _ rfl) (by simp)
              have HG := hid (HG.out.kept hkr (by simp) (by simp))
              have HKC := hid (HKC.out.trans hkr (fun x hx => by cases hx))
              have HKF := hid (HKF.out.trans hkr (fun x hx => by cases hx))
              clear hkr q0 q1 q2 q3 q4 q5 HR
              obtain ⟨q0, q1, q2, q3, q4, q5⟩ := HSP.out _ HKC.out
              have hqv : ∀ w, (binOp .eql 32 (.agg #[.bool p5, .int .i64 p6]) (.agg #[.bool p5, .int .i64 p6])).run Try.prog w = .ok (.bool true) w := fun w => by have := eqV w ⟨p5, p6⟩ ⟨p5, p6⟩; rw [decide_eq_true rfl] at this; exact this
              go_wp2_with (first
                | (go_at_call 15; refine (dcount_any A M _ _ HG.out).mono ?_; rintro e wc ⟨rfl, rfl⟩))
              go_returns
              exact ⟨rfl, HKW.out.trans HKC.out (fun x hx => .inr (by simp at hx; omega))⟩
          | some u =>
            dsimp only [Option.isSome_some] at HGet1
            have HPUT := hid (show dPut D ⟨p1, p2, p3, p4⟩ ⟨p5, p6⟩ = (0, aput ⟨p1, p2, p3, p4⟩ ⟨p5, p6⟩ D) by unfold dPut; rw [if_neg (by simp [hr]), if_neg (fun h => by rw [hg] at h; cases h.1)])
            have hal : (aput ⟨p1, p2, p3, p4⟩ ⟨p5, p6⟩ D).length = D.length := by rw [aput_len, hg]; rfl
            have h17z : ((aput ⟨p1, p2, p3, p4⟩ ⟨p5, p6⟩ D).length : Int) ≤ 16 := by omega
            have hcnt : (((aput ⟨p1, p2, p3, p4⟩ ⟨p5, p6⟩ D).length : Int) == (ps.length : Int)) = true := by rw [beq_iff_eq]; omega
            clear hal
            have HGet2 := hid (fun W h => get_at A M (aput ⟨p1, p2, p3, p4⟩ ⟨p5, p6⟩ D) ⟨p1, p2, p3, p4⟩ (some ⟨p5, p6⟩) (by rw [aget_aput, if_pos rfl]) W h)
            dsimp only [Option.getD_some, Option.isSome_some] at HGet2
            go_wp2_with (first
              | (go_at_call 18; refine (HPairs.out _ HG.out).mono ?_; rintro e wp ⟨vp, rfl, hpp, hkp⟩; have HPP := hid hpp; have HG := hid (HG.out.kept hkp (by simp) (by simp)); have HKC := hid (HKC.out.trans hkp (fun x hx => by cases hx)); clear hpp hkp)
              | (go_at_call 17; refine (from_any _ _ _ HPP.out.at' (by omega)).mono ?_; rintro e wf ⟨vf, rfl, hof, hkf⟩; obtain ⟨af, cf, rfl⟩ := ownsRow_slice hof; have HB := hid hof; have HBS := hid HKC.out.size; have HG := hid (HG.out.kept hkf (by simp) (by simp)); have HKC := hid (HKC.out.trans hkf (fun x hx => by cases hx)); have HKF := hid (Kept.refl [M] wf); obtain ⟨q0, q1, q2, q3, q4, q5⟩ := HSP.out wf HKC.out; clear hof hkf HPP)
              | (go_at_call 12; refine (HGet1.out _ HG.out).mono ?_; clear HGet1; rintro e wg ⟨rfl, hkg⟩; have HG := hid ((HG.out.kept hkg (by simp) (by simp)).kept ((Kept.refl [] wg).alloc (.cells #[.bool g1, .int .i64 g2] 32)) (by simp) (by simp)); have HKC := hid ((HKC.out.trans hkg (fun x hx => by cases hx)).alloc (.cells #[.bool g1, .int .i64 g2] 32)); have HKF := hid ((HKF.out.trans hkg (fun x hx => by cases hx)).alloc (.cells #[.bool g1, .int .i64 g2] 32)); clear hkg q0 q1 q2 q3 q4 q5; obtain ⟨q0, q1, q2, q3, q4, q5⟩ := HSP.out _ HKC.out)
              | (go_at_call 11; refine (dput_any A M D ⟨p1, p2, p3, p4⟩ ⟨p5, p6⟩ _ HG.out).mono ?_; rw [HPUT.out]; rintro e wu ⟨rfl, hgu, hku⟩; have HG := hid hgu; have HKC := hid (HKC.out.trans hku (fun x hx => .inl hx)); have HKF := hid (HKF.out.trans hku (fun x hx => .inl hx)); clear hgu hku q0 q1 q2 q3 q4 q5; obtain ⟨q0, q1, q2, q3, q4, q5⟩ := HSP.out wu HKC.out)
              | (go_at_call 12; refine (HGet2.out _ HG.out).mono ?_; clear HGet2; rintro e wg2 ⟨rfl, hkg⟩; have HG := hid ((HG.out.kept hkg (by simp) (by simp)).kept ((Kept.refl [] wg2).alloc (.cells #[.bool p5, .int .i64 p6] 32)) (by simp) (by simp)); have HKC := hid ((HKC.out.trans hkg (fun x hx => by cases hx)).alloc (.cells #[.bool p5, .int .i64 p6] 32)); have HKF := hid ((HKF.out.trans hkg (fun x hx => by cases hx)).alloc (.cells #[.bool p5, .int .i64 p6] 32)); clear hkg q0 q1 q2 q3 q4 q5; obtain ⟨q0, q1, q2, q3, q4, q5⟩ := HSP.out _ HKC.out)
              | (go_at_call 29; refine (HR.out _).mono ?_; rintro e wr2 ⟨rfl, hkr⟩; refine Here.mk ?_))
            refine Here.of ?_
            have x0 := hkr.cell (new_cell wg2 [.bool p5, .int .i64 p6] 32 0 _ rfl) (by simp)
            have x1 := hkr.cell (new_cell wg2 [.bool p5, .int .i64 p6] 32 1 _ rfl) (by simp)
            have HG := hid (HG.out.kept hkr (by simp) (by simp))
            have HKC := hid (HKC.out.trans hkr (fun x hx => by cases hx))
            have HKF := hid (HKF.out.trans hkr (fun x hx => by cases hx))
            clear hkr q0 q1 q2 q3 q4 q5 HR
            obtain ⟨q0, q1, q2, q3, q4, q5⟩ := HSP.out _ HKC.out
            have hqv : ∀ w, (binOp .eql 32 (.agg #[.bool p5, .int .i64 p6]) (.agg #[.bool p5, .int .i64 p6])).run Try.prog w = .ok (.bool true) w := fun w => by have := eqV w ⟨p5, p6⟩ ⟨p5, p6⟩; rw [decide_eq_true rfl] at this; exact this
            go_wp2_with (first
              | (go_at_call 15; refine (dcount_any A M _ _ HG.out).mono ?_; rintro e wc ⟨rfl, rfl⟩))
            go_returns
            exact ⟨rfl, HKW.out.trans HKC.out (fun x hx => .inr (by simp at hx; omega))⟩
--@@ end
end Go.Proofs.Ythidbnjijomlmaa.draftBounds
