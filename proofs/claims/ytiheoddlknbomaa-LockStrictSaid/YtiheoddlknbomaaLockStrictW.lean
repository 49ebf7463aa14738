/- LockStrict: the walk. -/
import Derived.Test.YtiheoddlknbomaaLockArgs
set_option linter.all false
namespace Go.Proofs.Ytiheoddlknbomaa.lockStrict
open Go.RowKit Go.Shelf Go.Lib Go.Sort Go.Proofs Go.Proofs.Ytiheoddlknbomaa
set_option linter.unusedVariables false
set_option linter.unusedSimpArgs false

--@@ concordatlaw08.LockStrict
set_option maxHeartbeats 8000000 in
set_option maxRecDepth 100000 in
theorem walk (v0 : Value) (cs : List Cl) (tx : Int) (kk : K4) (w : World) (h0 : SlAt w v0 Cl.ps.length cs.length (cs.flatMap Cl.f)) (_hl : ∀ x ∈ cs, x.ok) (hroom : Roomy v0) (_o1 : IntKind.i64.min ≤ tx ∧ tx ≤ IntKind.i64.max) (_o2 : kk.ok) :
    Calls Try.prog 4 #[v0, .int .i64 tx, .agg kk.f.toArray] w fun e w' => e = .returned (.bool true) ∧ Kept [] w w' := by
  clear _hl _o1 _o2
  obtain ⟨a, cap, rfl, hmax, _, hc⟩ := h0.ex
  obtain ⟨hcap, hnil⟩ := hroom _ _ _ rfl
  have H0 := hid h0
  clear h0 hroom
  obtain ⟨k1, k2, k3, k4⟩ := kk
  simp only [K4.f]
  have HC0 := hid hc
  clear hc
  by_cases hlen : 60 < cs.length
  · have hlenz : (60 : Int) < (cs.length : Int) := by omega
    go_enter Try.func4, Try.ntmps4
    go_wp2_with (go_at_call 9; refine (alive_any _).mono ?_; rintro e wa ⟨rfl, hka⟩)
    go_ret
    exact ⟨rfl, ((Kept.refl [] w).alloc _).trans hka (fun x hx => by cases hx)⟩
  have hlenz : (cs.length : Int) ≤ 60 := by omega
  go_enter Try.func4, Try.ntmps4
  go_wp2_with (go_at_call 9; refine (alive_any _).mono ?_; rintro e wa ⟨rfl, hka⟩)
  have HKA := hid (((Kept.refl [] w).alloc (.cells #[.int .u8 (k1.toNat : Int), .int .u8 (k2.toNat : Int), .int .u8 (k3.toNat : Int), .int .u8 (k4.toNat : Int)] 32)).trans hka (fun x hx => by cases hx))
  have HC := hid (fun (w' : World) (hk : Kept [] wa w') j u h => (hka.trans hk (fun x hx => by cases hx)).cell (new_cell w [.int .u8 (k1.toNat : Int), .int .u8 (k2.toNat : Int), .int .u8 (k3.toNat : Int), .int .u8 (k4.toNat : Int)] 32 j u h) (by simp))
  have hcl : cs.length ≤ 60 := by omega
  clear hka
  go_loopg [7, 8] (cs.length + 1) (fun kx s7 s8 wr => ∃ (m : Nat) (hv : Int), s7 = .int .i64 hv ∧ s8 = .int .i64 ((m : Int) + 1) ∧ m ≤ cs.length ∧ cs.length - m ≤ kx ∧ Aside (hv = how ((doT (cs.take m)).row ⟨k1, k2, k3, k4⟩).h tx) ∧ Aside (Kept [] wa wr))
  case atStart => exact ⟨0, 0, by first | rfl | go_num, by first | rfl | go_num, by omega, by omega, rfl, Kept.refl _ _⟩
  case round =>
    obtain ⟨m, hv, rfl, rfl, hm, hmx, HHV, HK⟩ := hrel
    rename World => wo
    have HKW := hid (HKA.out.trans HK.out (fun x hx => by cases hx))
    by_cases hlt : m < cs.length
    · have hltz : (m : Int) + 1 ≤ (cs.length : Int) := by omega
      have hltz2 : (m : Int) < (cs.length : Int) := by omega
      have hmz : (0 : Int) ≤ (m : Int) := by omega
      have HSL := hid (slAt_take (c := 8) (f := Cl.f) (fun _ => rfl) (H0.out.kept HKW.out) (m + 1) (by omega))
      have HDO := hid (show ∀ W, Kept [] wo W → Calls Try.prog 10 #[.slice a (m + 1) cap] W fun e w' => ∃ A, e = .returned (.pointer (some ⟨A, 0, none⟩)) ∧ TabAt w' (fun b => b < W.heap.size) A (doT (cs.take (m + 1))) ∧ Kept [] W w' from fun W hk => do_any _ (cs.take (m + 1)) W (HSL.out.kept hk) (by simp; omega))
      have hsl : ∀ w, (Instr.slice 22 (.slice a cs.length cap) none (some (.int .i64 ((m : Int) + 1))) none).run Try.prog w = .ok (.slice a (m + 1) cap) w := run_first a cs.length (m + 1) cap (by omega)
      obtain ⟨b, off, ha, hb, hcs⟩ := HC0.out (by omega)
      subst ha
      obtain ⟨d0, d1, d2, d3, d4, d5, d6, d7⟩ := cl_cells (fun j u hj => HKW.out.cell (hcs j u hj) (by simp)) hlt
      clear hcs
      have HSTEP := hid (show doT (cs.take (m + 1)) = stepT (doT (cs.take m)) cs[m] by rw [List.take_succ_eq_append_getElem hlt, doT_snoc])
      have HLAW := hid (law_strict (doT_ok (cs.take m)).1 cs[m] tx ⟨k1, k2, k3, k4⟩)
      have HHV2 := hid (show ¬ (cs[m].what = 1 ∧ cs[m].tx = tx) → hv ≤ how ((doT (cs.take (m + 1))).row ⟨k1, k2, k3, k4⟩).h tx from fun h => by rw [HHV.out, HSTEP.out]; exact HLAW.out h)
      clear HLAW HSTEP HHV
      obtain ⟨_, hrl0, hle0⟩ := doT_ok (cs.take (m + 1))
      have hkl : (cs.take (m + 1)).length ≤ 60 := by simp; omega
      have HT' := hid (rfl : doT (cs.take (m + 1)) = doT (cs.take (m + 1)))
      generalize (cs.take (m + 1)).length = m' at hle0 hrl0 hkl
      obtain ⟨t, ht⟩ : ∃ t, t = doT (cs.take (m + 1)) := ⟨_, rfl⟩
      rw [← ht] at HHV2 HDO hle0
      have HTE := hid ht
      clear ht HT'
      have HLE := hid hle0
      clear hle0 hrl0
      obtain ⟨h2, hh2⟩ : ∃ h2, h2 = how (t.row ⟨k1, k2, k3, k4⟩).h tx := ⟨_, rfl⟩
      have HH2 := hid hh2
      rw [← hh2] at HHV2
      clear hh2
      generalize cs[m] = x at *
      obtain ⟨x1, x2, ⟨y1, y2, y3, y4⟩, x4, x5⟩ := x
      dsimp only at d0 d1 d2 d3 d4 d5 d6 d7 HHV2
      clear hcap hnil
      go_wp2_with (go_at_call 10; refine Here.mk ?_)
      refine Here.of ?_
      have HKC := hid ((Kept.refl [] wo).alloc (.cells #[.int .i64 x1, .int .i64 x2, .int .u8 (y1.toNat : Int), .int .u8 (y2.toNat : Int), .int .u8 (y3.toNat : Int), .int .u8 (y4.toNat : Int), .bool x4, .int .i64 x5] 35))
      refine (HDO.out _ HKC.out).mono ?_
      rintro e w1 ⟨A, rfl, hT1, hk1⟩
      have HT1 := hid hT1
      have z := fun j u h => hk1.cell (new_cell wo [.int .i64 x1, .int .i64 x2, .int .u8 (y1.toNat : Int), .int .u8 (y2.toNat : Int), .int .u8 (y3.toNat : Int), .int .u8 (y4.toNat : Int), .bool x4, .int .i64 x5] 35 j u h) (by simp)
      have HZ := hid z
      have HK1 := hid ((HK.out.trans HKC.out (fun x hx => by cases hx)).trans hk1 (fun x hx => by cases hx))
      have q0 := HC.out w1 HK1.out 0 _ rfl
      have q1 := HC.out w1 HK1.out 1 _ rfl
      have q2 := HC.out w1 HK1.out 2 _ rfl
      have q3 := HC.out w1 HK1.out 3 _ rfl
      clear hT1 hk1 z HDO HSL hsl d0 d1 d2 d3 d4 d5 d6 d7
      go_wp2_with (go_at_call 13; refine Here.mk ?_)
      refine Here.of ?_
      refine (holds_at HT1.out HLE.out (by omega) tx ⟨k1, k2, k3, k4⟩).mono ?_
      rw [← HH2.out]
      rintro e w2 ⟨rfl, hk2⟩
      have z0 := hk2.cell (HZ.out 0 _ rfl) (by simp)
      have z1 := hk2.cell (HZ.out 1 _ rfl) (by simp)
      have HK2 := hid (HK1.out.trans hk2 (fun x hx => by cases hx))
      clear hk2 q0 q1 q2 q3
      by_cases hc : x1 = 1 ∧ x2 = tx
      · obtain ⟨rfl, rfl⟩ := hc
        by_cases hh : h2 < hv
        all_goals
          go_wp2_with fail
          go_roundg (cs.length - (m + 1))
          case measure => omega
          case rel => exact ⟨m + 1, h2, by first | rfl | go_num, by first | rfl | go_num, by omega, by omega, by show _ = _; rw [HH2.out, HTE.out], HK2.out⟩
      · have hh : ¬ h2 < hv := by have := HHV2.out hc; omega
        clear hc z0 z1
        go_wp2_with fail
        go_roundg (cs.length - (m + 1))
        case measure => omega
        case rel => exact ⟨m + 1, h2, by first | rfl | go_num, by first | rfl | go_num, by omega, by omega, by show _ = _; rw [HH2.out, HTE.out], HK2.out⟩
    · obtain rfl : m = cs.length := by omega
      have hltz : ¬ (cs.length : Int) + 1 ≤ (cs.length : Int) := by omega
      have HDO := hid (do_any _ cs wo (H0.out.kept HKW.out) hcl)
      obtain ⟨ok0, hrl0, hle0⟩ := doT_ok cs
      clear HHV
      generalize doT cs = t at *
      have HOK := hid ok0
      have HLE := hid hle0
      have hrl : t.rows.length ≤ 60 := by omega
      clear ok0 hle0 hrl0
      go_wp2_with (go_at_call 10; refine Here.mk ?_)
      refine Here.of ?_
      refine HDO.out.mono ?_
      rintro e w1 ⟨A, rfl, hT1, hk1⟩
      have HT1 := hid hT1
      have HK1 := hid hk1
      clear hT1 hk1 HDO
      go_wp2_with (go_at_call 14; refine Here.mk ?_)
      refine Here.of ?_
      refine (free_at HT1.out HLE.out (by omega) (by omega) tx).mono ?_
      rintro e w2 ⟨rfl, hT2, hK2⟩
      have HT2 := hid hT2
      have HK2 := hid (KD.then HK1.out hK2 (fun x hx _ => hx))
      have HLF := hid (HLE.out.freeT (tx := tx))
      have hrf : (t.freeT tx).rows.length ≤ 60 := Nat.le_trans (HOK.out.free_len tx) hrl
      obtain ⟨l1, l2, l3⟩ := law_free HOK.out tx ⟨k1, k2, k3, k4⟩
      have HWT := hid (show Calls Try.prog 15 #[.pointer (some ⟨A, 0, none⟩), .int .i64 tx] w2 fun e w' => e = .returned (.tuple #[.agg #[.int .u8 0, .int .u8 0, .int .u8 0, .int .u8 0], .bool false]) ∧ Kept [] w2 w' by
        have := waits_at HT2.out tx
        rw [l1] at this
        exact this)
      have HL2 := hid l2
      have HL3 := hid l3
      clear hT2 hK2 l1 l2 l3
      generalize t.freeT tx = t' at *
      go_wp2_with (first
        | (go_at_call 15; refine HWT.out.mono ?_; rintro e w3 ⟨rfl, hk3⟩; have HK3 := hid (hk3.alloc (.cells #[.int .u8 0, .int .u8 0, .int .u8 0, .int .u8 0] 32)); clear hk3)
        | (go_at_call 16; refine Here.mk ?_))
      refine Here.of ?_
      refine (keys_at (HT2.out.kept HK3.out (by simp)) HLF.out (by omega) (by omega) tx).mono ?_
      rintro e w4 ⟨v4, rfl, ho4, hk4⟩
      rw [HL2.out] at ho4
      obtain ⟨xa, xc, hx⟩ := ownsRow_slice ho4
      subst hx
      have HK4 := hid (HK3.out.trans hk4 (fun x hx => by cases hx))
      have HKE := hid (HK.out.trans (HK2.out.trans HK4.out (fun x hx => by cases hx)) (fun x hx => by cases hx))
      have q0 := HC.out w4 HKE.out 0 _ rfl
      have q1 := HC.out w4 HKE.out 1 _ rfl
      have q2 := HC.out w4 HKE.out 2 _ rfl
      have q3 := HC.out w4 HKE.out 3 _ rfl
      clear ho4 hk4
      go_wp2_with (go_at_call 13; refine Here.mk ?_)
      refine Here.of ?_
      refine (holds_at (HT2.out.kept HK4.out (by simp)) HLF.out (by omega) tx ⟨k1, k2, k3, k4⟩).mono ?_
      rw [HL3.out]
      rintro e w5 ⟨rfl, hk5⟩
      go_wp2_with fail
      go_returns
      exact ⟨rfl, (HKA.out.trans HKE.out (fun x hx => by cases hx)).trans hk5 (fun x hx => by cases hx)⟩
--@@ end
end Go.Proofs.Ytiheoddlknbomaa.lockStrict
