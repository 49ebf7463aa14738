/- How a transaction holds a key; for which key it waits. -/
import Derived.Test.YtiheoddlknbomaaLockTab
set_option linter.all false
namespace Go.Proofs.Ytiheoddlknbomaa
open Go.RowKit Go.Shelf Go.Lib Go.Sort Go.Proofs
set_option linter.unusedVariables false
set_option linter.unusedSimpArgs false

def howO (o : Option RR) (tx : Int) : Int := match o with | none => 0 | some x => how x.r.h tx
theorem howO_tab (lim : Int) (rs : List (K4 × RR)) (ws : List (Int × K4)) (tx : Int) (k : K4) : (tabT lim rs ws).holds tx k = howO (aget k rs) tx := by
  unfold Ta.holds tabT howO
  dsimp only
  rw [aget_map (fun x : RR => x.r)]
  cases aget k rs with
  | none => rfl
  | some x => exact (how_heldAt x.r.h tx).symm
--@@ (*lock.Table).Holds
set_option maxHeartbeats 4000000 in
set_option maxRecDepth 100000 in
theorem holds_any (A R M : Nat) (lim : Int) (rs : List (K4 × RR)) (ws : List (Int × K4)) (tx : Int) (k : K4) (w : World) (H : TabIs w A R M lim rs ws) (hl : ∀ p ∈ rs, p.2.r.h.length < 100000000) :
    Calls Try.prog 13 #[.pointer (some ⟨A, 0, none⟩), .int .i64 tx, k.v] w fun e w' => e = .returned (.int .i64 (howO (aget k rs) tx)) ∧ Kept [] w w' := by
  obtain ⟨a0, a1, a2⟩ := H.cells
  have hA := H.lt A (by simp [tabBs])
  have hne : w.heap.size ≠ A := by omega
  have H1 := hid (H.kept ((Kept.refl [] w).alloc (.cells k.f.toArray 32)) (fun _ _ => by simp))
  have hL : ∀ n, (Instr.lookup 51 (.map (some R)) k.v true).run Try.prog ((w.alloc (.cells k.f.toArray 32)).drewN n) = .ok (.tuple #[rrP (aget k rs), .bool (aget k rs).isSome]) ((w.alloc (.cells k.f.toArray 32)).drewN n) := fun n =>
    (H1.out.kept ((Kept.refl [] _).drewN n) (fun _ _ => by simp)).look k
  have HW := hid ((Kept.refl [] w).alloc (.cells k.f.toArray 32))
  cases hk : aget k rs with
  | none =>
    rw [hk] at hL
    simp only [rrP, Option.isSome_none] at hL
    clear hk H
    obtain ⟨k1, k2, k3, k4⟩ := k
    simp only [K4.v, K4.f] at *
    go_enter Try.func13, Try.ntmps13
    go_wp2_with fail
    go_quiet (fail)
    go_wp2
    go_ret
    exact ⟨rfl, HW.out.drewN _⟩
  | some rr =>
    rw [hk] at hL
    simp only [rrP, Option.isSome_some] at hL
    have hln := hl _ (tget_mem hk)
    dsimp only at hln
    have HR := hid (fun W (hK : Kept [] (w.alloc (.cells k.f.toArray 32)) W) => (H1.out.at' hk).kept hK (fun _ _ => by simp))
    have HH := hid (fun W (hK : Kept [] (w.alloc (.cells k.f.toArray 32)) W) => held_any rr.P rr.hv rr.qv rr.r tx W (HR.out W hK) (by omega))
    have hwh : howO (some rr) tx = match heldAt rr.r.h tx with | none => 0 | some i => if (rr.r.h[i]!).ex = true then 2 else 1 := how_heldAt rr.r.h tx
    have hhi : heldI rr.r.h tx = match heldAt rr.r.h tx with | none => -1 | some i => (i : Int) := rfl
    clear hk H
    obtain ⟨k1, k2, k3, k4⟩ := k
    simp only [K4.v, K4.f] at *
    cases hh : heldAt rr.r.h tx with
    | none =>
      rw [hh] at hwh hhi
      dsimp only at hwh hhi
      rw [hhi] at HH
      rw [hwh]
      clear hwh hhi hh
      go_enter Try.func13, Try.ntmps13
      go_wp2_with fail
      go_quiet (fail)
      go_wp2_with (first
        | (go_at_call 27; refine (HH.out _ ((Kept.refl [] _).drewN _)).mono ?_; clear HH; rintro e w2 ⟨rfl, hk2⟩; have HK2 := hid ((HW.out.drewN _).trans hk2 (fun x hx => by cases hx)); clear hk2))
      go_returns
      exact ⟨rfl, HK2.out⟩
    | some i =>
      rw [hh] at hwh hhi
      dsimp only at hwh hhi
      rw [hhi] at HH
      rw [hwh]
      obtain ⟨hi, _, _⟩ := heldAt_some hh
      clear hwh hhi hh
      rw [getElem!_pos rr.r.h i hi]
      have hiz : (i : Int) < (rr.r.h.length : Int) := by omega
      have HC := hid (show ∀ W, Kept [] (w.alloc (.cells #[.int .u8 (k1.toNat : Int), .int .u8 (k2.toNat : Int), .int .u8 (k3.toNat : Int), .int .u8 (k4.toNat : Int)] 32)) W → ∃ g cap, rr.hv = .slice (some ⟨g, 0, none⟩) rr.r.h.length cap ∧ W.cell? ⟨rr.P, 0, none⟩ = some rr.hv ∧ W.cell? ⟨g, 0 + i * 4 + 1, none⟩ = some (.bool rr.r.h[i].ex) from fun W hK => by
        have hr := (HR.out W hK)
        rcases hr.h.2 with ⟨_, hn⟩ | ⟨g, cap, cur, hv, _⟩
        · omega
        · exact ⟨g, cap, hv, hr.c0.1, (wish_cells (fun j u hj => by have h1 := hr.h; rw [hv] at h1; have := h1.cells (g := g) rfl j u hj; rw [Addr.add_lit] at this; exact this) hi).2.1⟩)
      generalize rr.r.h[i].ex = ex at HC ⊢
      cases ex with
      | false =>
        go_enter Try.func13, Try.ntmps13
        go_wp2_with fail
        go_quiet (fail)
        go_wp2_with (first
          | (go_at_call 27; refine (HH.out _ ((Kept.refl [] _).drewN _)).mono ?_; clear HH; rintro e w2 ⟨rfl, hk2⟩; obtain ⟨g, cap, e1, e2, e3⟩ := HC.out w2 (((Kept.refl [] _).drewN _).trans hk2 (fun x hx => by cases hx)); rw [e1] at e2; simp only [Nat.zero_add] at e3; clear e1; have HK2 := hid ((HW.out.drewN _).trans hk2 (fun x hx => by cases hx)); clear hk2))
        go_returns
        exact ⟨rfl, HK2.out⟩
      | true =>
        go_enter Try.func13, Try.ntmps13
        go_wp2_with fail
        go_quiet (fail)
        go_wp2_with (first
          | (go_at_call 27; refine (HH.out _ ((Kept.refl [] _).drewN _)).mono ?_; clear HH; rintro e w2 ⟨rfl, hk2⟩; obtain ⟨g, cap, e1, e2, e3⟩ := HC.out w2 (((Kept.refl [] _).drewN _).trans hk2 (fun x hx => by cases hx)); rw [e1] at e2; simp only [Nat.zero_add] at e3; clear e1; have HK2 := hid ((HW.out.drewN _).trans hk2 (fun x hx => by cases hx)); clear hk2))
        go_returns
        exact ⟨rfl, HK2.out⟩
--@@ (*lock.Table).Waits
set_option maxHeartbeats 4000000 in
set_option maxRecDepth 100000 in
theorem waits_any (A R M : Nat) (lim : Int) (rs : List (K4 × RR)) (ws : List (Int × K4)) (tx : Int) (w : World) (H : TabIs w A R M lim rs ws) :
    Calls Try.prog 15 #[.pointer (some ⟨A, 0, none⟩), .int .i64 tx] w fun e w' => e = .returned (.tuple #[(keyO (aget tx ws)).v, .bool (aget tx ws).isSome]) ∧ Kept [] w w' := by
  obtain ⟨a0, a1, a2⟩ := H.cells
  have hA := H.lt A (by simp [tabBs])
  have hne : w.heap.size ≠ A := by omega
  have hL := (H.kept ((Kept.refl [] w).alloc (.cells #[.int .u8 0, .int .u8 0, .int .u8 0, .int .u8 0] 32)) (fun _ _ => by simp)).lookw tx
  clear H
  generalize (aget tx ws).isSome = ok at hL ⊢
  generalize keyO (aget tx ws) = k at hL ⊢
  obtain ⟨k1, k2, k3, k4⟩ := k
  simp only [K4.v] at *
  go_enter Try.func15, Try.ntmps15
  go_wp2_with fail
  have HKE := hid (((Kept.refl [] w).alloc (.cells #[.int .u8 (k1.toNat : Int), .int .u8 (k2.toNat : Int), .int .u8 (k3.toNat : Int), .int .u8 (k4.toNat : Int)] 32)).alloc (.cells #[.int .u8 (k1.toNat : Int), .int .u8 (k2.toNat : Int), .int .u8 (k3.toNat : Int), .int .u8 (k4.toNat : Int)] 32))
  have nc := fun j u h => ((Kept.refl [] _).alloc (.cells #[.int .u8 (k1.toNat : Int), .int .u8 (k2.toNat : Int), .int .u8 (k3.toNat : Int), .int .u8 (k4.toNat : Int)] 32)).cell (new_cell w [.int .u8 (k1.toNat : Int), .int .u8 (k2.toNat : Int), .int .u8 (k3.toNat : Int), .int .u8 (k4.toNat : Int)] 32 j u h) (by simp)
  have g0 := nc 0 _ rfl
  have g1 := nc 1 _ rfl
  have g2 := nc 2 _ rfl
  have g3 := nc 3 _ rfl
  clear nc
  generalize (w.alloc (.cells [.int .u8 (k1.toNat : Int), .int .u8 (k2.toNat : Int), .int .u8 (k3.toNat : Int), .int .u8 (k4.toNat : Int)].toArray 32)).alloc (.cells #[.int .u8 (k1.toNat : Int), .int .u8 (k2.toNat : Int), .int .u8 (k3.toNat : Int), .int .u8 (k4.toNat : Int)] 32) = W3 at g0 g1 g2 g3 HKE ⊢
  refine bodyPost_ret (by simp [results, Try.results15, go_sem, g0, g1, g2, g3]; rfl) rfl ?_
  exact ⟨rfl, HKE.out⟩
--@@ end
end Go.Proofs.Ytiheoddlknbomaa
