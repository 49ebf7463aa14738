/- The keys that a transaction holds; all keys that are held. -/
import Derived.Test.YtiheoddlknbomaaLockKeys
set_option linter.all false
namespace Go.Proofs.Ytiheoddlknbomaa
open Go.RowKit Go.Shelf Go.Lib Go.Sort Go.Proofs
set_option linter.unusedVariables false
set_option linter.unusedSimpArgs false

--@@ (*lock.Table).Held$1
theorem heldC_any (P : Nat) (hv qv : Value) (r : Ro) (W : World) (H : RowIs W P hv qv r) :
    Calls Try.prog 26 (#[.pointer (some ⟨P, 0, none⟩)] ++ #[]) W fun e w' => e = .returned (.bool (decide (0 < r.h.length))) ∧ Kept [] W w' := by
  obtain ⟨c0, c1, f0, f1⟩ := H.c0
  obtain ⟨a, c, rfl⟩ := ownsRow_slice H.h
  clear H
  go_enter Try.func26, Try.ntmps26
  go_wp2
  go_ret
  refine ⟨?_, Kept.refl _ _⟩
  first
    | rfl
    | (congr 3; apply decide_eq_decide.2; omega)
    | simp
theorem heldCE : ∀ args w, (callFunc 26 args).run Try.prog w = .ok (.enter 26 args) w := enters_of Try.func26 (by kernel_rfl) rfl
--@@ (*lock.Table).Keys$1
theorem heldI_ge (l : List Wi) (tx : Int) : decide (0 ≤ heldI l tx) = (heldAt l tx).isSome := by
  unfold heldI heldAt idxI
  cases l.findIdx? fun x => decide (x.tx = tx) with
  | none => simp
  | some i => simp
set_option maxHeartbeats 1000000 in
theorem keysC_any (P b : Nat) (hv qv : Value) (r : Ro) (tx : Int) (W : World) (H : RowIs W P hv qv r) (hb : W.cell? ⟨b, 0, none⟩ = some (.int .i64 tx)) (hl : r.h.length < 1000000) :
    Calls Try.prog 33 (#[.pointer (some ⟨P, 0, none⟩)] ++ #[.pointer (some ⟨b, 0, none⟩)]) W fun e w' => e = .returned (.bool (heldAt r.h tx).isSome) ∧ Kept [] W w' := by
  have HH := hid (held_any P hv qv r tx W H (by omega))
  have HG := hid (heldI_ge r.h tx)
  clear H
  go_enter Try.func33, Try.ntmps33
  go_wp2_with (first
    | (go_at_call 27; refine HH.out.mono ?_; rintro e w2 ⟨rfl, hk2⟩))
  go_ret
  exact ⟨by rw [← HG.out]; rfl, hk2⟩
theorem keysCE : ∀ args w, (callFunc 33 args).run Try.prog w = .ok (.enter 33 args) w := enters_of Try.func33 (by kernel_rfl) rfl
--@@ (*lock.Table).Held
set_option maxHeartbeats 1000000 in
theorem heldT_any (A R M : Nat) (lim : Int) (rs : List (K4 × RR)) (ws : List (Int × K4)) (w : World) (H : TabIs w A R M lim rs ws) (hl : rs.length ≤ 100000) :
    Calls Try.prog 12 #[.pointer (some ⟨A, 0, none⟩)] w fun e w' => ∃ v, e = .returned v ∧ w'.ownsRow w.heap.size 32 4 v (tabT lim rs ws).heldT.length ((tabT lim rs ws).heldT.flatMap K4.f) ∧ Kept [] w w' := by
  have HW := hid (keysW_any A R M lim rs ws 26 #[] (fun r => decide (0 < r.h.length)) w H hl heldCE (fun W hk x hx => heldC_any x.2.P x.2.hv x.2.qv x.2.r W ((H.each x hx).kept hk (fun _ _ => by simp))))
  clear H
  go_enter Try.func12, Try.ntmps12
  go_wp2_with (first
    | (go_at_call 25; refine HW.out.mono ?_; rintro e w2 ⟨v, rfl, ho, hk2⟩))
  go_ret
  exact ⟨v, rfl, ho, hk2⟩
--@@ (*lock.Table).Keys
set_option maxHeartbeats 1000000 in
theorem keysT_any (A R M : Nat) (lim : Int) (rs : List (K4 × RR)) (ws : List (Int × K4)) (tx : Int) (w : World) (H : TabIs w A R M lim rs ws) (hl : rs.length ≤ 100000) (hl2 : (tabT lim rs ws).le 100000) :
    Calls Try.prog 16 #[.pointer (some ⟨A, 0, none⟩), .int .i64 tx] w fun e w' => ∃ v, e = .returned v ∧ w'.ownsRow w.heap.size 32 4 v ((tabT lim rs ws).keysT tx).length (((tabT lim rs ws).keysT tx).flatMap K4.f) ∧ Kept [] w w' := by
  have H1 := H.kept ((Kept.refl [] w).alloc (.cells #[.int .i64 tx] 3)) (fun _ _ => by simp)
  have HW := hid (keysW_any A R M lim rs ws 33 #[.pointer (some ⟨w.heap.size, 0, none⟩)] (fun r => (heldAt r.h tx).isSome) (w.alloc (.cells #[.int .i64 tx] 3)) H1 hl keysCE
    (fun W hk x hx => keysC_any x.2.P w.heap.size x.2.hv x.2.qv x.2.r tx W ((H1.each x hx).kept hk (fun _ _ => by simp)) (hk.cell (new_cell w [.int .i64 tx] 3 0 _ rfl) (by simp)) (by have := le_tab.1 hl2 x hx; omega)))
  clear H H1
  go_enter Try.func16, Try.ntmps16
  go_wp2_with (first
    | (go_at_call 25; refine HW.out.mono ?_; rintro e w2 ⟨v, rfl, ho, hk2⟩))
  go_ret
  exact ⟨v, rfl, ownsRow_base ho (by simp), ((Kept.refl [] w).alloc _).trans hk2 (fun x hx => by cases hx)⟩
--@@ end
end Go.Proofs.Ytiheoddlknbomaa
