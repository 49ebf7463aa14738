/- A wish waits. -/
import Derived.Test.YtiheoddlknbomaaLockIns
import Derived.Deep.DeepCutAuto
import Derived.Deep.CutBlock
set_option linter.all false
namespace Go.Proofs.Ytiheoddlknbomaa
open Go.RowKit Go.Shelf Go.Lib Go.Sort Go.Proofs
set_option linter.unusedVariables false
set_option linter.unusedSimpArgs false

theorem waitAt_le (q : List Wi) (w : Wi) : waitAt q w ≤ q.length := by
  unfold waitAt
  split
  · cases h : q.findIdx? fun x => !x.ri with
    | none => simp
    | some i =>
      rw [List.findIdx?_eq_some_iff_getElem] at h
      obtain ⟨hi, _⟩ := h
      simp; omega
  · exact Nat.le_refl _
theorem wrow_slice {T : TypeId} {w : World} {v : Value} {l : List Wi} (h : WRow T w v l) : ∃ a c, v = .slice a l.length c := by
  rcases h with ⟨h1, h2⟩ | ⟨g, off, cap, sz, h1, _⟩
  · exact ⟨none, 0, by rw [h1, h2]; rfl⟩
  · exact ⟨_, _, h1⟩
--@@ (*lock.row).wait
theorem wait_end {w w1 w2 : World} {P : Nat} {hv qv qv' : Value} {r : Ro} {q' : List Wi} (HR : RowIs w1 P hv qv r) (hK1 : Kept [] w w1) (hq5 : WRow 59 w2 qv' q') (hk2 : Kept qv.ownBlock.toList w1 w2)
    (hb2 : w2.heap[P]? = some (.cells #[hv, qv] 61 (0, 0))) (hs5 : ∀ b ∈ qv'.ownBlock.toList, b ∈ qv.ownBlock.toList ∨ w1.heap.size ≤ b) :
    (Ending.returned (.tuple #[]) : Ending) = .returned (.tuple #[]) ∧ ∃ qv'', RowIs (w2.setCell ⟨P, 1, none⟩ qv') P hv qv'' ⟨r.h, q'⟩ ∧ (∀ b ∈ rowBs P hv qv'', b ∈ rowBs P hv qv ∨ w.heap.size ≤ b) ∧ Kept (P :: qv.ownBlock.toList) w (w2.setCell ⟨P, 1, none⟩ qv') := by
  have hs := hK1.size
  have hlt := HR.lt
  have hnd := HR.nd
  have hPw := hlt P (by simp [rowBs])
  simp only [rowBs, List.nodup_cons, List.mem_append, not_or, List.nodup_append] at hnd
  have hqP : P ∉ qv'.ownBlock.toList := fun h => by
    rcases hs5 P h with h | h
    · exact hnd.1.2 h
    · omega
  have hhq : ∀ a ∈ hv.ownBlock.toList, a ∉ qv'.ownBlock.toList := fun a ha hb => by
    rcases hs5 a hb with h | h
    · exact hnd.2.2.2 a ha a h rfl
    · have := hlt a (by simp only [rowBs, List.mem_cons, List.mem_append]; exact .inr (.inl ha)); omega
  refine ⟨rfl, qv', ⟨setq hb2 _, ?_, ?_, ?_⟩, ?_, ?_⟩
  · refine own_kept (own_kept HR.h hk2 (fun y hy hx => hnd.2.2.2 y (by simpa using hy) y hx rfl)) ((Kept.refl [P] w2).setCell (p := ⟨P, 1, none⟩) (.inl (by simp)) qv') (fun y hy hx => ?_)
    simp at hx
    subst hx
    exact hnd.1.1 (by simpa using hy)
  · refine hq5.kept ((Kept.refl [P] w2).setCell (p := ⟨P, 1, none⟩) (.inl (by simp)) qv') (fun y hy hx => ?_)
    simp at hx
    subst hx
    exact hqP (by simpa using hy)
  · simp only [rowBs, List.nodup_cons, List.mem_append, not_or, List.nodup_append]
    exact ⟨⟨hnd.1.1, hqP⟩, hnd.2.1, by cases qv'.ownBlock <;> simp, fun a ha b hb e => hhq a ha (e ▸ hb)⟩
  · intro b hb
    simp only [rowBs, List.mem_cons, List.mem_append] at hb ⊢
    rcases hb with rfl | hb | hb
    · exact .inl (.inl rfl)
    · exact .inl (.inr (.inl hb))
    · rcases hs5 b hb with h | h
      · exact .inl (.inr (.inr h))
      · exact .inr (by omega)
  · exact Kept.setCell ((hK1.mono (T := P :: qv.ownBlock.toList) (fun x hx => by cases hx)).trans hk2 (fun y hy => .inl (List.mem_cons_of_mem _ hy))) (.inl (by simp)) _
theorem waitF {W : World} (x : Wi) :
    Calls Try.prog 53 (#[.agg x.f.toArray] ++ #[]) W fun e w' => e = .returned (.bool (!x.ri)) ∧ ∃ q os, w' = grow (W.drewN q) os := by
  obtain ⟨x1, x2, x3, x4⟩ := x
  simp only [Wi.f]
  go_enter Try.func53, Try.ntmps53
  go_wp2
  go_ret
  exact ⟨rfl, 0, #[.cells #[.int .i64 x1, .bool x2, .int .i64 x3, .bool x4] 59], by rw [← alloc_eq_grow]; rfl⟩
theorem waitE : ∀ args w, (callFunc 53 args).run Try.prog w = .ok (.enter 53 args) w := enters_of Try.func53 (by kernel_rfl) rfl
set_option maxHeartbeats 4000000 in
set_option maxRecDepth 100000 in
theorem wait_any (P : Nat) (hv qv : Value) (r : Ro) (x : Wi) (w : World) (H : RowIs w P hv qv r) (hl : r.q.length < 100000000) :
    Calls Try.prog 37 #[.pointer (some ⟨P, 0, none⟩), x.v] w fun e w' => e = .returned (.tuple #[]) ∧ ∃ qv', RowIs w' P hv qv' ⟨r.h, waitR r.q x⟩ ∧ (∀ b ∈ rowBs P hv qv', b ∈ rowBs P hv qv ∨ w.heap.size ≤ b) ∧ Kept (P :: qv.ownBlock.toList) w w' := by
  have hP := H.lt P (by simp [rowBs])
  have hne : w.heap.size ≠ P := by omega
  have HLT := hid H.lt
  have H1 := hid (H.kept ((Kept.refl [] w).alloc (.cells x.f.toArray 59)) (fun _ _ => by simp))
  have HI := hid (fun W (hk : Kept [] (w.alloc (.cells x.f.toArray 59)) W) => windex_any qv r.q W ((H1.out.kept hk (fun _ _ => by simp)).q) 53 #[] (fun y => !y.ri) waitE (fun _ _ y => waitF y) (by omega))
  have HX := hid (fun W (hk : Kept [] (w.alloc (.cells x.f.toArray 59)) W) j u h => hk.cell (new_cell w x.f 59 j u h) (by simp))
  have hat : waitAt r.q x = if x.ri = true then (r.q.findIdx? fun y => !y.ri).getD r.q.length else r.q.length := rfl
  have hid' : idxI (fun y => !y.ri) r.q = match r.q.findIdx? (fun y => !y.ri) with | none => -1 | some i => (i : Int) := rfl
  have HWL := hid (waitAt_le r.q x)
  obtain ⟨at', hat'⟩ : ∃ m, m = waitAt r.q x := ⟨_, rfl⟩
  have HWR := hid (show waitR r.q x = r.q.take at' ++ x :: r.q.drop at' by rw [hat']; rfl)
  rw [← hat'] at hat HWL
  rw [HWR.out]
  clear hat'
  obtain ⟨qa, qc, hqv⟩ : ∃ qa qc, qv = .slice qa r.q.length qc := by
    rcases H.q with ⟨h1, h2⟩ | ⟨g, off, cap, sz, h1, _⟩
    · exact ⟨none, 0, by rw [h1, h2]; rfl⟩
    · exact ⟨_, _, h1⟩
  subst hqv
  obtain ⟨c0, c1, f0, f1⟩ := H1.out.c0
  have hx0 := HX.out _ (Kept.refl [] _)
  obtain ⟨x1, x2, x3, x4⟩ := x
  simp only [Wi.v]
  dsimp only at hat
  simp only [Wi.f] at HI HX hx0 H1 c0 c1 f0 f1
  obtain ⟨w0, hw0⟩ : ∃ w0, w0 = w.alloc (.cells #[.int .i64 x1, .bool x2, .int .i64 x3, .bool x4] 59) := ⟨_, rfl⟩
  have HK0 := hid (show Kept [] w w0 by rw [hw0]; exact (Kept.refl [] w).alloc _)
  have HS0 := hid (show w0.heap.size = w.heap.size + 1 by rw [hw0]; simp)
  go_enter Try.func37, Try.ntmps37
  go_upto_if 11 with (fail)
  change Code.wp _ _ _ _ (w.alloc (.cells #[.int .i64 x1, .bool x2, .int .i64 x3, .bool x4] 59))
  rw [← hw0] at HI HX hx0 H1 c0 c1 f0 f1 ⊢
  clear hw0 H
  go_cut [4] (fun s4 wx => s4 = .int .i64 at' ∧ Aside (Kept [] w0 wx))
  case first =>
    cases x4 with
    | false =>
      rw [if_neg (by simp)] at hat
      subst hat
      go_wp2_with fail
      go_meet
      exact ⟨rfl, Kept.refl _ _⟩
    | true =>
      rw [if_pos rfl] at hat
      cases hf : r.q.findIdx? (fun y => !y.ri) with
      | none =>
        rw [hf] at hat hid'
        simp only [Option.getD_none] at hat
        subst hat
        dsimp only at hid'
        rw [hid'] at HI
        clear hid' hf
        go_wp2_with (first
          | (go_at_call 41; refine (HI.out _ (Kept.refl [] w0)).mono ?_; clear HI; rintro e w2 ⟨rfl, hk2⟩; have HR2 := hid (H1.out.kept hk2 (fun _ _ => by simp)); clear c0 c1 f0 f1; obtain ⟨c0, c1, f0, f1⟩ := HR2.out.c0; have HK2 := hid hk2; clear hk2))
        go_meet
        exact ⟨rfl, HK2.out⟩
      | some i =>
        rw [hf] at hat hid'
        simp only [Option.getD_some] at hat
        subst hat
        dsimp only at hid'
        rw [hid'] at HI
        clear hid' hf
        go_wp2_with (first
          | (go_at_call 41; refine (HI.out _ (Kept.refl [] w0)).mono ?_; clear HI; rintro e w2 ⟨rfl, hk2⟩; have HK2 := hid hk2; clear hk2))
        go_meet
        exact ⟨rfl, HK2.out⟩
  case rest =>
  obtain ⟨rfl, HKX⟩ := hcut
  clear HI c0 c1 f0 f1 hx0 hat hid'
  rename World => wx
  have HR := hid (H1.out.kept HKX.out (fun _ _ => by simp))
  obtain ⟨c0, c1, f0, f1⟩ := HR.out.c0
  have z0 := HX.out wx HKX.out 0 _ rfl
  have z1 := HX.out wx HKX.out 1 _ rfl
  have z2 := HX.out wx HKX.out 2 _ rfl
  have z3 := HX.out wx HKX.out 3 _ rfl
  have hxs := HKX.out.size
  have hs0 := HS0.out
  have hPw : P < wx.heap.size := by omega
  have hwx : w.heap.size < wx.heap.size := by omega
  have HPn := hid (show P ∉ (Value.slice qa r.q.length qc).ownBlock.toList from fun hx => by
    have := HR.out.nd
    simp only [rowBs, List.nodup_cons, List.mem_append] at this
    exact this.1 (.inr hx))
  have HINS := hid (wins_any (.slice qa r.q.length qc) r.q ⟨x1, x2, x3, x4⟩ wx.heap.size at' (wx.drew.alloc (.cells (Wi.f ⟨x1, x2, x3, x4⟩).toArray 59)) (HR.out.q.kept (((Kept.refl [] wx).drew).alloc _) (fun _ _ => by simp)) (heap_alloc_new wx.drew _) (fun hx => by have := HR.out.q.lt (by simpa using hx); omega) hl HWL.out)
  simp only [Wi.f] at HINS
  go_wp2_with fail
  go_region_law ((go_simp; go_at_call 54; refine HINS.out.mono ?_; rintro e w5 ⟨qv', rfl, hq5, hs5, hk5⟩; obtain ⟨qa', qc', hqq⟩ := wrow_slice hq5; subst hqq; have hk5' := Kept.trans (((Kept.refl (Value.slice qa r.q.length qc).ownBlock.toList wx).drew).alloc (.cells #[.int .i64 x1, .bool x2, .int .i64 x3, .bool x4] 59)) hk5 (fun x hx => .inl hx); have hb5 := (hk5'.block P hPw HPn.out).trans HR.out.blk; obtain ⟨c0', c1', f0', f1'⟩ := two_cells hb5))
  all_goals go_returns
  all_goals
    rw [show (r.q.take at' ++ (⟨x1, x2, x3, x4⟩ : Wi) :: r.q.drop at').length = min at' r.q.length + (r.q.length - at' + 1) by simp] at hq5
    exact wait_end HR.out (HK0.out.trans HKX.out (fun x hx => by cases hx)) hq5 hk5' hb5 (fun b hb => (hs5 b (by simpa [Value.ownBlock] using hb)).imp_right (fun h => by simp at h; omega))
--@@ end
end Go.Proofs.Ytiheoddlknbomaa
