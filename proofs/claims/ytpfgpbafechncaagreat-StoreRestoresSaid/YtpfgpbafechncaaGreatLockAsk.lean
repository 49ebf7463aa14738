/- A transaction wants a key. -/
import Derived.Test.YtpfgpbafechncaaGreatM4
set_option linter.all false
namespace Go.Proofs.YtpfgpbafechncaaGreat
open Go.RowKit Go.Shelf Go.Lib Go.Sort Go.Proofs
--@@ lock.Table
theorem row_end {w w3 w4 w5 : World} {A R M : Nat} {lim : Int} {rs rs3 : List (K4 × RR)} {ws3 : List (Int × K4)} {k : K4} {P : Nat} {hv qv hv' qv' : Value} {r3 r5 : Ro} {S : List Nat} (HT3 : TabIs w3 A R M lim rs3 ws3) (hg3 : aget k rs3 = some ⟨P, hv, qv, r3⟩)
    (hK34 : Kept [] w3 w4) (hR5 : RowIs w5 P hv' qv' r5) (hs5 : ∀ b ∈ rowBs P hv' qv', b ∈ rowBs P hv qv ∨ w4.heap.size ≤ b) (hK5 : Kept S w4 w5) (hS : ∀ b ∈ S, b ∈ rowBs P hv qv)
    (hB3 : ∀ b ∈ tabBs A R M rs3, b ∈ tabBs A R M rs ∨ w.heap.size ≤ b) (hK03 : Kept (tabBs A R M rs) w w3) :
    TabIs w5 A R M lim (aput k ⟨P, hv', qv', r5⟩ rs3) ws3 ∧ tabT lim (aput k ⟨P, hv', qv', r5⟩ rs3) ws3 = (tabT lim rs3 ws3).setRow k r5 ∧ Kept (tabBs A R M rs) w w5 ∧ (∀ b ∈ tabBs A R M (aput k ⟨P, hv', qv', r5⟩ rs3), b ∈ tabBs A R M rs ∨ w.heap.size ≤ b) := by
  have h4 := HT3.kept hK34 (fun _ _ => by simp)
  have h5 := hK5.mono hS
  refine ⟨h4.turn hg3 hR5 hs5 h5, ?_, ?_, ?_⟩
  · unfold tabT Ta.setRow
    dsimp only
    rw [← aput_map (fun x : RR => x.r) k ⟨P, hv', qv', r5⟩ rs3]
  · exact (hK03.trans hK34 (fun x hx => by cases hx)).trans h5 (fun x hx => hB3 x (bs_tab hg3 x hx))
  · intro b hb
    have hsz := hK03.size
    have hsz4 := hK34.size
    rcases tabBs_turn (w := w4) (A := A) (R := R) (M := M) (r' := ⟨P, hv', qv', r5⟩) hg3 HT3.kn hs5 b hb with h | h
    · exact hB3 b h
    · exact .inr (by omega)
--@@ (*lock.Table).Ask
theorem howO_three (o : Option RR) (tx : Int) : howO o tx = 0 ∨ howO o tx = 1 ∨ howO o tx = 2 := by
  unfold howO
  cases o with
  | none => exact .inl rfl
  | some x => have := how_bounds x.r.h tx; simp only []; omega
set_option maxHeartbeats 8000000 in
set_option maxRecDepth 100000 in
theorem ask_any (A R M : Nat) (lim : Int) (rs : List (K4 × RR)) (ws : List (Int × K4)) (tx : Int) (k : K4) (ex : Bool) (now : Int) (w : World) (H : TabIs w A R M lim rs ws) (hl : ∀ p ∈ rs, p.2.r.h.length + p.2.r.q.length < 1000000) :
    Calls Tryz.prog 37 #[.pointer (some ⟨A, 0, none⟩), .int .i64 tx, k.v, .bool ex, .int .i64 now] w fun e w' => ∃ rs' ws', e = .returned (.int .i64 ((tabT lim rs ws).ask tx k ex now).1) ∧ TabIs w' A R M lim rs' ws' ∧ tabT lim rs' ws' = ((tabT lim rs ws).ask tx k ex now).2 ∧ Kept (tabBs A R M rs) w w' ∧ (∀ b ∈ tabBs A R M rs', b ∈ tabBs A R M rs ∨ w.heap.size ≤ b) := by
  have hask : (tabT lim rs ws).ask tx k ex now = if tx < 1 ∨ tx > 1048576 ∨ now < 0 ∨ now > 1099511627776 then ((11 : Int), tabT lim rs ws) else
      if howO (aget k rs) tx = 2 ∨ (howO (aget k rs) tx = 1 ∧ ex = false) then ((0 : Int), tabT lim rs ws)
      else match aget tx ws with
        | some other => if other = k then ((17 : Int), tabT lim rs ws) else ((13 : Int), tabT lim rs ws)
        | none =>
          if mayR ((tabT lim rs ws).row k).h ⟨tx, ex, now, decide (howO (aget k rs) tx = 1)⟩ = true ∧ (((tabT lim rs ws).row k).q = [] ∨ decide (howO (aget k rs) tx = 1) = true) then ((0 : Int), ((tabT lim rs ws).need k).setRow k ⟨grantR ((tabT lim rs ws).row k).h ⟨tx, ex, now, decide (howO (aget k rs) tx = 1)⟩, ((tabT lim rs ws).row k).q⟩)
          else ((17 : Int), { ((tabT lim rs ws).need k).setRow k ⟨((tabT lim rs ws).row k).h, waitR ((tabT lim rs ws).row k).q ⟨tx, ex, now, decide (howO (aget k rs) tx = 1)⟩⟩ with waits := aput tx k ws }) := by
    unfold Ta.ask
    rw [howO_tab]
    rfl
  rw [hask]
  clear hask
  by_cases h1 : tx < 1
  · rw [if_pos (.inl h1)]
    obtain ⟨k1, k2, k3, k4⟩ := k
    simp only [K4.v]
    go_enter Tryz.func37, Tryz.ntmps37
    go_wp2_with fail
    go_returns
    exact ⟨rs, ws, rfl, H.kept ((Kept.refl [] w).alloc _) (fun _ _ => by simp), rfl, (Kept.refl _ w).alloc _, fun b hb => .inl hb⟩
  by_cases h2 : tx > 1048576
  · rw [if_pos (.inr (.inl h2))]
    have h1' : (1 : Int) ≤ tx := by omega
    clear h1
    obtain ⟨k1, k2, k3, k4⟩ := k
    simp only [K4.v]
    go_enter Tryz.func37, Tryz.ntmps37
    go_wp2_with fail
    go_returns
    exact ⟨rs, ws, rfl, H.kept ((Kept.refl [] w).alloc _) (fun _ _ => by simp), rfl, (Kept.refl _ w).alloc _, fun b hb => .inl hb⟩
  by_cases h3 : now < 0
  · rw [if_pos (.inr (.inr (.inl h3)))]
    have h1' : (1 : Int) ≤ tx := by omega
    have h2' : tx ≤ (1048576 : Int) := by omega
    clear h1 h2
    obtain ⟨k1, k2, k3, k4⟩ := k
    simp only [K4.v]
    go_enter Tryz.func37, Tryz.ntmps37
    go_wp2_with fail
    go_returns
    exact ⟨rs, ws, rfl, H.kept ((Kept.refl [] w).alloc _) (fun _ _ => by simp), rfl, (Kept.refl _ w).alloc _, fun b hb => .inl hb⟩
  by_cases h4 : now > 1099511627776
  · rw [if_pos (.inr (.inr (.inr h4)))]
    have h1' : (1 : Int) ≤ tx := by omega
    have h2' : tx ≤ (1048576 : Int) := by omega
    have h3' : (0 : Int) ≤ now := by omega
    clear h1 h2 h3
    obtain ⟨k1, k2, k3, k4⟩ := k
    simp only [K4.v]
    go_enter Tryz.func37, Tryz.ntmps37
    go_wp2_with fail
    go_returns
    exact ⟨rs, ws, rfl, H.kept ((Kept.refl [] w).alloc _) (fun _ _ => by simp), rfl, (Kept.refl _ w).alloc _, fun b hb => .inl hb⟩
  rw [if_neg (by omega)]
  have h1' : (1 : Int) ≤ tx := by omega
  have h2' : tx ≤ (1048576 : Int) := by omega
  have h3' : (0 : Int) ≤ now := by omega
  have h4' : now ≤ (1099511627776 : Int) := by omega
  clear h1 h2 h3 h4
  have hA := H.lt A (by simp [tabBs])
  have hne : w.heap.size ≠ A := by omega
  have HLT := hid H.lt
  have H1 := hid (H.kept ((Kept.refl [] w).alloc (.cells k.f.toArray 33)) (fun _ _ => by simp))
  have HH := hid (holds_any A R M lim rs ws tx k (w.alloc (.cells k.f.toArray 33)) H1.out (fun p hp => by have := hl p hp; omega))
  have HX := hid (fun S W (hk : Kept S (w.alloc (.cells k.f.toArray 33)) W) (hS : w.heap.size ∉ S) j u h => hk.cell (new_cell w k.f 33 j u h) hS)
  have HW := hid ((Kept.refl (tabBs A R M rs) w).alloc (.cells k.f.toArray 33))
  have hq0 := HX.out [] _ (Kept.refl [] _) (by simp)
  have HKV := hid (rfl : k.v = k.v)
  clear H HKV
  by_cases hc : howO (aget k rs) tx = 2 ∨ (howO (aget k rs) tx = 1 ∧ ex = false)
  · rw [if_pos hc]
    have h12 : (howO (aget k rs) tx = 2) ∨ (howO (aget k rs) tx = 1 ∧ ex = false) := hc
    obtain ⟨hw, hhw⟩ : ∃ hw, hw = howO (aget k rs) tx := ⟨_, rfl⟩
    rw [← hhw] at HH h12
    clear hc hhw
    obtain ⟨k1, k2, k3, k4⟩ := k
    simp only [K4.f] at hq0 H1 HX HW HH
    simp only [K4.v] at HH ⊢
    have q0 := hq0 0 _ rfl
    have q1 := hq0 1 _ rfl
    have q2 := hq0 2 _ rfl
    have q3 := hq0 3 _ rfl
    clear hq0
    rcases h12 with rfl | ⟨rfl, rfl⟩
    · go_enter Tryz.func37, Tryz.ntmps37
      go_wp2_with (go_at_call 68; refine (HH.out).mono ?_; clear HH; rintro e w2 ⟨rfl, hk2⟩)
      go_returns
      exact ⟨rs, ws, rfl, H1.out.kept hk2 (fun _ _ => by simp), rfl, HW.out.trans hk2 (fun x hx => by cases hx), fun b hb => .inl hb⟩
    · go_enter Tryz.func37, Tryz.ntmps37
      go_wp2_with (go_at_call 68; refine (HH.out).mono ?_; clear HH; rintro e w2 ⟨rfl, hk2⟩)
      go_returns
      exact ⟨rs, ws, rfl, H1.out.kept hk2 (fun _ _ => by simp), rfl, HW.out.trans hk2 (fun x hx => by cases hx), fun b hb => .inl hb⟩
  rw [if_neg hc]
  obtain ⟨hw, hhw⟩ : ∃ hw, hw = howO (aget k rs) tx := ⟨_, rfl⟩
  have h3w := howO_three (aget k rs) tx
  rw [← hhw] at HH hc h3w ⊢
  have HHW := hid hhw
  clear hhw
  have hcase : hw = 0 ∨ (hw = 1 ∧ ex = true) := by
    rcases h3w with h | h | h
    · exact .inl h
    · refine .inr ⟨h, ?_⟩
      cases ex with
      | true => rfl
      | false => exact absurd (.inr ⟨h, rfl⟩) hc
    · exact absurd (.inl h) hc
  clear hc h3w
  cases hws : aget tx ws with
  | some other =>
    dsimp only
    obtain ⟨k1, k2, k3, k4⟩ := k
    obtain ⟨o1, o2, o3, o4⟩ := other
    simp only [K4.f] at hq0 H1 HX HW HH
    simp only [K4.v] at HH ⊢
    have q0 := hq0 0 _ rfl
    have q1 := hq0 1 _ rfl
    have q2 := hq0 2 _ rfl
    have q3 := hq0 3 _ rfl
    clear hq0
    have hq := fun w => eqK w ⟨o1, o2, o3, o4⟩ ⟨k1, k2, k3, k4⟩
    simp only [K4.v] at hq
    by_cases hok : (⟨o1, o2, o3, o4⟩ : K4) = ⟨k1, k2, k3, k4⟩
    · rw [if_pos hok]
      rw [decide_eq_true hok] at hq
      clear hok
      rcases hcase with rfl | ⟨rfl, rfl⟩
      all_goals
        go_enter Tryz.func37, Tryz.ntmps37
        go_wp2_with (go_at_call 68; go_loud (refine (HH.out).mono ?_; clear HH; rintro e w2 ⟨rfl, hk2⟩; have HK2 := hid hk2; have HT2 := hid (H1.out.kept hk2 (fun _ _ => by simp)); have hL := HT2.out.lookw tx; rw [hws] at hL; simp only [keyO, Option.getD_none, Option.getD_some, Option.isSome_none, Option.isSome_some, K4.v, show (0 : UInt8).toNat = 0 from rfl, Int.natCast_zero] at hL; obtain ⟨a0, a1, a2⟩ := HT2.out.cells; have q0 := HX.out [] w2 hk2 (by simp) 0 _ rfl; have q1 := HX.out [] w2 hk2 (by simp) 1 _ rfl; have q2 := HX.out [] w2 hk2 (by simp) 2 _ rfl; have q3 := HX.out [] w2 hk2 (by simp) 3 _ rfl; have hne2 : w2.heap.size ≠ w.heap.size := (by have := hk2.size; simp at this; omega); clear hk2; have qa0 := (fun o => ((Kept.refl [] w2).alloc o).cell q0 (by simp)); have qa1 := (fun o => ((Kept.refl [] w2).alloc o).cell q1 (by simp)); have qa2 := (fun o => ((Kept.refl [] w2).alloc o).cell q2 (by simp)); have qa3 := (fun o => ((Kept.refl [] w2).alloc o).cell q3 (by simp)); clear q0 q1 q2 q3))
        go_returns
        exact ⟨rs, ws, rfl, HT2.out.kept ((Kept.refl [] w2).alloc _) (fun _ _ => by simp), rfl, (HW.out.trans HK2.out (fun x hx => by cases hx)).alloc _, fun b hb => .inl hb⟩
    · rw [if_neg hok]
      rw [decide_eq_false hok] at hq
      clear hok
      rcases hcase with rfl | ⟨rfl, rfl⟩
      all_goals
        go_enter Tryz.func37, Tryz.ntmps37
        go_wp2_with (go_at_call 68; go_loud (refine (HH.out).mono ?_; clear HH; rintro e w2 ⟨rfl, hk2⟩; have HK2 := hid hk2; have HT2 := hid (H1.out.kept hk2 (fun _ _ => by simp)); have hL := HT2.out.lookw tx; rw [hws] at hL; simp only [keyO, Option.getD_none, Option.getD_some, Option.isSome_none, Option.isSome_some, K4.v, show (0 : UInt8).toNat = 0 from rfl, Int.natCast_zero] at hL; obtain ⟨a0, a1, a2⟩ := HT2.out.cells; have q0 := HX.out [] w2 hk2 (by simp) 0 _ rfl; have q1 := HX.out [] w2 hk2 (by simp) 1 _ rfl; have q2 := HX.out [] w2 hk2 (by simp) 2 _ rfl; have q3 := HX.out [] w2 hk2 (by simp) 3 _ rfl; have hne2 : w2.heap.size ≠ w.heap.size := (by have := hk2.size; simp at this; omega); clear hk2; have qa0 := (fun o => ((Kept.refl [] w2).alloc o).cell q0 (by simp)); have qa1 := (fun o => ((Kept.refl [] w2).alloc o).cell q1 (by simp)); have qa2 := (fun o => ((Kept.refl [] w2).alloc o).cell q2 (by simp)); have qa3 := (fun o => ((Kept.refl [] w2).alloc o).cell q3 (by simp)); clear q0 q1 q2 q3))
        go_returns
        exact ⟨rs, ws, rfl, HT2.out.kept ((Kept.refl [] w2).alloc _) (fun _ _ => by simp), rfl, (HW.out.trans HK2.out (fun x hx => by cases hx)).alloc _, fun b hb => .inl hb⟩
  | none =>
    dsimp only
    obtain ⟨r0, hr0⟩ : ∃ r0, r0 = (tabT lim rs ws).row k := ⟨_, rfl⟩
    have hln := row_len (lim := lim) (ws := ws) (k := k) hl
    have HRW := hid (fun W (H : TabIs W A R M lim rs ws) => row_any A R M lim rs ws k W H)
    simp only [← hr0] at HRW
    rw [← hr0] at hln ⊢
    clear hr0
    obtain ⟨h0, l0⟩ := r0
    dsimp only at hln ⊢
    obtain ⟨k1, k2, k3, k4⟩ := k
    simp only [K4.f] at hq0 H1 HX HW HH
    simp only [K4.v] at HH HRW ⊢
    have q0 := hq0 0 _ rfl
    have q1 := hq0 1 _ rfl
    have q2 := hq0 2 _ rfl
    have q3 := hq0 3 _ rfl
    clear hq0
    rcases hcase with rfl | ⟨rfl, rfl⟩
    · simp only [show decide ((0 : Int) = 1) = false from rfl]
      by_cases hm : mayR h0 ⟨tx, ex, now, false⟩ = true
      · have HM := hid hm
        clear hm
        cases hl0 : l0 with
        | nil =>
          rw [if_pos ⟨HM.out, .inl rfl⟩]
          rw [hl0] at hln HRW
          clear hl0
          go_enter Tryz.func37, Tryz.ntmps37
          go_wp2_with (first | (go_at_call 68; go_loud (refine (HH.out).mono ?_; clear HH; rintro e w2 ⟨rfl, hk2⟩; have HK2 := hid hk2; have HT2 := hid (H1.out.kept hk2 (fun _ _ => by simp)); have hL := HT2.out.lookw tx; rw [hws] at hL; simp only [keyO, Option.getD_none, Option.getD_some, Option.isSome_none, Option.isSome_some, K4.v, show (0 : UInt8).toNat = 0 from rfl, Int.natCast_zero] at hL; obtain ⟨a0, a1, a2⟩ := HT2.out.cells; have q0 := HX.out [] w2 hk2 (by simp) 0 _ rfl; have q1 := HX.out [] w2 hk2 (by simp) 1 _ rfl; have q2 := HX.out [] w2 hk2 (by simp) 2 _ rfl; have q3 := HX.out [] w2 hk2 (by simp) 3 _ rfl; have hne2 : w2.heap.size ≠ w.heap.size := (by have := hk2.size; simp at this; omega); clear hk2; have qa0 := (fun o => ((Kept.refl [] w2).alloc o).cell q0 (by simp)); have qa1 := (fun o => ((Kept.refl [] w2).alloc o).cell q1 (by simp)); have qa2 := (fun o => ((Kept.refl [] w2).alloc o).cell q2 (by simp)); have qa3 := (fun o => ((Kept.refl [] w2).alloc o).cell q3 (by simp)); clear q0 q1 q2 q3)) | (go_at_call 69; go_loud (refine (HRW.out _ (HT2.out.kept ((Kept.refl [] w2).alloc _) (fun _ _ => by simp))).mono ?_; clear HRW; rintro e w3 ⟨rs3, ⟨P, hv, qv, r3⟩, rfl, hT3, hg3, hn3, hr3, hk3, hb3⟩; dsimp only at hr3; subst hr3; have HT3 := hid hT3; have HG3 := hid hg3; have HN3 := hid hn3; have HR3 := hid (show RowIs w3 P hv qv ⟨h0, []⟩ from hT3.at' hg3); have hsl := wrow_slice HR3.out.q; dsimp only at hsl; rw [List.length_nil] at hsl; obtain ⟨qa, qc, hqv⟩ := hsl; subst hqv; have HK3 := hid (((HW.out.trans HK2.out (fun x hx => by cases hx)).alloc (.cells #[.int .u8 0, .int .u8 0, .int .u8 0, .int .u8 0] 33)).trans hk3 (fun x hx => .inl (by simp at hx; subst hx; simp [tabBs]))); have HB3 := hid (show ∀ b ∈ tabBs A R M rs3, b ∈ tabBs A R M rs ∨ w.heap.size ≤ b from fun b hb => (hb3 b hb).imp_right (fun h => by have := HK2.out.size; simp at this h; omega)); have HNE3 := hid (show ∀ b ∈ tabBs A R M rs3, b ≠ w.heap.size from fun b hb e => (hb3 b hb).elim (fun h => by have := HLT.out b h; omega) (fun h => by have := HK2.out.size; simp at this h; omega)); have HS3 := hid (show w.heap.size < w3.heap.size from by have := HK2.out.size; have h2 := hk3.size; simp at this h2; omega); have hq3 := HX.out [R] w3 (((Kept.refl [R] _).trans (HK2.out.mono (fun x hx => by cases hx)) (fun x hx => .inl hx)).alloc (.cells #[.int .u8 0, .int .u8 0, .int .u8 0, .int .u8 0] 33) |>.trans hk3 (fun x hx => .inl hx)) (by simp; exact fun e => by have := HLT.out R (by simp [tabBs]); omega); have q0 := hq3 0 _ rfl; have q1 := hq3 1 _ rfl; have q2 := hq3 2 _ rfl; have q3 := hq3 3 _ rfl; clear qa0 qa1 qa2 qa3 hT3 hg3 hn3 hk3 hb3)) | (go_at_call 70; go_loud (refine (may_any P hv (.slice qa 0 qc) ⟨h0, []⟩ ⟨tx, ex, now, false⟩ (w3.alloc (.cells (Wi.f ⟨tx, ex, now, false⟩).toArray 129)) (HR3.out.kept ((Kept.refl [] w3).alloc _) (fun _ _ => by simp)) (by dsimp only; omega)).mono ?_; rintro e w4 ⟨rfl, hk4⟩; dsimp only; rw [HM.out]; have HK4 := hid (((Kept.refl [] w3).alloc (.cells (Wi.f ⟨tx, ex, now, false⟩).toArray 129)).trans hk4 (fun x hx => by cases hx)); have HZ := hid (fun j u h => hk4.cell (new_cell w3 [.int .i64 tx, .bool ex, .int .i64 now, .bool false] 129 j u h) (by simp)); have z0 := HZ.out 0 _ rfl; have z1 := HZ.out 1 _ rfl; have z2 := HZ.out 2 _ rfl; have z3 := HZ.out 3 _ rfl; have HR4 := hid (HR3.out.kept HK4.out (fun _ _ => by simp)); obtain ⟨c0, c1, f0, f1⟩ := HR4.out.c0; have hwne : w4.heap.size ≠ w3.heap.size := (by have := hk4.size; simp at this; omega); have HQ4 := hid (fun j u h => HK4.out.cell (hq3 j u h) (by simp)); clear hk4 hq3)) | (go_at_call 71; refine (grant_any P hv (.slice qa 0 qc) ⟨h0, []⟩ ⟨tx, ex, now, false⟩ w4 HR4.out (by dsimp only; omega)).mono ?_; rintro e w5 ⟨rfl, hv', hR5, hs5, hK5⟩))
          go_returns
          obtain ⟨e1, e2, e3, e4⟩ := row_end HT3.out HG3.out HK4.out hR5 hs5 hK5 (fun b hb => by simp only [rowBs, List.mem_cons, List.mem_append] at hb ⊢; exact hb.elim (fun h => .inl h) (fun h => .inr (.inl h))) HB3.out HK3.out
          exact ⟨_, ws, rfl, e1, by rw [e2, HN3.out]; try simp, e3, e4⟩
        | cons y ys =>
          rw [if_neg (by simp)]
          rw [hl0] at hln HRW
          obtain ⟨ql, hql⟩ : ∃ n, n = (y :: ys).length := ⟨_, rfl⟩
          have hqz : ((ql : Int) == 0) = false := by rw [beq_eq_false_iff_ne]; simp at hql; omega
          have HQL := hid hql.symm
          clear hql hl0
          go_enter Tryz.func37, Tryz.ntmps37
          go_wp2_with (first | (go_at_call 68; go_loud (refine (HH.out).mono ?_; clear HH; rintro e w2 ⟨rfl, hk2⟩; have HK2 := hid hk2; have HT2 := hid (H1.out.kept hk2 (fun _ _ => by simp)); have hL := HT2.out.lookw tx; rw [hws] at hL; simp only [keyO, Option.getD_none, Option.getD_some, Option.isSome_none, Option.isSome_some, K4.v, show (0 : UInt8).toNat = 0 from rfl, Int.natCast_zero] at hL; obtain ⟨a0, a1, a2⟩ := HT2.out.cells; have q0 := HX.out [] w2 hk2 (by simp) 0 _ rfl; have q1 := HX.out [] w2 hk2 (by simp) 1 _ rfl; have q2 := HX.out [] w2 hk2 (by simp) 2 _ rfl; have q3 := HX.out [] w2 hk2 (by simp) 3 _ rfl; have hne2 : w2.heap.size ≠ w.heap.size := (by have := hk2.size; simp at this; omega); clear hk2; have qa0 := (fun o => ((Kept.refl [] w2).alloc o).cell q0 (by simp)); have qa1 := (fun o => ((Kept.refl [] w2).alloc o).cell q1 (by simp)); have qa2 := (fun o => ((Kept.refl [] w2).alloc o).cell q2 (by simp)); have qa3 := (fun o => ((Kept.refl [] w2).alloc o).cell q3 (by simp)); clear q0 q1 q2 q3)) | (go_at_call 69; go_loud (refine (HRW.out _ (HT2.out.kept ((Kept.refl [] w2).alloc _) (fun _ _ => by simp))).mono ?_; clear HRW; rintro e w3 ⟨rs3, ⟨P, hv, qv, r3⟩, rfl, hT3, hg3, hn3, hr3, hk3, hb3⟩; dsimp only at hr3; subst hr3; have HT3 := hid hT3; have HG3 := hid hg3; have HN3 := hid hn3; have HR3 := hid (show RowIs w3 P hv qv ⟨h0, (y :: ys)⟩ from hT3.at' hg3); have hsl := wrow_slice HR3.out.q; dsimp only at hsl; rw [HQL.out] at hsl; obtain ⟨qa, qc, hqv⟩ := hsl; subst hqv; have HK3 := hid (((HW.out.trans HK2.out (fun x hx => by cases hx)).alloc (.cells #[.int .u8 0, .int .u8 0, .int .u8 0, .int .u8 0] 33)).trans hk3 (fun x hx => .inl (by simp at hx; subst hx; simp [tabBs]))); have HB3 := hid (show ∀ b ∈ tabBs A R M rs3, b ∈ tabBs A R M rs ∨ w.heap.size ≤ b from fun b hb => (hb3 b hb).imp_right (fun h => by have := HK2.out.size; simp at this h; omega)); have HNE3 := hid (show ∀ b ∈ tabBs A R M rs3, b ≠ w.heap.size from fun b hb e => (hb3 b hb).elim (fun h => by have := HLT.out b h; omega) (fun h => by have := HK2.out.size; simp at this h; omega)); have HS3 := hid (show w.heap.size < w3.heap.size from by have := HK2.out.size; have h2 := hk3.size; simp at this h2; omega); have hq3 := HX.out [R] w3 (((Kept.refl [R] _).trans (HK2.out.mono (fun x hx => by cases hx)) (fun x hx => .inl hx)).alloc (.cells #[.int .u8 0, .int .u8 0, .int .u8 0, .int .u8 0] 33) |>.trans hk3 (fun x hx => .inl hx)) (by simp; exact fun e => by have := HLT.out R (by simp [tabBs]); omega); have q0 := hq3 0 _ rfl; have q1 := hq3 1 _ rfl; have q2 := hq3 2 _ rfl; have q3 := hq3 3 _ rfl; clear qa0 qa1 qa2 qa3 hT3 hg3 hn3 hk3 hb3)) | (go_at_call 70; go_loud (refine (may_any P hv (.slice qa ql qc) ⟨h0, (y :: ys)⟩ ⟨tx, ex, now, false⟩ (w3.alloc (.cells (Wi.f ⟨tx, ex, now, false⟩).toArray 129)) (HR3.out.kept ((Kept.refl [] w3).alloc _) (fun _ _ => by simp)) (by dsimp only; omega)).mono ?_; rintro e w4 ⟨rfl, hk4⟩; dsimp only; rw [HM.out]; have HK4 := hid (((Kept.refl [] w3).alloc (.cells (Wi.f ⟨tx, ex, now, false⟩).toArray 129)).trans hk4 (fun x hx => by cases hx)); have HZ := hid (fun j u h => hk4.cell (new_cell w3 [.int .i64 tx, .bool ex, .int .i64 now, .bool false] 129 j u h) (by simp)); have z0 := HZ.out 0 _ rfl; have z1 := HZ.out 1 _ rfl; have z2 := HZ.out 2 _ rfl; have z3 := HZ.out 3 _ rfl; have HR4 := hid (HR3.out.kept HK4.out (fun _ _ => by simp)); obtain ⟨c0, c1, f0, f1⟩ := HR4.out.c0; have hwne : w4.heap.size ≠ w3.heap.size := (by have := hk4.size; simp at this; omega); have HQ4 := hid (fun j u h => HK4.out.cell (hq3 j u h) (by simp)); clear hk4 hq3)) | (go_at_call 72; refine Here.mk ?_))
          refine Here.of ?_
          refine (wait_any P hv (.slice qa ql qc) ⟨h0, (y :: ys)⟩ ⟨tx, ex, now, false⟩ w4 HR4.out (by dsimp only; omega)).mono ?_
          rintro e w5 ⟨rfl, qv', hR5, hs5, hK5⟩
          have HS5 := hid (show ∀ b ∈ P :: (Value.slice qa ql qc).ownBlock.toList, b ∈ rowBs P hv (.slice qa ql qc) from fun b hb => by simp only [rowBs, List.mem_cons, List.mem_append] at hb ⊢; exact hb.elim (fun h => .inl h) (fun h => .inr (.inr h)))
          have HE := hid (row_end HT3.out HG3.out HK4.out hR5 hs5 hK5 HS5.out HB3.out HK3.out)
          have hq5 := (fun j u h => hK5.cell (HQ4.out j u h) (fun hx => HNE3.out _ (bs_tab HG3.out _ (HS5.out _ hx)) rfl))
          clear q0 q1 q2 q3 z0 z1 z2 z3 c0 c1 f0 f1 a0 a1 a2
          have q0 := hq5 0 _ rfl
          have q1 := hq5 1 _ rfl
          have q2 := hq5 2 _ rfl
          have q3 := hq5 3 _ rfl
          obtain ⟨a0, a1, a2⟩ := HE.out.1.cells
          clear hR5 hs5 hK5 hq5 hL
          go_wp2_with fail
          refine region_tail 6 (by kernel_rfl) (by kernel_rfl) ?_
          simp only [List.take_succ_cons, List.take_zero, List.drop_succ_cons, List.drop_zero]
          repeat still_step
          refine wpStill_nil ?_
          go_wp2_with (at_mapUpdate; refine wpList_mapUpdate_is rfl _ _ _ 113 rfl 3 33 (KeyOK.int (k := .i64) Tryz.underlying3) Tryz.underlying113 rfl tx rfl (K4.v ⟨k1, k2, k3, k4⟩) rfl HE.out.1.waits.drew ?_; intro w6 hM6 hK6)
          go_returns
          obtain ⟨e1, e2, e3, e4⟩ := HE.out
          rw [aput_map K4.v] at hM6
          exact ⟨_, aput tx ⟨k1, k2, k3, k4⟩ ws, rfl, (e1.kept ((Kept.refl [] w5).drew) (fun _ _ => by simp)).setw hM6 (tput_nodup _ _ _ e1.wn) hK6, by rw [show ∀ l, tabT lim l (aput tx ⟨k1, k2, k3, k4⟩ ws) = { tabT lim l ws with waits := aput tx ⟨k1, k2, k3, k4⟩ ws } from fun _ => rfl, e2, HN3.out]; try simp, (e3.drew).trans hK6 (fun x hx => .inl (by simp at hx; subst hx; simp [tabBs])), e4⟩
      · rw [if_neg (by simp [hm])]
        have HM := hid (show mayR h0 ⟨tx, ex, now, false⟩ = false by simpa using hm)
        clear hm
        go_enter Tryz.func37, Tryz.ntmps37
        go_wp2_with (first | (go_at_call 68; go_loud (refine (HH.out).mono ?_; clear HH; rintro e w2 ⟨rfl, hk2⟩; have HK2 := hid hk2; have HT2 := hid (H1.out.kept hk2 (fun _ _ => by simp)); have hL := HT2.out.lookw tx; rw [hws] at hL; simp only [keyO, Option.getD_none, Option.getD_some, Option.isSome_none, Option.isSome_some, K4.v, show (0 : UInt8).toNat = 0 from rfl, Int.natCast_zero] at hL; obtain ⟨a0, a1, a2⟩ := HT2.out.cells; have q0 := HX.out [] w2 hk2 (by simp) 0 _ rfl; have q1 := HX.out [] w2 hk2 (by simp) 1 _ rfl; have q2 := HX.out [] w2 hk2 (by simp) 2 _ rfl; have q3 := HX.out [] w2 hk2 (by simp) 3 _ rfl; have hne2 : w2.heap.size ≠ w.heap.size := (by have := hk2.size; simp at this; omega); clear hk2; have qa0 := (fun o => ((Kept.refl [] w2).alloc o).cell q0 (by simp)); have qa1 := (fun o => ((Kept.refl [] w2).alloc o).cell q1 (by simp)); have qa2 := (fun o => ((Kept.refl [] w2).alloc o).cell q2 (by simp)); have qa3 := (fun o => ((Kept.refl [] w2).alloc o).cell q3 (by simp)); clear q0 q1 q2 q3)) | (go_at_call 69; go_loud (refine (HRW.out _ (HT2.out.kept ((Kept.refl [] w2).alloc _) (fun _ _ => by simp))).mono ?_; clear HRW; rintro e w3 ⟨rs3, ⟨P, hv, qv, r3⟩, rfl, hT3, hg3, hn3, hr3, hk3, hb3⟩; dsimp only at hr3; subst hr3; have HT3 := hid hT3; have HG3 := hid hg3; have HN3 := hid hn3; have HR3 := hid (show RowIs w3 P hv qv ⟨h0, l0⟩ from hT3.at' hg3); have hsl := wrow_slice HR3.out.q; dsimp only at hsl;  obtain ⟨qa, qc, hqv⟩ := hsl; subst hqv; have HK3 := hid (((HW.out.trans HK2.out (fun x hx => by cases hx)).alloc (.cells #[.int .u8 0, .int .u8 0, .int .u8 0, .int .u8 0] 33)).trans hk3 (fun x hx => .inl (by simp at hx; subst hx; simp [tabBs]))); have HB3 := hid (show ∀ b ∈ tabBs A R M rs3, b ∈ tabBs A R M rs ∨ w.heap.size ≤ b from fun b hb => (hb3 b hb).imp_right (fun h => by have := HK2.out.size; simp at this h; omega)); have HNE3 := hid (show ∀ b ∈ tabBs A R M rs3, b ≠ w.heap.size from fun b hb e => (hb3 b hb).elim (fun h => by have := HLT.out b h; omega) (fun h => by have := HK2.out.size; simp at this h; omega)); have HS3 := hid (show w.heap.size < w3.heap.size from by have := HK2.out.size; have h2 := hk3.size; simp at this h2; omega); have hq3 := HX.out [R] w3 (((Kept.refl [R] _).trans (HK2.out.mono (fun x hx => by cases hx)) (fun x hx => .inl hx)).alloc (.cells #[.int .u8 0, .int .u8 0, .int .u8 0, .int .u8 0] 33) |>.trans hk3 (fun x hx => .inl hx)) (by simp; exact fun e => by have := HLT.out R (by simp [tabBs]); omega); have q0 := hq3 0 _ rfl; have q1 := hq3 1 _ rfl; have q2 := hq3 2 _ rfl; have q3 := hq3 3 _ rfl; clear qa0 qa1 qa2 qa3 hT3 hg3 hn3 hk3 hb3)) | (go_at_call 70; go_loud (refine (may_any P hv (.slice qa l0.length qc) ⟨h0, l0⟩ ⟨tx, ex, now, false⟩ (w3.alloc (.cells (Wi.f ⟨tx, ex, now, false⟩).toArray 129)) (HR3.out.kept ((Kept.refl [] w3).alloc _) (fun _ _ => by simp)) (by dsimp only; omega)).mono ?_; rintro e w4 ⟨rfl, hk4⟩; dsimp only; rw [HM.out]; have HK4 := hid (((Kept.refl [] w3).alloc (.cells (Wi.f ⟨tx, ex, now, false⟩).toArray 129)).trans hk4 (fun x hx => by cases hx)); have HZ := hid (fun j u h => hk4.cell (new_cell w3 [.int .i64 tx, .bool ex, .int .i64 now, .bool false] 129 j u h) (by simp)); have z0 := HZ.out 0 _ rfl; have z1 := HZ.out 1 _ rfl; have z2 := HZ.out 2 _ rfl; have z3 := HZ.out 3 _ rfl; have HR4 := hid (HR3.out.kept HK4.out (fun _ _ => by simp)); obtain ⟨c0, c1, f0, f1⟩ := HR4.out.c0; have hwne : w4.heap.size ≠ w3.heap.size := (by have := hk4.size; simp at this; omega); have HQ4 := hid (fun j u h => HK4.out.cell (hq3 j u h) (by simp)); clear hk4 hq3)) | (go_at_call 72; refine Here.mk ?_))
        refine Here.of ?_
        refine (wait_any P hv (.slice qa l0.length qc) ⟨h0, l0⟩ ⟨tx, ex, now, false⟩ w4 HR4.out (by dsimp only; omega)).mono ?_
        rintro e w5 ⟨rfl, qv', hR5, hs5, hK5⟩
        have HS5 := hid (show ∀ b ∈ P :: (Value.slice qa l0.length qc).ownBlock.toList, b ∈ rowBs P hv (.slice qa l0.length qc) from fun b hb => by simp only [rowBs, List.mem_cons, List.mem_append] at hb ⊢; exact hb.elim (fun h => .inl h) (fun h => .inr (.inr h)))
        have HE := hid (row_end HT3.out HG3.out HK4.out hR5 hs5 hK5 HS5.out HB3.out HK3.out)
        have hq5 := (fun j u h => hK5.cell (HQ4.out j u h) (fun hx => HNE3.out _ (bs_tab HG3.out _ (HS5.out _ hx)) rfl))
        clear q0 q1 q2 q3 z0 z1 z2 z3 c0 c1 f0 f1 a0 a1 a2
        have q0 := hq5 0 _ rfl
        have q1 := hq5 1 _ rfl
        have q2 := hq5 2 _ rfl
        have q3 := hq5 3 _ rfl
        obtain ⟨a0, a1, a2⟩ := HE.out.1.cells
        clear hR5 hs5 hK5 hq5 hL
        go_wp2_with fail
        refine region_tail 6 (by kernel_rfl) (by kernel_rfl) ?_
        simp only [List.take_succ_cons, List.take_zero, List.drop_succ_cons, List.drop_zero]
        repeat still_step
        refine wpStill_nil ?_
        go_wp2_with (at_mapUpdate; refine wpList_mapUpdate_is rfl _ _ _ 113 rfl 3 33 (KeyOK.int (k := .i64) Tryz.underlying3) Tryz.underlying113 rfl tx rfl (K4.v ⟨k1, k2, k3, k4⟩) rfl HE.out.1.waits.drew ?_; intro w6 hM6 hK6)
        go_returns
        obtain ⟨e1, e2, e3, e4⟩ := HE.out
        rw [aput_map K4.v] at hM6
        exact ⟨_, aput tx ⟨k1, k2, k3, k4⟩ ws, rfl, (e1.kept ((Kept.refl [] w5).drew) (fun _ _ => by simp)).setw hM6 (tput_nodup _ _ _ e1.wn) hK6, by rw [show ∀ l, tabT lim l (aput tx ⟨k1, k2, k3, k4⟩ ws) = { tabT lim l ws with waits := aput tx ⟨k1, k2, k3, k4⟩ ws } from fun _ => rfl, e2, HN3.out]; try simp, (e3.drew).trans hK6 (fun x hx => .inl (by simp at hx; subst hx; simp [tabBs])), e4⟩
    · simp only [show decide ((1 : Int) = 1) = true from rfl]
      by_cases hm : mayR h0 ⟨tx, true, now, true⟩ = true
      · rw [if_pos ⟨hm, .inr rfl⟩]
        have HM := hid hm
        clear hm
        cases hl0 : l0 with
        | nil =>
          rw [hl0] at hln HRW
          clear hl0
          go_enter Tryz.func37, Tryz.ntmps37
          go_wp2_with (first | (go_at_call 68; go_loud (refine (HH.out).mono ?_; clear HH; rintro e w2 ⟨rfl, hk2⟩; have HK2 := hid hk2; have HT2 := hid (H1.out.kept hk2 (fun _ _ => by simp)); have hL := HT2.out.lookw tx; rw [hws] at hL; simp only [keyO, Option.getD_none, Option.getD_some, Option.isSome_none, Option.isSome_some, K4.v, show (0 : UInt8).toNat = 0 from rfl, Int.natCast_zero] at hL; obtain ⟨a0, a1, a2⟩ := HT2.out.cells; have q0 := HX.out [] w2 hk2 (by simp) 0 _ rfl; have q1 := HX.out [] w2 hk2 (by simp) 1 _ rfl; have q2 := HX.out [] w2 hk2 (by simp) 2 _ rfl; have q3 := HX.out [] w2 hk2 (by simp) 3 _ rfl; have hne2 : w2.heap.size ≠ w.heap.size := (by have := hk2.size; simp at this; omega); clear hk2; have qa0 := (fun o => ((Kept.refl [] w2).alloc o).cell q0 (by simp)); have qa1 := (fun o => ((Kept.refl [] w2).alloc o).cell q1 (by simp)); have qa2 := (fun o => ((Kept.refl [] w2).alloc o).cell q2 (by simp)); have qa3 := (fun o => ((Kept.refl [] w2).alloc o).cell q3 (by simp)); clear q0 q1 q2 q3)) | (go_at_call 69; go_loud (refine (HRW.out _ (HT2.out.kept ((Kept.refl [] w2).alloc _) (fun _ _ => by simp))).mono ?_; clear HRW; rintro e w3 ⟨rs3, ⟨P, hv, qv, r3⟩, rfl, hT3, hg3, hn3, hr3, hk3, hb3⟩; dsimp only at hr3; subst hr3; have HT3 := hid hT3; have HG3 := hid hg3; have HN3 := hid hn3; have HR3 := hid (show RowIs w3 P hv qv ⟨h0, []⟩ from hT3.at' hg3); have hsl := wrow_slice HR3.out.q; dsimp only at hsl; rw [List.length_nil] at hsl; obtain ⟨qa, qc, hqv⟩ := hsl; subst hqv; have HK3 := hid (((HW.out.trans HK2.out (fun x hx => by cases hx)).alloc (.cells #[.int .u8 0, .int .u8 0, .int .u8 0, .int .u8 0] 33)).trans hk3 (fun x hx => .inl (by simp at hx; subst hx; simp [tabBs]))); have HB3 := hid (show ∀ b ∈ tabBs A R M rs3, b ∈ tabBs A R M rs ∨ w.heap.size ≤ b from fun b hb => (hb3 b hb).imp_right (fun h => by have := HK2.out.size; simp at this h; omega)); have HNE3 := hid (show ∀ b ∈ tabBs A R M rs3, b ≠ w.heap.size from fun b hb e => (hb3 b hb).elim (fun h => by have := HLT.out b h; omega) (fun h => by have := HK2.out.size; simp at this h; omega)); have HS3 := hid (show w.heap.size < w3.heap.size from by have := HK2.out.size; have h2 := hk3.size; simp at this h2; omega); have hq3 := HX.out [R] w3 (((Kept.refl [R] _).trans (HK2.out.mono (fun x hx => by cases hx)) (fun x hx => .inl hx)).alloc (.cells #[.int .u8 0, .int .u8 0, .int .u8 0, .int .u8 0] 33) |>.trans hk3 (fun x hx => .inl hx)) (by simp; exact fun e => by have := HLT.out R (by simp [tabBs]); omega); have q0 := hq3 0 _ rfl; have q1 := hq3 1 _ rfl; have q2 := hq3 2 _ rfl; have q3 := hq3 3 _ rfl; clear qa0 qa1 qa2 qa3 hT3 hg3 hn3 hk3 hb3)) | (go_at_call 70; go_loud (refine (may_any P hv (.slice qa 0 qc) ⟨h0, []⟩ ⟨tx, true, now, true⟩ (w3.alloc (.cells (Wi.f ⟨tx, true, now, true⟩).toArray 129)) (HR3.out.kept ((Kept.refl [] w3).alloc _) (fun _ _ => by simp)) (by dsimp only; omega)).mono ?_; rintro e w4 ⟨rfl, hk4⟩; dsimp only; rw [HM.out]; have HK4 := hid (((Kept.refl [] w3).alloc (.cells (Wi.f ⟨tx, true, now, true⟩).toArray 129)).trans hk4 (fun x hx => by cases hx)); have HZ := hid (fun j u h => hk4.cell (new_cell w3 [.int .i64 tx, .bool true, .int .i64 now, .bool true] 129 j u h) (by simp)); have z0 := HZ.out 0 _ rfl; have z1 := HZ.out 1 _ rfl; have z2 := HZ.out 2 _ rfl; have z3 := HZ.out 3 _ rfl; have HR4 := hid (HR3.out.kept HK4.out (fun _ _ => by simp)); obtain ⟨c0, c1, f0, f1⟩ := HR4.out.c0; have hwne : w4.heap.size ≠ w3.heap.size := (by have := hk4.size; simp at this; omega); have HQ4 := hid (fun j u h => HK4.out.cell (hq3 j u h) (by simp)); clear hk4 hq3)) | (go_at_call 71; refine (grant_any P hv (.slice qa 0 qc) ⟨h0, []⟩ ⟨tx, true, now, true⟩ w4 HR4.out (by dsimp only; omega)).mono ?_; rintro e w5 ⟨rfl, hv', hR5, hs5, hK5⟩))
          go_returns
          obtain ⟨e1, e2, e3, e4⟩ := row_end HT3.out HG3.out HK4.out hR5 hs5 hK5 (fun b hb => by simp only [rowBs, List.mem_cons, List.mem_append] at hb ⊢; exact hb.elim (fun h => .inl h) (fun h => .inr (.inl h))) HB3.out HK3.out
          exact ⟨_, ws, rfl, e1, by rw [e2, HN3.out]; try simp, e3, e4⟩
        | cons y ys =>
          rw [hl0] at hln HRW
          obtain ⟨ql, hql⟩ : ∃ n, n = (y :: ys).length := ⟨_, rfl⟩
          have hqz : ((ql : Int) == 0) = false := by rw [beq_eq_false_iff_ne]; simp at hql; omega
          have HQL := hid hql.symm
          clear hql hl0
          go_enter Tryz.func37, Tryz.ntmps37
          go_wp2_with (first | (go_at_call 68; go_loud (refine (HH.out).mono ?_; clear HH; rintro e w2 ⟨rfl, hk2⟩; have HK2 := hid hk2; have HT2 := hid (H1.out.kept hk2 (fun _ _ => by simp)); have hL := HT2.out.lookw tx; rw [hws] at hL; simp only [keyO, Option.getD_none, Option.getD_some, Option.isSome_none, Option.isSome_some, K4.v, show (0 : UInt8).toNat = 0 from rfl, Int.natCast_zero] at hL; obtain ⟨a0, a1, a2⟩ := HT2.out.cells; have q0 := HX.out [] w2 hk2 (by simp) 0 _ rfl; have q1 := HX.out [] w2 hk2 (by simp) 1 _ rfl; have q2 := HX.out [] w2 hk2 (by simp) 2 _ rfl; have q3 := HX.out [] w2 hk2 (by simp) 3 _ rfl; have hne2 : w2.heap.size ≠ w.heap.size := (by have := hk2.size; simp at this; omega); clear hk2; have qa0 := (fun o => ((Kept.refl [] w2).alloc o).cell q0 (by simp)); have qa1 := (fun o => ((Kept.refl [] w2).alloc o).cell q1 (by simp)); have qa2 := (fun o => ((Kept.refl [] w2).alloc o).cell q2 (by simp)); have qa3 := (fun o => ((Kept.refl [] w2).alloc o).cell q3 (by simp)); clear q0 q1 q2 q3)) | (go_at_call 69; go_loud (refine (HRW.out _ (HT2.out.kept ((Kept.refl [] w2).alloc _) (fun _ _ => by simp))).mono ?_; clear HRW; rintro e w3 ⟨rs3, ⟨P, hv, qv, r3⟩, rfl, hT3, hg3, hn3, hr3, hk3, hb3⟩; dsimp only at hr3; subst hr3; have HT3 := hid hT3; have HG3 := hid hg3; have HN3 := hid hn3; have HR3 := hid (show RowIs w3 P hv qv ⟨h0, (y :: ys)⟩ from hT3.at' hg3); have hsl := wrow_slice HR3.out.q; dsimp only at hsl; rw [HQL.out] at hsl; obtain ⟨qa, qc, hqv⟩ := hsl; subst hqv; have HK3 := hid (((HW.out.trans HK2.out (fun x hx => by cases hx)).alloc (.cells #[.int .u8 0, .int .u8 0, .int .u8 0, .int .u8 0] 33)).trans hk3 (fun x hx => .inl (by simp at hx; subst hx; simp [tabBs]))); have HB3 := hid (show ∀ b ∈ tabBs A R M rs3, b ∈ tabBs A R M rs ∨ w.heap.size ≤ b from fun b hb => (hb3 b hb).imp_right (fun h => by have := HK2.out.size; simp at this h; omega)); have HNE3 := hid (show ∀ b ∈ tabBs A R M rs3, b ≠ w.heap.size from fun b hb e => (hb3 b hb).elim (fun h => by have := HLT.out b h; omega) (fun h => by have := HK2.out.size; simp at this h; omega)); have HS3 := hid (show w.heap.size < w3.heap.size from by have := HK2.out.size; have h2 := hk3.size; simp at this h2; omega); have hq3 := HX.out [R] w3 (((Kept.refl [R] _).trans (HK2.out.mono (fun x hx => by cases hx)) (fun x hx => .inl hx)).alloc (.cells #[.int .u8 0, .int .u8 0, .int .u8 0, .int .u8 0] 33) |>.trans hk3 (fun x hx => .inl hx)) (by simp; exact fun e => by have := HLT.out R (by simp [tabBs]); omega); have q0 := hq3 0 _ rfl; have q1 := hq3 1 _ rfl; have q2 := hq3 2 _ rfl; have q3 := hq3 3 _ rfl; clear qa0 qa1 qa2 qa3 hT3 hg3 hn3 hk3 hb3)) | (go_at_call 70; go_loud (refine (may_any P hv (.slice qa ql qc) ⟨h0, (y :: ys)⟩ ⟨tx, true, now, true⟩ (w3.alloc (.cells (Wi.f ⟨tx, true, now, true⟩).toArray 129)) (HR3.out.kept ((Kept.refl [] w3).alloc _) (fun _ _ => by simp)) (by dsimp only; omega)).mono ?_; rintro e w4 ⟨rfl, hk4⟩; dsimp only; rw [HM.out]; have HK4 := hid (((Kept.refl [] w3).alloc (.cells (Wi.f ⟨tx, true, now, true⟩).toArray 129)).trans hk4 (fun x hx => by cases hx)); have HZ := hid (fun j u h => hk4.cell (new_cell w3 [.int .i64 tx, .bool true, .int .i64 now, .bool true] 129 j u h) (by simp)); have z0 := HZ.out 0 _ rfl; have z1 := HZ.out 1 _ rfl; have z2 := HZ.out 2 _ rfl; have z3 := HZ.out 3 _ rfl; have HR4 := hid (HR3.out.kept HK4.out (fun _ _ => by simp)); obtain ⟨c0, c1, f0, f1⟩ := HR4.out.c0; have hwne : w4.heap.size ≠ w3.heap.size := (by have := hk4.size; simp at this; omega); have HQ4 := hid (fun j u h => HK4.out.cell (hq3 j u h) (by simp)); clear hk4 hq3)) | (go_at_call 71; refine (grant_any P hv (.slice qa ql qc) ⟨h0, (y :: ys)⟩ ⟨tx, true, now, true⟩ w4 HR4.out (by dsimp only; omega)).mono ?_; rintro e w5 ⟨rfl, hv', hR5, hs5, hK5⟩))
          go_returns
          obtain ⟨e1, e2, e3, e4⟩ := row_end HT3.out HG3.out HK4.out hR5 hs5 hK5 (fun b hb => by simp only [rowBs, List.mem_cons, List.mem_append] at hb ⊢; exact hb.elim (fun h => .inl h) (fun h => .inr (.inl h))) HB3.out HK3.out
          exact ⟨_, ws, rfl, e1, by rw [e2, HN3.out]; try simp, e3, e4⟩
      · rw [if_neg (by simp [hm])]
        have HM := hid (show mayR h0 ⟨tx, true, now, true⟩ = false by simpa using hm)
        clear hm
        go_enter Tryz.func37, Tryz.ntmps37
        go_wp2_with (first | (go_at_call 68; go_loud (refine (HH.out).mono ?_; clear HH; rintro e w2 ⟨rfl, hk2⟩; have HK2 := hid hk2; have HT2 := hid (H1.out.kept hk2 (fun _ _ => by simp)); have hL := HT2.out.lookw tx; rw [hws] at hL; simp only [keyO, Option.getD_none, Option.getD_some, Option.isSome_none, Option.isSome_some, K4.v, show (0 : UInt8).toNat = 0 from rfl, Int.natCast_zero] at hL; obtain ⟨a0, a1, a2⟩ := HT2.out.cells; have q0 := HX.out [] w2 hk2 (by simp) 0 _ rfl; have q1 := HX.out [] w2 hk2 (by simp) 1 _ rfl; have q2 := HX.out [] w2 hk2 (by simp) 2 _ rfl; have q3 := HX.out [] w2 hk2 (by simp) 3 _ rfl; have hne2 : w2.heap.size ≠ w.heap.size := (by have := hk2.size; simp at this; omega); clear hk2; have qa0 := (fun o => ((Kept.refl [] w2).alloc o).cell q0 (by simp)); have qa1 := (fun o => ((Kept.refl [] w2).alloc o).cell q1 (by simp)); have qa2 := (fun o => ((Kept.refl [] w2).alloc o).cell q2 (by simp)); have qa3 := (fun o => ((Kept.refl [] w2).alloc o).cell q3 (by simp)); clear q0 q1 q2 q3)) | (go_at_call 69; go_loud (refine (HRW.out _ (HT2.out.kept ((Kept.refl [] w2).alloc _) (fun _ _ => by simp))).mono ?_; clear HRW; rintro e w3 ⟨rs3, ⟨P, hv, qv, r3⟩, rfl, hT3, hg3, hn3, hr3, hk3, hb3⟩; dsimp only at hr3; subst hr3; have HT3 := hid hT3; have HG3 := hid hg3; have HN3 := hid hn3; have HR3 := hid (show RowIs w3 P hv qv ⟨h0, l0⟩ from hT3.at' hg3); have hsl := wrow_slice HR3.out.q; dsimp only at hsl;  obtain ⟨qa, qc, hqv⟩ := hsl; subst hqv; have HK3 := hid (((HW.out.trans HK2.out (fun x hx => by cases hx)).alloc (.cells #[.int .u8 0, .int .u8 0, .int .u8 0, .int .u8 0] 33)).trans hk3 (fun x hx => .inl (by simp at hx; subst hx; simp [tabBs]))); have HB3 := hid (show ∀ b ∈ tabBs A R M rs3, b ∈ tabBs A R M rs ∨ w.heap.size ≤ b from fun b hb => (hb3 b hb).imp_right (fun h => by have := HK2.out.size; simp at this h; omega)); have HNE3 := hid (show ∀ b ∈ tabBs A R M rs3, b ≠ w.heap.size from fun b hb e => (hb3 b hb).elim (fun h => by have := HLT.out b h; omega) (fun h => by have := HK2.out.size; simp at this h; omega)); have HS3 := hid (show w.heap.size < w3.heap.size from by have := HK2.out.size; have h2 := hk3.size; simp at this h2; omega); have hq3 := HX.out [R] w3 (((Kept.refl [R] _).trans (HK2.out.mono (fun x hx => by cases hx)) (fun x hx => .inl hx)).alloc (.cells #[.int .u8 0, .int .u8 0, .int .u8 0, .int .u8 0] 33) |>.trans hk3 (fun x hx => .inl hx)) (by simp; exact fun e => by have := HLT.out R (by simp [tabBs]); omega); have q0 := hq3 0 _ rfl; have q1 := hq3 1 _ rfl; have q2 := hq3 2 _ rfl; have q3 := hq3 3 _ rfl; clear qa0 qa1 qa2 qa3 hT3 hg3 hn3 hk3 hb3)) | (go_at_call 70; go_loud (refine (may_any P hv (.slice qa l0.length qc) ⟨h0, l0⟩ ⟨tx, true, now, true⟩ (w3.alloc (.cells (Wi.f ⟨tx, true, now, true⟩).toArray 129)) (HR3.out.kept ((Kept.refl [] w3).alloc _) (fun _ _ => by simp)) (by dsimp only; omega)).mono ?_; rintro e w4 ⟨rfl, hk4⟩; dsimp only; rw [HM.out]; have HK4 := hid (((Kept.refl [] w3).alloc (.cells (Wi.f ⟨tx, true, now, true⟩).toArray 129)).trans hk4 (fun x hx => by cases hx)); have HZ := hid (fun j u h => hk4.cell (new_cell w3 [.int .i64 tx, .bool true, .int .i64 now, .bool true] 129 j u h) (by simp)); have z0 := HZ.out 0 _ rfl; have z1 := HZ.out 1 _ rfl; have z2 := HZ.out 2 _ rfl; have z3 := HZ.out 3 _ rfl; have HR4 := hid (HR3.out.kept HK4.out (fun _ _ => by simp)); obtain ⟨c0, c1, f0, f1⟩ := HR4.out.c0; have hwne : w4.heap.size ≠ w3.heap.size := (by have := hk4.size; simp at this; omega); have HQ4 := hid (fun j u h => HK4.out.cell (hq3 j u h) (by simp)); clear hk4 hq3)) | (go_at_call 72; refine Here.mk ?_))
        refine Here.of ?_
        refine (wait_any P hv (.slice qa l0.length qc) ⟨h0, l0⟩ ⟨tx, true, now, true⟩ w4 HR4.out (by dsimp only; omega)).mono ?_
        rintro e w5 ⟨rfl, qv', hR5, hs5, hK5⟩
        have HS5 := hid (show ∀ b ∈ P :: (Value.slice qa l0.length qc).ownBlock.toList, b ∈ rowBs P hv (.slice qa l0.length qc) from fun b hb => by simp only [rowBs, List.mem_cons, List.mem_append] at hb ⊢; exact hb.elim (fun h => .inl h) (fun h => .inr (.inr h)))
        have HE := hid (row_end HT3.out HG3.out HK4.out hR5 hs5 hK5 HS5.out HB3.out HK3.out)
        have hq5 := (fun j u h => hK5.cell (HQ4.out j u h) (fun hx => HNE3.out _ (bs_tab HG3.out _ (HS5.out _ hx)) rfl))
        clear q0 q1 q2 q3 z0 z1 z2 z3 c0 c1 f0 f1 a0 a1 a2
        have q0 := hq5 0 _ rfl
        have q1 := hq5 1 _ rfl
        have q2 := hq5 2 _ rfl
        have q3 := hq5 3 _ rfl
        obtain ⟨a0, a1, a2⟩ := HE.out.1.cells
        clear hR5 hs5 hK5 hq5 hL
        go_wp2_with fail
        refine region_tail 6 (by kernel_rfl) (by kernel_rfl) ?_
        simp only [List.take_succ_cons, List.take_zero, List.drop_succ_cons, List.drop_zero]
        repeat still_step
        refine wpStill_nil ?_
        go_wp2_with (at_mapUpdate; refine wpList_mapUpdate_is rfl _ _ _ 113 rfl 3 33 (KeyOK.int (k := .i64) Tryz.underlying3) Tryz.underlying113 rfl tx rfl (K4.v ⟨k1, k2, k3, k4⟩) rfl HE.out.1.waits.drew ?_; intro w6 hM6 hK6)
        go_returns
        obtain ⟨e1, e2, e3, e4⟩ := HE.out
        rw [aput_map K4.v] at hM6
        exact ⟨_, aput tx ⟨k1, k2, k3, k4⟩ ws, rfl, (e1.kept ((Kept.refl [] w5).drew) (fun _ _ => by simp)).setw hM6 (tput_nodup _ _ _ e1.wn) hK6, by rw [show ∀ l, tabT lim l (aput tx ⟨k1, k2, k3, k4⟩ ws) = { tabT lim l ws with waits := aput tx ⟨k1, k2, k3, k4⟩ ws } from fun _ => rfl, e2, HN3.out]; try simp, (e3.drew).trans hK6 (fun x hx => .inl (by simp at hx; subst hx; simp [tabBs])), e4⟩
--@@ end
end Go.Proofs.YtpfgpbafechncaaGreat
