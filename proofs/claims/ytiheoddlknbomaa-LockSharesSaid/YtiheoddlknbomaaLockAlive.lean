/- Two that share a key, one of which rises: the statements' first line. -/
import Derived.Test.YtiheoddlknbomaaLockDo
set_option linter.all false
namespace Go.Proofs.Ytiheoddlknbomaa
open Go.RowKit Go.Shelf Go.Lib Go.Sort Go.Proofs
set_option linter.unusedVariables false
set_option linter.unusedSimpArgs false

theorem le_one {l : Int} {k : K4} {r : Ro} {ws : List (Int × K4)} (h : r.h.length + r.q.length ≤ 10) : Ta.le 10 ⟨l, [(k, r)], ws⟩ := fun p hp => by
  rw [List.mem_singleton] at hp; subst hp; exact h
--@@ concordatlaw08.alive
section
variable {W : World} {D : Nat → Prop} {A : Nat}
theorem askA_1 (h : TabAt W D A tA0) : Calls Try.prog 18 #[.pointer (some ⟨A, 0, none⟩), .int .i64 1, .agg #[.int .u8 1, .int .u8 0, .int .u8 0, .int .u8 0], .bool false, .int .i64 0] W fun e w' => e = .returned (.int .i64 0) ∧ TabAt w' D A tA1 ∧ KD D W w' := by
  have := ask_at h (n := 10) (fun p hp => by cases hp) (by omega) 1 keyA false 0
  rw [tA_1] at this; exact this
theorem askA_2 (h : TabAt W D A tA1) : Calls Try.prog 18 #[.pointer (some ⟨A, 0, none⟩), .int .i64 2, .agg #[.int .u8 1, .int .u8 0, .int .u8 0, .int .u8 0], .bool false, .int .i64 0] W fun e w' => e = .returned (.int .i64 0) ∧ TabAt w' D A tA2 ∧ KD D W w' := by
  have := ask_at h (n := 10) (le_one (by decide)) (by omega) 2 keyA false 0
  rw [tA_2] at this; exact this
theorem askA_3 (h : TabAt W D A tA2) : Calls Try.prog 18 #[.pointer (some ⟨A, 0, none⟩), .int .i64 1, .agg #[.int .u8 1, .int .u8 0, .int .u8 0, .int .u8 0], .bool true, .int .i64 3] W fun e w' => e = .returned (.int .i64 17) ∧ TabAt w' D A tA3 ∧ KD D W w' := by
  have := ask_at h (n := 10) (le_one (by decide)) (by omega) 1 keyA true 3
  rw [tA_3] at this; exact this
theorem askA_4 (h : TabAt W D A tA3) : Calls Try.prog 18 #[.pointer (some ⟨A, 0, none⟩), .int .i64 3, .agg #[.int .u8 1, .int .u8 0, .int .u8 0, .int .u8 0], .bool false, .int .i64 3] W fun e w' => e = .returned (.int .i64 17) ∧ TabAt w' D A tA4 ∧ KD D W w' := by
  have := ask_at h (n := 10) (le_one (by decide)) (by omega) 3 keyA false 3
  rw [tA_4] at this; exact this
theorem waitsA (h : TabAt W D A tA4) : Calls Try.prog 15 #[.pointer (some ⟨A, 0, none⟩), .int .i64 1] W fun e w' => e = .returned (.tuple #[.agg #[.int .u8 1, .int .u8 0, .int .u8 0, .int .u8 0], .bool true]) ∧ Kept [] W w' := waits_at h 1
theorem lateA (h : TabAt W D A tA4) : Calls Try.prog 17 #[.pointer (some ⟨A, 0, none⟩), .int .i64 8] W fun e w' => ∃ v, e = .returned v ∧ w'.ownsRow W.heap.size 3 1 v 2 ([1, 3].map (Value.int .i64)) ∧ Kept [] W w' := by
  have := late_at h (n := 10) (le_one (by decide)) (by omega) (by decide) 8
  rw [tA_late] at this; exact this
theorem freeA (h : TabAt W D A tA4) : Calls Try.prog 14 #[.pointer (some ⟨A, 0, none⟩), .int .i64 2] W fun e w' => e = .returned (.tuple #[]) ∧ TabAt w' D A tA5 ∧ KD D W w' := by
  have := free_at h (n := 10) (le_one (by decide)) (by omega) (by decide) 2
  rw [tA_5] at this; exact this
theorem holdsA (h : TabAt W D A tA5) : Calls Try.prog 13 #[.pointer (some ⟨A, 0, none⟩), .int .i64 1, .agg #[.int .u8 1, .int .u8 0, .int .u8 0, .int .u8 0]] W fun e w' => e = .returned (.int .i64 2) ∧ Kept [] W w' := holds_at h (n := 10) (le_one (by decide)) (by omega) 1 keyA
theorem quitA (h : TabAt W D A tA5) : Calls Try.prog 20 #[.pointer (some ⟨A, 0, none⟩), .int .i64 3] W fun e w' => e = .returned (.bool true) ∧ TabAt w' D A tA6 ∧ KD D W w' := by
  have := quit_at h (n := 10) (le_one (by decide)) (by omega) 3
  rw [tA_6] at this; exact this
theorem keysA (h : TabAt W D A tA6) : Calls Try.prog 16 #[.pointer (some ⟨A, 0, none⟩), .int .i64 1] W fun e w' => ∃ a c, e = .returned (.slice a 1 c) ∧ Kept [] W w' := by
  refine (keys_at h (n := 10) (le_one (by decide)) (by omega) (by decide) 1).mono ?_
  rintro e w' ⟨v, rfl, ho, hk⟩
  rw [tA_keys] at ho
  obtain ⟨a, c, rfl⟩ := ownsRow_slice ho
  exact ⟨a, c, rfl, hk⟩
theorem heldA (h : TabAt W D A tA6) : Calls Try.prog 12 #[.pointer (some ⟨A, 0, none⟩)] W fun e w' => ∃ a c, e = .returned (.slice a 1 c) ∧ Kept [] W w' := by
  refine (held_at h (by decide)).mono ?_
  rintro e w' ⟨v, rfl, ho, hk⟩
  rw [tA_held] at ho
  obtain ⟨a, c, rfl⟩ := ownsRow_slice ho
  exact ⟨a, c, rfl, hk⟩
theorem tA6_ok : TaOk tA6 := by
  have h0 : TaOk tA0 := TaOk.none 5
  have h1 := (h0.ask 1 keyA false 0).1
  rw [tA_1] at h1
  have h2 := (h1.ask 2 keyA false 0).1
  rw [tA_2] at h2
  have h3 := (h2.ask 1 keyA true 3).1
  rw [tA_3] at h3
  have h4 := (h3.ask 3 keyA false 3).1
  rw [tA_4] at h4
  have h5 := (h4.free 2).1
  rw [tA_5] at h5
  have h6 := (h5.quit 3).1
  rw [tA_6] at h6
  exact h6
theorem txsA (h : TabAt W D A tA6) : Calls Try.prog 11 #[.pointer (some ⟨A, 0, none⟩)] W fun e w' => ∃ v, e = .returned v ∧ SlAt w' v 1 1 ([1].map (Value.int .i64)) ∧ Kept [] W w' := by
  refine (txs_at h (n := 10) (le_one (by decide)) (by omega) (by decide) tA6_ok).mono ?_
  rintro e w' ⟨v, L, rfl, hL, ho, _, hk⟩
  rw [tA_txs hL] at ho
  exact ⟨v, rfl, SlAt.of_own ho, hk⟩
theorem same_of {v1 v2 : Value} (xs : List Int) (h1 : SlAt W v1 1 xs.length (xs.map (Value.int .i64))) (h2 : SlAt W v2 1 xs.length (xs.map (Value.int .i64))) :
    Calls Try.prog 21 #[v1, v2] W fun e w' => e = .returned (.bool true) ∧ Kept [] W w' := by
  have := sameInts_any v1 v2 xs xs W h1 h2
  rw [decide_eq_true rfl] at this
  exact this
theorem slAt_ints (l : List Int) (hl : l.length ≤ 100) (w : World) (B : Nat) (n : Nat) (hn : n = l.length) (h : w.heap[B]? = some (.cells (l.map (Value.int .i64)).toArray 3 (0, 0))) : SlAt w (.slice (some ⟨B, 0, none⟩) n n) 1 l.length (l.map (Value.int .i64)) :=
  ⟨some ⟨B, 0, none⟩, n, by rw [hn], by omega, by simp, fun _ => ⟨B, 0, rfl, (Array.getElem?_eq_some_iff.1 h).1, fun j u hj => by
    rw [cell_of_row _ _ _ _ _ _ h, Nat.zero_add]; simpa using hj⟩⟩
end
set_option maxHeartbeats 8000000 in
set_option maxRecDepth 100000 in
theorem alive_any (w : World) : Calls Try.prog 9 #[] w fun e w' => e = .returned (.bool true) ∧ Kept [] w w' := by
  have hq : ∀ w, (binOp .eql 32 (.agg #[.int .u8 1, .int .u8 0, .int .u8 0, .int .u8 0]) (.agg #[.int .u8 1, .int .u8 0, .int .u8 0, .int .u8 0])).run Try.prog w = .ok (.bool true) w := fun w => by have := eqK w keyA keyA; rw [decide_eq_true rfl] at this; exact this
  go_enter Try.func9, Try.ntmps9
  go_wp2_with (first
    | (go_at_call 19; refine (new5_any w).mono ?_; rintro e w1 ⟨A, rfl, hT, hk⟩)
    | (go_at_call 18; refine Here.mk ?_))
  refine Here.of ?_
  obtain ⟨D, HD, HD0, HDK⟩ : ∃ D : Nat → Prop, Hid (TabAt (w1.alloc (.cells #[.int .u8 1, .int .u8 0, .int .u8 0, .int .u8 0] 32)) D A tA0) ∧ Hid (∀ b, b < w.heap.size → D b) ∧ Hid (D w1.heap.size) :=
    ⟨_, hid (hT.widen ((Kept.refl [] w1).alloc _) (by simp)), hid (fun b hb => .inl hb), hid (.inr ⟨Nat.le_refl _, by simp⟩)⟩
  have HC := hid (fun w' (hk : KD D (w1.alloc (.cells #[.int .u8 1, .int .u8 0, .int .u8 0, .int .u8 0] 32)) w') j u h => hk.cell (new_cell w1 [.int .u8 1, .int .u8 0, .int .u8 0, .int .u8 0] 32 j u h) HDK.out)
  have HK1 := hid (hk.alloc (.cells #[.int .u8 1, .int .u8 0, .int .u8 0, .int .u8 0] 32))
  clear hT hk
  refine (askA_1 HD.out).mono ?_
  rintro e w2 ⟨rfl, hT2, hK2⟩
  have HT2 := hid hT2
  have HK2 := hid hK2
  clear hT2 hK2
  have q0 := HC.out w2 HK2.out 0 _ rfl
  have q1 := HC.out w2 HK2.out 1 _ rfl
  have q2 := HC.out w2 HK2.out 2 _ rfl
  have q3 := HC.out w2 HK2.out 3 _ rfl
  go_wp2_with (go_at_call 18; refine Here.mk ?_)
  refine Here.of ?_
  refine (askA_2 HT2.out).mono ?_
  rintro e w3 ⟨rfl, hT3, hK3⟩
  have HT3 := hid hT3
  have HK3 := hid (HK2.out.trans hK3 (fun x hx => hx))
  clear hT3 hK3 q0 q1 q2 q3
  have q0 := HC.out w3 HK3.out 0 _ rfl
  have q1 := HC.out w3 HK3.out 1 _ rfl
  have q2 := HC.out w3 HK3.out 2 _ rfl
  have q3 := HC.out w3 HK3.out 3 _ rfl
  go_wp2_with (go_at_call 18; refine Here.mk ?_)
  refine Here.of ?_
  refine (askA_3 HT3.out).mono ?_
  rintro e w4 ⟨rfl, hT4, hK4⟩
  have HT4 := hid hT4
  have HK4 := hid (HK3.out.trans hK4 (fun x hx => hx))
  clear hT4 hK4 q0 q1 q2 q3
  have q0 := HC.out w4 HK4.out 0 _ rfl
  have q1 := HC.out w4 HK4.out 1 _ rfl
  have q2 := HC.out w4 HK4.out 2 _ rfl
  have q3 := HC.out w4 HK4.out 3 _ rfl
  go_wp2_with (go_at_call 18; refine Here.mk ?_)
  refine Here.of ?_
  refine (askA_4 HT4.out).mono ?_
  rintro e w5 ⟨rfl, hT5, hK5⟩
  have HT5 := hid hT5
  have HK5 := hid (HK4.out.trans hK5 (fun x hx => hx))
  clear hT5 hK5 q0 q1 q2 q3
  go_wp2_with (first
    | (go_at_call 15; refine (waitsA HT5.out).mono ?_; rintro e w6 ⟨rfl, hk6⟩; have HK6 := hid hk6; clear hk6)
    | (go_at_call 17; refine Here.mk ?_))
  refine Here.of ?_
  have HK6a := hid (HK6.out.alloc (.cells #[.int .u8 1, .int .u8 0, .int .u8 0, .int .u8 0] 32))
  refine (lateA (HT5.out.kept HK6a.out (by simp))).mono ?_
  rintro e w7 ⟨v, rfl, ho, hk7⟩
  have hk57 := HK6a.out.trans hk7 (fun x hx => by cases hx)
  have hs6 := HK6.out.size
  have hs7 := hk7.size
  rw [World.size_alloc] at hs7
  obtain ⟨D', HD7, HDD, HBG, HV⟩ : ∃ D' : Nat → Prop, Hid (TabAt w7 D' A tA4) ∧ Hid (∀ b, D b → D' b) ∧ Hid (D' w6.heap.size) ∧ Hid (∀ x, v.ownBlock = some x → D' x) :=
    ⟨_, hid (HT5.out.widen hk57 (by simp)), hid (fun b hb => .inl hb), hid (.inr ⟨hs6, by omega⟩), hid (fun x hx => .inr ⟨by have := (ho.lt x hx).1; rw [World.size_alloc] at this; omega, (ho.lt x hx).2⟩)⟩
  have HO := hid ho
  have HC7 := hid (fun w' (hk : KD D' w7 w') j u h => hk.cell (hk7.cell (new_cell w6 [.int .u8 1, .int .u8 0, .int .u8 0, .int .u8 0] 32 j u h) (by simp)) HBG.out)
  have HK7 := hid (HK5.out.trans (KD.of hk57 (D := D) (fun k hk => ⟨HT5.out.lt k hk, by simp⟩)) (fun x hx => hx))
  have HC1 := hid (fun w' (hk : KD D' w7 w') j u h => HC.out w' (HK7.out.trans hk (fun x hx => HDD.out x hx)) j u h)
  clear ho hk7 hk57 hs6 hs7 HC HT5 HK6a
  go_wp2_with (go_at_call 14; refine Here.mk ?_)
  refine Here.of ?_
  refine (freeA HD7.out).mono ?_
  rintro e w8 ⟨rfl, hT8, hK8⟩
  have HT8 := hid hT8
  have HK8 := hid hK8
  clear hT8 hK8
  have q0 := HC1.out w8 HK8.out 0 _ rfl
  have q1 := HC1.out w8 HK8.out 1 _ rfl
  have q2 := HC1.out w8 HK8.out 2 _ rfl
  have q3 := HC1.out w8 HK8.out 3 _ rfl
  go_wp2_with (go_at_call 13; refine Here.mk ?_)
  refine Here.of ?_
  refine (holdsA HT8.out).mono ?_
  rintro e w9 ⟨rfl, hk9⟩
  have HT9 := hid (HT8.out.kept hk9 (by simp))
  have HK9 := hid (HK8.out.trans (KD.of hk9 (D := D') (fun k hk => ⟨HT8.out.lt k hk, by simp⟩)) (fun x hx => hx))
  clear hk9 q0 q1 q2 q3
  go_wp2_with (go_at_call 20; refine Here.mk ?_)
  refine Here.of ?_
  refine (quitA HT9.out).mono ?_
  rintro e w10 ⟨rfl, hT10, hK10⟩
  have HT10 := hid hT10
  have HK10 := hid (HK9.out.trans hK10 (fun x hx => hx))
  clear hT10 hK10
  have q0 := HC1.out w10 HK10.out 0 _ rfl
  have q1 := HC1.out w10 HK10.out 1 _ rfl
  have q2 := HC1.out w10 HK10.out 2 _ rfl
  have q3 := HC1.out w10 HK10.out 3 _ rfl
  have p0 := HC7.out w10 HK10.out 0 _ rfl
  have p1 := HC7.out w10 HK10.out 1 _ rfl
  have p2 := HC7.out w10 HK10.out 2 _ rfl
  have p3 := HC7.out w10 HK10.out 3 _ rfl
  have HO10 := hid (SlAt.of_own (HK10.out.own HO.out HV.out))
  have HKW := hid (show Kept [] w w10 from KD.then HK1.out (HK7.out.trans HK10.out (fun x hx => HDD.out x hx)) (fun x hx _ => HD0.out x hx))
  go_wp2_with (first
    | (go_at_call 21; refine (same_of [1, 3] (HO10.out.kept ((Kept.refl [] w10).alloc _)) (slAt_ints [1, 3] (by decide) _ w10.heap.size 2 rfl (heap_alloc_new w10 _))).mono ?_; clear HO10; rintro e w11 ⟨rfl, hk11⟩; have HK11 := hid (((Kept.refl [] w10).alloc (.cells #[.int .i64 1, .int .i64 3] 3)).trans hk11 (fun x hx => by cases hx)); clear hk11)
    | (go_at_call 16; refine (keysA (HT10.out.kept HK11.out (by simp))).mono ?_; rintro e w12 ⟨ka, kc, rfl, hk12⟩; have HK12 := hid (HK11.out.trans hk12 (fun x hx => by cases hx)); clear hk12)
    | (go_at_call 12; refine (heldA (HT10.out.kept HK12.out (by simp))).mono ?_; rintro e w13 ⟨la, lc, rfl, hk13⟩; have HK13 := hid (HK12.out.trans hk13 (fun x hx => by cases hx)); clear hk13)
    | (go_at_call 11; refine (txsA (HT10.out.kept HK13.out (by simp))).mono ?_; rintro e w14 ⟨v14, rfl, hs14, hk14⟩; have HS14 := hid hs14; have HK14 := hid (HK13.out.trans hk14 (fun x hx => by cases hx)); clear hs14 hk14)
    | (go_at_call 21; refine (same_of [1] (HS14.out.kept ((Kept.refl [] w14).alloc _)) (slAt_ints [1] (by decide) _ w14.heap.size 1 rfl (heap_alloc_new w14 _))).mono ?_; clear HS14; rintro e w15 ⟨rfl, hk15⟩; have HK15 := hid ((HK14.out.alloc (.cells #[.int .i64 1] 3)).trans hk15 (fun x hx => by cases hx)); clear hk15))
  go_returns
  exact ⟨rfl, HKW.out.trans HK15.out (fun x hx => by cases hx)⟩
--@@ end
end Go.Proofs.Ytiheoddlknbomaa
