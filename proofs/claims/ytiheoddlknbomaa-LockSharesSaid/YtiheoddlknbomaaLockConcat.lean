/- slices.Concat of two slices of wishes. -/
import Derived.Test.YtiheoddlknbomaaLockTab4
import Derived.Test.YtiheoddlknbomaaLay
import Derived.Laws.AppendOwnNone
set_option linter.all false
namespace Go.Proofs.Ytiheoddlknbomaa
open Go.RowKit Go.Shelf Go.Lib Go.Sort Go.Proofs
set_option linter.unusedVariables false
set_option linter.unusedSimpArgs false

--@@ slices.Concat
set_option maxRecDepth 100000 in
theorem wgrow_nil (n : Nat) (w : World) (hl : n ≤ 100000) :
    Calls Try.prog 38 #[.slice none 0 0, .int .i64 n] w fun e w' => ∃ v, e = .returned v ∧ w'.ownsRow w.heap.size 59 4 v 0 [] ∧ Kept [] w w' := by
  rcases Nat.eq_zero_or_pos n with rfl | hn
  · refine (Any8.slices_Grow_room Try.layGrowWish none 0 0 0 w (by omega) (by omega) (by omega) (by omega)).mono ?_
    rintro e w' ⟨rfl, rfl⟩
    exact ⟨_, rfl, ⟨rfl, .inl ⟨rfl, rfl⟩⟩, Kept.refl _ _⟩
  · obtain ⟨i0, hi, z, hz, hz1, hz2, hz3⟩ : ∃ i0, Try.prog.info? 59 = some i0 ∧ ∃ z, i0.zero = some z ∧ i0.size = 4 ∧ z.cells.size = 4 ∧ i0.bytes ≤ 64 := ⟨_, rfl, _, rfl, by kernel_rfl, by kernel_rfl, by decide⟩
    refine (Any8.slices_Grow_grow Try.layGrowWish i0 z hi hz (by omega) none 0 0 n [] w (by omega) (by omega) (by have := Nat.mul_le_mul (Nat.le_refl (0 + n)) hz3; omega) (by omega) (by simp) (fun _ => rfl) (fun a h => by cases h)).mono ?_
    rintro e w' ⟨rfl, rfl⟩
    have hge := grownCap_ge w (0 + n) 0 59
    have hle := grownCap_le_maxLen w (0 + n) 0 59 (by unfold maxLen; omega)
    refine ⟨_, rfl, ⟨rfl, .inr ⟨w.heap.size, _, _, rfl, Nat.le_refl _, heap_alloc_new w.drew _, Nat.zero_le _, hle, ?_, by simp⟩⟩, (Kept.refl [] w).drew.alloc _⟩
    have hge2 : 0 + n ≤ grownCap w (0 + n) 0 (Try.layGrowWish_ren.t 25) := hge
    have e1 : ∀ m, (Builtin.zeroCells z.cells m).size = m * 4 := fun m => by rw [size_zeroCells, hz2]
    generalize grownCap w (0 + n) 0 (Try.layGrowWish_ren.t 25) = c at hge2 ⊢
    simp only [Array.size_append, e1]
    simp
    omega
/-- append(s, x...), x a slice of wishes -/
theorem wpList_append_wi {w : World} {ops : Array Oper} {rest : List Oper} {o : Oper} {a : Act} {Q : Exit → Act → World → Prop} (hgd : o.guard = none) (s x : Operand)
    (ho : o.op = .call { callee := .builtin .append, args := #[s, x], argTypes := #[56, 56] })
    (base : Nat) (v : Value) (n : Nat) (xs : List Value) (hs : a.eval s = v) (hown : w.ownsRow base 59 4 v n xs) (vx : Value) (l : List Wi) (hx : a.eval x = vx) (hp : WRow 59 w vx l)
    (hn : n + l.length ≤ 200000) (hbase : base ≤ w.heap.size)
    (h : ∀ v' w', w'.ownsRow base 59 4 v' (n + l.length) (xs ++ l.flatMap Wi.f) → w.grownBy w' v.ownBlock → wpList Try.prog ops Q rest (a.put o.dst v') w') : wpList Try.prog ops Q (o :: rest) a w := by
  obtain ⟨i, hi, hz0, hz1, hz2⟩ := info_parts wishInfo
  rcases hp with ⟨rfl, rfl⟩ | ⟨g, off, cap, sz, rfl, hb⟩
  · refine wpList_append_own_none hgd s x 56 ho base 59 i 4 Try.underlying56 hi v n xs hs hown hx (h v w (by simpa using hown) ?_)
    exact World.grownBy.refl _ _
  · refine wpList_append_is hgd s x 56 ho 59 _ 4 32 Try.underlying56 wishInfo rfl (by decide) (by decide) base v n xs hs hown ⟨g, off, none⟩ l.length cap (l.flatMap Wi.f) hx (wflat_len l) ?_ ?_ (by omega) hbase (fun v' w' g1 g2 _ => h v' w' g1 g2)
    · intro j u hj
      rw [Addr.add_lit]
      exact hb.cell hj
    · intro u hu
      obtain ⟨y, _, hy⟩ := List.mem_flatMap.1 hu
      exact wf_one y u hy
set_option maxHeartbeats 4000000 in
set_option maxRecDepth 100000 in
theorem wconcat_any (B : Nat) (v1 v2 : Value) (l1 l2 : List Wi) (w : World) (hB : w.heap[B]? = some (.cells #[v1, v2] 56 (0, 0))) (h1 : WRow 59 w v1 l1) (h2 : WRow 59 w v2 l2) (m1 : l1.length + l2.length ≤ 100000) :
    Calls Try.prog 22 #[.slice (some ⟨B, 0, none⟩) 2 2] w fun e w' => ∃ v, e = .returned v ∧ w'.ownsRow w.heap.size 59 4 v (l1 ++ l2).length ((l1 ++ l2).flatMap Wi.f) ∧ Kept [] w w' := by
  have c0 : w.cell? ⟨B, 0, none⟩ = some v1 := by simp [World.cell?, hB]
  have c1 : w.cell? ⟨B, 1, none⟩ = some v2 := by simp [World.cell?, hB]
  obtain ⟨a1, cap1, rfl⟩ := wrow_slice h1
  obtain ⟨a2, cap2, rfl⟩ := wrow_slice h2
  have hm1 : l1.length ≤ 100000 := by omega
  have hm2 : l2.length ≤ 100000 := by omega
  have HB := hid hB
  have H1 := hid h1
  have H2 := hid h2
  clear hB h1 h2
  go_enter Try.func22, Try.ntmps22
  go_wp2
  go_loopg [3, 11] 2 (fun kx s3 s11 wr => wr = w ∧ ∃ (k : Nat), s11 = .int .i64 k ∧ k ≤ 2 ∧ 2 - k ≤ kx ∧ ((k = 0 ∧ s3 = .int .i64 0) ∨ (k = 1 ∧ s3 = .int .i64 (l1.length : Int)) ∨ (k = 2 ∧ s3 = .int .i64 ((l1.length + l2.length : Nat) : Int))))
  case atStart => exact ⟨rfl, 0, by first | rfl | go_num, by omega, by omega, .inl ⟨rfl, by first | rfl | go_num⟩⟩
  case round =>
    obtain ⟨rfl, k, rfl, hk, hkx, ⟨rfl, rfl⟩ | ⟨rfl, rfl⟩ | ⟨rfl, rfl⟩⟩ := hrel
    · have hpos : (0 : Int) ≤ (l1.length : Int) := by omega
      go_wp2
      go_roundg 1
      case measure => omega
      case rel => exact ⟨rfl, 1, by first | rfl | go_num, by omega, by omega, .inr (.inl ⟨rfl, by first | rfl | go_num⟩)⟩
    · have hpos : (0 : Int) ≤ (l1.length : Int) + (l2.length : Int) := by omega
      go_wp2
      go_roundg 0
      case measure => omega
      case rel => exact ⟨rfl, 2, by first | rfl | go_num, by omega, by omega, .inr (.inr ⟨rfl, by first | rfl | go_num | (congr 1; omega)⟩)⟩
    · go_wp2_with (first | (go_at_call 38; refine (wgrow_nil (l1.length + l2.length) _ (by omega)).mono ?_; rintro e w1 ⟨v, rfl, hown, hk⟩))
      have HO := hid hown
      have HK := hid hk
      clear hown hk
      go_loopg [6, 27] 2 (fun kx s6 s27 w2 => ∃ (k : Nat) (acc : List Wi), s27 = .int .i64 k ∧ k ≤ 2 ∧ 2 - k ≤ kx ∧ ((k = 0 ∧ acc = []) ∨ (k = 1 ∧ acc = l1) ∨ (k = 2 ∧ acc = l1 ++ l2)) ∧ Aside (w2.ownsRow wr.heap.size 59 4 s6 acc.length (acc.flatMap Wi.f)) ∧ Aside (Kept [] wr w2))
      case atStart => exact ⟨0, [], by first | rfl | go_num, by omega, by omega, .inl ⟨rfl, rfl⟩, HO.out, HK.out⟩
      case round =>
        clear HO HK
        obtain ⟨k, acc, rfl, hk, hkx, hcase, HO, HK⟩ := hrel
        have b0 := HK.out.cell c0 (by simp)
        have b1 := HK.out.cell c1 (by simp)
        have hsz := HK.out.size
        rcases hcase with ⟨rfl, rfl⟩ | ⟨rfl, rfl⟩ | ⟨rfl, rfl⟩
        · go_wp2_with (first | (at_builtin; refine wpList_append_wi rfl _ _ rfl _ _ _ _ rfl HO.out _ l1 rfl (H1.out.kept HK.out (by simp)) (by simp; omega) hsz ?_; intro v' w3 hown3 hgrow))
          have HK3 := hid (HK.out.grown_own HO.out hgrow (Nat.le_refl _))
          have HO3 := hid hown3
          clear hown3 hgrow
          go_roundg 1
          case measure => omega
          case rel => exact ⟨1, l1, by first | rfl | go_num, by omega, by omega, .inr (.inl ⟨rfl, rfl⟩), by have := HO3.out; show World.ownsRow _ _ _ _ _ _ _; simpa using this, HK3.out⟩
        · go_wp2_with (first | (at_builtin; refine wpList_append_wi rfl _ _ rfl _ _ _ _ rfl HO.out _ l2 rfl (H2.out.kept HK.out (by simp)) (by omega) hsz ?_; intro v' w3 hown3 hgrow))
          have HK3 := hid (HK.out.grown_own HO.out hgrow (Nat.le_refl _))
          have HO3 := hid hown3
          clear hown3 hgrow
          go_roundg 0
          case measure => omega
          case rel => exact ⟨2, acc ++ l2, by first | rfl | go_num, by omega, by omega, .inr (.inr ⟨rfl, rfl⟩), by have := HO3.out; show World.ownsRow _ _ _ _ _ _ _; rw [List.flatMap_append, List.length_append]; exact this, HK3.out⟩
        · go_wp2
          go_returns
          exact ⟨_, rfl, HO.out, HK.out⟩
--@@ end
end Go.Proofs.Ytiheoddlknbomaa
