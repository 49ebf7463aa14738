/- slices.Concat of two slices of pairs; a draft over a base. -/
import Derived.Test.YthidbnjijomlmaaFind
import Derived.Laws.AppendOwnNone
set_option linter.all false
namespace Go.Proofs.Ythidbnjijomlmaa
open Go.RowKit Go.Shelf Go.Lib Go.Sort Go.Proofs
set_option linter.unusedVariables false
set_option linter.unusedSimpArgs false

--@@ slices.Concat
set_option maxRecDepth 100000 in
theorem grow_nil (n : Nat) (w : World) (hl : n ≤ 100000) :
    Calls Try.prog 48 #[.slice none 0 0, .int .i64 n] w fun e w' => ∃ v, e = .returned v ∧ w'.ownsRow w.heap.size 54 6 v 0 [] ∧ Kept [] w w' := by
  rcases Nat.eq_zero_or_pos n with rfl | hn
  · refine (Any8.slices_Grow_room Try.layGrowPairs none 0 0 0 w (by omega) (by omega) (by omega) (by omega)).mono ?_
    rintro e w' ⟨rfl, rfl⟩
    exact ⟨_, rfl, ⟨rfl, .inl ⟨rfl, rfl⟩⟩, Kept.refl _ _⟩
  · obtain ⟨i0, hi, z, hz, hz1, hz2, hz3⟩ : ∃ i0, Try.prog.info? 54 = some i0 ∧ ∃ z, i0.zero = some z ∧ i0.size = 6 ∧ z.cells.size = 6 ∧ i0.bytes ≤ 64 := ⟨_, rfl, _, rfl, by kernel_rfl, by kernel_rfl, by decide⟩
    refine (Any8.slices_Grow_grow Try.layGrowPairs i0 z hi hz (by omega) none 0 0 n [] w (by omega) (by omega) (by have := Nat.mul_le_mul (Nat.le_refl (0 + n)) hz3; omega) (by omega) (by simp) (fun _ => rfl) (fun a h => by cases h)).mono ?_
    rintro e w' ⟨rfl, rfl⟩
    have hge := grownCap_ge w (0 + n) 0 54
    have hle := grownCap_le_maxLen w (0 + n) 0 54 (by unfold maxLen; omega)
    refine ⟨_, rfl, ⟨rfl, .inr ⟨w.heap.size, _, _, rfl, Nat.le_refl _, heap_alloc_new w.drew _, Nat.zero_le _, hle, ?_, by simp⟩⟩, (Kept.refl [] w).drew.alloc _⟩
    have hge2 : 0 + n ≤ grownCap w (0 + n) 0 (Try.layGrowPairs_ren.t 25) := hge
    have e1 : ∀ m, (Builtin.zeroCells z.cells m).size = m * 6 := fun m => by rw [size_zeroCells, hz2]
    generalize grownCap w (0 + n) 0 (Try.layGrowPairs_ren.t 25) = c at hge2 ⊢
    simp only [Array.size_append, e1]
    simp
    omega
theorem pairInfo : (Try.prog.info? 54).map (fun i => (i.zero, i.size, i.bytes)) = some (some (.agg #[.int .u8 0, .int .u8 0, .int .u8 0, .int .u8 0, .bool false, .int .i64 0]), 6, 24) := by kernel_rfl
/-- append(s, x...), x a slice of pairs that may be read -/
theorem wpList_append_pr {w : World} {ops : Array Oper} {rest : List Oper} {o : Oper} {a : Act} {Q : Exit → Act → World → Prop} (hgd : o.guard = none) (s x : Operand)
    (ho : o.op = .call { callee := .builtin .append, args := #[s, x], argTypes := #[38, 38] })
    (base : Nat) (v : Value) (n : Nat) (xs : List Value) (hs : a.eval s = v) (hown : w.ownsRow base 54 6 v n xs) (vx : Value) (l : List Pr) (hx : a.eval x = vx) (hp : PrAt w vx l)
    (hn : n + l.length ≤ 100000) (hbase : base ≤ w.heap.size)
    (h : ∀ v' w', w'.ownsRow base 54 6 v' (n + l.length) (xs ++ l.flatMap Pr.f) → w.grownBy w' v.ownBlock → wpList Try.prog ops Q rest (a.put o.dst v') w') : wpList Try.prog ops Q (o :: rest) a w := by
  obtain ⟨ax, c, rfl, h1, h2, h3⟩ := hp.at'.ex
  obtain ⟨i, hi, hz0, hz1, hz2⟩ := info_parts pairInfo
  cases ax with
  | none =>
    have hl0 : l = [] := by
      cases l with
      | nil => rfl
      | cons y l => obtain ⟨b, off, e, _⟩ := h3 (by simp); cases e
    subst hl0
    have hc0 := hp.nl _ _ rfl
    subst hc0
    refine wpList_append_own_none hgd s x 38 ho base 54 i 6 Try.underlying38 hi v n xs hs hown hx (h v w (by simpa using hown) ?_)
    exact World.grownBy.refl _ _
  | some ad =>
    refine wpList_append_is hgd s x 38 ho 54 _ 6 24 Try.underlying38 pairInfo rfl (by decide) (by decide) base v n xs hs hown ad l.length c (l.flatMap Pr.f) hx h2 ?_ ?_ (by omega) hbase (fun v' w' g1 g2 _ => h v' w' g1 g2)
    · intro j u hj
      have hpos : 0 < l.length := by
        cases l with
        | nil => simp at hj
        | cons y l => simp
      obtain ⟨b, off, e, _, hcs⟩ := h3 hpos
      cases e
      rw [Addr.add_lit]
      exact hcs j u hj
    · intro u hu
      obtain ⟨y, _, hy⟩ := List.mem_flatMap.1 hu
      exact encT_one (y, 0) u hy
set_option maxHeartbeats 4000000 in
set_option maxRecDepth 100000 in
theorem concat_any (B : Nat) (v1 v2 : Value) (l1 l2 : List Pr) (w : World) (hB : w.heap[B]? = some (.cells #[v1, v2] 38 (0, 0))) (h1 : PrAt w v1 l1) (h2 : PrAt w v2 l2) (m1 : l1.length ≤ 20000) (m2 : l2.length ≤ 20000) :
    Calls Try.prog 35 #[.slice (some ⟨B, 0, none⟩) 2 2] w fun e w' => ∃ v, e = .returned v ∧ PrAt w' v (l1 ++ l2) ∧ Kept [] w w' := by
  have c0 : w.cell? ⟨B, 0, none⟩ = some v1 := by simp [World.cell?, hB]
  have c1 : w.cell? ⟨B, 1, none⟩ = some v2 := by simp [World.cell?, hB]
  obtain ⟨a1, cap1, rfl, _⟩ := h1.at'.ex
  obtain ⟨a2, cap2, rfl, _⟩ := h2.at'.ex
  have HB := hid hB
  have H1 := hid h1
  have H2 := hid h2
  clear hB h1 h2
  go_enter Try.func35, Try.ntmps35
  go_wp2
  go_loopg [3, 11] 2 (fun kx s3 s11 wr => wr = w ∧ ∃ (k : Nat), s11 = .int .i64 k ∧ k ≤ 2 ∧ 2 - k ≤ kx ∧ ((k = 0 ∧ s3 = .int .i64 0) ∨ (k = 1 ∧ s3 = .int .i64 (l1.length : Int)) ∨ (k = 2 ∧ s3 = .int .i64 ((l1.length + l2.length : Nat) : Int))))
  case atStart => exact ⟨rfl, 0, by first | rfl | go_num, by omega, by omega, .inl ⟨rfl, by first | rfl | go_num⟩⟩
  case round =>
    obtain ⟨rfl, k, rfl, hk, hkx, ⟨rfl, rfl⟩ | ⟨rfl, rfl⟩ | ⟨rfl, rfl⟩⟩ := hrel
    · have hpos : (0 : Int) ≤ (l1.length : Int) := by omega
      go_wp2
      go_roundg 1
      case measure => omega
      case rel => exact ⟨rfl, 1, by first | rfl | go_num, by omega, by omega, .inr (.inl ⟨rfl, by first | rfl | go_num⟩)⟩
    · have hpos : (0 : Int) ≤ (l1.length : Int) + (l2.length : Int) := by omega
      go_wp2
      go_roundg 0
      case measure => omega
      case rel => exact ⟨rfl, 2, by first | rfl | go_num, by omega, by omega, .inr (.inr ⟨rfl, by first | rfl | go_num | (congr 1; omega)⟩)⟩
    · go_wp2_with (first | (go_at_call 48; refine (grow_nil (l1.length + l2.length) _ (by omega)).mono ?_; rintro e w1 ⟨v, rfl, hown, hk⟩))
      have HO := hid hown
      have HK := hid hk
      clear hown hk
      go_loopg [6, 27] 2 (fun kx s6 s27 w2 => ∃ (k : Nat) (acc : List Pr), s27 = .int .i64 k ∧ k ≤ 2 ∧ 2 - k ≤ kx ∧ ((k = 0 ∧ acc = []) ∨ (k = 1 ∧ acc = l1) ∨ (k = 2 ∧ acc = l1 ++ l2)) ∧ Aside (w2.ownsRow wr.heap.size 54 6 s6 acc.length (acc.flatMap Pr.f)) ∧ Aside (Kept [] wr w2))
      case atStart => exact ⟨0, [], by first | rfl | go_num, by omega, by omega, .inl ⟨rfl, rfl⟩, HO.out, HK.out⟩
      case round =>
        clear HO HK
        obtain ⟨k, acc, rfl, hk, hkx, hcase, HO, HK⟩ := hrel
        have b0 := HK.out.cell c0 (by simp)
        have b1 := HK.out.cell c1 (by simp)
        have hsz := HK.out.size
        rcases hcase with ⟨rfl, rfl⟩ | ⟨rfl, rfl⟩ | ⟨rfl, rfl⟩
        · go_wp2_with (first | (at_builtin; refine wpList_append_pr rfl _ _ rfl _ _ _ _ rfl HO.out _ l1 rfl (H1.out.kept HK.out) (by simp; omega) hsz ?_; intro v' w3 hown3 hgrow))
          have HK3 := hid (HK.out.grown_own HO.out hgrow (Nat.le_refl _))
          have HO3 := hid hown3
          clear hown3 hgrow
          go_roundg 1
          case measure => omega
          case rel => exact ⟨1, l1, by first | rfl | go_num, by omega, by omega, .inr (.inl ⟨rfl, rfl⟩), by have := HO3.out; show World.ownsRow _ _ _ _ _ _ _; simpa using this, HK3.out⟩
        · go_wp2_with (first | (at_builtin; refine wpList_append_pr rfl _ _ rfl _ _ _ _ rfl HO.out _ l2 rfl (H2.out.kept HK.out) (by omega) hsz ?_; intro v' w3 hown3 hgrow))
          have HK3 := hid (HK.out.grown_own HO.out hgrow (Nat.le_refl _))
          have HO3 := hid hown3
          clear hown3 hgrow
          go_roundg 0
          case measure => omega
          case rel => exact ⟨2, acc ++ l2, by first | rfl | go_num, by omega, by omega, .inr (.inr ⟨rfl, rfl⟩), by have := HO3.out; show World.ownsRow _ _ _ _ _ _ _; rw [List.flatMap_append, List.length_append]; exact this, HK3.out⟩
        · go_wp2
          go_returns
          exact ⟨_, rfl, PrAt.of_own HO.out rfl, HK.out⟩
--@@ (*draft.Draft).Over
theorem sort_pr (v : Value) (l : List Pr) (w : World) (h : PrAt w v l) (hl : l.length ≤ 100000) :
    Calls Try.prog 25 #[v] w fun e w' => ∃ v', e = .returned v' ∧ PrAt w' v' (sortP l) ∧ Kept [] w w' := by
  rcases Nat.eq_zero_or_pos l.length with h0 | hne
  · have hl0 : l = [] := List.eq_nil_of_length_eq_zero h0
    subst hl0
    obtain ⟨a, cap, rfl, h1, h2, h3⟩ := h.at'.ex
    refine (sort_none a cap w (fun x hx => h.sp x 0 cap (by rw [hx]; rfl))).mono ?_
    rintro e w' ⟨a', cap', rfl, ⟨hsp, hnl⟩, hk⟩
    exact ⟨_, rfl, ⟨⟨a', cap', rfl, Nat.zero_le _, rfl, fun h => absurd h (Nat.lt_irrefl 0)⟩, fun a n c hv => (by cases hv; exact hsp _ rfl), fun n c hv => (by cases hv; exact hnl rfl)⟩, hk⟩
  · refine (sort_some v l w h.at' hl hne).mono ?_
    rintro e w' ⟨v', rfl, ⟨g, n, c, rfl⟩, h1, h2⟩
    exact ⟨_, rfl, ⟨h1, fun a n c hv => (by cases hv; rfl), fun n c hv => (by cases hv)⟩, h2⟩
theorem keysP_len (l : List Pr) : (keysP l).length ≤ l.length := by
  have ins : ∀ (p : Pr) (m : List Pr), (insP p m).length ≤ m.length + 1 := fun p m => by
    induction m with
    | nil => simp [insP]
    | cons q m ih => unfold insP; split <;> (try split) <;> simp <;> omega
  have key : ∀ (l m : List Pr), (l.foldl (fun out p => insP p out) m).length ≤ m.length + l.length := fun l => by
    induction l with
    | nil => intro m; simp
    | cons p l ih => intro m; have h1 := ih (insP p m); have h2 := ins p m; simp only [List.foldl_cons, List.length_cons]; omega
  have := key l []
  simpa [keysP] using this
set_option maxHeartbeats 1000000 in
set_option maxRecDepth 100000 in
theorem over_any (a m : Nat) (l : List (K4 × V)) (v : Value) (base : List Pr) (w : World) (h : DraftIs w a m l) (hn : (l.map (·.1)).Nodup) (hl : l.length ≤ 1000) (hv : PrAt w v base) (hb : base.length ≤ 10000) :
    Calls Try.prog 19 #[.pointer (some ⟨a, 0, none⟩), v] w fun e w' => ∃ v', e = .returned v' ∧ PrAt w' v' (sortP (base ++ keysP (l.map toPr))) ∧ Kept [] w w' := by
  have hkl := keysP_len (l.map toPr)
  obtain ⟨av, cv, rfl, _⟩ := hv.at'.ex
  have HP := hid (dpairs_any a m l w h hn hl)
  have HV := hid hv
  clear h hv
  go_enter Try.func19, Try.ntmps19
  go_wp2_with (first
    | (go_at_call 18; refine HP.out.mono ?_; rintro e w1 ⟨v1, rfl, hp1, hk1⟩; obtain ⟨a1, c1, rfl, _⟩ := hp1.at'.ex)
    | (go_at_call 35; refine Here.mk ?_))
  refine Here.of ?_
  refine (concat_any w1.heap.size _ _ base (keysP (l.map toPr)) (w1.alloc (.cells #[.slice av base.length cv, .slice a1 (keysP (l.map toPr)).length c1] 38)) (heap_alloc_new w1 _) ((HV.out.kept hk1).kept ((Kept.refl [] w1).alloc _)) (hp1.kept ((Kept.refl [] w1).alloc _)) (by omega) (by simp at hkl; omega)).mono ?_
  rintro e w2 ⟨v2, rfl, hp2, hk2⟩
  have HP2 := hid hp2
  have HK2 := hid ((hk1.alloc (.cells #[.slice av base.length cv, .slice a1 (keysP (l.map toPr)).length c1] 38)).trans hk2 (fun x hx => .inl hx))
  clear hp1 hk1 hp2 hk2
  go_wp2_with (first | (go_at_call 25; refine (sort_pr v2 _ _ HP2.out (by simp at hkl ⊢; omega)).mono ?_; rintro e w3 ⟨v3, rfl, hp3, hk3⟩))
  go_returns
  exact ⟨_, rfl, hp3, HK2.out.trans hk3 (fun x hx => .inl hx)⟩
--@@ end
end Go.Proofs.Ythidbnjijomlmaa
