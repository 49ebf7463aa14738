/- slices.Insert of one wish. -/
import Derived.Test.YtpfgpbafechncaaGreatM3
import Derived.Shelf.Spec.SlicesInsert
import Derived.Lib.AppendZerosOnto
set_option linter.all false
namespace Go.Proofs.YtpfgpbafechncaaGreat
open Go.RowKit Go.Shelf Go.Lib Go.Sort Go.Proofs
theorem run_copy_k {P : Program} (w : World) (dT sT ty elem : TypeId) (k b o dLen dCap : Nat) (a : Addr) (sLen sCap : Nat) (cs : List Value)
    (hu : P.underlying dT = some (.slice elem)) (hs : (P.info? elem).map (·.size) = some k) (hn : cs.length = Nat.min sLen dLen * k)
    (hsrc : ∀ j v, cs[j]? = some v → w.cell? (a.add j) = some v) (hc : ∀ j, j < cs.length → (w.cell? ⟨b, o + j, none⟩).isSome = true) (hf : ∀ j, j < cs.length → w.frozen? ⟨b, o + j, none⟩ = false) (h1 : ∀ v ∈ cs, v.oneCell' = true) :
    (Builtin.copy_ #[dT, sT] ty #[.slice (some ⟨b, o, none⟩) dLen dCap, .slice (some a) sLen sCap]).run P w = .ok (goInt (Nat.min sLen dLen)) (w.setCells b o cs) := by
  have hl := run_loadCells_list (P := P) w a cs hsrc
  have hst := run_storeCells_cells (P := P) b o cs 0 w (by simpa using hc) (by simpa using hf) h1
  cases hq : P.info? elem with
  | none => simp [hq] at hs
  | some i =>
    have hi : i.size = k := by simpa [hq] using hs
    simp [Builtin.copy_, run_underlying hu, Builtin.lenOf, Builtin.firstCells, sizeOf, typeInfo, hq, hi, ← hn, hl, hst]
theorem BlkW.of_cells {T : TypeId} {w : World} {g off cap sz : Nat} {cur : Array Value} {l : List Wi} (hb : w.heap[g]? = some (.cells cur T (0, 0))) (hs : cur.size = sz) (hle : l.length ≤ cap) (hmx : cap ≤ 9223372036854775807) (hfit : off + cap * 4 ≤ sz)
    (hc : ∀ j u, (l.flatMap Wi.f)[j]? = some u → w.cell? ⟨g, off + j, none⟩ = some u) : BlkW T w g off cap sz l :=
  ⟨⟨cur, hb, hs, fun j u hj => by have := hc j u hj; rw [cell_of_row w g _ cur T (0, 0) hb] at this; exact this⟩, hle, hmx, hfit⟩
theorem setCells_heap (b : Nat) : ∀ (vs : List Value) (o : Nat) {W W' : World}, W.heap = W'.heap → (W.setCells b o vs).heap = (W'.setCells b o vs).heap
  | [], _, _, _, h => h
  | v :: vs, o, W, W', h => setCells_heap b vs (o + 1) (by simp only [World.setCell]; rw [h])
theorem wflat_take (l : List Wi) (m : Nat) : (l.flatMap Wi.f).take (m * 4) = (l.take m).flatMap Wi.f := by
  induction l generalizing m with
  | nil => simp
  | cons p l ih =>
    cases m with
    | zero => simp
    | succ m =>
      simp only [List.flatMap_cons, List.take_succ_cons]
      rw [List.take_append, wf_len, List.take_of_length_le (by rw [wf_len]; omega), show (m + 1) * 4 - 4 = m * 4 by omega, ih]
theorem wflat_drop (l : List Wi) (m : Nat) : (l.flatMap Wi.f).drop (m * 4) = (l.drop m).flatMap Wi.f := by
  induction l generalizing m with
  | nil => simp
  | cons p l ih =>
    cases m with
    | zero => simp
    | succ m =>
      simp only [List.flatMap_cons, List.drop_succ_cons]
      rw [List.drop_append, wf_len, List.drop_of_length_le (by rw [wf_len]; omega), show (m + 1) * 4 - 4 = m * 4 by omega, ih, List.nil_append]
theorem wflat_one (l : List Wi) : ∀ u ∈ l.flatMap Wi.f, u.oneCell' = true := fun u hu => by
  obtain ⟨y, _, hy⟩ := List.mem_flatMap.1 hu
  exact wf_one y u hy
theorem ins_at (l : List Wi) (i : Nat) (hi : i ≤ l.length) (x : Wi) (j : Nat) (u : Value) (hj : ((l.take i ++ x :: l.drop i).flatMap Wi.f)[j]? = some u) :
    (j < i * 4 ∧ (l.flatMap Wi.f)[j]? = some u) ∨ (i * 4 ≤ j ∧ j < i * 4 + 4 ∧ x.f[j - i * 4]? = some u) ∨ (i * 4 + 4 ≤ j ∧ j < l.length * 4 + 4 ∧ ((l.drop i).flatMap Wi.f)[j - (i * 4 + 4)]? = some u) := by
  rw [List.flatMap_append, List.flatMap_cons] at hj
  have h1 : ((l.take i).flatMap Wi.f).length = i * 4 := by rw [wflat_len, List.length_take, Nat.min_eq_left hi]
  rcases Nat.lt_or_ge j (i * 4) with hlt | hge
  · left
    rw [List.getElem?_append_left (by omega), ← wflat_take, List.getElem?_take, if_pos hlt] at hj
    exact ⟨hlt, hj⟩
  · right
    rw [List.getElem?_append_right (by omega), h1] at hj
    rcases Nat.lt_or_ge j (i * 4 + 4) with h2 | h2
    · left
      rw [List.getElem?_append_left (by rw [wf_len]; omega)] at hj
      exact ⟨hge, h2, hj⟩
    · right
      rw [List.getElem?_append_right (by rw [wf_len]; omega), wf_len, show j - i * 4 - 4 = j - (i * 4 + 4) by omega] at hj
      have := (List.getElem?_eq_some_iff.1 hj).1
      rw [wflat_len, List.length_drop] at this
      exact ⟨h2, by omega, hj⟩
--@@ slices.Insert[[]lock.wish,lock.wish]
theorem wSz : (Tryz.prog.info? 129).map (·.size) = some 4 := by kernel_rfl
set_option maxHeartbeats 4000000 in
set_option maxRecDepth 100000 in
theorem wins_end (qv : Value) (l : List Wi) (x : Wi) (vb : Nat) (w : World) (hq : WRow 129 w qv l) (hv : w.heap[vb]? = some (.cells x.f.toArray 129 (0, 0))) (hvb : vb ∉ qv.ownBlock.toList) (hl : l.length < 100000000) :
    Calls Tryz.prog 101 #[qv, .int .i64 l.length, .slice (some ⟨vb, 0, none⟩) 1 1] w fun e w' => ∃ qv', e = .returned qv' ∧ WRow 129 w' qv' (l ++ [x]) ∧ (∀ b ∈ qv'.ownBlock.toList, b ∈ qv.ownBlock.toList ∨ w.heap.size ≤ b) ∧ Kept qv.ownBlock.toList w w' := by
  obtain ⟨i0, hi0, hz0, hzs, hzb⟩ := info_parts wishInfo
  have hvc : ∀ j v, x.f[j]? = some v → w.cell? ⟨vb, 0 + j, none⟩ = some v := fun j v hj => by rw [Nat.zero_add, cell_of_row w vb j _ _ (0, 0) hv]; simpa using hj
  have hsrc : Src Tryz.prog i0.size 131 (.slice (some ⟨vb, 0, none⟩) 1 1) 1 x.f w := by
    rw [hzs]
    exact Src.ofSlice w Tryz.underlying131 ⟨vb, 0, none⟩ 1 1 x.f rfl (fun j u hj => by rw [Addr.add_lit]; exact hvc j u hj) (wf_one x)
  have hgrow : ∀ (base : Option Addr) (c : Nat), l.length ≤ c → c < l.length + 1 → (Builtin.firstCells i0.size l.length (.slice base l.length c)).run Tryz.prog w.drew = .ok (l.flatMap Wi.f).toArray w.drew → ∀ ty, (Builtin.append_ #[131, 131] ty #[.slice base l.length c, .slice (some ⟨vb, 0, none⟩) 1 1]).run Tryz.prog w = _ := fun base c h1 h2 hold ty =>
    run_append_grow_src w 131 131 ty 129 i0 _ Tryz.underlying131 hi0 hz0 base l.length c (l.flatMap Wi.f) hold _ 1 x.f hsrc h2 (by omega) (by rw [hzb]; exact growslice_fits h2 (by omega))
  have hnew : ∀ c, WRow 129 (w.drew.alloc (.cells ((l.flatMap Wi.f ++ x.f).toArray ++ Builtin.zeroCells (Value.agg #[.int .i64 0, .bool false, .int .i64 0, .bool false]).cells (grownCap w (l.length + 1) c 129 - (l.length + 1))) 129)) (.slice (some ⟨w.heap.size, 0, none⟩) (l.length + 1) (grownCap w (l.length + 1) c 129)) (l ++ [x]) := fun c => by
    have hge := grownCap_ge w (l.length + 1) c 129
    have hm := grownCap_le_maxLen w (l.length + 1) c 129 (by unfold maxLen; omega)
    refine .inr ⟨w.heap.size, 0, _, grownCap w (l.length + 1) c 129 * 4, by rw [List.length_append]; rfl, ⟨⟨_, heap_alloc_new w.drew _, ?_, fun j u hj => ?_⟩, by simpa using hge, by unfold maxLen at hm; omega, by omega⟩⟩
    · simp only [Array.size_append, List.size_toArray, List.length_append, wflat_len, wf_len, size_zeroCells]
      rw [show (Value.agg #[.int .i64 0, .bool false, .int .i64 0, .bool false]).cells.size = 4 from rfl]
      omega
    · rw [Nat.zero_add, Array.getElem?_append_left]
      · rw [List.flatMap_append, List.flatMap_cons, List.flatMap_nil, List.append_nil] at hj
        simpa using hj
      · have := (List.getElem?_eq_some_iff.1 hj).1
        rw [wflat_len, List.length_append, List.length_singleton] at this
        rw [List.size_toArray, List.length_append, wflat_len, wf_len]
        omega
  have hKN : ∀ S o, Kept S w (w.drew.alloc o) := fun S o => ((Kept.refl S w).drew).alloc o
  rcases hq with ⟨rfl, rfl⟩ | ⟨g, off, cap, sz, rfl, hb⟩
  · have hr := hgrow none 0 (Nat.le_refl _) (by simp) (by rw [hzs]; exact run_firstCells_none w.drew 4 0 0 0)
    have HN := hid (hnew 0)
    have HKN := hid hKN
    clear hgrow hsrc hvc hnew hKN
    go_enter Tryz.func101, Tryz.ntmps101
    go_wp2_with (at_builtin; refine Lib.wpList_append_run _ rfl _ _ _ _ rfl _ _ rfl rfl _ _ (hr _) ?_)
    go_ret
    exact ⟨_, rfl, HN.out, fun b hb => .inr (by simp [Value.ownBlock] at hb; omega), HKN.out _ _⟩
  · have hle := hb.le
    have hmx := hb.mx
    by_cases hroom : l.length + 1 ≤ cap
    · obtain ⟨cur, c1, c2, c3⟩ := hb.ex
      have hfit := hb.fit
      obtain ⟨cur', d1, d2, d3⟩ := heap_setCells_at g x.f (off + l.length * 4) w cur c1 (by rw [wf_len]; omega)
      have hsome : ∀ j, j < x.f.length → (w.cell? ⟨g, off + l.length * i0.size + j, none⟩).isSome = true := fun j hj => by
        rw [wf_len] at hj
        rw [hzs, cell_of_row w g _ cur _ (0, 0) c1, Array.getElem?_eq_getElem (by omega)]; rfl
      have hr : ∀ ty, (Builtin.append_ #[131, 131] ty #[.slice (some ⟨g, off, none⟩) l.length cap, .slice (some ⟨vb, 0, none⟩) 1 1]).run Tryz.prog w = .ok (.slice (some ⟨g, off, none⟩) (l.length + 1) cap) (w.setCells g (off + l.length * 4) x.f) := fun ty => by
        have := run_append_room_src (P := Tryz.prog) (w := w) 131 131 ty 129 i0 Tryz.underlying131 hi0 g off l.length cap _ 1 x.f hsrc hroom hsome (fun j _ => hb.frozen _)
        rw [hzs] at this
        exact this
      have HN := hid (show WRow 129 (w.setCells g (off + l.length * 4) x.f) (.slice (some ⟨g, off, none⟩) (l.length + 1) cap) (l ++ [x]) from .inr ⟨g, off, cap, sz, by rw [List.length_append]; rfl, BlkW.of_cells d1 (by rw [d2, c2]) (by simpa using hroom) hmx hfit (fun j u hj => by
        have hj' := ins_at l l.length (Nat.le_refl _) x j u (by rw [List.take_length, List.drop_length]; exact hj)
        rcases hj' with ⟨h1, h2⟩ | ⟨h1, h2, h3⟩ | ⟨h1, h2, _⟩
        · rw [World.cell?_setCells_out g _ _ _ _ (fun _ _ => .inl (by dsimp only; omega))]
          exact hb.cell h2
        · have := World.cell?_setCells_in g x.f (off + l.length * 4) w (fun t ht => by have := hsome t ht; rwa [hzs] at this) (j - l.length * 4) (by rw [wf_len]; omega)
          rw [show off + l.length * 4 + (j - l.length * 4) = off + j by omega] at this
          rw [this, ← h3, List.getElem?_eq_getElem]
        · omega)⟩)
      have HK := hid (Kept.setCells (S := [g]) g (.inl (by simp)) x.f (off + l.length * 4) (Kept.refl [g] w))
      clear hgrow hsrc hvc hnew hKN hsome d1 d2 d3 c1 c2 c3
      go_enter Tryz.func101, Tryz.ntmps101
      go_wp2_with (at_builtin; refine Lib.wpList_append_run _ rfl _ _ _ _ rfl _ _ rfl rfl _ _ (hr _) ?_)
      all_goals go_ret
      all_goals exact ⟨_, rfl, HN.out, fun b hb => .inl hb, HK.out⟩
    · have hr := hgrow (some ⟨g, off, none⟩) cap hle (by omega) (by
        rw [hzs]
        exact run_firstCells_some w.drew 4 l.length ⟨g, off, none⟩ l.length cap (l.flatMap Wi.f) (wflat_len l) (fun j v hj => by rw [Addr.add_lit]; exact hb.cell hj))
      have HN := hid (hnew cap)
      have HKN := hid hKN
      have hblt := hb.lt
      clear hgrow hsrc hvc hnew hKN hb
      go_enter Tryz.func101, Tryz.ntmps101
      go_wp2_with (at_builtin; refine Lib.wpList_append_run _ rfl _ _ _ _ rfl _ _ rfl rfl _ _ (hr _) ?_)
      all_goals go_ret
      all_goals exact ⟨_, rfl, HN.out, fun b hb => .inr (by simp [Value.ownBlock] at hb; omega), HKN.out _ _⟩
set_option maxHeartbeats 4000000 in
set_option maxRecDepth 100000 in
theorem wins_shift (g off cap sz : Nat) (l : List Wi) (x : Wi) (vb i : Nat) (w : World) (hb : BlkW 129 w g off cap sz l) (hv : w.heap[vb]? = some (.cells x.f.toArray 129 (0, 0))) (hvb : vb ≠ g) (hl : l.length < 100000000) (hi : i < l.length) (hroom : l.length + 1 ≤ cap) :
    Calls Tryz.prog 101 #[.slice (some ⟨g, off, none⟩) l.length cap, .int .i64 i, .slice (some ⟨vb, 0, none⟩) 1 1] w fun e w' => e = .returned (.slice (some ⟨g, off, none⟩) (l.length + 1) cap) ∧ BlkW 129 w' g off cap sz (l.take i ++ x :: l.drop i) ∧ Kept [g] w w' := by
  obtain ⟨cur, c1, c2, c3⟩ := hb.ex
  have hfit := hb.fit
  have hmx := hb.mx
  have hvc : ∀ j v, x.f[j]? = some v → w.cell? ⟨vb, 0 + j, none⟩ = some v := fun j v hj => by rw [Nat.zero_add, cell_of_row w vb j _ _ (0, 0) hv]; simpa using hj
  have hsp : ∀ j, j < (l.length + 1) * 4 → (w.cell? ⟨g, off + j, none⟩).isSome = true := fun j hj => by
    rw [cell_of_row w g _ cur _ (0, 0) c1, Array.getElem?_eq_getElem (by omega)]; rfl
  have hov : ∀ lb cb, (callFunc 125 #[.slice (some ⟨vb, 0, none⟩) 1 1, .slice (some ⟨g, off + (i + 1) * 4, none⟩) lb cb]).run Tryz.prog w = .ok (.value (.bool false)) w := fun lb cb => by
    rw [run_callFunc_extern Tryz.func125 (by kernel_rfl) (by kernel_rfl) (by kernel_rfl) (e := Extern.SlicesOverlaps.overlaps #[131, 131] #[4]) (by kernel_rfl),
      Lib.run_overlaps_apart w 131 4 129 Tryz.underlying131 4 wSize ⟨vb, 0, none⟩ ⟨g, off + (i + 1) * 4, none⟩ 1 1 lb cb hvb 129 129 4 sz (by simp [World.shape?, hv, wf_len]) (by simp [World.shape?, c1, c2]) (by omega) (by simp [World.frozen?, hv]) (by simp [World.frozen?, hv])]
    rfl
  have hdl : ((l.drop i).flatMap Wi.f).length = (l.length - i) * 4 := by rw [wflat_len, List.length_drop]
  have hw1 : IntKind.i64.wrap ((i : Int) + 1) = (i : Int) + 1 := by rw [IntKind.wrap_i64]; omega
  have hb1 : (0 : Int) ≤ (i : Int) + 1 := by omega
  have hin : i ≤ l.length := by omega
  have htn : ((i : Int) + 1).toNat = i + 1 := by omega
  have hb2 : ¬ (cap = i + 1) := by omega
  have hb3 : (i : Int) ≤ (l.length : Int) + 1 := by omega
  have hb4 : ¬ (cap = i) := by omega
  have hz2 : ¬ ((i : Int) = (l.length : Int)) := by omega
  have hcp1 : ∀ ty dc sc, (Builtin.copy_ #[131, 131] ty #[.slice (some ⟨g, off + (i + 1) * 4, none⟩) (l.length - i) dc, .slice (some ⟨g, off + i * 4, none⟩) (l.length + 1 - i) sc]).run Tryz.prog w.drew = .ok (goInt (Nat.min (l.length + 1 - i) (l.length - i))) (w.drew.setCells g (off + (i + 1) * 4) ((l.drop i).flatMap Wi.f)) := fun ty dc sc =>
    run_copy_k w.drew _ _ ty 129 4 g (off + (i + 1) * 4) (l.length - i) dc ⟨g, off + i * 4, none⟩ (l.length + 1 - i) sc ((l.drop i).flatMap Wi.f) Tryz.underlying131 wSz (by rw [hdl, show Nat.min (l.length + 1 - i) (l.length - i) = l.length - i by simp only [Nat.min_def]; split <;> omega])
      (fun j v hj => by
        rw [Addr.add_lit, Nat.add_assoc]
        rw [← wflat_drop, List.getElem?_drop] at hj
        exact hb.cell hj)
      (fun j hj => by rw [Nat.add_assoc]; exact hsp _ (by rw [hdl] at hj; omega)) (fun j hj => hb.frozen _) (wflat_one _)
  obtain ⟨W1, hW1⟩ : ∃ W1, W1 = w.drew.setCells g (off + (i + 1) * 4) ((l.drop i).flatMap Wi.f) := ⟨_, rfl⟩
  obtain ⟨cur1, e1, e2, _⟩ := heap_setCells_at g ((l.drop i).flatMap Wi.f) (off + (i + 1) * 4) w.drew cur c1 (by rw [hdl]; omega)
  rw [← hW1] at e1
  have hcp2 : ∀ (W : World), (∀ x, W.cell? x = W1.cell? x) → (∀ x, W.frozen? x = W1.frozen? x) → ∀ ty dc, (Builtin.copy_ #[131, 131] ty #[.slice (some ⟨g, off + i * 4, none⟩) (l.length + 1 - i) dc, .slice (some ⟨vb, 0, none⟩) 1 1]).run Tryz.prog W = .ok (goInt (Nat.min 1 (l.length + 1 - i))) (W.setCells g (off + i * 4) x.f) := fun W hWc hWf ty dc =>
    run_copy_k W _ _ ty 129 4 g (off + i * 4) (l.length + 1 - i) dc ⟨vb, 0, none⟩ 1 1 x.f Tryz.underlying131 wSz (by rw [wf_len, show Nat.min 1 (l.length + 1 - i) = 1 by simp only [Nat.min_def]; split <;> omega])
      (fun j v hj => by
        rw [Addr.add_lit, hWc, hW1, World.cell?_setCells_out g _ _ _ _ (fun h _ => absurd h hvb)]
        exact hvc j v hj)
      (fun j hj => by
        rw [wf_len] at hj
        rw [hWc, cell_of_row W1 g _ cur1 _ (0, 0) e1, Array.getElem?_eq_getElem (by omega)]; rfl) (fun j hj => by rw [hWf]; simp [World.frozen?, e1]) (wf_one x)
  have hend : ∀ W, W.heap = (W1.setCells g (off + i * 4) x.f).heap → BlkW 129 W g off cap sz (l.take i ++ x :: l.drop i) := fun W hW => by
    obtain ⟨cur2, f1, f2, _⟩ := heap_setCells_at g x.f (off + i * 4) W1 cur1 e1 (by rw [wf_len]; omega)
    rw [← hW] at f1
    refine BlkW.of_cells f1 (by rw [f2, e2, c2]) (by simp; omega) hmx hfit (fun j u hj => ?_)
    have hWc : ∀ k, W.cell? ⟨g, k, none⟩ = (W1.setCells g (off + i * 4) x.f).cell? ⟨g, k, none⟩ := fun k => by simp [World.cell?, hW]
    rw [hWc]
    rcases ins_at l i hin x j u hj with ⟨h1, h2⟩ | ⟨h1, h2, h3⟩ | ⟨h1, h2, h3⟩
    · rw [World.cell?_setCells_out g _ _ _ _ (fun _ _ => .inl (by dsimp only; omega)), hW1, World.cell?_setCells_out g _ _ _ _ (fun _ _ => .inl (by dsimp only; omega))]
      exact hb.cell h2
    · have := World.cell?_setCells_in g x.f (off + i * 4) W1 (fun t ht => by
        rw [wf_len] at ht
        rw [cell_of_row W1 g _ cur1 _ (0, 0) e1, Array.getElem?_eq_getElem (by omega)]; rfl) (j - i * 4) (by rw [wf_len]; omega)
      rw [show off + i * 4 + (j - i * 4) = off + j by omega] at this
      rw [this, ← h3, List.getElem?_eq_getElem]
    · rw [World.cell?_setCells_out g _ _ _ _ (fun _ _ => .inr (by rw [wf_len]; dsimp only; omega)), hW1]
      have := World.cell?_setCells_in g ((l.drop i).flatMap Wi.f) (off + (i + 1) * 4) w.drew (fun t ht => by rw [hdl] at ht; rw [show off + (i + 1) * 4 + t = off + ((i + 1) * 4 + t) by omega]; exact hsp _ (by omega)) (j - (i * 4 + 4)) (by rw [hdl]; omega)
      rw [show off + (i + 1) * 4 + (j - (i * 4 + 4)) = off + j by omega] at this
      rw [this, ← h3, List.getElem?_eq_getElem]
  have hk1 : Kept [g] w W1 := by rw [hW1]; exact Kept.setCells g (.inl (by simp)) _ _ ((Kept.refl [g] w).drew)
  have HEND := hid hend
  have HK := hid (fun W (hk : Kept [g] w W) => Kept.setCells g (.inl (by simp)) x.f (off + i * 4) hk)
  have HK1 := hid hk1
  rw [← hW1] at hcp1
  clear hend hk1 hdl hvc hsp c1 c2 c3 e1 e2 hv hb hW1
  go_enter Tryz.func101, Tryz.ntmps101
  go_wp2_with (simp only [hov])
  clear hov
  have mixed : Tryz.prog.follows .mixedOrders = true := by kernel_rfl
  go_region_law_o (refine step_copy_runI rfl _ _ 131 131 rfl _ _ (by simp [Act.eval, Act.put]) (by simp [Act.eval, Act.put]) (hcp1 _ _ _) ?_)
  go_wp2_with (at_builtin; refine wpList_copy_runI _ rfl _ _ 131 131 rfl _ _ rfl rfl (hcp2 _ (fun _ => rfl) (fun _ => rfl) _ _) ?_)
  go_ret
  exact ⟨rfl, HEND.out _ rfl, HK.out _ HK1.out⟩
set_option maxHeartbeats 4000000 in
set_option maxRecDepth 100000 in
theorem wins_grow (g off cap sz : Nat) (l : List Wi) (x : Wi) (vb i : Nat) (w : World) (hb : BlkW 129 w g off cap sz l) (hv : w.heap[vb]? = some (.cells x.f.toArray 129 (0, 0))) (hvb : vb ≠ g) (hl : l.length < 100000000) (hi : i < l.length) (hroom : cap < l.length + 1) :
    Calls Tryz.prog 101 #[.slice (some ⟨g, off, none⟩) l.length cap, .int .i64 i, .slice (some ⟨vb, 0, none⟩) 1 1] w fun e w' => ∃ G, e = .returned (.slice (some ⟨w.heap.size, 0, none⟩) (l.length + 1) G) ∧ BlkW 129 w' w.heap.size 0 G (G * 4) (l.take i ++ x :: l.drop i) ∧ Kept [] w w' := by
  obtain ⟨i0, hi0, hz0, hzs, hzb⟩ := info_parts wishInfo
  have hle := hb.le
  have hmx := hb.mx
  have hz2 : ¬ ((i : Int) = (l.length : Int)) := by omega
  have hz3 : (cap : Int) < (l.length : Int) + 1 := by omega
  have hbw : g < w.heap.size := hb.lt
  have hvw : vb < w.heap.size := (Array.getElem?_eq_some_iff.1 hv).1
  have hvc : ∀ j v, x.f[j]? = some v → w.cell? ⟨vb, 0 + j, none⟩ = some v := fun j v hj => by rw [Nat.zero_add, cell_of_row w vb j _ _ (0, 0) hv]; simpa using hj
  have hkk : (l.length : Int) + 1 - (i : Int) = ((l.length + 1 - i : Nat) : Int) := by omega
  have hik : i + (l.length + 1 - i) = l.length + 1 := by omega
  have hold : (Builtin.firstCells i0.size i (.slice (some ⟨g, off, none⟩) i cap)).run Tryz.prog w.drew = .ok ((l.take i).flatMap Wi.f).toArray w.drew := by
    rw [hzs]
    exact run_firstCells_some w.drew 4 i ⟨g, off, none⟩ i cap ((l.take i).flatMap Wi.f) (by rw [wflat_len, List.length_take, Nat.min_eq_left (by omega)]) (fun j v hj => by
      rw [Addr.add_lit]
      rw [← wflat_take, List.getElem?_take] at hj
      split at hj
      · exact hb.cell hj
      · cases hj)
  have hrz : ∀ ty, (Builtin.append_ #[131, 3] ty #[.slice (some ⟨g, off, none⟩) i cap, .int .i64 ((l.length : Int) + 1 - (i : Int))]).run Tryz.prog w =
      .ok (.slice (some ⟨w.heap.size, 0, none⟩) (l.length + 1) (grownCap w (l.length + 1) cap 129)) (w.drew.alloc (.cells (((l.take i).flatMap Wi.f).toArray ++ Builtin.zeroCells (Value.agg #[.int .i64 0, .bool false, .int .i64 0, .bool false]).cells (l.length + 1 - i) ++ Builtin.zeroCells (Value.agg #[.int .i64 0, .bool false, .int .i64 0, .bool false]).cells (grownCap w (l.length + 1) cap 129 - (l.length + 1))) 129)) := fun ty => by
    have h := Lib.run_append_grow_zeros w 131 3 ty 129 i0 _ .i64 .i64 Tryz.underlying131 Tryz.underlying3 hi0 hz0 (some ⟨g, off, none⟩) i cap ((l.take i).flatMap Wi.f) hold (l.length + 1 - i) (by omega) (by omega) (by omega) (by omega) (by rw [hzb]; omega) (by rw [hzb, hik]; exact growslice_fits hroom (by omega))
    rw [hik] at h
    rw [hkk]
    exact h
  obtain ⟨G, hG⟩ : ∃ G, G = grownCap w (l.length + 1) cap 129 := ⟨_, rfl⟩
  obtain ⟨ROW, hROW⟩ : ∃ ROW : Array Value, ROW = ((l.take i).flatMap Wi.f).toArray ++ Builtin.zeroCells (Value.agg #[.int .i64 0, .bool false, .int .i64 0, .bool false]).cells (l.length + 1 - i) ++ Builtin.zeroCells (Value.agg #[.int .i64 0, .bool false, .int .i64 0, .bool false]).cells (G - (l.length + 1)) := ⟨_, rfl⟩
  rw [← hG, ← hROW] at hrz
  have hGn : l.length + 1 ≤ G := by rw [hG]; exact grownCap_ge w _ _ _
  have hG63 : G ≤ 9223372036854775807 := by
    have := grownCap_le_maxLen w (l.length + 1) cap 129 (by unfold maxLen; omega)
    rw [← hG] at this
    unfold maxLen at this
    omega
  have hRs : ROW.size = G * 4 := by
    rw [hROW]
    simp only [Array.size_append, List.size_toArray, wflat_len, List.length_take, size_zeroCells]
    rw [show (Value.agg #[.int .i64 0, .bool false, .int .i64 0, .bool false]).cells.size = 4 from rfl, Nat.min_eq_left (by omega)]
    omega
  have hRt : ∀ j u, ((l.take i).flatMap Wi.f)[j]? = some u → ROW[j]? = some u := fun j u hj => by
    have hjl := (List.getElem?_eq_some_iff.1 hj).1
    rw [hROW, Array.append_assoc, Array.getElem?_append_left (by simpa using hjl)]
    simpa using hj
  obtain ⟨W1, hW1⟩ : ∃ W1, W1 = w.drew.alloc (.cells ROW 129) := ⟨_, rfl⟩
  rw [← hW1] at hrz
  have hb1 : W1.heap[w.heap.size]? = some (.cells ROW 129 (0, 0)) := by rw [hW1]; exact heap_alloc_new w.drew _
  have hK1 : Kept [] w W1 := by rw [hW1]; exact ((Kept.refl [] w).drew).alloc _
  have hcpA : ∀ (W : World), (∀ x, W.cell? x = W1.cell? x) → (∀ x, W.frozen? x = W1.frozen? x) → ∀ ty dc, (Builtin.copy_ #[131, 131] ty #[.slice (some ⟨w.heap.size, i * 4, none⟩) (l.length + 1 - i) dc, .slice (some ⟨vb, 0, none⟩) 1 1]).run Tryz.prog W = .ok (goInt (Nat.min 1 (l.length + 1 - i))) (W.setCells w.heap.size (i * 4) x.f) := fun W hWc hWf ty dc =>
    run_copy_k W _ _ ty 129 4 w.heap.size (i * 4) (l.length + 1 - i) dc ⟨vb, 0, none⟩ 1 1 x.f Tryz.underlying131 wSz (by rw [wf_len, show Nat.min 1 (l.length + 1 - i) = 1 by simp only [Nat.min_def]; split <;> omega])
      (fun j v hj => by rw [Addr.add_lit, hWc]; exact hK1.cell (hvc j v hj) (by simp))
      (fun j hj => by
        rw [wf_len] at hj
        rw [hWc, cell_of_row W1 _ _ ROW _ (0, 0) hb1, Array.getElem?_eq_getElem (by omega)]; rfl)
      (fun j hj => by rw [hWf]; simp [World.frozen?, hb1]) (wf_one x)
  obtain ⟨cur2, f1, f2, _⟩ := heap_setCells_at w.heap.size x.f (i * 4) W1 ROW hb1 (by rw [wf_len]; omega)
  have hdl : ((l.drop i).flatMap Wi.f).length = (l.length - i) * 4 := by rw [wflat_len, List.length_drop]
  have hbN : g ≠ w.heap.size := by omega
  have hcpB : ∀ (W : World), (∀ y, W.cell? y = (W1.setCells w.heap.size (i * 4) x.f).cell? y) → (∀ y, W.frozen? y = (W1.setCells w.heap.size (i * 4) x.f).frozen? y) → ∀ ty dc sc, (Builtin.copy_ #[131, 131] ty #[.slice (some ⟨w.heap.size, (i + 1) * 4, none⟩) (l.length - i) dc, .slice (some ⟨g, off + i * 4, none⟩) (l.length - i) sc]).run Tryz.prog W = .ok (goInt (Nat.min (l.length - i) (l.length - i))) (W.setCells w.heap.size ((i + 1) * 4) ((l.drop i).flatMap Wi.f)) := fun W hWc hWf ty dc sc =>
    run_copy_k W _ _ ty 129 4 w.heap.size ((i + 1) * 4) (l.length - i) dc ⟨g, off + i * 4, none⟩ (l.length - i) sc ((l.drop i).flatMap Wi.f) Tryz.underlying131 wSz (by rw [hdl, show Nat.min (l.length - i) (l.length - i) = l.length - i from Nat.min_self _])
      (fun j v hj => by
        rw [Addr.add_lit, hWc, World.cell?_setCells_out _ _ _ _ _ (fun h _ => absurd h hbN), Nat.add_assoc]
        rw [← wflat_drop, List.getElem?_drop] at hj
        exact hK1.cell (hb.cell hj) (by simp))
      (fun j hj => by
        rw [hdl] at hj
        rw [hWc, cell_of_row _ _ _ cur2 _ (0, 0) f1, Array.getElem?_eq_getElem (by omega)]; rfl)
      (fun j hj => by rw [hWf]; simp [World.frozen?, f1]) (wflat_one _)
  have hend : ∀ W, W.heap = ((W1.setCells w.heap.size (i * 4) x.f).setCells w.heap.size ((i + 1) * 4) ((l.drop i).flatMap Wi.f)).heap → BlkW 129 W w.heap.size 0 G (G * 4) (l.take i ++ x :: l.drop i) := fun W hW => by
    obtain ⟨cur3, k1, k2, _⟩ := heap_setCells_at w.heap.size ((l.drop i).flatMap Wi.f) ((i + 1) * 4) _ cur2 f1 (by rw [hdl, f2, hRs]; omega)
    rw [← hW] at k1
    refine BlkW.of_cells k1 (by rw [k2, f2, hRs]) (by simp; omega) hG63 (by omega) (fun j u hj => ?_)
    have hWc : ∀ k, W.cell? ⟨w.heap.size, k, none⟩ = ((W1.setCells w.heap.size (i * 4) x.f).setCells w.heap.size ((i + 1) * 4) ((l.drop i).flatMap Wi.f)).cell? ⟨w.heap.size, k, none⟩ := fun k => by simp [World.cell?, hW]
    rw [hWc, Nat.zero_add]
    rcases ins_at l i (by omega) x j u hj with ⟨h1, h2⟩ | ⟨h1, h2, h3⟩ | ⟨h1, h2, h3⟩
    · rw [World.cell?_setCells_out _ _ _ _ _ (fun _ _ => .inl (by dsimp only; omega)), World.cell?_setCells_out _ _ _ _ _ (fun _ _ => .inl (by dsimp only; omega))]
      rw [cell_of_row W1 _ _ ROW _ (0, 0) hb1]
      refine hRt j u ?_
      rw [← wflat_take, List.getElem?_take, if_pos h1]
      exact h2
    · rw [World.cell?_setCells_out _ _ _ _ _ (fun _ _ => .inl (by dsimp only; omega))]
      have := World.cell?_setCells_in w.heap.size x.f (i * 4) W1 (fun t ht => by
        rw [wf_len] at ht
        rw [cell_of_row W1 _ _ ROW _ (0, 0) hb1, Array.getElem?_eq_getElem (by omega)]; rfl) (j - i * 4) (by rw [wf_len]; omega)
      rw [show i * 4 + (j - i * 4) = j by omega] at this
      rw [this, ← h3, List.getElem?_eq_getElem]
    · have := World.cell?_setCells_in w.heap.size ((l.drop i).flatMap Wi.f) ((i + 1) * 4) (W1.setCells w.heap.size (i * 4) x.f) (fun t ht => by
        rw [hdl] at ht
        rw [cell_of_row _ _ _ cur2 _ (0, 0) f1, Array.getElem?_eq_getElem (by omega)]; rfl) (j - (i * 4 + 4)) (by rw [hdl]; omega)
      rw [show (i + 1) * 4 + (j - (i * 4 + 4)) = j by omega] at this
      rw [this, ← h3, List.getElem?_eq_getElem]
  have HEND := hid hend
  have HK := hid (fun W (hk : Kept [w.heap.size] w W) vs o => Kept.setCells (S := [w.heap.size]) (a := w) w.heap.size (.inl (by simp)) vs o hk)
  subst hW1
  have hE1 : ∀ y, ((w.alloc (.cells ROW 129)).drew).cell? y = (w.drew.alloc (.cells ROW 129)).cell? y := fun y => rfl
  have hE2 : ∀ y, ((w.alloc (.cells ROW 129)).drew).frozen? y = (w.drew.alloc (.cells ROW 129)).frozen? y := fun y => rfl
  have hF1 : ∀ y, (((w.alloc (.cells ROW 129)).drew.setCells w.heap.size (i * 4) x.f).drew).cell? y = ((w.drew.alloc (.cells ROW 129)).setCells w.heap.size (i * 4) x.f).cell? y := fun y => rfl
  have hF2 : ∀ y, (((w.alloc (.cells ROW 129)).drew.setCells w.heap.size (i * 4) x.f).drew).frozen? y = ((w.drew.alloc (.cells ROW 129)).setCells w.heap.size (i * 4) x.f).frozen? y := fun y => rfl
  have hw1 : IntKind.i64.wrap ((i : Int) + 1) = (i : Int) + 1 := by rw [IntKind.wrap_i64]; omega
  have hb1' : (0 : Int) ≤ (i : Int) + 1 := by omega
  have hin : i ≤ l.length := by omega
  have htn : ((i : Int) + 1).toNat = i + 1 := by omega
  have hb3 : (i : Int) ≤ (l.length : Int) := by omega
  have hGi : ¬ (G = i) := by omega
  have hGim : ¬ (G = i + 1) := by omega
  have hci : ¬ (cap = i) := by omega
  clear hkk hik hold hROW hG hRs hRt hend hdl hvc hv hb f1 f2 hb1 hK1
  go_enter Tryz.func101, Tryz.ntmps101
  go_wp2_with (first
    | (at_builtin; refine Lib.wpList_append_run _ rfl _ _ _ _ rfl _ _ rfl rfl _ _ (hrz _) ?_)
    | (at_builtin; refine wpList_copy_runI _ rfl _ _ 131 131 rfl _ _ rfl rfl (hcpA _ hE1 hE2 _ _) ?_))
  have mixed : Tryz.prog.follows .mixedOrders = true := by kernel_rfl
  go_region_law_o (refine step_copy_runI rfl _ _ 131 131 rfl (.slice (some ⟨w.heap.size, (i + 1) * 4, none⟩) (l.length - i) (G - (i + 1))) (.slice (some ⟨g, off + i * 4, none⟩) (l.length - i) (cap - i)) (by simp [Act.eval, Act.put]) (by simp [Act.eval, Act.put]) (hcpB _ hF1 hF2 3 (G - (i + 1)) (cap - i)) ?_)
  go_wp2
  go_ret
  refine ⟨G, rfl, HEND.out _ (setCells_heap _ _ _ (show (World.setCells _ _ _ _).heap = _ from setCells_heap _ _ _ rfl)), ?_⟩
  have hk := HK.out _ ((HK.out _ ((((Kept.refl [w.heap.size] w).alloc (.cells ROW 129))).drew) x.f (i * 4)).drew) ((l.drop i).flatMap Wi.f) ((i + 1) * 4)
  exact ⟨hk.os, hk.tape, hk.output, hk.size, fun k hk' _ => hk.block k hk' (by simp; omega)⟩
theorem wins_any (qv : Value) (l : List Wi) (x : Wi) (vb i : Nat) (w : World) (hq : WRow 129 w qv l) (hv : w.heap[vb]? = some (.cells x.f.toArray 129 (0, 0))) (hvb : vb ∉ qv.ownBlock.toList) (hl : l.length < 100000000) (hi : i ≤ l.length) :
    Calls Tryz.prog 101 #[qv, .int .i64 i, .slice (some ⟨vb, 0, none⟩) 1 1] w fun e w' => ∃ qv', e = .returned qv' ∧ WRow 129 w' qv' (l.take i ++ x :: l.drop i) ∧ (∀ b ∈ qv'.ownBlock.toList, b ∈ qv.ownBlock.toList ∨ w.heap.size ≤ b) ∧ Kept qv.ownBlock.toList w w' := by
  rcases Nat.lt_or_ge i l.length with hlt | hge
  · rcases hq with ⟨_, rfl⟩ | ⟨g, off, cap, sz, rfl, hb⟩
    · simp at hlt
    · have hne : vb ≠ g := by simpa [Value.ownBlock] using hvb
      by_cases hroom : l.length + 1 ≤ cap
      · refine (wins_shift g off cap sz l x vb i w hb hv hne hl hlt hroom).mono ?_
        rintro e w' ⟨rfl, h1, h2⟩
        exact ⟨_, rfl, .inr ⟨g, off, cap, sz, by simp; omega, h1⟩, fun b hb => .inl hb, h2⟩
      · refine (wins_grow g off cap sz l x vb i w hb hv hne hl hlt (by omega)).mono ?_
        rintro e w' ⟨G, rfl, h1, h2⟩
        exact ⟨_, rfl, .inr ⟨w.heap.size, 0, G, G * 4, by simp; omega, h1⟩, fun b hb => .inr (by simp [Value.ownBlock] at hb; omega), h2.mono (fun x hx => by cases hx)⟩
  · obtain rfl : i = l.length := by omega
    have := wins_end qv l x vb w hq hv hvb hl
    rw [List.take_length, List.drop_length]
    exact this
--@@ end
end Go.Proofs.YtpfgpbafechncaaGreat
