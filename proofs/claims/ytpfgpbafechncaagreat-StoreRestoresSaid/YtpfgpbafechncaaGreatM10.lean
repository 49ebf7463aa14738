/- A store: is a key among keys; the closure of Restore; Txs. -/
import Derived.Test.YtpfgpbafechncaaGreatStoreI
import Derived.Test.YtpfgpbafechncaaGreatM5
set_option linter.all false
namespace Go.Proofs.YtpfgpbafechncaaGreat
open Go.RowKit Go.Shelf Go.Lib Go.Sort Go.Proofs
theorem ret_boolS {a b : Bool} (h : a = b) : Ending.returned (.bool a) = Ending.returned (.bool b) := by rw [h]
theorem key_cellsS {w : World} {l : List K4} {b off k : Nat} (h : ∀ j u, (l.flatMap K4.f)[j]? = some u → w.cell? ⟨b, off + j, none⟩ = some u) (hk : k < l.length) :
    w.cell? ⟨b, off + k * 4, none⟩ = some (.int .u8 (l[k].a.toNat : Int)) ∧ w.cell? ⟨b, off + k * 4 + 1, none⟩ = some (.int .u8 (l[k].b.toNat : Int)) ∧ w.cell? ⟨b, off + k * 4 + 2, none⟩ = some (.int .u8 (l[k].c.toNat : Int)) ∧ w.cell? ⟨b, off + k * 4 + 3, none⟩ = some (.int .u8 (l[k].d.toNat : Int)) := by
  have key : ∀ j, j < 4 → ∀ u, (K4.f l[k])[j]? = some u → w.cell? ⟨b, off + k * 4 + j, none⟩ = some u := fun j hj u hu => by
    have := flatMap_get K4.f (c := 4) (fun _ => rfl) l k j l[k] (by simp [hk]) hj
    rw [hu] at this
    have := h _ u this
    rwa [← Nat.add_assoc] at this
  exact ⟨key 0 (by omega) _ rfl, key 1 (by omega) _ rfl, key 2 (by omega) _ rfl, key 3 (by omega) _ rfl⟩
--@@ slices.Index keys
set_option maxHeartbeats 2000000 in
set_option maxRecDepth 100000 in
theorem kindex_any (v : Value) (l : List K4) (x : K4) (w : World) (h : SlAt w v 4 l.length (l.flatMap K4.f)) :
    Calls Tryz.prog 88 #[v, x.v] w fun e w' => ∃ i : Int, e = .returned (.int .i64 i) ∧ decide (0 ≤ i) = decide (x ∈ l) ∧ Kept [] w w' := by
  obtain ⟨a, cap, rfl, m1, _, c1⟩ := h.ex
  have HC := hid c1
  clear h c1
  obtain ⟨x1, x2, x3, x4⟩ := x
  have HXB := hid (fun W (hK : Kept [] (w.alloc (.cells #[.int .u8 (x1.toNat : Int), .int .u8 (x2.toNat : Int), .int .u8 (x3.toNat : Int), .int .u8 (x4.toNat : Int)] 33)) W) =>
    have nc := new_cell w [.int .u8 (x1.toNat : Int), .int .u8 (x2.toNat : Int), .int .u8 (x3.toNat : Int), .int .u8 (x4.toNat : Int)] 33
    show W.cell? ⟨w.heap.size, 0, none⟩ = some (.int .u8 (x1.toNat : Int)) ∧ W.cell? ⟨w.heap.size, 1, none⟩ = some (.int .u8 (x2.toNat : Int)) ∧ W.cell? ⟨w.heap.size, 2, none⟩ = some (.int .u8 (x3.toNat : Int)) ∧ W.cell? ⟨w.heap.size, 3, none⟩ = some (.int .u8 (x4.toNat : Int)) from
    ⟨hK.cell (nc 0 _ rfl) (by simp), hK.cell (nc 1 _ rfl) (by simp), hK.cell (nc 2 _ rfl) (by simp), hK.cell (nc 3 _ rfl) (by simp)⟩)
  simp only [K4.v]
  go_enter Tryz.func88, Tryz.ntmps88
  go_wp2
  have HW0 := hid ((Kept.refl [] w).alloc (.cells #[.int .u8 (x1.toNat : Int), .int .u8 (x2.toNat : Int), .int .u8 (x3.toNat : Int), .int .u8 (x4.toNat : Int)] 33))
  generalize w.alloc (.cells #[.int .u8 (x1.toNat : Int), .int .u8 (x2.toNat : Int), .int .u8 (x3.toNat : Int), .int .u8 (x4.toNat : Int)] 33) = w0 at *
  go_loopg [5, 8] l.length (fun kx s5 s8 wr => ∃ k : Nat, s8 = .int .i64 k ∧ k ≤ l.length ∧ l.length - k ≤ kx ∧ Aside (¬ (⟨x1, x2, x3, x4⟩ : K4) ∈ l.take k) ∧ Aside (Kept [] w0 wr))
  case atStart => exact ⟨0, by first | rfl | go_num, by omega, by omega, by show ¬ _; simp, Kept.refl _ _⟩
  case round =>
    obtain ⟨k, rfl, hk, hkx, HT, HK⟩ := hrel
    by_cases hlt : k < l.length
    · have hltz : (k : Int) < (l.length : Int) := by omega
      obtain ⟨b, off, rfl, _, d1⟩ := HC.out (by omega)
      have HKC := hid (fun W (hK : Kept [] w0 W) => key_cellsS (fun j u hu => (HW0.out.trans hK (fun x hx => by cases hx)).cell (d1 j u hu) (by simp)) hlt)
      have HS := hid (show l.take (k + 1) = l.take k ++ [l[k]] by rw [List.take_succ_eq_append_getElem hlt])
      have HM := hid (List.getElem_mem hlt)
      clear d1
      generalize l[k] = y at *
      obtain ⟨ge, hge⟩ : ∃ ge, ge = decide ((⟨x1, x2, x3, x4⟩ : K4) = y) := ⟨_, rfl⟩
      have HGE := hid hge
      have HEQ := hid (fun W => show (Op.equalIn 10000 33 (K4.v ⟨x1, x2, x3, x4⟩) y.v).run Tryz.prog W = .ok ge W from by
        have := eq_key W 9998 ⟨x1, x2, x3, x4⟩ y
        rw [← hge] at this
        exact this)
      clear hge
      obtain ⟨y1, y2, y3, y4⟩ := y
      simp only [K4.v] at HKC HEQ
      go_wp2_with fail
      -- [rows kindex4]
      refine wp_region_rows (yieldDen [.eq (.agg #[.int .u8 (x1.toNat : Int), .int .u8 (x2.toNat : Int), .int .u8 (x3.toNat : Int), .int .u8 (x4.toNat : Int)]), .eq (.slice (some ⟨b, off, none⟩) l.length cap), .eq (.int .i64 (k : Int)), .eq (.pointer (some ⟨b, off + k * 4, none⟩)), .eq (.agg #[.int .u8 (y1.toNat : Int), .int .u8 (y2.toNat : Int), .int .u8 (y3.toNat : Int), .int .u8 (y4.toNat : Int)]), .eq (.bool ge)]) (fun w' => Kept [] wr w') (Kept []) (by kernel_rfl) (fun j v w w' h h' => yieldDen_kept _ j v w w' h h') (fun w => Kept.refl [] w) (by kernel_rfl) (by kernel_rfl) ((Kept.refl [] wr).drew) ?_ ?_
      · skip
        refine AllFrom.cons (k := 0) ?_ ?_
        · intro a w' hC hO hd
          rw [if_pos (wanted_none rfl)]
          have p3 : a.tmps[3]? = some (.pointer (some ⟨w.heap.size, 0, none⟩)) := hO.at (by kernel_rfl) rfl
          obtain ⟨y0, y1, y2, y3⟩ := HXB.out w' (HK.out.trans hC (fun x hx => .inl hx))
          clear hd hO
          refine pure_step (.agg #[.int .u8 (x1.toNat : Int), .int .u8 (x2.toNat : Int), .int .u8 (x3.toNat : Int), .int .u8 (x4.toNat : Int)]) rfl hC (Kept.refl _ _) ?_
          go_simp
        refine AllFrom.cons (k := 1) ?_ ?_
        · intro a w' hC hO hd
          rw [if_pos (wanted_none rfl)]
          have p0 : a.tmps[0]? = some (.slice (some ⟨b, off, none⟩) l.length cap) := hO.at (by kernel_rfl) rfl
          clear hd hO
          refine pure_step (.slice (some ⟨b, off, none⟩) l.length cap) rfl hC (Kept.refl _ _) ?_
          go_simp
        refine AllFrom.cons (k := 2) ?_ ?_
        · intro a w' hC hO hd
          rw [if_pos (wanted_none rfl)]
          have p5 : a.tmps[5]? = some (.int .i64 (k : Int)) := hO.at (by kernel_rfl) rfl
          clear hd hO
          refine pure_step (.int .i64 (k : Int)) rfl hC (Kept.refl _ _) ?_
          go_simp
        refine AllFrom.cons (k := 3) ?_ ?_
        · intro a w' hC hO hd
          obtain ⟨x12, e12, r12⟩ := hd ⟨1, .data⟩ (by simp) rfl _ _ rfl rfl
          obtain rfl : x12 = .slice (some ⟨b, off, none⟩) l.length cap := r12
          obtain ⟨x13, e13, r13⟩ := hd ⟨2, .data⟩ (by simp) rfl _ _ rfl rfl
          obtain rfl : x13 = .int .i64 (k : Int) := r13
          rw [if_pos (wanted_none rfl)]
          clear hd hO
          refine pure_step (.pointer (some ⟨b, off + k * 4, none⟩)) rfl hC (Kept.refl _ _) ?_
          go_simp
        refine AllFrom.cons (k := 4) ?_ ?_
        · intro a w' hC hO hd
          obtain ⟨x14, e14, r14⟩ := hd ⟨3, .data⟩ (by simp) rfl _ _ rfl rfl
          obtain rfl : x14 = .pointer (some ⟨b, off + k * 4, none⟩) := r14
          rw [if_pos (wanted_none rfl)]
          clear hd hO
          obtain ⟨z0, z1, z2, z3⟩ := HKC.out w' (HK.out.trans hC (fun x hx => .inl hx))
          refine pure_step (.agg #[.int .u8 (y1.toNat : Int), .int .u8 (y2.toNat : Int), .int .u8 (y3.toNat : Int), .int .u8 (y4.toNat : Int)]) rfl hC (Kept.refl _ _) ?_
          go_simp
        refine AllFrom.cons (k := 5) ?_ ?_
        · intro a w' hC hO hd
          obtain ⟨x11, e11, r11⟩ := hd ⟨0, .data⟩ (by simp) rfl _ _ rfl rfl
          obtain rfl : x11 = .agg #[.int .u8 (x1.toNat : Int), .int .u8 (x2.toNat : Int), .int .u8 (x3.toNat : Int), .int .u8 (x4.toNat : Int)] := r11
          obtain ⟨x15, e15, r15⟩ := hd ⟨4, .data⟩ (by simp) rfl _ _ rfl rfl
          obtain rfl : x15 = .agg #[.int .u8 (y1.toNat : Int), .int .u8 (y2.toNat : Int), .int .u8 (y3.toNat : Int), .int .u8 (y4.toNat : Int)] := r15
          rw [if_pos (wanted_none rfl)]
          clear hd hO
          have he := HEQ.out w'
          refine pure_step (.bool ge) rfl hC (Kept.refl _ _) ?_
          go_simp
        exact trivial
      · intro a' w4 hC hO hrows
        obtain ⟨xp, ep, rp⟩ := hrows 5 _ _ rfl rfl
        obtain rfl : xp = .bool ge := rp
        obtain ⟨us, hus, ha⟩ := hO.lit rfl [false, false, false, false, false, false, false, false, false, false, false, true, true, true, true, true, true, false, false] (by kernel_rfl)
        have up := hus 16 _ rfl ep
        clear hrows hO hus ep
        subst ha
        simp only [merge, Nat.reduceAdd, up, List.drop_succ_cons, List.drop_zero]
        clear up
      -- [end rows]
        have HK4 := hid (HK.out.trans hC (fun x hx => .inl hx))
        clear hC
        cases ge with
        | true =>
          go_wp2
          go_returns
          refine ⟨(k : Int), rfl, ?_, HW0.out.trans HK4.out (fun x hx => by cases hx)⟩
          have he : (⟨x1, x2, x3, x4⟩ : K4) = ⟨y1, y2, y3, y4⟩ := of_decide_eq_true HGE.out.symm
          rw [decide_eq_true (show (0 : Int) ≤ (k : Int) by omega), decide_eq_true (by rw [he]; exact HM.out)]
        | false =>
          go_wp2
          go_roundg (l.length - (k + 1))
          case measure => omega
          case rel => exact ⟨k + 1, by first | rfl | go_num, by omega, Nat.le_refl _, by
            show ¬ _
            rw [HS.out, List.mem_append, List.mem_singleton]
            rintro (h | h)
            · exact HT.out h
            · exact of_decide_eq_false HGE.out.symm h, HK4.out⟩
    · obtain rfl : k = l.length := by omega
      have hltz : ¬ (l.length : Int) < (l.length : Int) := by omega
      go_wp2
      go_returns
      refine ⟨-1, rfl, ?_, HW0.out.trans HK (fun x hx => by cases hx)⟩
      have := HT.out
      rw [List.take_length] at this
      simp [this]
--@@ slices.Contains keys
set_option maxHeartbeats 2000000 in
set_option maxRecDepth 100000 in
theorem kcontains_any (v : Value) (l : List K4) (x : K4) (w : World) (h : SlAt w v 4 l.length (l.flatMap K4.f)) :
    Calls Tryz.prog 55 #[v, x.v] w fun e w' => e = .returned (.bool (decide (x ∈ l))) ∧ Kept [] w w' := by
  have HI := hid (fun W (hK : Kept [] w W) => kindex_any v l x W (h.kept hK))
  obtain ⟨a, cap, rfl, _⟩ := h.ex
  clear h
  obtain ⟨x1, x2, x3, x4⟩ := x
  simp only [K4.v] at HI ⊢
  go_enter Tryz.func55, Tryz.ntmps55
  go_wp2_with (go_at_call 88; refine (HI.out _ ((Kept.refl [] w).alloc _)).mono ?_; clear HI; rintro e w2 ⟨i, rfl, hi, hk2⟩)
  go_returns
  exact ⟨ret_boolS (by rw [← hi]), ((Kept.refl [] w).alloc _).trans hk2 (fun x hx => .inl hx)⟩
--@@ (*store.Store).Restore$1
set_option maxHeartbeats 2000000 in
set_option maxRecDepth 100000 in
theorem taken_any (hb : Nat) (v : Value) (l : List K4) (x : Pr) (w : World) (hB : w.heap[hb]? = some (.cells #[v] 53 (0, 0))) (h : SlAt w v 4 l.length (l.flatMap K4.f)) :
    Calls Tryz.prog 54 #[x.v, .pointer (some ⟨hb, 0, none⟩)] w fun e w' => e = .returned (.bool (decide (x.key ∈ l))) ∧ Kept [] w w' := by
  have HI := hid (fun W (hK : Kept [] w W) => kcontains_any v l x.key W (h.kept hK))
  have hbl := (Array.getElem?_eq_some_iff.1 hB).1
  have HBC := hid (fun W (hK : Kept [] w W) => show W.cell? ⟨hb, 0, none⟩ = some v from by
    have := (hK.block hb hbl (by simp)).trans hB
    simp [World.cell?, this])
  obtain ⟨a, cap, rfl, _⟩ := h.ex
  clear h hB
  obtain ⟨⟨x1, x2, x3, x4⟩, ⟨x5, x6⟩⟩ := x
  simp only [K4.v, Pr.v] at HI ⊢
  have y0 := HBC.out _ ((Kept.refl [] w).alloc (.cells #[.int .u8 (x1.toNat : Int), .int .u8 (x2.toNat : Int), .int .u8 (x3.toNat : Int), .int .u8 (x4.toNat : Int), .bool x5, .int .i64 x6] 59))
  go_enter Tryz.func54, Tryz.ntmps54
  go_wp2_with (go_at_call 55; refine (HI.out _ ((Kept.refl [] w).alloc _)).mono ?_; clear HI; rintro e w2 ⟨rfl, hk2⟩)
  go_returns
  exact ⟨rfl, ((Kept.refl [] w).alloc _).trans hk2 (fun x hx => .inl hx)⟩
--@@ slices.ContainsFunc captured
set_option maxHeartbeats 2000000 in
set_option maxRecDepth 100000 in
theorem cindex_any (g : FuncId) (cb : Array Value) (q : Pr → Bool) (w : World) (eg : ∀ args w, (callFunc g args).run Tryz.prog w = .ok (.enter g args) w) (hq : ∀ x W, Kept [] w W → Calls Tryz.prog g (#[x.v] ++ cb) W fun e w' => e = .returned (.bool (q x)) ∧ Kept [] W w')
    (v : Value) (l : List Pr) (h : SlAt w v 6 l.length (l.flatMap Pr.f)) :
    Calls Tryz.prog 89 #[v, .func (.func g) #[] cb] w fun e w' => ∃ i : Int, e = .returned (.int .i64 i) ∧ decide (0 ≤ i) = l.any q ∧ Kept [] w w' := by
  obtain ⟨a, cap, rfl, m1, _, c1⟩ := h.ex
  have HC := hid c1
  have HQ := hid hq
  clear h c1 hq
  go_enter Tryz.func89, Tryz.ntmps89
  go_wp2
  go_loopw [8] (fun i wr => ∃ k : Nat, k ≤ l.length ∧ i = .int .i64 k ∧ Hid (∀ x ∈ l.take k, q x = false) ∧ Hid (Kept [] w wr)) (fun i _ => l.length - (intOf i).toNat)
  case atStart => exact ⟨0, Nat.zero_le _, rfl, hid (by simp), Kept.refl _ _⟩
  case round =>
    obtain ⟨k, hk, rfl, HT, HK⟩ := hrel
    by_cases hlt : k < l.length
    · obtain ⟨b, off, rfl, _, d1⟩ := HC.out (by omega)
      obtain ⟨e0, e1, e2, e3, e4, e5⟩ := pair_cells (fun j u hu => HK.out.cell (d1 j u hu) (by simp)) hlt
      have HS := hid (show l.take (k + 1) = l.take k ++ [l[k]] by rw [List.take_succ_eq_append_getElem hlt])
      have HM := hid (List.getElem_mem hlt)
      have HX := hid (HQ.out l[k])
      clear d1
      generalize l[k] = x at *
      cases hqx : q x with
      | false =>
        rw [hqx] at HX
        have HF := hid hqx
        clear hqx
        obtain ⟨⟨x1, x2, x3, x4⟩, ⟨x5, x6⟩⟩ := x
        dsimp only at e0 e1 e2 e3 e4 e5
        simp only [Pr.v] at HX
        go_wp2_with (go_at_fn g; refine (HX.out _ HK.out).mono ?_; clear HX; rintro e w2 ⟨rfl, hk2⟩)
        go_roundw
        case rel => exact ⟨k + 1, by omega, by go_num, by
          intro y hy
          rw [HS.out] at hy
          rcases List.mem_append.1 hy with hy | hy
          · exact HT.out y hy
          · rw [List.mem_singleton] at hy
            rw [hy]; exact HF.out, HK.out.trans hk2 (fun x hx => .inl hx)⟩
        case measure => simp [intOf]; omega
      | true =>
        rw [hqx] at HX
        have HF := hid hqx
        clear hqx
        have HA := hid (show l.any q = true from List.any_eq_true.2 ⟨x, HM.out, HF.out⟩)
        clear HM HS HF
        obtain ⟨⟨x1, x2, x3, x4⟩, ⟨x5, x6⟩⟩ := x
        dsimp only at e0 e1 e2 e3 e4 e5
        simp only [Pr.v] at HX
        go_wp2_with (go_at_fn g; refine (HX.out _ HK.out).mono ?_; clear HX; rintro e w2 ⟨rfl, hk2⟩)
        go_returns
        exact ⟨(k : Int), rfl, by rw [HA.out]; simp, HK.out.trans hk2 (fun x hx => .inl hx)⟩
    · obtain rfl : k = l.length := by omega
      have hltz : ¬ (l.length : Int) < (l.length : Int) := by omega
      go_wp2
      go_returns
      refine ⟨-1, rfl, ?_, HK.out⟩
      have := HT.out
      rw [List.take_length] at this
      symm
      rw [show decide (0 ≤ (-1 : Int)) = false by decide, List.any_eq_false]
      exact fun x hx => by rw [this x hx]; simp
theorem ccontains_any (g : FuncId) (cb : Array Value) (q : Pr → Bool) (w : World) (eg : ∀ args w, (callFunc g args).run Tryz.prog w = .ok (.enter g args) w) (hq : ∀ x W, Kept [] w W → Calls Tryz.prog g (#[x.v] ++ cb) W fun e w' => e = .returned (.bool (q x)) ∧ Kept [] W w')
    (v : Value) (l : List Pr) (h : SlAt w v 6 l.length (l.flatMap Pr.f)) :
    Calls Tryz.prog 56 #[v, .func (.func g) #[] cb] w fun e w' => e = .returned (.bool (l.any q)) ∧ Kept [] w w' := by
  have HI := hid (cindex_any g cb q w eg hq v l h)
  obtain ⟨a, cap, rfl, _⟩ := h.ex
  clear h hq eg
  go_enter Tryz.func56, Tryz.ntmps56
  go_wp2_with (go_at_call 89; refine HI.out.mono ?_; clear HI; rintro e w2 ⟨i, rfl, hi, hk2⟩)
  go_returns
  exact ⟨ret_boolS (by rw [← hi]), hk2⟩
--@@ end
end Go.Proofs.YtpfgpbafechncaaGreat
namespace Go.Proofs.YtpfgpbafechncaaGreat
open Go.RowKit Go.Shelf Go.Lib Go.Sort Go.Proofs Go.Maps
--@@ (*store.Store).Txs
set_option maxHeartbeats 4000000 in
set_option maxRecDepth 100000 in
theorem stxs_any {w : World} {D : Nat → Prop} {A : Nat} {s : Sp} (h : StoreAt w D A s) (hn : (s.works.map (·.1)).Nodup) (hr : ∀ x ∈ s.works, 1 ≤ x.1 ∧ x.1 ≤ 1048576) (hl : s.works.length ≤ 1000) :
    Calls Tryz.prog 23 #[.pointer (some ⟨A, 0, none⟩)] w fun e w' => ∃ v, e = .returned v ∧ w'.ownsRow w.heap.size 3 1 v s.txs.length (s.txs.map (Value.int .i64)) ∧ Kept [] w w' := by
  obtain ⟨M, L, bv, ws, H⟩ := h
  obtain ⟨c0, c1, c2⟩ := H.cells
  have hkn : (soP ws).map (·.1) = s.works.map (·.1) := by rw [H.eq]; simp [soP, soK, List.map_map, Function.comp_def]
  have hll : (soP ws).length ≤ 1000 := by
    have h1 := hl
    rw [H.eq] at h1
    simpa [soP, soK] using h1
  obtain ⟨Dm, hown, hperm, hsize⟩ := H.map.owns (k := 3) Tryz.underlying3 (by rw [hkn]; exact hn) (fun q hq => by
    have hm : q.1 ∈ s.works.map (·.1) := by rw [← hkn]; exact List.mem_map.2 ⟨q, hq, rfl⟩
    obtain ⟨z, hz, hzq⟩ := List.mem_map.1 hm
    have := hr z hz
    rw [hzq] at this
    simp [Lit.wf, IntKind.min, IntKind.max, IntKind.signed, IntKind.bits]; omega) (by unfold maxLen; omega)
  rw [hkn] at hperm
  have HKK := hid (Tryz.maps_Keys_44 (some M) w)
  have HSS := hid (Tryz.slices_Sorted_keys_43_44 M _ Dm anyR w hown (by rw [hsize]; unfold maxLen; omega) (by rw [hsize]; omega))
  have HPE := hid hperm
  clear hperm hsize hown hkn hll H c0 c1 hn hr hl
  go_enter Tryz.func23, Tryz.ntmps23
  go_wp2_with (first
    | (go_at_call 44; refine (callsIn_wide.1 HKK.out).mono ?_; rintro e w1' ⟨rfl, rfl⟩)
    | (go_at_call 43; refine (callsIn_wide.1 HSS.out).mono ?_; rintro e wc ⟨kv, ss, rfl, hS, hrow, hnil, hbc⟩; obtain ⟨ka, kc, rfl⟩ := ownsRow_slice hrow))
  have hse : (ss.mergeSort fun x y => decide (x ≤ y)) = s.txs := srtI_permeq (hS.trans HPE.out)
  have hlen : ss.length = s.txs.length := by rw [← hse]; exact (List.mergeSort_perm ss _).length_eq.symm
  rw [hse, hlen] at hrow
  rw [hlen]
  go_returns
  exact ⟨_, rfl, ownsRow_base hrow (by simp), ((Kept.refl [] w).alloc _).then_below hbc (by simp)⟩
--@@ (*store.Store).Restore
def RowIn (D : Nat → Prop) (v : Value) : Prop := ∀ b, bvB v b → D b
theorem hv_cells {w : World} {D : Nat → Prop} {va : Option Addr} {vc : Nat} {l : List Pr} (hv : PrAt w (.slice va l.length vc) l) (hD : RowIn D (.slice va l.length vc)) (hl : 0 < l.length) :
    ∃ b off, va = some ⟨b, off, none⟩ ∧ D b ∧ ∀ j u, (l.flatMap Pr.f)[j]? = some u → w.cell? ⟨b, off + j, none⟩ = some u := by
  obtain ⟨a, cap, h1, _, _, h4⟩ := hv.at'.ex
  cases h1
  obtain ⟨b, off, h5, h6, h7⟩ := h4 hl
  subst h5
  exact ⟨b, off, rfl, hD b ⟨_, _, _, rfl, hl, rfl⟩, h7⟩
theorem closure_val {x : Pr} {p : Nat} : (#[x.v] ++ #[Value.pointer (some ⟨p, 0, none⟩)] : Array Value) = #[x.v, .pointer (some ⟨p, 0, none⟩)] := rfl
set_option maxHeartbeats 8000000 in
set_option maxRecDepth 100000 in
theorem srestore_any {w : World} {D : Nat → Prop} {A : Nat} {s : Sp} {n : Nat} (h : StoreAt w D A s) (hle : s.tab.le n) (hn : n ≤ 50000) (hm : s.tab.rows.length ≤ n) (hw : ∀ x ∈ s.works, x.2.ws.length ≤ 1000) (hb : s.base.length ≤ 10000) (tx : Int) (v : Value) (l : List Pr) (hv : PrAt w v l) (hvD : RowIn D v) (hl : l.length ≤ 1000) :
    Calls Tryz.prog 27 #[.pointer (some ⟨A, 0, none⟩), .int .i64 tx, v] w fun e w' => e = .returned (.int .i64 (s.restore tx l).1) ∧ StoreAt w' D A (s.restore tx l).2 ∧ KD D w w' := by
  have HMY := hid (smay_any h tx)
  obtain ⟨M, L, bv, ws, H⟩ := h
  obtain ⟨c0, c1, c2⟩ := H.cells
  have HH := hid H
  obtain ⟨va, vc, rfl, _⟩ := hv.at'.ex
  have HV := hid hv
  obtain ⟨R, hR⟩ : ∃ R, R = s.restore tx l := ⟨_, rfl⟩
  rw [← hR]
  have HRR := hid hR
  have HKD := hid (fun W (hK : Kept [] w W) => show KD D w W from hK.kd' HH.out.dlt)
  have HDR := hid (fun W (hK : Kept [] w W) => sdrafted_any _ l W (HV.out.kept hK) (by omega))
  have HHD := hid (fun W (hK : Kept [] w W) => held_at ((HH.out.kept hK (fun x hx => by cases hx)).tab) (by omega))
  have HPA := hid (fun W (hK : Kept [] w W) => spassed_any (w := W) ⟨M, L, bv, ws, HH.out.kept hK (fun x hx => by cases hx)⟩ hw hb _ l (HV.out.kept hK) (by omega))
  have HC1 := hid (fun W (hK : Kept [] w W) => show W.cell? ⟨A, 1, none⟩ = some (.pointer (some ⟨L, 0, none⟩)) from hK.cell c1 (by simp))
  have HC2 := hid (fun W (hK : Kept [] w W) => show W.cell? ⟨A, 2, none⟩ = some (.map (some M)) from hK.cell c2 (by simp))
  obtain ⟨my, hmy⟩ : ∃ my, my = s.may tx := ⟨_, rfl⟩
  rw [← hmy] at HMY
  have HMYE := hid hmy
  clear H hv c0 c1 c2 hR hw hmy
  by_cases hmz : my ≠ 0
  · have hbm : (my != 0) = true := by simpa using hmz
    have hRe : R = (my, s) := by rw [HRR.out]; unfold Sp.restore; rw [if_pos (by rw [← HMYE.out]; exact hmz), ← HMYE.out]
    subst hRe
    clear HRR HMYE hmz
    go_enter Tryz.func27, Tryz.ntmps27
    go_wp2_with (go_at_call 45; refine HMY.out.mono ?_; clear HMY; rintro e w1 ⟨rfl, hk1⟩)
    go_ret
    exact ⟨rfl, ⟨M, L, bv, ws, HH.out.kept hk1 (fun x hx => by cases hx)⟩, HKD.out _ hk1⟩
  obtain rfl : my = 0 := by simpa using hmz
  have hmay := HMYE.out.symm
  have hRe : R = (match Sp.drafted l with
    | none => (10, s)
    | some d => if l.any (fun p => decide (p.key ∈ s.tab.heldT)) = true then (17, s) else if s.passed l = true then (16, s) else (0, { s with works := s.works ++ [(tx, ⟨3, 0, d⟩)], tab := Sp.askAll s.tab tx l })) := by
    rw [HRR.out]; unfold Sp.restore; rw [if_neg (by rw [hmay]; simp)]; rfl
  have HRE := hid hRe
  have hxn := (may_zero hmay).2.1
  have HX := hid (HH.out.look_none hxn).2
  clear hRe HRR HMYE hmz hmay hxn
  go_enter Tryz.func27, Tryz.ntmps27
  go_wp2_with first
    | (go_at_call 45; refine HMY.out.mono ?_; clear HMY; rintro e w1 ⟨rfl, hk1⟩; have HK1 := hid hk1; clear hk1)
    | (go_at_call 52; refine Here.mk ?_)
  refine Here.of ?_
  refine (HDR.out _ HK1.out).mono ?_
  rintro e w2 ⟨hnd, hk2⟩
  have HK2 := hid (HK1.out.trans hk2 (fun x hx => by cases hx))
  have y1 := HC1.out _ HK2.out
  unfold NewDraft at hnd
  cases hdl : Sp.drafted l with
  | none =>
    rw [hdl] at hnd
    obtain ⟨pd, rfl⟩ := hnd
    have hRe := HRE.out
    rw [hdl] at hRe
    dsimp only at hRe
    subst hRe
    clear hdl HRE hk2
    go_wp2_with (go_at_call 53; refine (HHD.out _ HK2.out).mono ?_; rintro e w3 ⟨v3, rfl, ho3, hk3⟩; obtain ⟨ka, kc, rfl⟩ := ownsRow_slice ho3; have HK3 := hid (HK2.out.trans hk3 (fun x hx => by cases hx)); clear ho3 hk3)
    go_returns
    exact ⟨rfl, ⟨M, L, bv, ws, HH.out.kept (HK3.out.alloc _) (fun x hx => by cases hx)⟩, HKD.out _ (HK3.out.alloc _)⟩
  | some d =>
    rw [hdl] at hnd
    obtain ⟨da, dm, rfl, hda, hla, hlm, hne⟩ := hnd
    have hRe := HRE.out
    rw [hdl] at hRe
    dsimp only at hRe
    have HDS := hid (drafted_some hdl)
    clear hdl HRE hk2
    have HDA := hid hda
    have hltda := hda.lt
    have hw1 := HK1.out.size
    have eT : ∀ args w, (callFunc 54 args).run Tryz.prog w = .ok (.enter 54 args) w := enters_of (Tryz.func54) (by kernel_rfl) rfl
    have HCF := hid (fun W hb (hK : Kept [] w W) v3 (hB : W.heap[hb]? = some (.cells #[v3] 53 (0, 0))) (h3 : SlAt W v3 4 s.tab.heldT.length (s.tab.heldT.flatMap K4.f)) =>
      ccontains_any 54 #[.pointer (some ⟨hb, 0, none⟩)] (fun p => decide (p.key ∈ s.tab.heldT)) W eT (fun x W' hK' => taken_any hb v3 s.tab.heldT x W' ((hK'.block hb (Array.getElem?_eq_some_iff.1 hB).1 (by simp)).trans hB) (h3.kept hK')) (.slice va l.length vc) l ((HV.out.kept hK).at'))
    obtain ⟨tk, htk⟩ : ∃ tk, tk = l.any (fun p => decide (p.key ∈ s.tab.heldT)) := ⟨_, rfl⟩
    obtain ⟨pb, hpb⟩ : ∃ pb, pb = s.passed l := ⟨_, rfl⟩
    rw [← htk] at hRe HCF
    rw [← hpb] at hRe HPA
    have HTK := hid htk
    have HRE2 := hid hRe
    clear hRe htk hpb hda
    cases tk with
    | true =>
      have hRe : R = (17, s) := by rw [HRE2.out, if_pos rfl]
      subst hRe
      clear HRE2
      go_wp2_with first
        | (go_at_call 53; refine (HHD.out _ HK2.out).mono ?_; rintro e w3 ⟨v3, rfl, ho3, hk3⟩; obtain ⟨ka, kc, rfl⟩ := ownsRow_slice ho3; have HK3 := hid (HK2.out.trans hk3 (fun x hx => by cases hx)); have HO3 := hid (SlAt.of_own ho3); clear ho3 hk3)
        | (go_at_call 56; refine (HCF.out _ _ (HK3.out.alloc (.cells #[.slice ka s.tab.heldT.length kc] 53)) _ (heap_alloc_new w3 (.cells #[.slice ka s.tab.heldT.length kc] 53)) (HO3.out.kept ((Kept.refl [] w3).alloc _))).mono ?_; rintro e w5 ⟨rfl, hk5⟩; have HK5 := hid ((HK3.out.alloc (.cells #[.slice ka s.tab.heldT.length kc] 53)).trans hk5 (fun x hx => by cases hx)); clear hk5)
      go_returns
      exact ⟨rfl, ⟨M, L, bv, ws, HH.out.kept HK5.out (fun x hx => by cases hx)⟩, HKD.out _ HK5.out⟩
    | false =>
      cases pb with
      | true =>
        have hRe : R = (16, s) := by rw [HRE2.out, if_neg (by simp), if_pos rfl]
        subst hRe
        clear HRE2
        go_wp2_with first
          | (go_at_call 53; refine (HHD.out _ HK2.out).mono ?_; rintro e w3 ⟨v3, rfl, ho3, hk3⟩; obtain ⟨ka, kc, rfl⟩ := ownsRow_slice ho3; have HK3 := hid (HK2.out.trans hk3 (fun x hx => by cases hx)); have HO3 := hid (SlAt.of_own ho3); clear ho3 hk3)
          | (go_at_call 56; refine (HCF.out _ _ (HK3.out.alloc (.cells #[.slice ka s.tab.heldT.length kc] 53)) _ (heap_alloc_new w3 (.cells #[.slice ka s.tab.heldT.length kc] 53)) (HO3.out.kept ((Kept.refl [] w3).alloc _))).mono ?_; rintro e w5 ⟨rfl, hk5⟩; have HK5 := hid ((HK3.out.alloc (.cells #[.slice ka s.tab.heldT.length kc] 53)).trans hk5 (fun x hx => by cases hx)); clear hk5)
          | (go_at_call 57; refine (HPA.out _ HK5.out).mono ?_; rintro e w6 ⟨rfl, hk6⟩; have HK6 := hid (HK5.out.trans hk6 (fun x hx => by cases hx)); clear hk6)
        go_returns
        exact ⟨rfl, ⟨M, L, bv, ws, HH.out.kept HK6.out (fun x hx => by cases hx)⟩, HKD.out _ HK6.out⟩
      | false =>
        have hRe : R = (0, { s with works := s.works ++ [(tx, ⟨3, 0, d⟩)], tab := Sp.askAll s.tab tx l }) := by rw [HRE2.out, if_neg (by simp), if_neg (by simp)]
        subst hRe
        clear HRE2
        go_wp2_with first
          | (go_at_call 53; refine (HHD.out _ HK2.out).mono ?_; rintro e w3 ⟨v3, rfl, ho3, hk3⟩; obtain ⟨ka, kc, rfl⟩ := ownsRow_slice ho3; have HK23 := hid (hk3.alloc (.cells #[.slice ka s.tab.heldT.length kc] 53)); have HK3 := hid (HK2.out.trans hk3 (fun x hx => by cases hx)); have HO3 := hid (SlAt.of_own ho3); clear ho3 hk3)
          | (go_at_call 56; refine (HCF.out _ _ (HK3.out.alloc (.cells #[.slice ka s.tab.heldT.length kc] 53)) _ (heap_alloc_new w3 (.cells #[.slice ka s.tab.heldT.length kc] 53)) (HO3.out.kept ((Kept.refl [] w3).alloc _))).mono ?_; rintro e w5 ⟨rfl, hk5⟩; have HK25 := hid (HK23.out.trans hk5 (fun x hx => by cases hx)); have HK5 := hid ((HK3.out.alloc (.cells #[.slice ka s.tab.heldT.length kc] 53)).trans hk5 (fun x hx => by cases hx)); clear hk5)
          | (go_at_call 57; refine (HPA.out _ HK5.out).mono ?_; rintro e w6 ⟨rfl, hk6⟩; have HK26 := hid (HK25.out.trans hk6 (fun x hx => by cases hx)); have HK6 := hid (HK5.out.trans hk6 (fun x hx => by cases hx)); have y2 := HC2.out _ (HK6.out.alloc (.cells #[.int .i64 3, .int .i64 0, .pointer (some ⟨da, 0, none⟩)] 86)); have y3 := HC2.out _ HK6.out; clear hk6)
          | (at_mapUpdate; refine Here.mk ?_)
        refine Here.of ?_
        refine wpList_mapUpdate_is rfl _ _ _ 80 rfl 3 83 (KeyOK.int (k := .i64) Tryz.underlying3) Tryz.underlying80 rfl tx rfl _ rfl (HH.out.map.kept (HK6.out.alloc _) (by simp)) ?_
        intro w7 hM7 hK7
        have hkw : Kept [] w (w6.alloc (.cells #[.int .i64 3, .int .i64 0, .pointer (some ⟨da, 0, none⟩)] 86)) := HK6.out.alloc _
        have hs26 := HK26.out.size
        obtain ⟨hne0, hdeq, hsrt, hri, hl16⟩ := HDS.out
        have hW : WrkIs (w6.alloc (.cells #[.int .i64 3, .int .i64 0, .pointer (some ⟨da, 0, none⟩)] 86)) ⟨w6.heap.size, da, dm, ⟨3, 0, d⟩⟩ := by
          refine ⟨heap_alloc_new w6 _, (HDA.out.kept HK26.out (by simp) (by simp)).kept ((Kept.refl [] w6).alloc _) (by simp) (by simp), ?_, ?_⟩
          · show (d.map (·.1)).Nodup
            rw [hdeq]
            have : (l.map (·.key)).Nodup := List.pairwise_map.2 (hsrt.imp fun {a b} h e => by rw [e] at h; omega)
            simpa [List.map_map, Function.comp_def, ofPr'] using this
          · simp only [So.bs, List.nodup_cons, List.mem_cons, List.not_mem_nil, or_false, not_or, not_false_eq_true, List.nodup_nil, and_true]
            exact ⟨⟨by omega, by omega⟩, hne⟩
        have hold : ∀ y ∈ So.bs ⟨w6.heap.size, da, dm, ⟨3, 0, d⟩⟩, w.heap.size ≤ y ∧ y < (w6.alloc (.cells #[.int .i64 3, .int .i64 0, .pointer (some ⟨da, 0, none⟩)] 86)).heap.size := fun y hy => by
          have hl' := hW.lt y hy
          refine ⟨?_, hl'⟩
          have := HK6.out.size
          simp only [So.bs, List.mem_cons, List.not_mem_nil, or_false] at hy
          rcases hy with rfl | rfl | rfl <;> omega
        have H6 := HH.out.kept hkw (fun x hx => by cases hx)
        have H7 := H6.push (x := ⟨w6.heap.size, da, dm, ⟨3, 0, d⟩⟩) HX.out hW (fun y hy => ⟨fun h => by have := HH.out.lt y (.inr (.inl h)); have := (hold y hy).1; omega, fun h => by have := HH.out.dlt y h; have := (hold y hy).1; omega⟩)
          ((HH.out.tab.widen hkw (fun x hx => by cases hx)).less (fun y hy => by
            rcases hy with hy | hy | hy
            · exact .inl (.inl hy)
            · have e : stBs A M (ws ++ [(tx, (⟨w6.heap.size, da, dm, ⟨3, 0, d⟩⟩ : So))]) = stBs A M ws ++ So.bs ⟨w6.heap.size, da, dm, ⟨3, 0, d⟩⟩ := by simp [stBs]
              rw [e] at hy
              rcases List.mem_append.1 hy with hy | hy
              · exact .inl (.inr (.inl hy))
              · exact .inr (hold y hy)
            · exact .inl (.inr (.inr hy)))) hK7 hM7
        have HS7 := hid H7
        have HKD7 := hid ((HKD.out _ hkw).trans (H6.kdw (by simp [stBs]) hK7) (fun _ hx => hx))
        obtain ⟨ws', hws'⟩ : ∃ ws', ws' = ws ++ [(tx, (⟨w6.heap.size, da, dm, ⟨3, 0, d⟩⟩ : So))] := ⟨_, rfl⟩
        obtain ⟨wk', hwk'⟩ : ∃ wk', wk' = s.works ++ [(tx, (⟨3, 0, d⟩ : Sw))] := ⟨_, rfl⟩
        have hS7 : StoIs w7 D A M L bv ws' ⟨s.base, s.tab, wk'⟩ := by rw [hws', hwk']; exact HS7.out
        have HSW := hid hS7
        have HWK := hid hwk'
        have HVC := hid (hv_cells HV.out hvD)
        clear hM7 hK7 hkw hs26 hne0 hdeq hsrt hri hl16 hW hold H6 H7 HS7 hS7 hws' hwk' HX HC1 HC2 HKD HDR HHD HPA HCF HDS HDA HK2 HK1 HK3 HK23 HK25 HK5 HK26 HK6 HO3 HTK y1 y2 y3
        go_wp2_with fail
        go_loopg [13, 52] l.length (fun kx s13 s52 wr => ∃ k : Nat, s52 = .int .i64 k ∧ k ≤ l.length ∧ l.length - k ≤ kx ∧ Aside (StoIs wr D A M L bv ws' ⟨s.base, Sp.askAll s.tab tx (l.take k), wk'⟩) ∧ Aside (KD D w wr))
        case atStart => exact ⟨0, by first | rfl | go_num, by omega, by omega, by show StoIs _ _ _ _ _ _ _ _; simpa [Sp.askAll] using HSW.out, HKD7.out⟩
        case round =>
          clear HSW HKD7
          obtain ⟨k, rfl, hk, hkx, HS, HK⟩ := hrel
          by_cases hlt : k < l.length
          · have hltz : (k : Int) < (l.length : Int) := by omega
            obtain ⟨b, off, rfl, hDb, hcs⟩ := HVC.out (by omega)
            obtain ⟨e0, e1, e2, e3, e4, e5⟩ := pair_cells (fun j u hj => HK.out.cell (hcs j u hj) hDb) hlt
            have HT := hid (show Sp.askAll s.tab tx (l.take (k + 1)) = ((Sp.askAll s.tab tx (l.take k)).ask tx l[k].key true 0).2 by rw [List.take_succ_eq_append_getElem hlt]; unfold Sp.askAll; rw [List.foldl_append]; rfl)
            obtain ⟨hle2, _⟩ := askAll_lim tx (l.take k) s.tab n hle hm
            have hle3 := hle2.mono (show n + (l.take k).length ≤ 60000 by simp; omega)
            have HLE := hid hle3
            clear hcs hle2 hle3 hDb
            generalize Sp.askAll s.tab tx (l.take k) = tb at *
            generalize l[k] = x at *
            obtain ⟨⟨x1, x2, x3, x4⟩, ⟨x5, x6⟩⟩ := x
            dsimp only at e0 e1 e2 e3 e4 e5
            have HPB := hid (fun W (hK : Kept [] (wr.alloc (.cells #[.int .u8 (x1.toNat : Int), .int .u8 (x2.toNat : Int), .int .u8 (x3.toNat : Int), .int .u8 (x4.toNat : Int), .bool x5, .int .i64 x6] 59)) W) =>
              have nc := new_cell wr [.int .u8 (x1.toNat : Int), .int .u8 (x2.toNat : Int), .int .u8 (x3.toNat : Int), .int .u8 (x4.toNat : Int), .bool x5, .int .i64 x6] 59
              show W.cell? ⟨wr.heap.size, 0, none⟩ = some (.int .u8 (x1.toNat : Int)) ∧ W.cell? ⟨wr.heap.size, 1, none⟩ = some (.int .u8 (x2.toNat : Int)) ∧ W.cell? ⟨wr.heap.size, 2, none⟩ = some (.int .u8 (x3.toNat : Int)) ∧ W.cell? ⟨wr.heap.size, 3, none⟩ = some (.int .u8 (x4.toNat : Int)) from
              ⟨hK.cell (nc 0 _ rfl) (by simp), hK.cell (nc 1 _ rfl) (by simp), hK.cell (nc 2 _ rfl) (by simp), hK.cell (nc 3 _ rfl) (by simp)⟩)
            have HA := hid ((Kept.refl [] wr).alloc (.cells #[.int .u8 (x1.toNat : Int), .int .u8 (x2.toNat : Int), .int .u8 (x3.toNat : Int), .int .u8 (x4.toNat : Int), .bool x5, .int .i64 x6] 59))
            have HC1 := hid (fun W (hK : Kept [] wr W) => show W.cell? ⟨A, 1, none⟩ = some (.pointer (some ⟨L, 0, none⟩)) from hK.cell HS.out.cells.2.1 (by simp))
            go_wp2_with fail
            generalize wr.alloc (.cells #[.int .u8 (x1.toNat : Int), .int .u8 (x2.toNat : Int), .int .u8 (x3.toNat : Int), .int .u8 (x4.toNat : Int), .bool x5, .int .i64 x6] 59) = wq at *
            clear e0 e1 e2 e3 e4 e5
            -- [rows restore17]
            refine wp_region_rows_tail 7 (yieldDen [.eq (.pointer (some ⟨A, 0, none⟩)), .eq (.pointer (some ⟨A, 0, none⟩)), .eq (.pointer (some ⟨A, 1, none⟩)), .eq (.pointer (some ⟨L, 0, none⟩)), .eq (.int .i64 tx), .eq (.pointer (some ⟨wr.heap.size, 0, none⟩)), .eq (.agg #[.int .u8 (x1.toNat : Int), .int .u8 (x2.toNat : Int), .int .u8 (x3.toNat : Int), .int .u8 (x4.toNat : Int)])]) (fun w' => Kept [] wq w') (Kept []) (by kernel_rfl) (fun j v w w' h h' => yieldDen_kept _ j v w w' h h') (fun w => Kept.refl [] w) (by kernel_rfl) (by kernel_rfl) (by kernel_rfl) (by kernel_rfl) (by kernel_rfl) (by kernel_rfl) ((Kept.refl [] wq).drew) ?_ ?_
            · skip
              refine AllUpto.cons (n := 6) (k := 0) ?_ ?_
              · intro a w' hC hO hd
                rw [if_pos (wanted_none rfl)]
                have p0 : a.tmps[0]? = some (.pointer (some ⟨A, 0, none⟩)) := hO.at (by kernel_rfl) rfl
                clear hd hO
                refine pure_step (.pointer (some ⟨A, 0, none⟩)) rfl hC (Kept.refl _ _) ?_
                go_simp
              refine AllUpto.cons (n := 5) (k := 1) ?_ ?_
              · intro a w' hC hO hd
                obtain ⟨x56, e56, r56⟩ := hd ⟨0, .data⟩ (by simp) rfl _ _ rfl rfl
                obtain rfl : x56 = .pointer (some ⟨A, 0, none⟩) := r56
                rw [if_pos (wanted_none rfl)]
                clear hd hO
                refine pure_step (.pointer (some ⟨A, 0, none⟩)) rfl hC (Kept.refl _ _) ?_
                go_simp
              refine AllUpto.cons (n := 4) (k := 2) ?_ ?_
              · intro a w' hC hO hd
                obtain ⟨x57, e57, r57⟩ := hd ⟨1, .data⟩ (by simp) rfl _ _ rfl rfl
                obtain rfl : x57 = .pointer (some ⟨A, 0, none⟩) := r57
                rw [if_pos (wanted_none rfl)]
                clear hd hO
                refine pure_step (.pointer (some ⟨A, 1, none⟩)) rfl hC (Kept.refl _ _) ?_
                go_simp
              refine AllUpto.cons (n := 3) (k := 3) ?_ ?_
              · intro a w' hC hO hd
                obtain ⟨x58, e58, r58⟩ := hd ⟨2, .data⟩ (by simp) rfl _ _ rfl rfl
                obtain rfl : x58 = .pointer (some ⟨A, 1, none⟩) := r58
                rw [if_pos (wanted_none rfl)]
                have y1 := HC1.out w' (HA.out.trans hC (fun x hx => .inl hx))
                clear hd hO
                refine pure_step (.pointer (some ⟨L, 0, none⟩)) rfl hC (Kept.refl _ _) ?_
                go_simp
              refine AllUpto.cons (n := 2) (k := 4) ?_ ?_
              · intro a w' hC hO hd
                rw [if_pos (wanted_none rfl)]
                have p1 : a.tmps[1]? = some (.int .i64 tx) := hO.at (by kernel_rfl) rfl
                clear hd hO
                refine pure_step (.int .i64 tx) rfl hC (Kept.refl _ _) ?_
                go_simp
              refine AllUpto.cons (n := 1) (k := 5) ?_ ?_
              · intro a w' hC hO hd
                rw [if_pos (wanted_none rfl)]
                have p13 : a.tmps[13]? = some (.pointer (some ⟨wr.heap.size, 0, none⟩)) := hO.at (by kernel_rfl) rfl
                clear hd hO
                refine pure_step (.pointer (some ⟨wr.heap.size, 0, none⟩)) rfl hC (Kept.refl _ _) ?_
                go_simp
              refine AllUpto.cons (n := 0) (k := 6) ?_ ?_
              · intro a w' hC hO hd
                obtain ⟨x61, e61, r61⟩ := hd ⟨5, .data⟩ (by simp) rfl _ _ rfl rfl
                obtain rfl : x61 = .pointer (some ⟨wr.heap.size, 0, none⟩) := r61
                rw [if_pos (wanted_none rfl)]
                obtain ⟨y0, y1, y2, y3⟩ := HPB.out w' hC
                clear hd hO
                refine pure_step (.agg #[.int .u8 (x1.toNat : Int), .int .u8 (x2.toNat : Int), .int .u8 (x3.toNat : Int), .int .u8 (x4.toNat : Int)]) rfl hC (Kept.refl _ _) ?_
                go_simp
              exact AllUpto.nil
            · intro a' w4 hC hO hrows
              obtain ⟨xl, el, rl⟩ := hrows 3 (by decide) _ _ rfl rfl
              obtain rfl : xl = .pointer (some ⟨L, 0, none⟩) := rl
              obtain ⟨xt, et, rt⟩ := hrows 4 (by decide) _ _ rfl rfl
              obtain rfl : xt = .int .i64 tx := rt
              obtain ⟨xk, ek, rk⟩ := hrows 6 (by decide) _ _ rfl rfl
              obtain rfl : xk = .agg #[.int .u8 (x1.toNat : Int), .int .u8 (x2.toNat : Int), .int .u8 (x3.toNat : Int), .int .u8 (x4.toNat : Int)] := rk
              obtain ⟨us, hus, ha⟩ := hO.lit rfl [false, false, false, false, false, false, false, false, false, false, false, false, false, false, false, false, false, false, false, false, false, false, false, false, false, false, false, false, false, false, false, false, false, false, false, false, false, false, false, false, false, false, false, false, false, false, false, false, false, false, false, false, false, false, false, false, true, true, true, true, true, true, true, true, false] (by kernel_rfl)
              have ul := hus 59 _ rfl el
              have ut := hus 60 _ rfl et
              have uk := hus 62 _ rfl ek
              clear hrows hO hus el et ek
              subst ha
              simp only [merge, Nat.reduceAdd, ul, ut, uk, List.drop_succ_cons, List.drop_zero]
              clear ul ut uk
            -- [end rows]
              have HKC := hid (HA.out.trans hC (fun x hx => .inl hx))
              clear hC
              have HS8 := hid (HS.out.kept HKC.out (fun x hx => by cases hx))
              have HASK := hid (ask_at HS8.out.tab HLE.out (by omega) tx ⟨x1, x2, x3, x4⟩ true 0)
              simp only [K4.v] at HASK
              go_wp2_with (go_at_call 37; refine HASK.out.mono ?_; clear HASK; rintro e w9 ⟨rfl, hT9, hk9⟩; have HS9 := hid (HS8.out.turnTab hT9 hk9); have HK9 := hid (HK.out.trans ((HKC.out.kd' HS.out.dlt).trans hk9 (fun _ h => .inl h)) (fun _ h => h)); clear hT9 hk9)
              go_roundg (l.length - (k + 1))
              case measure => omega
              case rel => exact ⟨k + 1, by first | rfl | go_num, by omega, Nat.le_refl _, by show StoIs _ _ _ _ _ _ _ _; rw [HT.out]; exact HS9.out, HK9.out⟩
          · obtain rfl : k = l.length := by omega
            have hltz : ¬ (l.length : Int) < (l.length : Int) := by omega
            have hS := HS.out
            rw [List.take_length] at hS
            have HSE := hid hS
            clear HS hS
            go_wp2
            go_returns
            exact ⟨rfl, by rw [← HWK.out]; exact ⟨M, L, bv, ws', HSE.out⟩, HK⟩
--@@ end
end Go.Proofs.YtpfgpbafechncaaGreat
