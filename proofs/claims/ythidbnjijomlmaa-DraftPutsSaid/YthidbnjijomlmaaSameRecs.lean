/- Records that are the same; right records. -/
import Derived.Test.YthidbnjijomlmaaRefRecs
set_option linter.all false
namespace Go.Proofs.Ythidbnjijomlmaa
open Go.RowKit Go.Shelf Go.Lib Go.Sort Go.Proofs
set_option linter.unusedVariables false
set_option linter.unusedSimpArgs false

theorem rec_cells {w : World} {l : List Rc} {b off k : Nat} (h : ∀ j u, (l.flatMap Rc.f)[j]? = some u → w.cell? ⟨b, off + j, none⟩ = some u) (hk : k < l.length) :
    w.cell? ⟨b, off + k * 11, none⟩ = some (.int .i64 l[k].kind) ∧ w.cell? ⟨b, off + k * 11 + 1, none⟩ = some (.int .i64 l[k].tx) ∧ w.cell? ⟨b, off + k * 11 + 2, none⟩ = some (.int .u16 (l[k].mask : Int)) ∧ w.cell? ⟨b, off + k * 11 + 3, none⟩ = some (.int .u8 (l[k].key.a.toNat : Int)) ∧ w.cell? ⟨b, off + k * 11 + 4, none⟩ = some (.int .u8 (l[k].key.b.toNat : Int)) ∧ w.cell? ⟨b, off + k * 11 + 5, none⟩ = some (.int .u8 (l[k].key.c.toNat : Int)) ∧ w.cell? ⟨b, off + k * 11 + 6, none⟩ = some (.int .u8 (l[k].key.d.toNat : Int)) ∧ w.cell? ⟨b, off + k * 11 + 7, none⟩ = some (.bool l[k].old.there) ∧ w.cell? ⟨b, off + k * 11 + 8, none⟩ = some (.int .i64 l[k].old.n) ∧ w.cell? ⟨b, off + k * 11 + 9, none⟩ = some (.bool l[k].new.there) ∧ w.cell? ⟨b, off + k * 11 + 10, none⟩ = some (.int .i64 l[k].new.n) := by
  have key : ∀ j u, j < 11 → (l[k].f)[j]? = some u → w.cell? ⟨b, off + (k * 11 + j), none⟩ = some u := fun j u hj hu =>
    h _ u (by rw [flatMap_get Rc.f (c := 11) (fun _ => rfl) l k j l[k] (by simp [hk]) hj]; exact hu)
  exact ⟨key 0 _ (by omega) rfl, key 1 _ (by omega) rfl, key 2 _ (by omega) rfl, key 3 _ (by omega) rfl, key 4 _ (by omega) rfl, key 5 _ (by omega) rfl, key 6 _ (by omega) rfl, key 7 _ (by omega) rfl, key 8 _ (by omega) rfl, key 9 _ (by omega) rfl, key 10 _ (by omega) rfl⟩
--@@ concordatref00.SameRecs
set_option maxHeartbeats 4000000 in
set_option maxRecDepth 100000 in
theorem sameRecs_any (v1 v2 : Value) (xs ys : List Rc) (w : World) (h1 : SlAt w v1 11 xs.length (xs.flatMap Rc.f)) (h2 : SlAt w v2 11 ys.length (ys.flatMap Rc.f)) :
    Calls Try.prog 21 #[v1, v2] w fun e w' => e = .returned (.bool (decide (xs = ys))) ∧ Kept [] w w' := by
  obtain ⟨a1, cap1, rfl, m1, _, c1⟩ := h1.ex
  obtain ⟨a2, cap2, rfl, m2, _, c2⟩ := h2.ex
  clear h1 h2
  have HC1 := hid c1
  have HC2 := hid c2
  clear c1 c2
  by_cases hl : xs.length = ys.length
  · have hb : ((xs.length : Int) != (ys.length : Int)) = false := by simp [hl]
    have HL := hid hl
    clear hl
    go_enter Try.func21, Try.ntmps21
    go_wp2
    go_loopw [5] (fun i wr => ∃ k : Nat, k ≤ xs.length ∧ i = .int .i64 k ∧ xs.take k = ys.take k ∧ ∃ n, wr = w.drewN n) (fun i _ => xs.length - (intOf i).toNat)
    case atStart => exact ⟨0, Nat.zero_le _, rfl, rfl, 0, rfl⟩
    case round =>
      obtain ⟨k, hk, rfl, ht, n, rfl⟩ := hrel
      have HT := hid ht
      clear ht
      by_cases hlt : k < xs.length
      · have hlt2 : k < ys.length := by rw [← HL.out]; exact hlt
        obtain ⟨b1, o1, rfl, _, d1⟩ := HC1.out (by omega)
        obtain ⟨b2, o2, rfl, _, d2⟩ := HC2.out (by omega)
        obtain ⟨e0, e1, e2, e3, e4, e5, e6, e7, e8, e9, e10⟩ := rec_cells d1 hlt
        obtain ⟨f0, f1, f2, f3, f4, f5, f6, f7, f8, f9, f10⟩ := rec_cells d2 hlt2
        clear d1 d2
        have HX := hid (show xs.take (k + 1) = xs.take k ++ [xs[k]] by rw [List.take_succ_eq_append_getElem hlt])
        have HY := hid (show ys.take (k + 1) = ys.take k ++ [ys[k]] by rw [List.take_succ_eq_append_getElem hlt2])
        have HXE := hid (show xs[k]? = some xs[k] by simp [hlt])
        have HYE := hid (show ys[k]? = some ys[k] by simp [hlt2])
        generalize xs[k] = x at *
        generalize ys[k] = y at *
        by_cases hxy : x = y
        · have hq := fun (w : World) => neR w x y
          rw [show (!decide (x = y)) = false by simp [hxy]] at hq
          have HXY := hid hxy
          clear hxy
          obtain ⟨x0, x1, x2, ⟨x3, x4, x5, x6⟩, ⟨x7, x8⟩, ⟨x9, xa⟩⟩ := x
          obtain ⟨y0, y1, y2, ⟨y3, y4, y5, y6⟩, ⟨y7, y8⟩, ⟨y9, ya⟩⟩ := y
          dsimp only at e0 e1 e2 e3 e4 e5 e6 e7 e8 e9 e10 f0 f1 f2 f3 f4 f5 f6 f7 f8 f9 f10
          simp only [Rc.v] at hq
          go_wp2_with fail
          go_quiet (fail)
          go_wp2
          go_roundw
          case rel => exact ⟨k + 1, by omega, by go_num, by rw [HX.out, HY.out, HT.out, HXY.out], _, rfl⟩
          case measure => simp [intOf]; omega
        · have hq := fun (w : World) => neR w x y
          rw [show (!decide (x = y)) = true by simp [hxy]] at hq
          have HXY := hid hxy
          clear hxy
          obtain ⟨x0, x1, x2, ⟨x3, x4, x5, x6⟩, ⟨x7, x8⟩, ⟨x9, xa⟩⟩ := x
          obtain ⟨y0, y1, y2, ⟨y3, y4, y5, y6⟩, ⟨y7, y8⟩, ⟨y9, ya⟩⟩ := y
          dsimp only at e0 e1 e2 e3 e4 e5 e6 e7 e8 e9 e10 f0 f1 f2 f3 f4 f5 f6 f7 f8 f9 f10
          simp only [Rc.v] at hq
          go_wp2_with fail
          go_quiet (fail)
          go_wp2
          go_ret
          refine ⟨ret_bool ?_, ((Kept.refl [] w).drewN _).drewN _⟩
          symm
          refine decide_eq_false fun h => HXY.out ?_
          have := HXE.out
          rw [h, HYE.out] at this
          exact (Option.some.inj this).symm
      · go_wp2
        go_ret
        obtain rfl : k = xs.length := by omega
        refine ⟨ret_bool ?_, (Kept.refl [] w).drewN _⟩
        have := HT.out
        rw [List.take_length, HL.out, List.take_length] at this
        simp [this]
  · have hb : ((xs.length : Int) != (ys.length : Int)) = true := by simp; omega
    have HL := hid hl
    clear hl
    go_enter Try.func21, Try.ntmps21
    go_wp2
    go_ret
    exact ⟨ret_bool (by symm; exact decide_eq_false fun h => HL.out (by rw [h])), Kept.refl _ _⟩
--@@ concordatref04.value
theorem r4value_any (v : V) (w : World) :
    Calls Try.prog 44 #[v.v] w fun e w' => e = .returned (.bool v.right) ∧ Kept [] w w' := by
  obtain ⟨b, n⟩ := v
  simp only [V.v]
  cases b
  · by_cases hn : n = 0
    · subst hn
      go_enter Try.func44, Try.ntmps44
      go_wp2
      go_ret
      exact ⟨rfl, (Kept.refl [] w).alloc _⟩
    · have hn' : (n == 0) = false := by simp [hn]
      go_enter Try.func44, Try.ntmps44
      go_wp2
      go_ret
      exact ⟨ret_bool (by simp [V.right, hn]), (Kept.refl [] w).alloc _⟩
  · go_enter Try.func44, Try.ntmps44
    go_wp2
    go_ret
    exact ⟨rfl, (Kept.refl [] w).alloc _⟩
--@@ concordatref04.Right
set_option maxHeartbeats 4000000 in
set_option maxRecDepth 100000 in
theorem r4right_any (tx : Int) (k : K4) (o n : V) (w : World) (h1 : 1 ≤ tx) (h2 : tx ≤ 1048576) (ho : V.right o = true) (hn : V.right n = true) :
    Calls Try.prog 28 #[(⟨1, tx, 0, k, o, n⟩ : Rc).v] w fun e w' => e = .returned (.bool true) ∧ Kept [] w w' := by
  have HO := hid (r4value_any o)
  have HN := hid (r4value_any n)
  rw [ho] at HO
  rw [hn] at HN
  clear ho hn
  obtain ⟨k1, k2, k3, k4⟩ := k
  obtain ⟨o1, o2⟩ := o
  obtain ⟨n1, n2⟩ := n
  simp only [Rc.v]
  simp only [V.v] at HO HN
  have HS := hid (show ∀ w', Kept [] (w.alloc (.cells #[.int .i64 1, .int .i64 tx, .int .u16 0, .int .u8 (k1.toNat : Int), .int .u8 (k2.toNat : Int), .int .u8 (k3.toNat : Int), .int .u8 (k4.toNat : Int), .bool o1, .int .i64 o2, .bool n1, .int .i64 n2] 60)) w' → w'.cell? ⟨w.heap.size, 9, none⟩ = some (.bool n1) ∧ w'.cell? ⟨w.heap.size, 10, none⟩ = some (.int .i64 n2) from fun w' hk' =>
    ⟨hk'.cell (new_cell w [.int .i64 1, .int .i64 tx, .int .u16 0, .int .u8 (k1.toNat : Int), .int .u8 (k2.toNat : Int), .int .u8 (k3.toNat : Int), .int .u8 (k4.toNat : Int), .bool o1, .int .i64 o2, .bool n1, .int .i64 n2] 60 9 _ rfl) (by simp), hk'.cell (new_cell w [.int .i64 1, .int .i64 tx, .int .u16 0, .int .u8 (k1.toNat : Int), .int .u8 (k2.toNat : Int), .int .u8 (k3.toNat : Int), .int .u8 (k4.toNat : Int), .bool o1, .int .i64 o2, .bool n1, .int .i64 n2] 60 10 _ rfl) (by simp)⟩)
  go_enter Try.func28, Try.ntmps28
  go_wp2_with (first
    | (go_at_call 44; refine (HO.out _).mono ?_; clear HO; rintro e w2 ⟨rfl, hk2⟩; obtain ⟨z0, z1⟩ := HS.out w2 (by exact Kept.trans ((Kept.refl [] _).alloc _) hk2 (fun x hx => by cases hx)); have HK2 := hid hk2; clear hk2)
    | (go_at_call 44; refine (HN.out _).mono ?_; clear HN; rintro e w3 ⟨rfl, hk3⟩; have HK3 := hid hk3; clear hk3))
  go_returns
  exact ⟨rfl, (((Kept.refl [] w).alloc _).alloc _ |>.trans HK2.out (fun x hx => by cases hx)).trans HK3.out (fun x hx => by cases hx)⟩
--@@ end
end Go.Proofs.Ythidbnjijomlmaa
