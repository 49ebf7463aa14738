/- The fixed draft that each statement tries first is answered right. -/
import Derived.Test.YthidbnjijomlmaaRef09
set_option linter.all false
namespace Go.Proofs.Ythidbnjijomlmaa
open Go.RowKit Go.Shelf Go.Lib Go.Sort Go.Proofs
set_option linter.unusedVariables false
set_option linter.unusedSimpArgs false

def Rc.v (r : Rc) : Value := .agg #[.int .i64 r.kind, .int .i64 r.tx, .int .u16 (r.mask : Int), .int .u8 (r.key.a.toNat : Int), .int .u8 (r.key.b.toNat : Int), .int .u8 (r.key.c.toNat : Int), .int .u8 (r.key.d.toNat : Int), .bool r.old.there, .int .i64 r.old.n, .bool r.new.there, .int .i64 r.new.n]
--@@ api.Rec
set_option maxHeartbeats 2000000 in
theorem eq_rec (w : World) (d : Nat) (x y : Rc) : (Op.equalIn (d + 3) 60 x.v y.v).run Try.prog w = .ok (decide (x = y)) w := by
  have hS : Try.prog.underlying 60 = some (.struct (Try.prog.fieldsOf 60)) := by kernel_rfl
  have hp : Try.prog.stoodInHeld 60 = false := by kernel_rfl
  obtain ⟨a, b, c, k, ⟨o1, o2⟩, ⟨n1, n2⟩⟩ := x
  obtain ⟨a', b', c', k', ⟨o1', o2'⟩, ⟨n1', n2'⟩⟩ := y
  simp only [Rc.v]
  rw [run_equalIn_agg w (d + 2) _ _ _ hS hp]
  simp only [Program.fieldsOf, Try.underlying60, Op.eqFields]
  have e1 := fun w d => eq_key w d k k'
  simp only [K4.v] at e1
  generalize hk : decide (k = k') = rk at e1
  have hr : decide ((⟨a, b, c, k, ⟨o1, o2⟩, ⟨n1, n2⟩⟩ : Rc) = ⟨a', b', c', k', ⟨o1', o2'⟩, ⟨n1', n2'⟩⟩) = (decide (a = a') && (decide (b = b') && (decide (c = c') && (rk && ((decide (o1 = o1') && decide (o2 = o2')) && (decide (n1 = n1') && decide (n2 = n2'))))))) := by
    subst hk
    rw [Bool.eq_iff_iff]
    simp [Rc.mk.injEq, V.mk.injEq, and_assoc]
  rw [hr]
  clear hr hk
  cases rk
  · go_simp
  · go_simp
    by_cases h1 : a = a' <;> by_cases h2 : b = b' <;> by_cases h3 : c = c' <;> by_cases h4 : o1 = o1' <;> by_cases h5 : o2 = o2' <;> by_cases h6 : n1 = n1' <;> by_cases h7 : n2 = n2' <;> simp [h1, h2, h3, h4, h5, h6, h7] <;> omega
theorem eqR (w : World) (x y : Rc) : (binOp .eql 60 x.v y.v).run Try.prog w = .ok (.bool (decide (x = y))) w := by
  rw [Rc.v, Rc.v, run_eql_struct, ← Rc.v, ← Rc.v, show (10000 : Nat) = 9997 + 3 from rfl, eq_rec]; rfl
theorem neR (w : World) (x y : Rc) : (binOp .neq 60 x.v y.v).run Try.prog w = .ok (.bool (!decide (x = y))) w := by
  rw [Rc.v, Rc.v, run_neq_struct, ← Rc.v, ← Rc.v, show (10000 : Nat) = 9997 + 3 from rfl, eq_rec]; rfl
--@@ concordatlaw09.alive
abbrev kA : K4 := ⟨1, 0, 0, 0⟩
abbrev kB : K4 := ⟨2, 0, 0, 0⟩
abbrev baseA : List Pr := [⟨kA, ⟨true, 1⟩⟩]
theorem put1 : dPut [] kB ⟨true, 2⟩ = (0, [(kB, ⟨true, 2⟩)]) := by decide
theorem put2 : dPut [(kB, ⟨true, 2⟩)] kA V.zero = (0, [(kB, ⟨true, 2⟩), (kA, V.zero)]) := by decide
theorem over1 : sortP (baseA ++ keysP ([((kB, ⟨true, 2⟩) : K4 × V), (kA, V.zero)].map toPr)) = [⟨kB, ⟨true, 2⟩⟩] := by decide
theorem recs1 : recsP 7 baseA (keysP ([((kB, ⟨true, 2⟩) : K4 × V), (kA, V.zero)].map toPr)) = [⟨1, 7, 0, kA, ⟨true, 1⟩, V.zero⟩, ⟨1, 7, 0, kB, V.zero, ⟨true, 2⟩⟩] := by decide
theorem keys1 : keysP ([((kB, ⟨true, 2⟩) : K4 × V), (kA, V.zero)].map toPr) = [⟨kA, V.zero⟩, ⟨kB, ⟨true, 2⟩⟩] := by decide
theorem get1 : aget kB [((kB, ⟨true, 2⟩) : K4 × V), (kA, V.zero)] = some ⟨true, 2⟩ := by decide
theorem find1 : findP baseA kA = ⟨true, 1⟩ := by decide
theorem sort1 : sortP baseA = baseA := by decide
theorem get_lit (a m : Nat) (W : World) (hG : DraftIs W a m [((kB, ⟨true, 2⟩) : K4 × V), (kA, V.zero)]) :
    Calls Try.prog 12 #[.pointer (some ⟨a, 0, none⟩), kB.v] W fun e w' => e = .returned (.tuple #[.agg #[.bool true, .int .i64 2], .bool true]) ∧ Kept [] W w' := by
  have h := dget_any a m _ kB W hG
  rw [get1] at h
  exact h
theorem find_lit (v : Value) (W : World) (h : PrAt W v baseA) : Calls Try.prog 24 #[v, kA.v] W fun e w' => e = .returned (.agg #[.bool true, .int .i64 1]) ∧ Kept [] W w' := by
  have h := find_any v baseA kA W h.at'
  rw [find1] at h
  exact h
theorem num_lit (n : Int) (w : World) : Calls Try.prog 30 #[.int .i64 n] w fun e w' => e = .returned (.agg #[.bool true, .int .i64 n]) ∧ Kept [] w w' :=
  (num_any n w).mono fun e w' h => ⟨h.1, h.2.1⟩
set_option maxHeartbeats 8000000 in
set_option maxRecDepth 100000 in
theorem alive_any (w : World) : Calls Try.prog 8 #[] w fun e w' => e = .returned (.bool true) ∧ Kept [] w w' := by
  go_enter Try.func8, Try.ntmps8
  go_wp2_with (first | (go_at_call 9; refine (dnew_any w).mono ?_; rintro e w1 ⟨rfl, hG, hk⟩))
  have hlt := hG.lt
  have HK1 := hid hk
  have HKW := hid ((((Kept.refl [w.heap.size] w1).alloc (.cells #[.int .u8 1, .int .u8 0, .int .u8 0, .int .u8 0] 24)).alloc (.cells #[.int .u8 2, .int .u8 0, .int .u8 0, .int .u8 0] 24)))
  have HS := hid (show ∀ w', Kept [w.heap.size] ((w1.alloc (.cells #[.int .u8 1, .int .u8 0, .int .u8 0, .int .u8 0] 24)).alloc (.cells #[.int .u8 2, .int .u8 0, .int .u8 0, .int .u8 0] 24)) w' → (w'.cell? ⟨w1.heap.size, 0, none⟩ = some (.int .u8 1) ∧ w'.cell? ⟨w1.heap.size, 1, none⟩ = some (.int .u8 0) ∧ w'.cell? ⟨w1.heap.size, 2, none⟩ = some (.int .u8 0) ∧ w'.cell? ⟨w1.heap.size, 3, none⟩ = some (.int .u8 0)) ∧ (w'.cell? ⟨w1.heap.size + 1, 0, none⟩ = some (.int .u8 2) ∧ w'.cell? ⟨w1.heap.size + 1, 1, none⟩ = some (.int .u8 0) ∧ w'.cell? ⟨w1.heap.size + 1, 2, none⟩ = some (.int .u8 0) ∧ w'.cell? ⟨w1.heap.size + 1, 3, none⟩ = some (.int .u8 0)) from fun w' hk' => by
    have nA := new_cell w1 [.int .u8 1, .int .u8 0, .int .u8 0, .int .u8 0] 24
    have nB := new_cell (w1.alloc (.cells #[.int .u8 1, .int .u8 0, .int .u8 0, .int .u8 0] 24)) [.int .u8 2, .int .u8 0, .int .u8 0, .int .u8 0] 24
    have hA := fun j u (h : ([.int .u8 1, .int .u8 0, .int .u8 0, .int .u8 0] : List Value)[j]? = some u) => hk'.cell (((Kept.refl [w.heap.size] (w1.alloc (.cells #[.int .u8 1, .int .u8 0, .int .u8 0, .int .u8 0] 24))).alloc (.cells #[.int .u8 2, .int .u8 0, .int .u8 0, .int .u8 0] 24)).cell (nA j u h) (by simp; omega)) (by simp; omega)
    have hB := fun j u (h : ([.int .u8 2, .int .u8 0, .int .u8 0, .int .u8 0] : List Value)[j]? = some u) => hk'.cell (nB j u h) (by simp; omega)
    simp only [World.size_alloc] at hB
    exact ⟨⟨hA 0 _ rfl, hA 1 _ rfl, hA 2 _ rfl, hA 3 _ rfl⟩, ⟨hB 0 _ rfl, hB 1 _ rfl, hB 2 _ rfl, hB 3 _ rfl⟩⟩)
  have HG2 := hid (hG.kept (((Kept.refl [] w1).alloc (.cells #[.int .u8 1, .int .u8 0, .int .u8 0, .int .u8 0] 24)).alloc (.cells #[.int .u8 2, .int .u8 0, .int .u8 0, .int .u8 0] 24)) (by simp) (by simp))
  clear hG hk
  have HD := hid (Kept.refl [w.heap.size] ((w1.alloc (.cells #[.int .u8 1, .int .u8 0, .int .u8 0, .int .u8 0] 24)).alloc (.cells #[.int .u8 2, .int .u8 0, .int .u8 0, .int .u8 0] 24))).drew
  go_region_held3 (fun w' => w'.cell? ⟨w1.heap.size + 1, 0, none⟩ = some (.int .u8 2) ∧ w'.cell? ⟨w1.heap.size + 1, 1, none⟩ = some (.int .u8 0) ∧ w'.cell? ⟨w1.heap.size + 1, 2, none⟩ = some (.int .u8 0) ∧ w'.cell? ⟨w1.heap.size + 1, 3, none⟩ = some (.int .u8 0))
    ((refine (HS.out _ ?_).2; first | exact hk4 | exact hk3 | exact HD.out))
    (first
      | (go_at_call 30; refine (num_lit 2 _).mono ?_; rintro e w3 ⟨rfl, hk3'⟩; have hk3 := HD.out.trans hk3' (fun x hx => by simp at hx))
      | (go_at_call 11; refine (dput_any (w.heap.size + 1) w.heap.size [] kB ⟨true, 2⟩ _ ((HG2.out.kept ((Kept.refl [] _).drew) (by simp) (by simp)).kept hk3' (by simp) (by simp))).mono ?_; rw [put1]; rintro e w4 ⟨rfl, hG4, hk4'⟩; have hk4 := hk3.trans hk4' (fun x hx => .inl hx)))
  have HK4 := hid hk4
  have HG4 := hid hG4
  clear hk4 hG4 hk4' hk3' hk3
  obtain ⟨⟨a0, a1, a2, a3⟩, ⟨b0, b1, b2, b3⟩⟩ := HS.out w4 HK4.out
  go_wp2_with (first
    | (go_at_call 11; refine (dput_any (w.heap.size + 1) w.heap.size _ kA V.zero w4 HG4.out).mono ?_; rw [put2]; rintro e w5 ⟨rfl, hG5, hk5⟩; have HK5 := hid (HK4.out.trans hk5 (fun x hx => .inl hx)); have HG5 := hid hG5; clear hG5 hk5 a0 a1 a2 a3 b0 b1 b2 b3; obtain ⟨⟨a0, a1, a2, a3⟩, ⟨b0, b1, b2, b3⟩⟩ := HS.out w5 HK5.out)
    | (go_at_call 12; refine (get_lit (w.heap.size + 1) w.heap.size w5 HG5.out).mono ?_; rintro e w6 ⟨rfl, hk6⟩; have HK6 := hid (HK5.out.trans hk6 (fun x hx => by cases hx)); have HG6 := hid (HG5.out.kept hk6 (by simp) (by simp)); clear hk6 a0 a1 a2 a3 b0 b1 b2 b3))
  have HD6 := hid (HK6.out.alloc (.cells #[.bool true, .int .i64 2] 32)).drew
  have HG7 := hid (HG6.out.kept (((Kept.refl [] w6).alloc (.cells #[.bool true, .int .i64 2] 32)).drew) (by simp) (by simp))
  have s06 := HK6.out.size
  simp only [World.size_alloc] at s06
  go_region_held3 (fun w' => w'.cell? ⟨w1.heap.size, 0, none⟩ = some (.int .u8 1) ∧ w'.cell? ⟨w1.heap.size, 1, none⟩ = some (.int .u8 0) ∧ w'.cell? ⟨w1.heap.size, 2, none⟩ = some (.int .u8 0) ∧ w'.cell? ⟨w1.heap.size, 3, none⟩ = some (.int .u8 0))
    ((refine (HS.out _ ?_).1; first | exact hk8 | exact hk8.alloc _ | exact HD6.out | exact HD6.out.alloc _))
    (first
      | (go_at_call 30; refine (num_lit 1 _).mono ?_; rintro e w8 ⟨rfl, hk8'⟩; have hk8 := HD6.out.trans hk8' (fun x hx => by cases hx)))
  have HK8 := hid hk8
  have s68 : w6.heap.size < w8.heap.size := by have := hk8'.size; simp [World.drew] at this; omega
  have HV8 := hid (show w8.heap[w6.heap.size]? = some (.cells #[.bool true, .int .i64 2] 32 (0, 0)) from (hk8'.block w6.heap.size (by simp [World.drew]) (by simp)).trans (heap_alloc_new w6 _))
  have HG9 := hid ((HG7.out.kept hk8' (by simp) (by simp)).kept ((Kept.refl [] w8).alloc (.cells #[.int .u8 1, .int .u8 0, .int .u8 0, .int .u8 0, .bool true, .int .i64 1] 54)) (by simp) (by simp))
  have HP9 := hid (PrAt.of_own (l := baseA) (ownsRow_new w8 (Pr.f ⟨kA, ⟨true, 1⟩⟩) 54 6 1 0 (by omega) (by decide) rfl) rfl)
  have hnd : (([((kB, ⟨true, 2⟩) : K4 × V), (kA, V.zero)]).map (·.1)).Nodup := by decide
  have HN := hid hnd
  clear hk8 hk8' hnd
  go_wp2_with (first
    | (go_at_call 19; refine (over_any (w.heap.size + 1) w.heap.size _ _ baseA _ HG9.out HN.out (by decide) HP9.out (by decide)).mono ?_; rw [over1]; rintro e w10 ⟨v10, rfl, hp10, hk10⟩; obtain ⟨ao, co, rfl, _, _, hco⟩ := hp10.at'.ex; have hk9' := ((Kept.refl [] w8).alloc (.cells #[.int .u8 1, .int .u8 0, .int .u8 0, .int .u8 0, .bool true, .int .i64 1] 54)).trans hk10 (fun x hx => by cases hx); have HG10 := hid (HG9.out.kept hk10 (by simp) (by simp)); have HP10 := hid (HP9.out.kept hk10); have HK10 := hid hk9'; have HCO := hid hco; clear hk10 hk9' hco hp10)
    | (go_at_call 22; refine (recs_any (w.heap.size + 1) w.heap.size _ 7 _ baseA _ HG10.out HN.out (by decide) HP10.out).mono ?_; rw [recs1]; rintro e w11 ⟨v11, rfl, hown, hk11⟩; have HO11 := hid hown; obtain ⟨ar, cr, rfl⟩ := ownsRow_slice hown; have HG11 := hid (HG10.out.kept hk11 (by simp) (by simp)); have HP11 := hid (HP10.out.kept hk11); have HK11 := hid hk11; clear hown hk11))
  obtain ⟨ob, oo, rfl, hob, hco⟩ := HCO.out (by decide)
  obtain ⟨rg, rfl⟩ : ∃ g, ar = some ⟨g, 0, none⟩ := by
    rcases HO11.out.2 with ⟨h, _⟩ | ⟨g, cap, cur, h, _⟩
    · cases h
    · cases h; exact ⟨g, rfl⟩
  have HS2 := hid (show ∀ w', Kept [] w11 w' → w'.cell? ⟨w1.heap.size, 0, none⟩ = some (.int .u8 1) ∧ w'.cell? ⟨w1.heap.size, 1, none⟩ = some (.int .u8 0) ∧ w'.cell? ⟨w1.heap.size, 2, none⟩ = some (.int .u8 0) ∧ w'.cell? ⟨w1.heap.size, 3, none⟩ = some (.int .u8 0) ∧ w'.cell? ⟨w1.heap.size + 1, 0, none⟩ = some (.int .u8 2) ∧ w'.cell? ⟨w1.heap.size + 1, 1, none⟩ = some (.int .u8 0) ∧ w'.cell? ⟨w1.heap.size + 1, 2, none⟩ = some (.int .u8 0) ∧ w'.cell? ⟨w1.heap.size + 1, 3, none⟩ = some (.int .u8 0) ∧ w'.cell? ⟨w6.heap.size, 0, none⟩ = some (.bool true) ∧ w'.cell? ⟨w6.heap.size, 1, none⟩ = some (.int .i64 2) ∧ w'.cell? ⟨ob, oo, none⟩ = some (.int .u8 2) ∧ w'.cell? ⟨ob, oo + 1, none⟩ = some (.int .u8 0) ∧ w'.cell? ⟨ob, oo + 2, none⟩ = some (.int .u8 0) ∧ w'.cell? ⟨ob, oo + 3, none⟩ = some (.int .u8 0) ∧ w'.cell? ⟨rg, 0, none⟩ = some (.int .i64 1) ∧ w'.cell? ⟨rg, 1, none⟩ = some (.int .i64 7) ∧ w'.cell? ⟨rg, 2, none⟩ = some (.int .u16 0) ∧ w'.cell? ⟨rg, 3, none⟩ = some (.int .u8 1) ∧ w'.cell? ⟨rg, 4, none⟩ = some (.int .u8 0) ∧ w'.cell? ⟨rg, 5, none⟩ = some (.int .u8 0) ∧ w'.cell? ⟨rg, 6, none⟩ = some (.int .u8 0) ∧ w'.cell? ⟨rg, 7, none⟩ = some (.bool true) ∧ w'.cell? ⟨rg, 8, none⟩ = some (.int .i64 1) ∧ w'.cell? ⟨rg, 9, none⟩ = some (.bool false) ∧ w'.cell? ⟨rg, 10, none⟩ = some (.int .i64 0) from fun w' hk' => by
    have hkk := HK8.out.trans ((HK10.out.trans HK11.out (fun x hx => by cases hx)).trans hk' (fun x hx => by cases hx)) (fun x hx => by cases hx)
    obtain ⟨⟨q0, q1, q2, q3⟩, ⟨q4, q5, q6, q7⟩⟩ := HS.out w' hkk
    have hv : w'.heap[w6.heap.size]? = _ := (((HK10.out.trans HK11.out (fun x hx => by cases hx)).trans hk' (fun x hx => by cases hx)).block w6.heap.size s68 (by simp)).trans HV8.out
    have o4 := fun j u h => (HK11.out.trans hk' (fun x hx => by cases hx)).cell (hco j u h) (by simp)
    have r4 := fun j u h => by
      have := HO11.out.cells (g := rg) rfl j u h
      rw [Addr.add_lit] at this
      exact hk'.cell this (by simp)
    exact ⟨q0, q1, q2, q3, q4, q5, q6, q7, by simp [World.cell?, hv], by simp [World.cell?, hv], o4 0 _ rfl, o4 1 _ rfl, o4 2 _ rfl, o4 3 _ rfl, r4 0 _ rfl, r4 1 _ rfl, r4 2 _ rfl, r4 3 _ rfl, r4 4 _ rfl, r4 5 _ rfl, r4 6 _ rfl, r4 7 _ rfl, r4 8 _ rfl, r4 9 _ rfl, r4 10 _ rfl⟩)
  have HKE := hid ((HK1.out.trans HKW.out (fun x hx => .inr (by simp at hx; omega))).trans (HK8.out.trans (HK10.out.trans HK11.out (fun x hx => by cases hx)) (fun x hx => by cases hx)) (fun x hx => .inr (by simp at hx; omega)))
  have hq1 : ∀ w, (binOp .eql 32 (.agg #[.bool true, .int .i64 2]) (.agg #[.bool true, .int .i64 2])).run Try.prog w = .ok (.bool true) w := fun w => eqV w ⟨true, 2⟩ ⟨true, 2⟩
  have hq2 : ∀ w, (binOp .eql 32 (.agg #[.bool true, .int .i64 1]) (.agg #[.bool true, .int .i64 1])).run Try.prog w = .ok (.bool true) w := fun w => eqV w ⟨true, 1⟩ ⟨true, 1⟩
  have hq3 : ∀ w, (binOp .eql 24 (.agg #[.int .u8 2, .int .u8 0, .int .u8 0, .int .u8 0]) (.agg #[.int .u8 2, .int .u8 0, .int .u8 0, .int .u8 0])).run Try.prog w = .ok (.bool true) w := fun w => eqK w kB kB
  have hq4 : ∀ w, (binOp .eql 60 (.agg #[.int .i64 1, .int .i64 7, .int .u16 0, .int .u8 1, .int .u8 0, .int .u8 0, .int .u8 0, .bool true, .int .i64 1, .bool false, .int .i64 0]) (.agg #[.int .i64 1, .int .i64 7, .int .u16 0, .int .u8 1, .int .u8 0, .int .u8 0, .int .u8 0, .bool true, .int .i64 1, .bool false, .int .i64 0])).run Try.prog w = .ok (.bool true) w := fun w => eqR w ⟨1, 7, 0, kA, ⟨true, 1⟩, V.zero⟩ ⟨1, 7, 0, kA, ⟨true, 1⟩, V.zero⟩
  clear hlt s06 hob s68 hco
  simp only [List.append_eq, List.cons_append, List.nil_append]
  have hke := (Kept.refl [] w11).drew
  go_region_held3 (fun w' => w'.cell? ⟨w1.heap.size, 0, none⟩ = some (.int .u8 1) ∧ w'.cell? ⟨w1.heap.size, 1, none⟩ = some (.int .u8 0) ∧ w'.cell? ⟨w1.heap.size, 2, none⟩ = some (.int .u8 0) ∧ w'.cell? ⟨w1.heap.size, 3, none⟩ = some (.int .u8 0) ∧ w'.cell? ⟨w1.heap.size + 1, 0, none⟩ = some (.int .u8 2) ∧ w'.cell? ⟨w1.heap.size + 1, 1, none⟩ = some (.int .u8 0) ∧ w'.cell? ⟨w1.heap.size + 1, 2, none⟩ = some (.int .u8 0) ∧ w'.cell? ⟨w1.heap.size + 1, 3, none⟩ = some (.int .u8 0) ∧ w'.cell? ⟨w6.heap.size, 0, none⟩ = some (.bool true) ∧ w'.cell? ⟨w6.heap.size, 1, none⟩ = some (.int .i64 2) ∧ w'.cell? ⟨ob, oo, none⟩ = some (.int .u8 2) ∧ w'.cell? ⟨ob, oo + 1, none⟩ = some (.int .u8 0) ∧ w'.cell? ⟨ob, oo + 2, none⟩ = some (.int .u8 0) ∧ w'.cell? ⟨ob, oo + 3, none⟩ = some (.int .u8 0) ∧ w'.cell? ⟨rg, 0, none⟩ = some (.int .i64 1) ∧ w'.cell? ⟨rg, 1, none⟩ = some (.int .i64 7) ∧ w'.cell? ⟨rg, 2, none⟩ = some (.int .u16 0) ∧ w'.cell? ⟨rg, 3, none⟩ = some (.int .u8 1) ∧ w'.cell? ⟨rg, 4, none⟩ = some (.int .u8 0) ∧ w'.cell? ⟨rg, 5, none⟩ = some (.int .u8 0) ∧ w'.cell? ⟨rg, 6, none⟩ = some (.int .u8 0) ∧ w'.cell? ⟨rg, 7, none⟩ = some (.bool true) ∧ w'.cell? ⟨rg, 8, none⟩ = some (.int .i64 1) ∧ w'.cell? ⟨rg, 9, none⟩ = some (.bool false) ∧ w'.cell? ⟨rg, 10, none⟩ = some (.int .i64 0))
    ((refine HS2.out _ ?_; first | exact hke | exact hke.alloc _))
    (first
      | (go_at_call 30; refine (num_lit _ _).mono ?_; rintro e w12 ⟨rfl, hk12⟩; have hke := hke.trans hk12 (fun x hx => by cases hx))
      | (go_at_call 15; refine (dcount_any (w.heap.size + 1) w.heap.size _ _ (HG11.out.kept hke (by simp) (by simp))).mono ?_; rintro e w12 ⟨rfl, rfl⟩)
      | (go_at_call 24; refine (find_lit _ _ (HP11.out.kept hke)).mono ?_; rintro e w12 ⟨rfl, hk12⟩; have hke := hke.trans hk12 (fun x hx => by cases hx))
      | (go_at_call 18; refine (dpairs_any (w.heap.size + 1) w.heap.size _ _ (HG11.out.kept hke (by simp) (by simp)) HN.out (by decide)).mono ?_; rw [keys1]; rintro e w12 ⟨v12, rfl, hp12, hk12⟩; obtain ⟨a12, c12, rfl, _⟩ := hp12.at'.ex; have hke := hke.trans hk12 (fun x hx => by cases hx))
      | (go_at_call 25; refine (sort_pr _ baseA _ (HP11.out.kept hke) (by decide)).mono ?_; rw [sort1]; rintro e w12 ⟨v12, rfl, hp12, hk12⟩; obtain ⟨a12, c12, rfl, _⟩ := hp12.at'.ex; have hke := hke.trans hk12 (fun x hx => by cases hx)))
  all_goals go_wp2
  all_goals go_returns
  all_goals exact ⟨rfl, HKE.out.trans hke (fun x hx => by cases hx)⟩
--@@ end
end Go.Proofs.Ythidbnjijomlmaa
