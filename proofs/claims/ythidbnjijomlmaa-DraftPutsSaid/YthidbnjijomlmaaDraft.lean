/- Contracts of package draft: a draft as a list of keys and values. -/
import Derived.Test.YthidbnjijomlmaaKey
import Derived.Test.YthidbnjijomlmaaSl
import Derived.Handy
import Derived.Sort.Grow
import Derived.Deep.RegionHeld3
import Derived.Lib.Bytealg
import Derived.Lib.BytesEntry
set_option linter.all false
namespace Go.Proofs.Ythidbnjijomlmaa
open Go.RowKit
set_option linter.unusedVariables false
set_option linter.unusedSimpArgs false

def dl (l : List (K4 × V)) : List (K4 × Value) := l.map fun p => (p.1, p.2.v)
theorem dl_get (x : K4) (l : List (K4 × V)) : aget x (dl l) = (aget x l).map V.v := aget_map V.v x l
theorem dl_put (x : K4) (r : V) (l : List (K4 × V)) : aput x r.v (dl l) = dl (aput x r l) := aput_map V.v x r l
theorem dl_len (l : List (K4 × V)) : (dl l).length = l.length := by simp [dl]
def K4.bs (k : K4) : List UInt8 := [k.a, k.b, k.c, k.d]
def ordK (x y : K4) : Int := Lib.compareBytes x.bs y.bs
def V.right (v : V) : Bool := v.there || decide (v.n = 0)

--@@ draft types
structure DraftIs (w : World) (a m : Nat) (l : List (K4 × V)) : Prop where
  blk : w.heap[a]? = some (.cells #[.map (some m)] 67 (0, 0))
  map : MapIs w m K4.v (dl l)
theorem DraftIs.c0 {w : World} {a m : Nat} {l : List (K4 × V)} (h : DraftIs w a m l) : w.cell? ⟨a, 0, none⟩ = some (.map (some m)) := by
  simp [World.cell?, h.blk]
theorem DraftIs.ne {w : World} {a m : Nat} {l : List (K4 × V)} (h : DraftIs w a m l) : a ≠ m := by
  rintro rfl
  obtain ⟨es, clock, hb, _⟩ := h.map.ex
  have := h.blk
  rw [hb] at this
  cases this
theorem DraftIs.lt {w : World} {a m : Nat} {l : List (K4 × V)} (h : DraftIs w a m l) : a < w.heap.size ∧ m < w.heap.size :=
  ⟨(Array.getElem?_eq_some_iff.1 h.blk).1, h.map.lt⟩
theorem DraftIs.kept {w w' : World} {a m : Nat} {l : List (K4 × V)} {S : List Nat} (h : DraftIs w a m l) (hk : Kept S w w') (ha : a ∉ S) (hm : m ∉ S) : DraftIs w' a m l :=
  ⟨(hk.block a h.lt.1 ha).trans h.blk, h.map.kept hk hm⟩
theorem DraftIs.turned {w w' : World} {a m : Nat} {l l' : List (K4 × V)} (h : DraftIs w a m l) (hk : Kept [m] w w') (hm : MapIs w' m K4.v (dl l')) : DraftIs w' a m l' :=
  ⟨(hk.block a h.lt.1 (by simp [h.ne])).trans h.blk, hm⟩
theorem DraftIs.same {w w' : World} {a m : Nat} {l : List (K4 × V)} (h : DraftIs w a m l) (hk : Kept [] w w') : DraftIs w' a m l ∧ Kept [m] w w' :=
  ⟨h.kept hk (by simp) (by simp), hk.mono (by simp)⟩
theorem DraftIs.put {w w' w1 : World} {a m : Nat} {l : List (K4 × V)} {k : K4} {v : V} (h : DraftIs w a m l) (hk : Kept [] w w1) (hM : MapIs w' m K4.v (aput k v.v (dl l))) (hk' : Kept [m] w1 w') :
    DraftIs w' a m (aput k v l) ∧ Kept [m] w w' := by
  rw [dl_put] at hM
  have hk2 : Kept [m] w w' := (hk.mono (by simp)).trans hk' (fun x hx => .inl hx)
  exact ⟨h.turned hk2 hM, hk2⟩
theorem zeroVal : ∀ w, (zeroValue 32).run Try.prog w = .ok (.agg #[.bool false, .int .i64 0]) w := fun w => by kernel_rfl
theorem dl_none {x : K4} {l : List (K4 × V)} (h : aget x l = none) : aget x (dl l) = none := by rw [dl_get, h]; rfl
theorem dl_some {x : K4} {l : List (K4 × V)} {r : V} (h : aget x l = some r) : aget x (dl l) = some (.agg #[.bool r.there, .int .i64 r.n]) := by rw [dl_get, h]; rfl
theorem DraftIs.look {w : World} {m : Nat} {l : List (K4 × V)} (h : MapIs w m K4.v (dl l)) (k : K4) :
    (Instr.lookup 65 (.map (some m)) k.v true).run Try.prog w = .ok (.tuple #[((aget k l).getD V.zero).v, .bool (aget k l).isSome]) w := by
  have := h.run_lookup keyK Try.underlying65 (zeroVal w) k true
  rw [dl_get] at this
  rw [this]
  cases aget k l <;> rfl
--@@ draft.New
theorem dnew_any (w : World) :
    Calls Try.prog 9 #[] w fun e w' => e = .returned (.pointer (some ⟨w.heap.size + 1, 0, none⟩)) ∧
      DraftIs w' (w.heap.size + 1) w.heap.size [] ∧ Kept [] w w' := by
  have hmm := @run_makeMap Try.prog
  go_enter Try.func9, Try.ntmps9
  go_wp2
  go_ret
  refine ⟨rfl, ⟨?_, ?_⟩, ((Kept.refl _ _).alloc _).alloc _⟩
  · have := heap_alloc_new (w.alloc (.map #[] 0)) (.cells #[.map (some w.heap.size)] 67)
    simpa using this
  · exact (MapIs.made w _).alloc _
--@@ draft.right
theorem dright_any (v : V) (w : World) :
    Calls Try.prog 32 #[v.v] w fun e w' => e = .returned (.bool v.right) ∧ Kept [] w w' := by
  obtain ⟨b, n⟩ := v
  simp only [V.v]
  cases b
  all_goals
    go_enter Try.func32, Try.ntmps32
    go_wp2
    go_ret
    exact ⟨ret_bool (by simp [V.right]; try rfl), (Kept.refl _ _).alloc _⟩
--@@ draft.Put
def dPut (l : List (K4 × V)) (k : K4) (v : V) : Int × List (K4 × V) :=
  if v.right = false then (10, l)
  else if (aget k l).isNone ∧ 16 ≤ l.length then (16, l)
  else (0, aput k v l)
set_option maxRecDepth 100000 in
set_option maxHeartbeats 1000000 in
theorem dput_any (a m : Nat) (l : List (K4 × V)) (k : K4) (v : V) (w : World) (hG : DraftIs w a m l) :
    Calls Try.prog 11 #[.pointer (some ⟨a, 0, none⟩), k.v, v.v] w fun e w' =>
      e = .returned (.int .i64 (dPut l k v).1) ∧ DraftIs w' a m (dPut l k v).2 ∧ Kept [m] w w' := by
  have c1 := hG.c0
  have hM := hG.map
  have hne := hG.ne
  have hlt := hG.lt.1
  have hmlt := hG.lt.2
  have HG := hid hG
  have hL : ∀ w', MapIs w' m K4.v (dl l) → (Instr.lookup 65 (.map (some m)) k.v true).run Try.prog w' = .ok (.tuple #[((aget k l).getD V.zero).v, .bool (aget k l).isSome]) w' := fun w' h => DraftIs.look h k
  have HLEN := hid (dl_len l)
  have HDP := hid (rfl : dPut l k v = dPut l k v)
  clear hG
  obtain ⟨r, hr⟩ : ∃ r, (aget k l).getD V.zero = r := ⟨_, rfl⟩
  obtain ⟨b, hb⟩ : ∃ b, (aget k l).isSome = b := ⟨_, rfl⟩
  have HB := hid hb
  rw [hr, hb] at hL
  clear hr hb HDP
  obtain ⟨ka, kb, kc, kd⟩ := k
  obtain ⟨rb, rn⟩ := r
  obtain ⟨vb, vn⟩ := v
  simp only [K4.v, V.v] at hL ⊢
  have HS := hid (show ∀ w', Kept [] ((w.alloc (.cells #[.int .u8 (ka.toNat : Int), .int .u8 (kb.toNat : Int), .int .u8 (kc.toNat : Int), .int .u8 (kd.toNat : Int)] 24)).alloc (.cells #[.bool vb, .int .i64 vn] 32)) w' → (Kept [] ((w.alloc (.cells #[.int .u8 (ka.toNat : Int), .int .u8 (kb.toNat : Int), .int .u8 (kc.toNat : Int), .int .u8 (kd.toNat : Int)] 24)).alloc (.cells #[.bool vb, .int .i64 vn] 32)) w' ∧ w'.cell? ⟨a, 0, none⟩ = some (.map (some m)) ∧ w'.cell? ⟨w.heap.size, 0, none⟩ = some (.int .u8 (ka.toNat : Int)) ∧ w'.cell? ⟨w.heap.size, 1, none⟩ = some (.int .u8 (kb.toNat : Int)) ∧ w'.cell? ⟨w.heap.size, 2, none⟩ = some (.int .u8 (kc.toNat : Int)) ∧ w'.cell? ⟨w.heap.size, 3, none⟩ = some (.int .u8 (kd.toNat : Int)) ∧ (Instr.lookup 65 (.map (some m)) (.agg #[.int .u8 (ka.toNat : Int), .int .u8 (kb.toNat : Int), .int .u8 (kc.toNat : Int), .int .u8 (kd.toNat : Int)]) true).run Try.prog w' = .ok (.tuple #[.agg #[.bool rb, .int .i64 rn], .bool b]) w') from fun w' hk =>
    have hk' : Kept [] w w' := (((Kept.refl [] w).alloc _).alloc _).trans hk (by simp)
    have hk'' : Kept [] (w.alloc (.cells #[.int .u8 (ka.toNat : Int), .int .u8 (kb.toNat : Int), .int .u8 (kc.toNat : Int), .int .u8 (kd.toNat : Int)] 24)) w' := ((Kept.refl [] _).alloc _).trans hk (by simp)
    ⟨hk, hk'.cell c1 (by simp), hk''.cell (new_cell w _ _ 0 _ rfl) (by simp), hk''.cell (new_cell w _ _ 1 _ rfl) (by simp), hk''.cell (new_cell w _ _ 2 _ rfl) (by simp), hk''.cell (new_cell w _ _ 3 _ rfl) (by simp), hL w' (hM.kept hk' (by simp))⟩)
  have HV := hid (show ∀ w', Kept [] ((w.alloc (.cells #[.int .u8 (ka.toNat : Int), .int .u8 (kb.toNat : Int), .int .u8 (kc.toNat : Int), .int .u8 (kd.toNat : Int)] 24)).alloc (.cells #[.bool vb, .int .i64 vn] 32)) w' → w'.cell? ⟨w.heap.size + 1, 0, none⟩ = some (.bool vb) ∧ w'.cell? ⟨w.heap.size + 1, 1, none⟩ = some (.int .i64 vn) ∧ MapIs w' m K4.v (dl l) ∧ Kept [] w w' from fun w' hk =>
    have hk' : Kept [] w w' := (((Kept.refl [] w).alloc _).alloc _).trans hk (by simp)
    ⟨by have := hk.cell (new_cell (w.alloc _) [.bool vb, .int .i64 vn] 32 0 _ rfl) (by simp); simpa using this, by have := hk.cell (new_cell (w.alloc _) [.bool vb, .int .i64 vn] 32 1 _ rfl) (by simp); simpa using this, hM.kept hk' (by simp), hk'⟩)
  clear hL hM
  have hr1 := hid (dright_any ⟨vb, vn⟩)
  obtain ⟨rt, hrt⟩ : ∃ rt, V.right ⟨vb, vn⟩ = rt := ⟨_, rfl⟩
  have HRT := hid hrt
  rw [hrt] at hr1
  clear hrt
  go_enter Try.func11, Try.ntmps11
  go_wp2_with fail
  go_region_held3 (fun w' => (Kept [] ((w.alloc (.cells #[.int .u8 (ka.toNat : Int), .int .u8 (kb.toNat : Int), .int .u8 (kc.toNat : Int), .int .u8 (kd.toNat : Int)] 24)).alloc (.cells #[.bool vb, .int .i64 vn] 32)) w' ∧ w'.cell? ⟨a, 0, none⟩ = some (.map (some m)) ∧ w'.cell? ⟨w.heap.size, 0, none⟩ = some (.int .u8 (ka.toNat : Int)) ∧ w'.cell? ⟨w.heap.size, 1, none⟩ = some (.int .u8 (kb.toNat : Int)) ∧ w'.cell? ⟨w.heap.size, 2, none⟩ = some (.int .u8 (kc.toNat : Int)) ∧ w'.cell? ⟨w.heap.size, 3, none⟩ = some (.int .u8 (kd.toNat : Int)) ∧ (Instr.lookup 65 (.map (some m)) (.agg #[.int .u8 (ka.toNat : Int), .int .u8 (kb.toNat : Int), .int .u8 (kc.toNat : Int), .int .u8 (kd.toNat : Int)]) true).run Try.prog w' = .ok (.tuple #[.agg #[.bool rb, .int .i64 rn], .bool b]) w'))
    ((refine HS.out _ ?_; (repeat (first | assumption | (with_reducible exact Kept.refl _ _) | (with_reducible refine Kept.drew ?_) | (with_reducible refine Kept.alloc ?_ _) | (with_reducible refine Kept.setCell ?_ (by right; simp; try omega) _)))))
    (fail)
  all_goals go_wp2_with fail
  all_goals go_at_call 32
  all_goals refine (hr1.out _).mono ?_
  all_goals rintro e w1 ⟨rfl, hk1⟩
  all_goals have hk2 := Kept.trans (show Kept [] ((w.alloc (.cells #[.int .u8 (ka.toNat : Int), .int .u8 (kb.toNat : Int), .int .u8 (kc.toNat : Int), .int .u8 (kd.toNat : Int)] 24)).alloc (.cells #[.bool vb, .int .i64 vn] 32)) _ by (repeat (first | assumption | (with_reducible exact Kept.refl _ _) | (with_reducible refine Kept.drew ?_) | (with_reducible refine Kept.alloc ?_ _) | (with_reducible refine Kept.setCell ?_ (by right; simp; try omega) _)))) hk1 (by simp)
  all_goals clear hk1
  all_goals obtain ⟨hk3, d1, d2, d3, d4, d5, _⟩ := HS.out _ hk2
  all_goals obtain ⟨d6, d7, hM1, hkw⟩ := HV.out _ hk2
  all_goals clear hk3 hk2
  all_goals have hkW := hid hkw
  all_goals clear hkw
  all_goals have hM2 := hid hM1
  all_goals clear hM1
  all_goals have hlen := hM2.out.run_len (P := Try.prog) Try.underlying65 3
  all_goals rw [HLEN.out] at hlen
  all_goals clear HS HV hr1
  all_goals (
    cases rt
    · go_wp2_with fail
      go_ret
      have e : dPut l ⟨ka, kb, kc, kd⟩ ⟨vb, vn⟩ = (10, l) := by unfold dPut; rw [if_pos HRT.out]
      rw [e]; exact ⟨rfl, HG.out.same hkW.out⟩
    · cases b
      · rcases Nat.lt_or_ge l.length 16 with hl | hl
        · have h16 : (l.length : Int) < 16 := by omega
          go_wp2_with fail
          refine region_tail 6 (by kernel_rfl) (by kernel_rfl) ?_
          simp only [List.take_succ_cons, List.take_zero, List.drop_succ_cons, List.drop_zero]
          repeat still_step
          refine wpStill_nil ?_
          go_wp2_with (at_mapUpdate; refine wpList_mapUpdate_is rfl _ _ _ 65 rfl 24 32 keyK Try.underlying65 rfl ⟨ka, kb, kc, kd⟩ rfl _ rfl hM2.out.drew ?_; intro w2 hM3 hK3)
          go_ret
          have e : dPut l ⟨ka, kb, kc, kd⟩ ⟨vb, vn⟩ = (0, aput ⟨ka, kb, kc, kd⟩ ⟨vb, vn⟩ l) := by unfold dPut; rw [if_neg (by simp [HRT.out]), if_neg (by omega)]
          rw [e]; exact ⟨rfl, HG.out.put (k := ⟨ka, kb, kc, kd⟩) (v := ⟨vb, vn⟩) hkW.out.drew hM3 hK3⟩
        · have h16 : (16 : Int) ≤ (l.length : Int) := by omega
          go_wp2_with fail
          go_ret
          have e : dPut l ⟨ka, kb, kc, kd⟩ ⟨vb, vn⟩ = (16, l) := by unfold dPut; rw [if_neg (by simp [HRT.out]), if_pos ⟨by have := HB.out; simpa using this, hl⟩]
          rw [e]; exact ⟨rfl, HG.out.same hkW.out⟩
      · go_wp2_with fail
        refine region_tail 6 (by kernel_rfl) (by kernel_rfl) ?_
        simp only [List.take_succ_cons, List.take_zero, List.drop_succ_cons, List.drop_zero]
        repeat still_step
        refine wpStill_nil ?_
        go_wp2_with (at_mapUpdate; refine wpList_mapUpdate_is rfl _ _ _ 65 rfl 24 32 keyK Try.underlying65 rfl ⟨ka, kb, kc, kd⟩ rfl _ rfl hM2.out.drew ?_; intro w2 hM3 hK3)
        go_ret
        have e : dPut l ⟨ka, kb, kc, kd⟩ ⟨vb, vn⟩ = (0, aput ⟨ka, kb, kc, kd⟩ ⟨vb, vn⟩ l) := by unfold dPut; rw [if_neg (by simp [HRT.out]), if_neg (by rintro ⟨h1, _⟩; have := HB.out; rw [Option.isNone_iff_eq_none] at h1; rw [h1] at this; cases this)]
        rw [e]; exact ⟨rfl, HG.out.put (k := ⟨ka, kb, kc, kd⟩) (v := ⟨vb, vn⟩) hkW.out.drew hM3 hK3⟩)
--@@ draft.Get
set_option maxHeartbeats 1000000 in
theorem dget_any (a m : Nat) (l : List (K4 × V)) (k : K4) (w : World) (hG : DraftIs w a m l) :
    Calls Try.prog 12 #[.pointer (some ⟨a, 0, none⟩), k.v] w fun e w' =>
      e = .returned (.tuple #[((aget k l).getD V.zero).v, .bool (aget k l).isSome]) ∧ Kept [] w w' := by
  have c1 := hG.c0
  have hM := hG.map
  have hlt := hG.lt.1
  have HG := hid hG
  clear hG
  have hL : ∀ w', MapIs w' m K4.v (dl l) → (Instr.lookup 65 (.map (some m)) k.v true).run Try.prog w' = .ok (.tuple #[((aget k l).getD V.zero).v, .bool (aget k l).isSome]) w' := fun w' h => DraftIs.look h k
  generalize (aget k l).getD V.zero = r at hL ⊢
  generalize (aget k l).isSome = b at hL ⊢
  obtain ⟨ka, kb, kc, kd⟩ := k
  obtain ⟨rb, rn⟩ := r
  simp only [K4.v, V.v] at hL ⊢
  have HS := hid (show ∀ w', Kept [] ((w.alloc (.cells #[.int .u8 (ka.toNat : Int), .int .u8 (kb.toNat : Int), .int .u8 (kc.toNat : Int), .int .u8 (kd.toNat : Int)] 24)).alloc (.cells #[.bool false, .int .i64 0] 32)) w' → (Kept [] ((w.alloc (.cells #[.int .u8 (ka.toNat : Int), .int .u8 (kb.toNat : Int), .int .u8 (kc.toNat : Int), .int .u8 (kd.toNat : Int)] 24)).alloc (.cells #[.bool false, .int .i64 0] 32)) w' ∧ w'.cell? ⟨a, 0, none⟩ = some (.map (some m)) ∧ w'.cell? ⟨w.heap.size, 0, none⟩ = some (.int .u8 (ka.toNat : Int)) ∧ w'.cell? ⟨w.heap.size, 1, none⟩ = some (.int .u8 (kb.toNat : Int)) ∧ w'.cell? ⟨w.heap.size, 2, none⟩ = some (.int .u8 (kc.toNat : Int)) ∧ w'.cell? ⟨w.heap.size, 3, none⟩ = some (.int .u8 (kd.toNat : Int)) ∧ (Instr.lookup 65 (.map (some m)) (.agg #[.int .u8 (ka.toNat : Int), .int .u8 (kb.toNat : Int), .int .u8 (kc.toNat : Int), .int .u8 (kd.toNat : Int)]) true).run Try.prog w' = .ok (.tuple #[.agg #[.bool rb, .int .i64 rn], .bool b]) w') from fun w' hk =>
    have hk' : Kept [] w w' := (((Kept.refl [] w).alloc _).alloc _).trans hk (by simp)
    have hk'' : Kept [] (w.alloc (.cells #[.int .u8 (ka.toNat : Int), .int .u8 (kb.toNat : Int), .int .u8 (kc.toNat : Int), .int .u8 (kd.toNat : Int)] 24)) w' := ((Kept.refl [] _).alloc _).trans hk (by simp)
    ⟨hk, hk'.cell c1 (by simp), hk''.cell (new_cell w _ _ 0 _ rfl) (by simp), hk''.cell (new_cell w _ _ 1 _ rfl) (by simp), hk''.cell (new_cell w _ _ 2 _ rfl) (by simp), hk''.cell (new_cell w _ _ 3 _ rfl) (by simp), hL w' (hM.kept hk' (by simp))⟩)
  clear hL hM
  go_enter Try.func12, Try.ntmps12
  go_wp2_with fail
  go_region_held3 (fun w' => (Kept [] ((w.alloc (.cells #[.int .u8 (ka.toNat : Int), .int .u8 (kb.toNat : Int), .int .u8 (kc.toNat : Int), .int .u8 (kd.toNat : Int)] 24)).alloc (.cells #[.bool false, .int .i64 0] 32)) w' ∧ w'.cell? ⟨a, 0, none⟩ = some (.map (some m)) ∧ w'.cell? ⟨w.heap.size, 0, none⟩ = some (.int .u8 (ka.toNat : Int)) ∧ w'.cell? ⟨w.heap.size, 1, none⟩ = some (.int .u8 (kb.toNat : Int)) ∧ w'.cell? ⟨w.heap.size, 2, none⟩ = some (.int .u8 (kc.toNat : Int)) ∧ w'.cell? ⟨w.heap.size, 3, none⟩ = some (.int .u8 (kd.toNat : Int)) ∧ (Instr.lookup 65 (.map (some m)) (.agg #[.int .u8 (ka.toNat : Int), .int .u8 (kb.toNat : Int), .int .u8 (kc.toNat : Int), .int .u8 (kd.toNat : Int)]) true).run Try.prog w' = .ok (.tuple #[.agg #[.bool rb, .int .i64 rn], .bool b]) w'))
    ((refine HS.out _ ?_; (repeat (first | assumption | (with_reducible exact Kept.refl _ _) | (with_reducible refine Kept.drew ?_) | (with_reducible refine Kept.alloc ?_ _) | (with_reducible refine Kept.setCell ?_ (by right; simp; try omega) _)))))
    (fail)
  all_goals go_wp2
  all_goals go_returns
  all_goals exact ⟨rfl, by (repeat (first | assumption | (with_reducible exact Kept.refl _ _) | (with_reducible refine Kept.drew ?_) | (with_reducible refine Kept.alloc ?_ _) | (with_reducible refine Kept.setCell ?_ (by right; simp; try omega) _)))⟩
--@@ draft.Count
theorem dcount_any (a m : Nat) (l : List (K4 × V)) (w : World) (hG : DraftIs w a m l) :
    Calls Try.prog 15 #[.pointer (some ⟨a, 0, none⟩)] w fun e w' => e = .returned (.int .i64 l.length) ∧ w' = w := by
  have c1 := hG.c0
  have hM := hG.map
  have hlt := hG.lt.1
  have HL := hid (dl_len l)
  clear hG
  go_enter Try.func15, Try.ntmps15
  go_wp2_with (at_len; refine wpList_len_is rfl _ 65 rfl 24 32 Try.underlying65 rfl hM l.length HL.out ?_)
  go_ret
  exact ⟨rfl, rfl⟩
--@@ draft.order
theorem u8_bytes (l : List UInt8) : Lib.bytesOf (l.map fun b => (b.toNat : Int)) = l := by
  induction l with
  | nil => rfl
  | cons x l ih => simp only [List.map_cons, Lib.bytesOf] at ih ⊢; rw [ih]; simp
theorem K4.get_f (x : K4) (j : Nat) (n : Int) (h : (x.bs.map fun b => (b.toNat : Int))[j]? = some n) : x.f[j]? = some (.int .u8 n) := by
  have e : x.f = (x.bs.map fun b => (b.toNat : Int)).map (Value.int .u8) := rfl
  rw [e, List.getElem?_map, h]; rfl
theorem run_bytesK {P : Program} (a : Addr) (x : K4) (w : World) (c : Nat) (hx : ∀ (j : Nat) (u : Value), x.f[j]? = some u → w.cell? (a.add j) = some u) :
    (Extern.Bytes.bytesOf (.slice (some a) 4 c)).run P w = .ok ⟨x.bs.toArray⟩ w := by
  have := Lib.run_loadBytesX (P := P) w (x.bs.map fun b => (b.toNat : Int)) a .empty (fun j n hj => hx j _ (K4.get_f x j n hj))
  have hl : (x.bs.map fun b => (b.toNat : Int)).length = 4 := rfl
  rw [hl, u8_bytes] at this
  simp only [Extern.Bytes.bytesOf]
  rw [this]
  rfl
set_option maxHeartbeats 1000000 in
theorem bcompare_any (a b : Addr) (x y : K4) (w : World) (c c' : Nat) (hx : ∀ (j : Nat) (u : Value), x.f[j]? = some u → w.cell? (a.add j) = some u) (hy : ∀ (j : Nat) (u : Value), y.f[j]? = some u → w.cell? (b.add j) = some u) :
    Calls Try.prog 47 #[.slice (some a) 4 c, .slice (some b) 4 c'] w fun e w' => e = .returned (.int .i64 (ordK x y)) ∧ w' = w := by
  have hX := run_bytesK (P := Try.prog) a x w c hx
  have hY := run_bytesK (P := Try.prog) b y w c' hy
  clear hx hy
  have hrun : (Extern.BytealgCompare.compare #[.slice (some a) 4 c, .slice (some b) 4 c']).run Try.prog w = .ok (.int .i64 (ordK x y)) w := by
    change Sem.run Try.prog (do pure (goInt (Extern.BytealgCompare.cmp (← Extern.Bytes.bytesOf (.slice (some a) 4 c)) (← Extern.Bytes.bytesOf (.slice (some b) 4 c'))))) w = _
    simp only [Sem.run_bind, Sem.run_pure, hX, hY, Result.andThen]
    rw [Lib.cmp_eq]
    rfl
  have HR := hid hrun
  clear hrun hX hY
  go_enter Try.func47, Try.ntmps47
  go_wp2
  rw [run_callFunc_extern Try.func62 (by kernel_rfl) (by kernel_rfl) (by kernel_rfl) (e := Extern.BytealgCompare.compare) (by kernel_rfl), HR.out]
  simp only [Result.andThen]
  rw [Oper.upon_value]
  go_wp2
  go_ret
  exact ⟨rfl, rfl⟩
theorem key_at {w : World} {b : Nat} {cs : List Value} {t : TypeId} (h : w.heap[b]? = some (.cells cs.toArray t (0, 0))) (x : K4) (hx : ∀ (j : Nat) (u : Value), x.f[j]? = some u → cs[j]? = some u) (n : Nat) :
    ∀ (j : Nat) (u : Value), x.f[j]? = some u → (w.drewN n).cell? ((⟨b, 0, none⟩ : Addr).add j) = some u := fun j u hj => by
  have hadd : (⟨b, 0, none⟩ : Addr).add j = ⟨b, j, none⟩ := by unfold Addr.add; split <;> simp_all
  have h' : (w.drewN n).heap[b]? = some (.cells cs.toArray t (0, 0)) := h
  rw [hadd, cell_of_row _ _ j cs.toArray t (0, 0) h']
  simpa using hx j u hj
set_option maxHeartbeats 1000000 in
theorem order_any (x y : Pr) (w : World) :
    Calls Try.prog 34 #[x.v, y.v] w fun e w' => e = .returned (.int .i64 (ordK x.key y.key)) ∧ ∃ q os, w' = Go.Sort.grow (w.drewN q) os := by
  have hX := hid (key_at (w := (w.alloc (.cells x.f.toArray 54)).alloc (.cells y.f.toArray 54)) (b := w.heap.size) (by rw [Below.heap_alloc _ _ _ (by simp)]; exact heap_alloc_new w _) x.key (fun j u hj => by
    have : x.f = x.key.f ++ x.val.f := rfl
    rw [this, List.getElem?_append_left (List.getElem?_eq_some_iff.1 hj).1]; exact hj))
  have hY := hid (key_at (w := (w.alloc (.cells x.f.toArray 54)).alloc (.cells y.f.toArray 54)) (b := w.heap.size + 1) (by have := heap_alloc_new (w.alloc (.cells x.f.toArray 54)) (.cells y.f.toArray 54); simpa using this) y.key (fun j u hj => by
    have : y.f = y.key.f ++ y.val.f := rfl
    rw [this, List.getElem?_append_left (List.getElem?_eq_some_iff.1 hj).1]; exact hj))
  obtain ⟨⟨a1, a2, a3, a4⟩, ⟨a5, a6⟩⟩ := x
  obtain ⟨⟨b1, b2, b3, b4⟩, ⟨b5, b6⟩⟩ := y
  simp only [Pr.v, Pr.f] at hX hY ⊢
  go_enter Try.func34, Try.ntmps34
  go_wp2_with fail
  go_quiet ((go_at_call 47; exact Calls.quiet_of_same (bcompare_any _ _ ⟨a1, a2, a3, a4⟩ ⟨b1, b2, b3, b4⟩ _ _ _ (hX.out _) (hY.out _))))
  go_wp2
  go_ret
  exact ⟨rfl, _, _, by rw [Go.Sort.alloc_eq_grow, Go.Sort.alloc_eq_grow, Go.Sort.grow_grow]; rfl⟩
--@@ end
end Go.Proofs.Ythidbnjijomlmaa
