/- Contracts of package gate: a gate as a list of rows. -/
import Derived.Test.YtdaipbaclccodaaSet
import Derived.Test.YtdaipbaclccodaaMem
import Derived.StillTailTactics
set_option linter.all false
namespace Go.Proofs.Ytdaipbaclccodaa
open Go.RowKit
set_option linter.unusedVariables false
set_option linter.unusedSimpArgs false

/-- a row: its mask, its release tick, its outcome (0 none, 1 abort, 2 commit) -/
structure GR where
  mask : Nat
  rel : Int
  out : Int
  deriving DecidableEq
def GR.v (r : GR) : Value := .agg #[.int .u16 (r.mask : Int), .int .i64 r.rel, .int .i64 r.out]
def GR.zero : GR := ⟨0, 0, 0⟩
def gl (rows : List (Int × GR)) : List (Int × Value) := rows.map fun p => (p.1, p.2.v)
theorem gl_get (x : Int) (rows : List (Int × GR)) : aget x (gl rows) = (aget x rows).map GR.v := aget_map GR.v x rows
theorem gl_put (x : Int) (r : GR) (rows : List (Int × GR)) : aput x r.v (gl rows) = gl (aput x r rows) := aput_map GR.v x r rows
theorem gl_del (x : Int) (rows : List (Int × GR)) : adel x (gl rows) = gl (adel x rows) := adel_map GR.v x rows
theorem gl_len (rows : List (Int × GR)) : (gl rows).length = rows.length := by simp [gl]

/-- all masks are sets of parts -/
def GOk (rows : List (Int × GR)) : Prop := ∀ p, p ∈ rows → p.2.mask < 64

--@@ types
/-- block a is a gate that owns 'owned'; its map is block m -/
structure GateIs (w : World) (a m : Nat) (owned : Nat) (rows : List (Int × GR)) : Prop where
  blk : w.heap[a]? = some (.cells #[.int .u64 (owned : Int), .map (some m)] 59 (0, 0))
  map : MapIs w m (Value.int .i64) (gl rows)
theorem GateIs.c0 {w : World} {a m owned : Nat} {rows : List (Int × GR)} (h : GateIs w a m owned rows) : w.cell? ⟨a, 0, none⟩ = some (.int .u64 (owned : Int)) := by
  simp [World.cell?, h.blk]
theorem GateIs.c1 {w : World} {a m owned : Nat} {rows : List (Int × GR)} (h : GateIs w a m owned rows) : w.cell? ⟨a, 1, none⟩ = some (.map (some m)) := by
  simp [World.cell?, h.blk]
theorem GateIs.ne {w : World} {a m owned : Nat} {rows : List (Int × GR)} (h : GateIs w a m owned rows) : a ≠ m := by
  rintro rfl
  obtain ⟨es, clock, hb, _⟩ := h.map.ex
  have := h.blk
  rw [hb] at this
  cases this
theorem GateIs.lt {w : World} {a m owned : Nat} {rows : List (Int × GR)} (h : GateIs w a m owned rows) : a < w.heap.size ∧ m < w.heap.size :=
  ⟨(Array.getElem?_eq_some_iff.1 h.blk).1, h.map.lt⟩
theorem GateIs.kept {w w' : World} {a m owned : Nat} {rows : List (Int × GR)} {S : List Nat} (h : GateIs w a m owned rows) (hk : Kept S w w') (ha : a ∉ S) (hm : m ∉ S) : GateIs w' a m owned rows :=
  ⟨(hk.block a h.lt.1 ha).trans h.blk, h.map.kept hk hm⟩
theorem GateIs.turned {w w' : World} {a m owned : Nat} {rows rows' : List (Int × GR)} (h : GateIs w a m owned rows) (hk : Kept [m] w w') (hm : MapIs w' m (Value.int .i64) (gl rows')) : GateIs w' a m owned rows' :=
  ⟨(hk.block a h.lt.1 (by simp [h.ne])).trans h.blk, hm⟩

theorem keyI : KeyOK Try.prog 3 (Value.int .i64) := KeyOK.int Try.underlying3
theorem zeroRow : ∀ w, (zeroValue 62).run Try.prog w = .ok (.agg #[.int .u16 0, .int .i64 0, .int .i64 0]) w := fun w => by kernel_rfl
theorem gl_none {tx : Int} {rows : List (Int × GR)} (h : aget tx rows = none) : aget tx (gl rows) = none := by rw [gl_get, h]; rfl
theorem gl_some {tx : Int} {rows : List (Int × GR)} {r : GR} (h : aget tx rows = some r) : aget tx (gl rows) = some (.agg #[.int .u16 (r.mask : Int), .int .i64 r.rel, .int .i64 r.out]) := by rw [gl_get, h]; rfl

--@@ gate.New
set_option maxHeartbeats 400000 in
theorem gnew_any (owned : Nat) (w : World) :
    Calls Try.prog 9 #[.int .u64 owned] w fun e w' => e = .returned (.pointer (some ⟨w.heap.size + 1, 0, none⟩)) ∧
      GateIs w' (w.heap.size + 1) w.heap.size owned [] ∧ Kept [] w w' := by
  have hmm := @run_makeMap Try.prog
  go_enter Try.func9, Try.ntmps9
  go_wp2
  go_ret
  refine ⟨rfl, ⟨?_, ?_⟩, ((Kept.refl _ _).alloc _).alloc _⟩
  · have := heap_alloc_new (w.alloc (.map #[] 0)) (.cells #[.int .u64 (owned : Int), .map (some w.heap.size)] 59)
    simpa using this
  · exact (MapIs.made w _).alloc _

theorem GateIs.same {w w' : World} {a m owned : Nat} {rows : List (Int × GR)} (h : GateIs w a m owned rows) (hk : Kept [] w w') : GateIs w' a m owned rows ∧ Kept [m] w w' :=
  ⟨h.kept hk (by simp) (by simp), hk.mono (by simp)⟩
theorem GateIs.put {w w' w1 : World} {a m owned : Nat} {rows : List (Int × GR)} {tx : Int} {r : GR} (h : GateIs w a m owned rows) (hk : Kept [] w w1) (hM : MapIs w' m (Value.int .i64) (aput tx r.v (gl rows))) (hk' : Kept [m] w1 w') :
    GateIs w' a m owned (aput tx r rows) ∧ Kept [m] w w' := by
  rw [gl_put] at hM
  have hk2 : Kept [m] w w' := (hk.mono (by simp)).trans hk' (fun x hx => .inl hx)
  exact ⟨h.turned hk2 hM, hk2⟩
--@@ gate.Open
def gOpen (rows : List (Int × GR)) (tx : Int) (mask : Nat) (rel : Int) : Int × List (Int × GR) :=
  if tx < 1 ∨ 1048576 < tx ∨ rel < 0 ∨ 1099511627776 < rel then (11, rows)
  else if mask = 0 ∨ 63 < mask then (10, rows)
  else if (aget tx rows).isSome then (13, rows)
  else if 64 ≤ rows.length then (16, rows)
  else (0, aput tx ⟨mask, rel, 0⟩ rows)
theorem mask_63 (m : Nat) (h : m < 65536) : (bits .andNot .u16 (m : Int) 63 != 0) = decide (63 < m) := by
  have := u16_andNot_nat m 63 h (by omega)
  have e63 : ((63 : Nat) : Int) = 63 := rfl
  rw [e63] at this
  rw [this]
  have e : m &&& (65535 - 63) = m - m % 64 := by
    refine Nat.eq_of_testBit_eq fun i => ?_
    have e2 : m - m % 64 = 2 ^ 6 * (m / 2 ^ 6) := by omega
    rw [Nat.testBit_and, e2, Nat.testBit_two_pow_mul, Nat.testBit_div_two_pow]
    have e3 : 65535 - 63 = 2 ^ 6 * (2 ^ 10 - 1) := by decide
    rw [e3, Nat.testBit_two_pow_mul, Nat.testBit_two_pow_sub_one]
    by_cases h6 : 6 ≤ i
    · by_cases h16 : i < 16
      · have : i - 6 < 10 := by omega
        simp [h6, this]
      · have : m.testBit i = false := Nat.testBit_lt_two_pow (Nat.lt_of_lt_of_le h (by
          have : (2:Nat) ^ 16 ≤ 2 ^ i := Nat.pow_le_pow_right (by omega) (by omega)
          omega))
        have e4 : i - 6 + 6 = i := by omega
        simp [h6, this, e4]
    · simp [h6]
  rw [e, Bool.eq_iff_iff]
  simp
  omega
set_option maxHeartbeats 1000000 in
theorem gopen_any (a m owned : Nat) (rows : List (Int × GR)) (tx rel : Int) (mask : Nat) (hm : mask < 65536) (w : World) (hG : GateIs w a m owned rows) :
    Calls Try.prog 10 #[.pointer (some ⟨a, 0, none⟩), .int .i64 tx, .int .u16 mask, .int .i64 rel] w fun e w' =>
      e = .returned (.int .i64 (gOpen rows tx mask rel).1) ∧ GateIs w' a m owned (gOpen rows tx mask rel).2 ∧ Kept [m] w w' := by
  have c1 := hG.c1
  have hM := hG.map
  have hne := hG.ne
  have hlt := hG.lt.1
  have HG := hid hG
  clear hG
  cases hr : aget tx rows with
  | none =>
    have hr' := hid (gl_none hr)
    have HR := hid hr
    have hl := hid (gl_len rows)
    have hm63 := mask_63 mask hm
    have hm0 : ((mask : Int) == 0) = decide (mask = 0) := by rw [Bool.eq_iff_iff]; simp
    clear hr
    go_enter Try.func10, Try.ntmps10
    go_wp2_with (first
      | (at_lookup; refine wpList_lookup_is rfl _ _ 57 true rfl 3 62 keyI Try.underlying57 _ zeroRow rfl tx rfl hM none hr'.out ?_)
      | (at_len; refine wpList_len_is rfl _ 57 rfl 3 62 Try.underlying57 rfl (hM.alloc _) rows.length hl.out ?_)
      | (at_mapUpdate; refine wpList_mapUpdate_is rfl _ _ _ 57 rfl 3 62 keyI Try.underlying57 rfl tx rfl _ rfl (hM.alloc _) ?_; intro w1 hM1 hK1))
    all_goals go_ret
    all_goals first
      | (have e : gOpen rows tx mask rel = (11, rows) := by unfold gOpen; rw [if_pos (by omega)]
         rw [e]; exact ⟨rfl, HG.out.same ((Kept.refl [] w).alloc _)⟩)
      | (have e : gOpen rows tx mask rel = (10, rows) := by unfold gOpen; rw [if_neg (by omega), if_pos (by omega)]
         rw [e]; exact ⟨rfl, HG.out.same ((Kept.refl [] w).alloc _)⟩)
      | (have e : gOpen rows tx mask rel = (16, rows) := by unfold gOpen; rw [if_neg (by omega), if_neg (by omega), if_neg (by simp [HR.out]), if_pos (by omega)]
         rw [e]; exact ⟨rfl, HG.out.same ((Kept.refl [] w).alloc _)⟩)
      | (have e : gOpen rows tx mask rel = (0, aput tx ⟨mask, rel, 0⟩ rows) := by unfold gOpen; rw [if_neg (by omega), if_neg (by omega), if_neg (by simp [HR.out]), if_neg (by omega)]
         rw [e]; exact ⟨rfl, HG.out.put (r := ⟨mask, rel, 0⟩) ((Kept.refl [] w).alloc _) hM1 hK1⟩)
  | some r =>
    have hr' := hid (gl_some hr)
    have HR := hid hr
    have hm63 := mask_63 mask hm
    have hm0 : ((mask : Int) == 0) = decide (mask = 0) := by rw [Bool.eq_iff_iff]; simp
    clear hr
    go_enter Try.func10, Try.ntmps10
    go_wp2_with (at_lookup; refine wpList_lookup_is rfl _ _ 57 true rfl 3 62 keyI Try.underlying57 _ zeroRow rfl tx rfl hM _ hr'.out ?_)
    all_goals go_ret
    all_goals first
      | (have e : gOpen rows tx mask rel = (11, rows) := by unfold gOpen; rw [if_pos (by omega)]
         rw [e]; exact ⟨rfl, HG.out.same ((Kept.refl [] w).alloc _)⟩)
      | (have e : gOpen rows tx mask rel = (10, rows) := by unfold gOpen; rw [if_neg (by omega), if_pos (by omega)]
         rw [e]; exact ⟨rfl, HG.out.same ((Kept.refl [] w).alloc _)⟩)
      | (have e : gOpen rows tx mask rel = (13, rows) := by unfold gOpen; rw [if_neg (by omega), if_neg (by omega), if_pos (by simp [HR.out])]
         rw [e]; exact ⟨rfl, HG.out.same ((Kept.refl [] w).alloc _)⟩)
--@@ gate.Set
def gSet (rows : List (Int × GR)) (tx : Int) (yes : Bool) : Int × List (Int × GR) :=
  match aget tx rows with
  | none => (12, rows)
  | some r => if r.out ≠ 0 ∧ r.out ≠ (if yes then 2 else 1) then (13, rows) else (0, aput tx ⟨r.mask, r.rel, if yes then 2 else 1⟩ rows)
set_option maxRecDepth 100000 in
set_option maxHeartbeats 1000000 in
theorem gset_any (a m owned : Nat) (rows : List (Int × GR)) (tx : Int) (yes : Bool) (w : World) (hG : GateIs w a m owned rows) :
    Calls Try.prog 12 #[.pointer (some ⟨a, 0, none⟩), .int .i64 tx, .bool yes] w fun e w' =>
      e = .returned (.int .i64 (gSet rows tx yes).1) ∧ GateIs w' a m owned (gSet rows tx yes).2 ∧ Kept [m] w w' := by
  have c1 := hG.c1
  have hM := hG.map
  have hne := hG.ne
  have hlt := hG.lt.1
  have HG := hid hG
  clear hG
  cases hr : aget tx rows with
  | none =>
    have hr' := hid (gl_none hr)
    have e : gSet rows tx yes = (12, rows) := by unfold gSet; rw [hr]
    rw [e]
    clear hr e
    go_enter Try.func12, Try.ntmps12
    go_wp2_with (at_lookup; refine wpList_lookup_is rfl _ _ 57 true rfl 3 62 keyI Try.underlying57 _ zeroRow rfl tx rfl hM _ hr'.out ?_)
    go_ret
    exact ⟨rfl, HG.out.same ((Kept.refl [] w).alloc _)⟩
  | some r =>
    have hr' := hid (gl_some hr)
    by_cases hc : r.out ≠ 0 ∧ r.out ≠ (if yes then 2 else 1)
    · have e : gSet rows tx yes = (13, rows) := by unfold gSet; rw [hr]; simp only; rw [if_pos hc]
      rw [e]
      clear hr e
      have h1 : (r.out != 0) = true := by simp [hc.1]
      have h2 : (r.out != if yes then 2 else 1) = true := by simp [hc.2]
      clear hc
      go_enter Try.func12, Try.ntmps12
      cases yes
      all_goals simp only [if_true, if_false, Bool.false_eq_true] at h2
      all_goals go_wp2_with (at_lookup; refine wpList_lookup_is rfl _ _ 57 true rfl 3 62 keyI Try.underlying57 _ zeroRow rfl tx rfl hM _ hr'.out ?_)
      all_goals go_ret
      all_goals exact ⟨rfl, HG.out.same ((Kept.refl [] w).alloc _)⟩
    · have e : gSet rows tx yes = (0, aput tx ⟨r.mask, r.rel, if yes then 2 else 1⟩ rows) := by unfold gSet; rw [hr]; simp only; rw [if_neg hc]
      rw [e]
      clear hr e
      have h1 : (r.out != 0 && r.out != if yes then 2 else 1) = false := by
        by_cases h0 : r.out = 0
        · simp [h0]
        · have : r.out = if yes then 2 else 1 := Classical.byContradiction fun h => hc ⟨h0, h⟩
          simp [this]
      clear hc
      go_enter Try.func12, Try.ntmps12
      cases yes
      all_goals simp only [if_true, if_false, Bool.false_eq_true] at h1
      all_goals cases h0 : (r.out != 0)
      all_goals rw [h0] at h1
      all_goals simp only [Bool.true_and, Bool.false_and] at h1
      all_goals go_wp2_with (at_lookup; refine wpList_lookup_is rfl _ _ 57 true rfl 3 62 keyI Try.underlying57 _ zeroRow rfl tx rfl hM _ hr'.out ?_)
      all_goals refine region_tail 6 (by kernel_rfl) (by kernel_rfl) ?_
      all_goals simp only [List.take_succ_cons, List.take_zero, List.drop_succ_cons, List.drop_zero]
      all_goals repeat still_step
      all_goals refine wpStill_nil ?_
      all_goals go_wp2_with (at_mapUpdate; refine wpList_mapUpdate_is rfl _ _ _ 57 rfl 3 62 keyI Try.underlying57 rfl tx rfl _ rfl (hM.alloc _).drew ?_; intro w1 hM1 hK1)
      all_goals go_ret
      · exact ⟨rfl, HG.out.put (r := ⟨r.mask, r.rel, 1⟩) ((Kept.refl [] w).alloc _).drew hM1 hK1⟩
      · exact ⟨rfl, HG.out.put (r := ⟨r.mask, r.rel, 1⟩) ((Kept.refl [] w).alloc _).drew hM1 hK1⟩
      · exact ⟨rfl, HG.out.put (r := ⟨r.mask, r.rel, 2⟩) ((Kept.refl [] w).alloc _).drew hM1 hK1⟩
      · exact ⟨rfl, HG.out.put (r := ⟨r.mask, r.rel, 2⟩) ((Kept.refl [] w).alloc _).drew hM1 hK1⟩
--@@ gate.Read
def gRead (rows : List (Int × GR)) (tx part now : Int) : Int × Int :=
  match aget tx rows with
  | none => (0, 12)
  | some r => if hasB r.mask part = false then (0, 12) else if now < r.rel ∨ r.out = 0 then (0, 17) else (if r.out = 2 then 1 else 0, 0)
theorem aget_mem {α β : Type} [DecidableEq α] {x : α} {v : β} : ∀ {l : List (α × β)}, aget x l = some v → (x, v) ∈ l
  | [], h => by simp [aget] at h
  | p :: r, h => by
    unfold aget at h
    split at h
    · rename_i hp; cases h; subst hp; exact List.mem_cons_self
    · exact List.mem_cons_of_mem _ (aget_mem h)
set_option maxHeartbeats 1000000 in
theorem gread_any (a m owned : Nat) (rows : List (Int × GR)) (tx part now : Int) (w : World) (hG : GateIs w a m owned rows) (hok : GOk rows) :
    Calls Try.prog 14 #[.pointer (some ⟨a, 0, none⟩), .int .i64 tx, .int .i64 part, .int .i64 now] w fun e w' =>
      e = .returned (.tuple #[.int .i64 (gRead rows tx part now).1, .int .i64 (gRead rows tx part now).2]) ∧ Kept [] w w' := by
  have c1 := hG.c1
  have hM := hG.map
  have hlt := hG.lt.1
  clear hG
  cases hr : aget tx rows with
  | none =>
    have hr' := hid (gl_none hr)
    have e : gRead rows tx part now = (0, 12) := by unfold gRead; rw [hr]
    rw [e]
    clear hr e
    go_enter Try.func14, Try.ntmps14
    go_wp2_with (at_lookup; refine wpList_lookup_is rfl _ _ 57 true rfl 3 62 keyI Try.underlying57 _ zeroRow rfl tx rfl hM _ hr'.out ?_)
    go_ret2
    exact ⟨rfl, (Kept.refl [] w).alloc _⟩
  | some r =>
    have hr' := hid (gl_some hr)
    have hmk : r.mask < 64 := hok _ (aget_mem hr)
    have hu : U64 r.mask := by unfold U64; omega
    have e : gRead rows tx part now = if hasB r.mask part = false then (0, 12) else if now < r.rel ∨ r.out = 0 then (0, 17) else (if r.out = 2 then 1 else 0, 0) := by unfold gRead; rw [hr]
    have HE := hid e
    clear hr e
    go_enter Try.func14, Try.ntmps14
    go_wp2_with (first
      | (at_lookup; refine wpList_lookup_is rfl _ _ 57 true rfl 3 62 keyI Try.underlying57 _ zeroRow rfl tx rfl hM _ hr'.out ?_)
      | (go_at_call 28; refine (has_any _ _ _ hu).mono ?_; rintro e w' ⟨rfl, rfl⟩))
    all_goals go_ret2
    all_goals rw [HE.out]
    · rw [if_pos (by simpa using ‹(!hasB r.mask part) = true›)]
      exact ⟨rfl, (Kept.refl [] w).alloc _⟩
    · rw [if_neg (by simpa using ‹(!hasB r.mask part) = false›), if_pos (by simpa using ‹now < r.rel ∨ (r.out == 0) = true›)]
      exact ⟨rfl, (Kept.refl [] w).alloc _⟩
    · have h1 : r.out = 2 := by simpa using ‹(r.out == 2) = true›
      rw [if_neg (by simpa using ‹(!hasB r.mask part) = false›), if_neg (by omega), if_pos h1]
      exact ⟨rfl, (Kept.refl [] w).alloc _⟩
    · have h1 : ¬ r.out = 2 := by simpa using ‹(r.out == 2) = false›
      have h2 : r.rel ≤ now ∧ ¬ r.out = 0 := by simpa using ‹r.rel ≤ now ∧ (r.out == 0) = false›
      rw [if_neg (by simpa using ‹(!hasB r.mask part) = false›), if_neg (by omega), if_neg h1]
      exact ⟨rfl, (Kept.refl [] w).alloc _⟩
    · rw [if_neg (by simpa using ‹(!hasB r.mask part) = false›), if_pos (.inl (by omega))]
      exact ⟨rfl, (Kept.refl [] w).alloc _⟩
--@@ gate.Close
set_option maxHeartbeats 1000000 in
theorem gclose_any (a m owned : Nat) (rows : List (Int × GR)) (tx : Int) (w : World) (hG : GateIs w a m owned rows) :
    Calls Try.prog 16 #[.pointer (some ⟨a, 0, none⟩), .int .i64 tx] w fun e w' =>
      e = .returned (.bool (aget tx rows).isSome) ∧ GateIs w' a m owned (adel tx rows) ∧ Kept [m] w w' := by
  have c1 := hG.c1
  have hM := hG.map
  have hlt := hG.lt.1
  have HG := hid hG
  clear hG
  cases hr : aget tx rows with
  | none =>
    have hr' := hid (gl_none hr)
    clear hr
    go_enter Try.func16, Try.ntmps16
    go_wp2_with (first
      | (at_lookup; refine wpList_lookup_is rfl _ _ 57 true rfl 3 62 keyI Try.underlying57 _ zeroRow rfl tx rfl hM _ hr'.out ?_)
      | (at_delete; refine wpList_delete_is rfl _ _ 57 3 rfl 3 62 keyI Try.underlying57 rfl tx rfl (hM.alloc _) ?_; intro w1 hM1 hK1))
    go_ret
    rw [gl_del] at hM1
    have hk2 : Kept [m] w w1 := (((Kept.refl [] w).alloc _).mono (by simp)).trans hK1 (fun x hx => .inl hx)
    exact ⟨rfl, HG.out.turned hk2 hM1, hk2⟩
  | some r =>
    have hr' := hid (gl_some hr)
    clear hr
    go_enter Try.func16, Try.ntmps16
    go_wp2_with (first
      | (at_lookup; refine wpList_lookup_is rfl _ _ 57 true rfl 3 62 keyI Try.underlying57 _ zeroRow rfl tx rfl hM _ hr'.out ?_)
      | (at_delete; refine wpList_delete_is rfl _ _ 57 3 rfl 3 62 keyI Try.underlying57 rfl tx rfl (hM.alloc _) ?_; intro w1 hM1 hK1))
    go_ret
    rw [gl_del] at hM1
    have hk2 : Kept [m] w w1 := (((Kept.refl [] w).alloc _).mono (by simp)).trans hK1 (fun x hx => .inl hx)
    exact ⟨rfl, HG.out.turned hk2 hM1, hk2⟩
--@@ gate.Mask
def gMask (rows : List (Int × GR)) (tx : Int) : Nat × Int :=
  match aget tx rows with
  | none => (0, 0)
  | some r => (r.mask, r.rel)
set_option maxHeartbeats 1000000 in
theorem gmask_any (a m owned : Nat) (rows : List (Int × GR)) (tx : Int) (w : World) (hG : GateIs w a m owned rows) :
    Calls Try.prog 18 #[.pointer (some ⟨a, 0, none⟩), .int .i64 tx] w fun e w' =>
      e = .returned (.tuple #[.int .u16 ((gMask rows tx).1 : Nat), .int .i64 (gMask rows tx).2]) ∧ Kept [] w w' := by
  have c1 := hG.c1
  have hM := hG.map
  have hlt := hG.lt.1
  clear hG
  cases hr : aget tx rows with
  | none =>
    have hr' := hid (gl_none hr)
    have e : gMask rows tx = (0, 0) := by unfold gMask; rw [hr]
    rw [e]
    clear hr e
    go_enter Try.func18, Try.ntmps18
    go_wp2_with (at_lookup; refine wpList_lookup_is rfl _ _ 57 false rfl 3 62 keyI Try.underlying57 _ zeroRow rfl tx rfl hM _ hr'.out ?_)
    go_region
    go_wp2
    all_goals go_ret2
    all_goals exact ⟨rfl, ((Kept.refl [] w).alloc _).drew⟩
  | some r =>
    have hr' := hid (gl_some hr)
    have e : gMask rows tx = (r.mask, r.rel) := by unfold gMask; rw [hr]
    rw [e]
    clear hr e
    go_enter Try.func18, Try.ntmps18
    go_wp2_with (at_lookup; refine wpList_lookup_is rfl _ _ 57 false rfl 3 62 keyI Try.underlying57 _ zeroRow rfl tx rfl hM _ hr'.out ?_)
    go_region
    go_wp2
    all_goals go_ret2
    all_goals exact ⟨rfl, ((Kept.refl [] w).alloc _).drew⟩
--@@ gate.Give
set_option maxHeartbeats 400000 in
theorem ggive_any (a m owned o want : Nat) (rows : List (Int × GR)) (w : World) (hG : GateIs w a m owned rows) (h1 : U64 owned) (h2 : U64 o) (h3 : U64 want) :
    Calls Try.prog 25 #[.pointer (some ⟨a, 0, none⟩), .int .u64 (o : Int), .int .u64 (want : Int)] w fun e w' =>
      e = .returned (.int .u64 (want &&& (o ||| owned) : Nat)) ∧ w = w' := by
  have c0 := hG.c0
  clear hG
  go_enter Try.func25, Try.ntmps25
  go_wp2
  go_ret
  refine ⟨ret_int ?_, rfl⟩
  rw [(u64_bits h2 h1).2.1, (u64_bits h3 (h2.or h1)).1]
--@@ gate.Pass
set_option maxRecDepth 100000 in
set_option maxHeartbeats 400000 in
theorem gpass_any (a m owned s t s' t' : Nat) (rows : List (Int × GR)) (w : World) (hG : GateIs w a m owned rows) (h0 : U64 owned) (h1 : U64 s) (h2 : U64 t) (h3 : U64 s') (h4 : U64 t') :
    Calls Try.prog 23 #[.pointer (some ⟨a, 0, none⟩), .agg #[.int .u64 (s : Int), .int .u64 (t : Int)], .agg #[.int .u64 (s' : Int), .int .u64 (t' : Int)]] w fun e w' =>
      e = .returned (.bool (decide (minusN (needN s t s' t') owned = 0))) ∧ Kept [] w w' := by
  have c0 := hG.c0
  have hlt := hG.lt.1
  clear hG
  go_enter Try.func23, Try.ntmps23
  go_wp2_with fail
  refine region_tail 6 (by kernel_rfl) (by kernel_rfl) ?_
  simp only [List.take_succ_cons, List.take_zero, List.drop_succ_cons, List.drop_zero]
  repeat still_step
  refine wpStill_nil ?_
  go_wp2_with fail
  refine (with_any s t s' t' owned _ h1 h2 h3 h4 h0).mono ?_
  rintro e w1 ⟨rfl, hb⟩
  go_wp2
  go_ret
  exact ⟨rfl, (((Kept.refl [] w).alloc _).alloc _).drew.then_below hb (by simp; omega)⟩
--@@ end
end Go.Proofs.Ytdaipbaclccodaa
