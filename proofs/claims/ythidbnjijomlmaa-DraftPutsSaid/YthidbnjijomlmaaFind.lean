/- draft.Find: a range over slices.Backward. -/
import Derived.RangeFuncNested
import Derived.RangeFuncBound
import Derived.RangeFuncCalls
import Derived.RangeFuncLeaves
import Derived.RangeFuncBox
import Derived.Shelf.Abstract
import Derived.Shelf.RegionOpen
import Derived.WalkKit
import Derived.OwnWalkIn
import Derived.TacticsInMore
import Derived.LoopNIn
import Derived.LoopIn
import Derived.Test.YthidbnjijomlmaaPairsW
set_option linter.all false
namespace Go.Proofs.Ythidbnjijomlmaa
open Go.RowKit Go.Shelf Go.Lib Go.Sort Go.Proofs
set_option linter.unusedVariables false
set_option linter.unusedSimpArgs false
attribute [local go_sem] Oper.semAt_some

/-- what a backward loop has had when k rounds are over -/
def bto (ps : List Pr) (k : Nat) : List (Nat × Pr) := (List.range k).map fun j => (ps.length - 1 - j, ps[ps.length - 1 - j]?.getD default)
theorem bto_succ (ps : List Pr) (k : Nat) : bto ps (k + 1) = bto ps k ++ [(ps.length - 1 - k, ps[ps.length - 1 - k]?.getD default)] := by simp [bto, List.range_succ]
theorem bto_length (ps : List Pr) (k : Nat) : (bto ps k).length = k := by simp [bto]
theorem bto_fst (ps : List Pr) (k : Nat) (hk : k ≤ ps.length) : (bto ps k).map (·.2) = ps.reverse.take k := by
  apply List.ext_getElem
  · simp [bto]; omega
  · intro i h1 h2
    have hi : i < k := by simpa [bto] using h1
    simp [bto, show ps.length - 1 - i < ps.length by omega]
theorem pair_cells {w : World} {l : List Pr} {b off k : Nat} (h : ∀ j u, (l.flatMap Pr.f)[j]? = some u → w.cell? ⟨b, off + j, none⟩ = some u) (hk : k < l.length) :
    w.cell? ⟨b, off + k * 6, none⟩ = some (.int .u8 (l[k].key.a.toNat : Int)) ∧ w.cell? ⟨b, off + k * 6 + 1, none⟩ = some (.int .u8 (l[k].key.b.toNat : Int)) ∧ w.cell? ⟨b, off + k * 6 + 2, none⟩ = some (.int .u8 (l[k].key.c.toNat : Int)) ∧
    w.cell? ⟨b, off + k * 6 + 3, none⟩ = some (.int .u8 (l[k].key.d.toNat : Int)) ∧ w.cell? ⟨b, off + k * 6 + 4, none⟩ = some (.bool l[k].val.there) ∧ w.cell? ⟨b, off + k * 6 + 5, none⟩ = some (.int .i64 l[k].val.n) := by
  have key : ∀ j u, j < 6 → (l[k].f)[j]? = some u → w.cell? ⟨b, off + (k * 6 + j), none⟩ = some u := fun j u hj hu =>
    h _ u (by rw [flatMap_get Pr.f (c := 6) (fun _ => rfl) l k j l[k] (by simp [hk]) hj]; exact hu)
  exact ⟨key 0 _ (by omega) rfl, key 1 _ (by omega) rfl, key 2 _ (by omega) rfl, key 3 _ (by omega) rfl, key 4 _ (by omega) rfl, key 5 _ (by omega) rfl⟩
--@@ slices.Backward
set_option maxRecDepth 100000 in
set_option maxHeartbeats 2000000 in
theorem back1_in (n : Nat) (hn : 1 ≤ n) (l Bs n₀ : Nat) (a : Option Addr) (cap : Nat) (ps : List Pr) (w0 : World) (hS : SlAt w0 (.slice a ps.length cap) 6 ps.length (ps.flatMap Pr.f)) (h0n : w0.heap.size ≤ n₀) (hBn : Bs < n₀) (J Jx : List (Nat × Pr) → World → Prop)
    (hY : ∀ pre x W, J pre W → pre.length < ps.length → YieldAt Fence.wide (n - 1) Try.prog l #[.int .i64 (x.1 : Int), x.2.v] W fun e W' =>
      (e = .returned (.bool true) ∧ J (pre ++ [x]) W' ∧ Below n₀ W W') ∨ (e = .returned (.bool false) ∧ Jx (pre ++ [x]) W'))
    (W : World) (hw0 : Below w0.heap.size w0 W) (hBs : W.cell? ⟨Bs, 0, none⟩ = some (.slice a ps.length cap)) (h0 : J [] W) :
    CallsIn Fence.wide n Try.prog 49 #[.func (.yield l) #[] #[], .pointer (some ⟨Bs, 0, none⟩)] W fun e W' => (∃ v, e = .returned v) ∧
      ((∃ ys, ys = bto ps ps.length ∧ J ys W') ∨ (∃ pre, (∃ k, k ≤ ps.length ∧ pre = bto ps k) ∧ Jx pre W')) := by
  obtain ⟨_, _, he, hmax, _, hcs⟩ := hS.ex
  cases he
  have HC := hid hcs
  clear hcs hS
  refine callsIn_of_wp Try.func49 rfl trivial ?_ rfl
  simp only [Try.ntmps49, List.size_toArray, List.length_cons, List.length_nil, Nat.reduceAdd, Nat.reduceSub, Array.replicate_succ, Array.replicate_zero, List.push_toArray, List.append_toArray, List.nil_append, List.cons_append]
  have hlw : IntKind.i64.wrap ((ps.length : Int) - 1) = (ps.length : Int) - 1 := by rw [IntKind.wrap_i64]; omega
  gi_wp2
  gi_loopw [3] (fun i wr => ∃ (k : Nat) (z : Int), k ≤ ps.length ∧ i = .int .i64 z ∧ z = (ps.length : Int) - 1 - (k : Int) ∧ J (bto ps k) wr ∧ Below n₀ W wr)
    (fun i _ => (intOf i + 1).toNat)
  case atStart => exact ⟨0, _, Nat.zero_le _, rfl, by omega, h0, Below.refl _ _⟩
  case round =>
    obtain ⟨k, z, hk, rfl, hz, hJs, hnx⟩ := hrel
    have hbx := (hnx.cell (p := ⟨Bs, 0, none⟩) hBn).trans hBs
    by_cases hlt : k < ps.length
    · obtain ⟨i, hi⟩ : ∃ i : Nat, i = ps.length - 1 - k := ⟨_, rfl⟩
      have hil : i < ps.length := by omega
      obtain rfl : z = (i : Int) := by omega
      obtain ⟨b, off, rfl, hb, hcs⟩ := HC.out (by omega)
      have hcW : ∀ j u, (ps.flatMap Pr.f)[j]? = some u → wr.cell? ⟨b, off + j, none⟩ = some u := fun j u hj => ((hnx.cell (p := ⟨b, off + j, none⟩) (Nat.lt_of_lt_of_le hb h0n)).trans (hw0.cell (p := ⟨b, off + j, none⟩) hb)).trans (hcs j u hj)
      obtain ⟨e0, e1, e2, e3, e4, e5⟩ := pair_cells hcW hil
      clear hcW hcs
      obtain ⟨fn, tmps, assign, body, hy, hR⟩ := hY _ (i, ps[i]) wr hJs (by rw [bto_length]; exact hlt)
      have hik : i + k + 1 ≤ ps.length ∧ ps.length ≤ i + k + 1 := by omega
      have HS := hid (show bto ps (k + 1) = bto ps k ++ [(i, ps[i])] by rw [bto_succ, ← hi]; simp [hil])
      clear hi hz
      generalize ps[i] = x at *
      obtain ⟨⟨x1, x2, x3, x4⟩, ⟨x5, x6⟩⟩ := x
      simp only [Pr.v] at hy e0 e1 e2 e3 e4 e5
      have hltz : (i : Int) < (ps.length : Int) := by omega
      have hiz : (0 : Int) ≤ (i : Int) := by omega
      have hin : ((i : Int)).toNat = i := by omega
      have hiw : IntKind.i64.wrap ((i : Int) - 1) = (i : Int) - 1 := by rw [IntKind.wrap_i64]; omega
      gi_wp2
      refine hR.mono ?_
      rintro e W3 (⟨rfl, hJ3, hk3⟩ | ⟨rfl, hJx3⟩)
      · gi_wp2
        go_roundw
        case rel => exact ⟨k + 1, (i : Int) - 1, by omega, by first | rfl | go_num, by omega, by rw [HS.out]; exact hJ3, hnx.trans hk3⟩
        case measure => first | (simp [intOf]; omega) | simp [intOf]
      · gi_wp2
        refine bodyPost_ret (results_none rfl _ _ _) rfl ?_
        exact ⟨⟨_, rfl⟩, .inr ⟨_, ⟨k + 1, by omega, HS.out.symm⟩, hJx3⟩⟩
    · obtain rfl : k = ps.length := by omega
      obtain rfl : z = -1 := by omega
      gi_wp2
      go_end0
      exact ⟨⟨_, rfl⟩, .inl ⟨_, rfl, hJs⟩⟩
set_option maxHeartbeats 1000000 in
theorem back_in (n : Nat) (a : Option Addr) (len cap : Nat) (w : World) :
    CallsIn Fence.wide n Try.prog 36 #[.slice a len cap] w fun e w' => e = .returned (.func (.func 49) #[] #[.pointer (some ⟨w.heap.size, 0, none⟩)]) ∧ w' = w.alloc (.cells #[.slice a len cap] 38) := by
  refine callsIn_of_wp Try.func36 rfl trivial ?_ rfl
  simp only [Try.ntmps36, List.size_toArray, List.length_cons, List.length_nil, Nat.reduceAdd, Nat.reduceSub, Array.replicate_succ, Array.replicate_zero, List.push_toArray, List.append_toArray, List.nil_append, List.cons_append]
  gi_wp2
  go_ret
  exact ⟨rfl, rfl⟩
theorem back_stops (n : Nat) (hn : 1 ≤ n) (Bs n₀ : Nat) (a : Option Addr) (cap : Nat) (ps : List Pr) (w0 w : World) (hS : SlAt w0 (.slice a ps.length cap) 6 ps.length (ps.flatMap Pr.f)) (h0n : w0.heap.size ≤ n₀) (hBn : Bs < n₀) (hn₀ : n₀ ≤ w.heap.size)
    (hw : Below w0.heap.size w0 w) (hc : w.cell? ⟨Bs, 0, none⟩ = some (.slice a ps.length cap)) :
    SeqStopsK Fence.wide n Try.prog 49 #[.pointer (some ⟨Bs, 0, none⟩)] (fun x : Nat × Pr => #[Value.int .i64 (x.1 : Int), x.2.v]) (Below n₀) (fun ys => ys = bto ps ps.length) (fun pre => ∃ k, k ≤ ps.length ∧ pre = bto ps k) ps.length w := fun l J Jx W hW _ _ hY h0 =>
  back1_in n hn l Bs n₀ a cap ps w0 hS h0n hBn J Jx hY W (hw.trans (hW.mono (Nat.le_trans h0n hn₀))) ((hW.cell (p := ⟨Bs, 0, none⟩) (Nat.lt_of_lt_of_le hBn hn₀)).trans hc) h0
--@@ draft.Find
set_option maxRecDepth 100000 in
set_option maxHeartbeats 4000000 in
theorem find_any (v : Value) (ps : List Pr) (k : K4) (w : World) (hS : SlAt w v 6 ps.length (ps.flatMap Pr.f)) :
    Calls Try.prog 24 #[v, k.v] w fun e w' => e = .returned (findP ps k).v ∧ Kept [] w w' := by
  obtain ⟨a, cap, rfl, _⟩ := hS.ex
  refine (callsIn_wide (n := 6)).1 ?_
  have HS := hid hS
  clear hS
  obtain ⟨k1, k2, k3, k4⟩ := k
  simp only [K4.v]
  refine callsIn_of_wp_marks Try.func24 rfl trivial ?_ rfl
  simp only [Try.ntmps24, List.size_toArray, List.length_cons, List.length_nil, Nat.reduceAdd, Nat.reduceSub, Array.replicate_succ, Array.replicate_zero, List.push_toArray, List.append_toArray, List.nil_append, List.cons_append]
  gi_wp2_with (refine ⟨trivial, ?_⟩; gi_at_call 36; refine (back_in _ _ _ _ _).mono ?_; rintro e w' ⟨rfl, rfl⟩)
  have hB0 : Below w.heap.size w (((w.alloc (.cells #[.int .u8 (k1.toNat : Int), .int .u8 (k2.toNat : Int), .int .u8 (k3.toNat : Int), .int .u8 (k4.toNat : Int)] 24)).alloc (.cells #[.bool false, .int .i64 0] 32)).alloc (.cells #[.slice a ps.length cap] 38)) := (((Below.refl _ w).alloc (Nat.le_refl _) _).alloc (by simp) _).alloc (by simp; omega) _
  have hbox : ((((w.alloc (.cells #[.int .u8 (k1.toNat : Int), .int .u8 (k2.toNat : Int), .int .u8 (k3.toNat : Int), .int .u8 (k4.toNat : Int)] 24)).alloc (.cells #[.bool false, .int .i64 0] 32)).alloc (.cells #[.slice a ps.length cap] 38))).cell? ⟨w.heap.size + 1 + 1, 0, none⟩ = some (.slice a ps.length cap) := by
    have := new_cell ((w.alloc (.cells #[.int .u8 (k1.toNat : Int), .int .u8 (k2.toNat : Int), .int .u8 (k3.toNat : Int), .int .u8 (k4.toNat : Int)] 24)).alloc (.cells #[.bool false, .int .i64 0] 32)) [.slice a ps.length cap] 38 0 _ rfl
    simp only [World.size_alloc] at this
    exact this
  have hkb : ((((w.alloc (.cells #[.int .u8 (k1.toNat : Int), .int .u8 (k2.toNat : Int), .int .u8 (k3.toNat : Int), .int .u8 (k4.toNat : Int)] 24)).alloc (.cells #[.bool false, .int .i64 0] 32)).alloc (.cells #[.slice a ps.length cap] 38))).heap[w.heap.size]? = some (.cells #[.int .u8 (k1.toNat : Int), .int .u8 (k2.toNat : Int), .int .u8 (k3.toNat : Int), .int .u8 (k4.toNat : Int)] 24 (0, 0)) := by
    rw [Below.heap_alloc _ _ _ (by simp; omega), Below.heap_alloc _ _ _ (by simp)]; exact heap_alloc_new w _
  have hrb : ((((w.alloc (.cells #[.int .u8 (k1.toNat : Int), .int .u8 (k2.toNat : Int), .int .u8 (k3.toNat : Int), .int .u8 (k4.toNat : Int)] 24)).alloc (.cells #[.bool false, .int .i64 0] 32)).alloc (.cells #[.slice a ps.length cap] 38))).heap[w.heap.size + 1]? = some (.cells #[.bool false, .int .i64 0] 32 (0, 0)) := by
    rw [Below.heap_alloc _ _ _ (by simp)]
    have := heap_alloc_new (w.alloc (.cells #[.int .u8 (k1.toNat : Int), .int .u8 (k2.toNat : Int), .int .u8 (k3.toNat : Int), .int .u8 (k4.toNat : Int)] 24)) (.cells #[.bool false, .int .i64 0] 32)
    simpa using this
  have hsz3 : ((((w.alloc (.cells #[.int .u8 (k1.toNat : Int), .int .u8 (k2.toNat : Int), .int .u8 (k3.toNat : Int), .int .u8 (k4.toNat : Int)] 24)).alloc (.cells #[.bool false, .int .i64 0] 32)).alloc (.cells #[.slice a ps.length cap] 38))).heap.size = w.heap.size + 1 + 1 + 1 := by simp
  generalize (((w.alloc (.cells #[.int .u8 (k1.toNat : Int), .int .u8 (k2.toNat : Int), .int .u8 (k3.toNat : Int), .int .u8 (k4.toNat : Int)] 24)).alloc (.cells #[.bool false, .int .i64 0] 32)).alloc (.cells #[.slice a ps.length cap] 38)) = w3 at hB0 hbox hkb hrb hsz3 ⊢
  refine wpIn_rangeFunc_ownH rfl (by omega) (gf := 49) (lb := #[.pointer (some ⟨w.heap.size + 1 + 1, 0, none⟩)]) rfl trivial (enters_of Try.func49 (by kernel_rfl) rfl)
    (back_stops _ (by omega) (w.heap.size + 1 + 1) w3.heap.size a cap ps w w3 HS.out hB0.size (by omega) (Nat.le_refl _) hB0 hbox) belowK_t (belowK_b (Nat.le_refl _)) (Below.refl _ _) (fun _ => rfl)
    (fun pre W => ((∀ p ∈ pre, p.2.key ≠ (⟨k1, k2, k3, k4⟩ : K4)) ∧ W.heap[w.heap.size]? = some (.cells #[.int .u8 (k1.toNat : Int), .int .u8 (k2.toNat : Int), .int .u8 (k3.toNat : Int), .int .u8 (k4.toNat : Int)] 24 (0, 0)) ∧ W.heap[w.heap.size + 1]? = some (.cells #[.bool false, .int .i64 0] 32 (0, 0))) ∧ (Below w.heap.size w W ∧ w3.heap.size ≤ W.heap.size))
    (fun c pre W => (c = .ret ∧ ∃ ini last, pre = ini ++ [last] ∧ (∀ p ∈ ini, p.2.key ≠ (⟨k1, k2, k3, k4⟩ : K4)) ∧ last.2.key = (⟨k1, k2, k3, k4⟩ : K4) ∧ W.heap[w.heap.size + 1]? = some (.cells #[.bool last.2.val.there, .int .i64 last.2.val.n] 32 (0, 0))) ∧ (Below w.heap.size w W ∧ w3.heap.size ≤ W.heap.size))
    (OwnFrom.and (Own.from (fun s A B row hs hg hr => ⟨hs.1, (grownBy_keeps_cells hg hr hs.2.1 rfl).trans hs.2.1, (grownBy_keeps_cells hg hr hs.2.2 rfl).trans hs.2.2⟩) _) (OwnFrom.and (ownFrom_below (Nat.le_refl _) (by omega)) (fun s A B row hs hg hr => Nat.le_trans hs hg.size)))
    (fun c => OwnFrom.and (Own.from (fun s A B row hs hg hr => by obtain ⟨hc, ini, last, e1, e2, e3, e4⟩ := hs; exact ⟨hc, ini, last, e1, e2, e3, (grownBy_keeps_cells hg hr e4 rfl).trans e4⟩) _) (OwnFrom.and (ownFrom_below (Nat.le_refl _) (by omega)) (fun s A B row hs hg hr => Nat.le_trans hs hg.size)))
    ⟨⟨by simp, hkb, hrb⟩, hB0, Nat.le_refl _⟩
    (fun x a' W => ∃ Bx, w3.heap.size ≤ Bx ∧ W.heap[Bx]? = some (.cells x.2.f.toArray 54 (0, 0)) ∧ a' = { tmps := #[.slice a ps.length cap, .agg #[.int .u8 (k1.toNat : Int), .int .u8 (k2.toNat : Int), .int .u8 (k3.toNat : Int), .int .u8 (k4.toNat : Int)], undef, .pointer (some ⟨w.heap.size, 0, none⟩), .pointer (some ⟨w.heap.size + 1, 0, none⟩), undef, .pointer (some ⟨Bx, 0, none⟩), .slice a ps.length cap, .func (.func 49) #[] #[.pointer (some ⟨w.heap.size + 1 + 1, 0, none⟩)], .int .i64 (x.1 : Int), x.2.v, undef, undef, undef, undef, undef, undef, undef], defers := [] })
    (fun x a' => Own.from (fun s A B row hs hg hr => by obtain ⟨Bx, e1, e2, e3⟩ := hs; exact ⟨Bx, e1, (grownBy_keeps_cells hg hr e2 rfl).trans e2, e3⟩) _) ?assign ?body ?done ?stop
  case assign =>
    rintro l pre ⟨xi, ⟨⟨x1, x2, x3, x4⟩, ⟨x5, x6⟩⟩⟩ W K ⟨⟨hp, h1, h2⟩, hB, hsz⟩ hK
    simp only [Pr.v, Pr.f] at hK ⊢
    have lt1 := (Array.getElem?_eq_some_iff.1 h1).1
    have lt2 := (Array.getElem?_eq_some_iff.1 h2).1
    gi_wp2
    exact hK _ _ ((KeepsOthers.alloc _ _).from _) ((Below.refl _ W).alloc hsz _) ⟨⟨hp, (Below.heap_alloc _ _ _ lt1).trans h1, (Below.heap_alloc _ _ _ lt2).trans h2⟩, hB.alloc hB.size _, by simp; omega⟩ ⟨W.heap.size, hsz, heap_alloc_new W _, rfl⟩
  case body =>
    rintro l pre ⟨xi, ⟨⟨x1, x2, x3, x4⟩, ⟨x5, x6⟩⟩⟩ a' W hl ⟨r, hr⟩ ⟨⟨hp, h1, h2⟩, hB, hsz⟩ ⟨Bx, hBx, hX, rfl⟩ hlt
    simp only [Pr.f, Pr.v] at hX ⊢
    have k0 : W.cell? ⟨w.heap.size, 0, none⟩ = some (.int .u8 (k1.toNat : Int)) := by simp [World.cell?, h1]
    have k1' : W.cell? ⟨w.heap.size, 1, none⟩ = some (.int .u8 (k2.toNat : Int)) := by simp [World.cell?, h1]
    have k2' : W.cell? ⟨w.heap.size, 2, none⟩ = some (.int .u8 (k3.toNat : Int)) := by simp [World.cell?, h1]
    have k3' : W.cell? ⟨w.heap.size, 3, none⟩ = some (.int .u8 (k4.toNat : Int)) := by simp [World.cell?, h1]
    have y0 : W.cell? ⟨Bx, 0, none⟩ = some (.int .u8 (x1.toNat : Int)) := by simp [World.cell?, hX]
    have y1 : W.cell? ⟨Bx, 1, none⟩ = some (.int .u8 (x2.toNat : Int)) := by simp [World.cell?, hX]
    have y2 : W.cell? ⟨Bx, 2, none⟩ = some (.int .u8 (x3.toNat : Int)) := by simp [World.cell?, hX]
    have y3 : W.cell? ⟨Bx, 3, none⟩ = some (.int .u8 (x4.toNat : Int)) := by simp [World.cell?, hX]
    have y4 : W.cell? ⟨Bx, 4, none⟩ = some (.bool x5) := by simp [World.cell?, hX]
    have y5 : W.cell? ⟨Bx, 5, none⟩ = some (.int .i64 x6) := by simp [World.cell?, hX]
    have r0 : W.cell? ⟨w.heap.size + 1, 0, none⟩ = some (.bool false) := by simp [World.cell?, h2]
    have r1 : W.cell? ⟨w.heap.size + 1, 1, none⟩ = some (.int .i64 0) := by simp [World.cell?, h2]
    have f0 : W.frozen? ⟨w.heap.size + 1, 0, none⟩ = false := by simp [World.frozen?, h2]
    have f1 : W.frozen? ⟨w.heap.size + 1, 1, none⟩ = false := by simp [World.frozen?, h2]
    have hq := fun (w : World) => eqK w ⟨x1, x2, x3, x4⟩ ⟨k1, k2, k3, k4⟩
    simp only [K4.v] at hq
    have HX := hid hX
    have H1 := hid h1
    have H2 := hid h2
    clear h1 h2 hX
    by_cases hk : (⟨x1, x2, x3, x4⟩ : K4) = ⟨k1, k2, k3, k4⟩
    · rw [decide_eq_true hk] at hq
      have HK := hid hk
      clear hk
      gi_wp2
      refine ⟨((KeepsOthers.setCell _ _ _).trans (KeepsOthers.setCell _ _ _)).from _, ⟨rfl, pre, _, rfl, hp, HK.out, ?_⟩, ?_, ?_⟩
      · have h2 := H2.out
        simp [World.setCell, Array.getElem?_modify, h2]
      · exact (hB.setCell (p := ⟨w.heap.size + 1, 0, none⟩) (by simp) _).setCell (p := ⟨w.heap.size + 1, 1, none⟩) (by simp) _
      · simpa using hsz
    · rw [decide_eq_false hk] at hq
      have HK := hid hk
      clear hk
      gi_wp2
      refine ⟨KeepsFrom.refl _ _, Below.refl _ _, ⟨fun p hpm => ?_, H1.out, H2.out⟩, hB, hsz⟩
      rcases List.mem_append.1 hpm with hpm | hpm
      · exact hp p hpm
      · simp at hpm; subst hpm; exact HK.out
  case done =>
    rintro D ys W hD rfl ⟨⟨hne, h1, h2⟩, hB, hsz⟩ hK
    have r0 : W.cell? ⟨w.heap.size + 1, 0, none⟩ = some (.bool false) := by simp [World.cell?, h2]
    have r1 : W.cell? ⟨w.heap.size + 1, 1, none⟩ = some (.int .i64 0) := by simp [World.cell?, h2]
    have f0 : W.frozen? ⟨w.heap.size + 1, 0, none⟩ = false := by simp [World.frozen?, h2]
    have f1 : W.frozen? ⟨w.heap.size + 1, 1, none⟩ = false := by simp [World.frozen?, h2]
    have H2 := hid h2
    clear h1 h2
    gi_wp2
    have hK' := (KeepsOthers.setCell (W.setCell ⟨w.heap.size + 1, 0, none⟩ (.bool false)) ⟨w.heap.size + 1, 1, none⟩ (.int .i64 0)).same D _ ((KeepsOthers.setCell W ⟨w.heap.size + 1, 0, none⟩ (.bool false)).same D _ hK rfl) rfl
    have hB' := (hB.setCell (p := ⟨w.heap.size + 1, 0, none⟩) (by simp) (.bool false)).setCell (p := ⟨w.heap.size + 1, 1, none⟩) (by simp) (.int .i64 0)
    have h2' : ((W.setCell ⟨w.heap.size + 1, 0, none⟩ (.bool false)).setCell ⟨w.heap.size + 1, 1, none⟩ (.int .i64 0)).heap[w.heap.size + 1]? = some (.cells #[.bool false, .int .i64 0] 32 (0, 0)) := by
      have h2 := H2.out
      simp [World.setCell, Array.getElem?_modify, h2]
    generalize (W.setCell ⟨w.heap.size + 1, 0, none⟩ (.bool false)).setCell ⟨w.heap.size + 1, 1, none⟩ (.int .i64 0) = W' at hK' hB' h2' ⊢
    refine ⟨by simp, .inl ⟨_, _, rfl, run_takeDeferred hK', ?_⟩⟩
    have h2'' := (grownBy_keeps_cells (grownBy_putObj' W' D (.deferred none)) (fun r e => by cases e; exact ⟨_, hK', rfl⟩) h2' rfl).trans h2'
    have c0 : (W'.putObj D (.deferred none)).cell? ⟨w.heap.size + 1, 0, none⟩ = some (.bool false) := by simp [World.cell?, h2'']
    have c1 : (W'.putObj D (.deferred none)).cell? ⟨w.heap.size + 1, 1, none⟩ = some (.int .i64 0) := by simp [World.cell?, h2'']
    refine ⟨V.zero.v, ?_, ?_, Kept.of_below (hB'.trans (belowK_b (w := w) (Nat.le_refl _) _ D _ _ (by omega) hK' rfl rfl)) (Nat.le_refl _) []⟩
    · simp [results, Try.f24, go_sem, c0, c1, V.v, V.zero]
    · have : findP ps ⟨k1, k2, k3, k4⟩ = V.zero := by
        unfold findP lastP
        rw [← List.take_of_length_le (l := ps.reverse) (i := ps.length) (by simp), ← bto_fst ps ps.length (Nat.le_refl _), getP_none fun q hq => by obtain ⟨p, hp, rfl⟩ := List.mem_map.1 hq; exact hne p hp]
        rfl
      rw [this]
  case stop =>
    rintro D c pre W hD ⟨kk, hkk, hpre⟩ ⟨⟨rfl, ini, last, e1, e2, e3, e4⟩, hB, hsz⟩ hK
    gi_wp2
    refine ⟨by simp, .inl ⟨_, _, rfl, run_takeDeferred hK, ?_⟩⟩
    have h2'' := (grownBy_keeps_cells (grownBy_putObj' W D (.deferred none)) (fun r e => by cases e; exact ⟨_, hK, rfl⟩) e4 rfl).trans e4
    have c0 : (W.putObj D (.deferred none)).cell? ⟨w.heap.size + 1, 0, none⟩ = some (.bool last.2.val.there) := by simp [World.cell?, h2'']
    have c1 : (W.putObj D (.deferred none)).cell? ⟨w.heap.size + 1, 1, none⟩ = some (.int .i64 last.2.val.n) := by simp [World.cell?, h2'']
    refine ⟨last.2.val.v, ?_, ?_, Kept.of_below (hB.trans (belowK_b (w := w) (Nat.le_refl _) _ D _ _ (by omega) hK rfl rfl)) (Nat.le_refl _) []⟩
    · simp [results, Try.f24, go_sem, c0, c1, V.v]
    · have : findP ps ⟨k1, k2, k3, k4⟩ = last.2.val := by
        have hb := bto_fst ps kk hkk
        rw [← hpre, e1] at hb
        unfold findP lastP
        rw [← List.take_append_drop kk ps.reverse, ← hb, List.map_append, getP_append, getP_append, getP_none (l := ini.map (·.2)) (fun q hq => by obtain ⟨p, hp, rfl⟩ := List.mem_map.1 hq; exact e2 p hp)]
        simp [getP, e3]
      rw [this]
--@@ end
end Go.Proofs.Ythidbnjijomlmaa
