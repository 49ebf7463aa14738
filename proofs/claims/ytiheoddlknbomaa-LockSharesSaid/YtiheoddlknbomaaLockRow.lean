/- A key's row: who holds it, whether a wish may be granted, a wish granted; wishes dropped. -/
import Derived.Test.YtiheoddlknbomaaLockDel
set_option linter.all false
namespace Go.Proofs.Ytiheoddlknbomaa
open Go.RowKit Go.Shelf Go.Lib Go.Sort Go.Proofs
set_option linter.unusedVariables false
set_option linter.unusedSimpArgs false

--@@ lock.row
/-- a row's own blocks -/
def rowBs (P : Nat) (hv qv : Value) : List Nat := P :: (hv.ownBlock.toList ++ qv.ownBlock.toList)
structure RowIs (w : World) (P : Nat) (hv qv : Value) (r : Ro) : Prop where
  blk : w.heap[P]? = some (.cells #[hv, qv] 61 (0, 0))
  h : w.ownsRow 0 59 4 hv r.h.length (r.h.flatMap Wi.f)
  q : WRow 59 w qv r.q
  nd : (rowBs P hv qv).Nodup
theorem own_wrow {w : World} {v : Value} {l : List Wi} (h : w.ownsRow 0 59 4 v l.length (l.flatMap Wi.f)) : WRow 59 w v l := by
  rcases h.2 with ⟨rfl, hn⟩ | ⟨g, cap, cur, rfl, _, hg, hn, hc, hs, ht⟩
  · exact .inl ⟨rfl, List.eq_nil_of_length_eq_zero hn⟩
  · refine .inr ⟨g, 0, cap, cap * 4, rfl, ⟨cur, hg, hs, fun j u hj => ?_⟩, hn, by unfold maxLen at hc; omega, by omega⟩
    have := h.cells (g := g) rfl j u hj
    rw [Addr.add_lit, cell_of_row w g _ cur _ (0, 0) hg] at this
    exact this
theorem own_of_blk {w : World} {g cap : Nat} {l : List Wi} (h : BlkW 59 w g 0 cap (cap * 4) l) : w.ownsRow 0 59 4 (.slice (some ⟨g, 0, none⟩) l.length cap) l.length (l.flatMap Wi.f) := by
  obtain ⟨cur, h1, h2, h3⟩ := h.ex
  have hle := h.le
  refine ⟨wflat_len l, .inr ⟨g, cap, cur, rfl, Nat.zero_le _, h1, hle, by have := h.mx; unfold maxLen; omega, h2, ?_⟩⟩
  refine List.ext_getElem? fun j => ?_
  rw [List.getElem?_take]
  split
  · rename_i hj
    have hlt : j < (l.flatMap Wi.f).length := by rw [wflat_len]; exact hj
    have := h3 j _ (List.getElem?_eq_getElem hlt)
    rw [Nat.zero_add] at this
    rw [List.getElem?_eq_getElem hlt, Array.getElem?_toList]
    exact this
  · rename_i hj
    rw [List.getElem?_eq_none (by rw [wflat_len]; omega)]
/-- what is dropped leaves the call's own row its own -/
theorem own_drop {w w' : World} {g cap off sz c0 : Nat} {l l' : List Wi} (h : w.ownsRow 0 59 4 (.slice (some ⟨g, off, none⟩) l.length c0) l.length (l.flatMap Wi.f)) (hb : BlkW 59 w g off cap sz l) (hc : c0 = cap) (hb' : BlkW 59 w' g off cap sz l') :
    w'.ownsRow 0 59 4 (.slice (some ⟨g, off, none⟩) l'.length cap) l'.length (l'.flatMap Wi.f) := by
  subst hc
  rcases h.2 with ⟨hv, _⟩ | ⟨g', cap', cur, hv, _, hg, hn, hm, hs, ht⟩
  · cases hv
  · cases hv
    obtain ⟨cur2, k1, k2, _⟩ := hb.ex
    rw [hg] at k1
    cases k1
    rw [hs] at k2
    subst k2
    exact own_of_blk hb'
theorem RowIs.kept {w w' : World} {P : Nat} {hv qv : Value} {r : Ro} {S : List Nat} (h : RowIs w P hv qv r) (hk : Kept S w w') (hS : ∀ x ∈ rowBs P hv qv, x ∉ S) : RowIs w' P hv qv r := by
  refine ⟨(hk.block P (Array.getElem?_eq_some_iff.1 h.blk).1 (hS P (by simp [rowBs]))).trans h.blk, ?_, h.q.kept hk (fun g hg => hS g (by simp [rowBs, hg])), h.nd⟩
  refine ⟨h.h.1, ?_⟩
  rcases h.h.2 with hn | ⟨g, cap, cur, hv', hb, hg, rest⟩
  · exact .inl hn
  · refine .inr ⟨g, cap, cur, hv', hb, ?_, rest⟩
    rw [hk.block g (Array.getElem?_eq_some_iff.1 hg).1 (hS g (by simp [rowBs, hv', Value.ownBlock]))]
    exact hg
theorem WRow.lt {T : TypeId} {w : World} {v : Value} {l : List Wi} (h : WRow T w v l) {g : Nat} (hg : v.ownBlock = some g) : g < w.heap.size := by
  rcases h with ⟨rfl, _⟩ | ⟨g', off, cap, sz, rfl, hb⟩
  · cases hg
  · cases hg; exact hb.lt
theorem RowIs.lt {w : World} {P : Nat} {hv qv : Value} {r : Ro} (h : RowIs w P hv qv r) : ∀ x ∈ rowBs P hv qv, x < w.heap.size := fun x hx => by
  simp only [rowBs, List.mem_cons, List.mem_append, Option.mem_toList] at hx
  rcases hx with rfl | hx | hx
  · exact (Array.getElem?_eq_some_iff.1 h.blk).1
  · exact (own_wrow h.h).lt hx
  · exact h.q.lt hx
theorem RowIs.c0 {w : World} {P : Nat} {hv qv : Value} {r : Ro} (h : RowIs w P hv qv r) : w.cell? ⟨P, 0, none⟩ = some hv ∧ w.cell? ⟨P, 1, none⟩ = some qv ∧ w.frozen? ⟨P, 0, none⟩ = false ∧ w.frozen? ⟨P, 1, none⟩ = false := by
  refine ⟨?_, ?_, ?_, ?_⟩ <;> simp [World.cell?, World.frozen?, h.blk]
/-! the functions that are handed over -/
theorem heldF {W : World} {b : Nat} {tx : Int} (h : W.cell? ⟨b, 0, none⟩ = some (.int .i64 tx)) (x : Wi) :
    Calls Try.prog 42 (#[.agg x.f.toArray] ++ #[.pointer (some ⟨b, 0, none⟩)]) W fun e w' => e = .returned (.bool (decide (x.tx = tx))) ∧ ∃ q os, w' = grow (W.drewN q) os := by
  obtain ⟨x1, x2, x3, x4⟩ := x
  simp only [Wi.f]
  have hb := World.block_lt_of_cell? W _ h
  dsimp only at hb
  have hne : W.heap.size ≠ b := by omega
  have hr : ((x1 : Int) == tx) = decide (x1 = tx) := by rw [Bool.eq_iff_iff]; simp
  go_enter Try.func42, Try.ntmps42
  go_wp2
  go_ret
  exact ⟨by first | rfl | (rw [hr]), 0, #[.cells #[.int .i64 x1, .bool x2, .int .i64 x3, .bool x4] 59], by rw [← alloc_eq_grow]; rfl⟩
theorem heldE : ∀ args w, (callFunc 42 args).run Try.prog w = .ok (.enter 42 args) w := enters_of Try.func42 (by kernel_rfl) rfl
def heldI (l : List Wi) (tx : Int) : Int := idxI (fun x => decide (x.tx = tx)) l
set_option maxHeartbeats 1000000 in
set_option maxRecDepth 100000 in
theorem held_any (P : Nat) (hv qv : Value) (r : Ro) (tx : Int) (w : World) (H : RowIs w P hv qv r) (hl : r.h.length < 1000000000000) :
    Calls Try.prog 27 #[.pointer (some ⟨P, 0, none⟩), .int .i64 tx] w fun e w' => e = .returned (.int .i64 (heldI r.h tx)) ∧ Kept [] w w' := by
  obtain ⟨c0, c1, _, _⟩ := H.c0
  have hP := H.lt P (by simp [rowBs])
  have HI := hid (windex_any hv r.h (w.alloc (.cells #[.int .i64 tx] 3)) ((own_wrow H.h).kept ((Kept.refl [] w).alloc _) (by simp)) 42 #[.pointer (some ⟨w.heap.size, 0, none⟩)] (fun x => decide (x.tx = tx)) heldE
    (fun W hk x => heldF (hk.cell (new_cell w [.int .i64 tx] 3 0 _ rfl) (fun hx => by
      have := H.lt w.heap.size (by simp only [rowBs, List.mem_cons, List.mem_append]; exact .inr (.inl hx))
      omega)) x) hl)
  have hne : w.heap.size ≠ P := by omega
  clear H
  go_enter Try.func27, Try.ntmps27
  go_wp2_with (first
    | (go_at_call 41; refine HI.out.mono ?_; rintro e w1 ⟨rfl, hk1⟩))
  go_returns
  exact ⟨rfl, ((Kept.refl [] w).alloc _).trans hk1 (fun x hx => by cases hx)⟩
--@@ end
end Go.Proofs.Ytiheoddlknbomaa
