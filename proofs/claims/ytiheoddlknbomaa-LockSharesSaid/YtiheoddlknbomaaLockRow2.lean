/- A key's row: whether a wish may be granted; wishes dropped; a wish granted. -/
import Derived.Test.YtiheoddlknbomaaLockRow
set_option linter.all false
namespace Go.Proofs.Ytiheoddlknbomaa
open Go.RowKit Go.Shelf Go.Lib Go.Sort Go.Proofs
set_option linter.unusedVariables false
set_option linter.unusedSimpArgs false

theorem idxI_any (p : Wi → Bool) (l : List Wi) : decide (0 ≤ idxI p l) = l.any p := by
  unfold idxI
  cases h : l.findIdx? p with
  | none =>
    rw [List.findIdx?_eq_none_iff] at h
    have : l.any p = false := by simpa using h
    rw [this]; rfl
  | some i =>
    rw [List.findIdx?_eq_some_iff_getElem] at h
    obtain ⟨hi, h1, _⟩ := h
    have : l.any p = true := List.any_eq_true.2 ⟨_, List.getElem_mem hi, h1⟩
    rw [this]; simp
def barP (w : Wi) (x : Wi) : Bool := decide (x.tx ≠ w.tx) && (x.ex || w.ex)
theorem mayR_bar (h : List Wi) (w : Wi) : mayR h w = !h.any (barP w) := rfl
--@@ (*lock.row).may
theorem mayF {W : World} {b : Nat} {w : Wi} (h0 : W.cell? ⟨b, 0, none⟩ = some (.int .i64 w.tx)) (h1 : W.cell? ⟨b, 1, none⟩ = some (.bool w.ex)) (x : Wi) :
    Calls Try.prog 51 (#[.agg x.f.toArray] ++ #[.pointer (some ⟨b, 0, none⟩)]) W fun e w' => e = .returned (.bool (barP w x)) ∧ ∃ q os, w' = grow (W.drewN q) os := by
  obtain ⟨x1, x2, x3, x4⟩ := x
  obtain ⟨w1, w2, w3, w4⟩ := w
  simp only [Wi.f, barP]
  dsimp only at h0 h1
  have hb := World.block_lt_of_cell? W _ h0
  dsimp only at hb
  have hne : W.heap.size ≠ b := by omega
  have hw : ∃ q os, W.alloc (.cells #[.int .i64 x1, .bool x2, .int .i64 x3, .bool x4] 59) = grow (W.drewN q) os := ⟨0, #[.cells #[.int .i64 x1, .bool x2, .int .i64 x3, .bool x4] 59], by rw [← alloc_eq_grow]; rfl⟩
  have HW := hid hw
  clear hw
  by_cases hx : x1 = w1
  · have hr : ((x1 : Int) != w1) = false := by simp [hx]
    have hd : decide (x1 ≠ w1) = false := by simp [hx]
    rw [hd]
    clear hx hd
    go_enter Try.func51, Try.ntmps51
    go_wp2
    go_ret
    exact ⟨rfl, HW.out⟩
  · have hr : ((x1 : Int) != w1) = true := by simp [hx]
    have hd : decide (x1 ≠ w1) = true := by simp [hx]
    rw [hd]
    clear hx hd
    cases x2 with
    | true =>
      go_enter Try.func51, Try.ntmps51
      go_wp2
      go_ret
      exact ⟨rfl, HW.out⟩
    | false =>
      go_enter Try.func51, Try.ntmps51
      go_wp2
      go_ret
      exact ⟨rfl, HW.out⟩
theorem mayE : ∀ args w, (callFunc 51 args).run Try.prog w = .ok (.enter 51 args) w := enters_of Try.func51 (by kernel_rfl) rfl
set_option maxHeartbeats 1000000 in
set_option maxRecDepth 100000 in
theorem wcontains_any (v : Value) (l : List Wi) (w : World) (hv : WRow 59 w v l) (gf : Nat) (cb : Array Value) (p : Wi → Bool)
    (eg : ∀ args w, (callFunc gf args).run Try.prog w = .ok (.enter gf args) w)
    (hp : ∀ W, Kept v.ownBlock.toList w W → ∀ x : Wi, Calls Try.prog gf (#[.agg x.f.toArray] ++ cb) W fun e w' => e = .returned (.bool (p x)) ∧ ∃ q os, w' = grow (W.drewN q) os) (hl : l.length < 1000000000000) :
    Calls Try.prog 52 #[v, .func (.func gf) #[] cb] w fun e w' => e = .returned (.bool (l.any p)) ∧ Kept [] w w' := by
  have HI := hid (windex_any v l w hv gf cb p eg hp hl)
  have hi := idxI_any p l
  generalize idxI p l = n at HI hi
  rw [← hi]
  clear hp eg hv hi
  go_enter Try.func52, Try.ntmps52
  go_wp2_with (first
    | (go_at_call 41; refine HI.out.mono ?_; rintro e w1 ⟨rfl, hk1⟩))
  go_returns
  exact ⟨rfl, hk1⟩
set_option maxHeartbeats 1000000 in
set_option maxRecDepth 100000 in
theorem may_any (P : Nat) (hv qv : Value) (r : Ro) (x : Wi) (w : World) (H : RowIs w P hv qv r) (hl : r.h.length < 1000000000000) :
    Calls Try.prog 35 #[.pointer (some ⟨P, 0, none⟩), x.v] w fun e w' => e = .returned (.bool (mayR r.h x)) ∧ Kept [] w w' := by
  obtain ⟨c0, c1, _, _⟩ := H.c0
  have hP := H.lt P (by simp [rowBs])
  have hnb : w.heap.size ∉ hv.ownBlock.toList := fun hx => by
    have := H.lt w.heap.size (by simp only [rowBs, List.mem_cons, List.mem_append]; exact .inr (.inl hx))
    omega
  have HI := hid (wcontains_any hv r.h (w.alloc (.cells x.f.toArray 59)) ((own_wrow H.h).kept ((Kept.refl [] w).alloc _) (by simp)) 51 #[.pointer (some ⟨w.heap.size, 0, none⟩)] (barP x) mayE
    (fun W hk y => mayF (w := x) (hk.cell (new_cell w x.f 59 0 _ rfl) hnb) (hk.cell (new_cell w x.f 59 1 _ rfl) hnb) y) hl)
  rw [mayR_bar]
  generalize r.h.any (barP x) = rr at HI
  obtain ⟨x1, x2, x3, x4⟩ := x
  simp only [Wi.v]
  simp only [Wi.f] at HI
  have hne : w.heap.size ≠ P := by omega
  clear H hnb
  go_enter Try.func35, Try.ntmps35
  go_wp2_with (first
    | (go_at_call 52; refine HI.out.mono ?_; rintro e w1 ⟨rfl, hk1⟩))
  go_returns
  exact ⟨rfl, ((Kept.refl [] w).alloc _).trans hk1 (fun x hx => by cases hx)⟩
--@@ lock.drop
theorem dropF {W : World} {b : Nat} {tx : Int} (h : W.cell? ⟨b, 0, none⟩ = some (.int .i64 tx)) (x : Wi) :
    Calls Try.prog 47 (#[.agg x.f.toArray] ++ #[.pointer (some ⟨b, 0, none⟩)]) W fun e w' => e = .returned (.bool (decide (x.tx = tx))) ∧ ∃ q os, w' = grow (W.drewN q) os := by
  obtain ⟨x1, x2, x3, x4⟩ := x
  simp only [Wi.f]
  have hb := World.block_lt_of_cell? W _ h
  dsimp only at hb
  have hne : W.heap.size ≠ b := by omega
  have hr : ((x1 : Int) == tx) = decide (x1 = tx) := by rw [Bool.eq_iff_iff]; simp
  go_enter Try.func47, Try.ntmps47
  go_wp2
  go_ret
  exact ⟨by first | rfl | (rw [hr]), 0, #[.cells #[.int .i64 x1, .bool x2, .int .i64 x3, .bool x4] 59], by rw [← alloc_eq_grow]; rfl⟩
theorem dropE : ∀ args w, (callFunc 47 args).run Try.prog w = .ok (.enter 47 args) w := enters_of Try.func47 (by kernel_rfl) rfl
theorem dropR_eq (l : List Wi) (tx : Int) : dropR l tx = l.filter fun x => !decide (x.tx = tx) := by
  unfold dropR
  congr 1
  funext x
  by_cases h : x.tx = tx <;> simp [h]
set_option maxHeartbeats 1000000 in
set_option maxRecDepth 100000 in
theorem drop_any (v : Value) (l : List Wi) (tx : Int) (w : World) (hv : WRow 59 w v l) (hl : l.length < 1000000000000) :
    Calls Try.prog 31 #[v, .int .i64 tx] w fun e w' => ∃ v', e = .returned v' ∧ v'.ownBlock = v.ownBlock ∧ Kept v.ownBlock.toList w w' ∧
      ((v = .slice none 0 0 ∧ v' = .slice none 0 0 ∧ l = []) ∨ ∃ g off cap sz, v = .slice (some ⟨g, off, none⟩) l.length cap ∧ BlkW 59 w g off cap sz l ∧ v' = .slice (some ⟨g, off, none⟩) (dropR l tx).length cap ∧ BlkW 59 w' g off cap sz (dropR l tx)) := by
  rw [dropR_eq]
  have hnb : w.heap.size ∉ v.ownBlock.toList := fun hx => by
    have := hv.lt (by simpa using hx)
    omega
  have HI := hid (wdel_any v l (w.alloc (.cells #[.int .i64 tx] 3)) (hv.kept ((Kept.refl [] w).alloc _) (by simp)) 47 #[.pointer (some ⟨w.heap.size, 0, none⟩)] (fun x => decide (x.tx = tx)) dropE
    (fun W hk x => dropF (hk.cell (new_cell w [.int .i64 tx] 3 0 _ rfl) hnb) x) hl)
  have HV := hid hv
  clear hv hnb
  go_enter Try.func31, Try.ntmps31
  go_wp2_with (first
    | (go_at_call 46; refine HI.out.mono ?_; rintro e w1 ⟨v', rfl, hb, hk1, hd⟩))
  go_returns
  refine ⟨v', rfl, hb, ((Kept.refl _ w).alloc _).trans hk1 (fun x hx => .inl hx), ?_⟩
  rcases hd with h1 | ⟨g, off, cap, sz, h1, h2, h3, h4⟩
  · exact .inl h1
  · refine .inr ⟨g, off, cap, sz, h1, ?_, h3, h4⟩
    obtain ⟨cur, k1, k2, k3⟩ := h2.ex
    have hlt : g < w.heap.size := HV.out.lt (by rw [h1]; rfl)
    exact ⟨⟨cur, by rw [← k1]; exact (heap_alloc_old w _ hlt).symm, k2, k3⟩, h2.le, h2.mx, h2.fit⟩
--@@ end
end Go.Proofs.Ytiheoddlknbomaa
