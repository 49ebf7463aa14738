/- Contracts of the reference's gate: rows in a list. -/
import Derived.Test.YtdaipbaclccodaaGateTxs
import Derived.Test.YtdaipbaclccodaaSl
set_option linter.all false
namespace Go.Proofs.Ytdaipbaclccodaa
open Go.RowKit
set_option linter.unusedVariables false
set_option linter.unusedSimpArgs false

abbrev RR := Int × GR
def rc (p : RR) : List Value := [.int .i64 p.1, .int .u16 (p.2.mask : Int), .int .i64 p.2.rel, .int .i64 p.2.out]
def rcs (rows : List RR) : List Value := rows.flatMap rc
theorem rcs_len (rows : List RR) : (rcs rows).length = rows.length * 4 := by
  induction rows with
  | nil => rfl
  | cons p r ih => simp only [rcs, List.flatMap_cons, List.length_append, List.length_cons] at ih ⊢; rw [ih]; simp [rc]; omega
theorem rcs_get : ∀ (rows : List RR) (k j : Nat) (p : RR), rows[k]? = some p → j < 4 → (rcs rows)[k * 4 + j]? = (rc p)[j]?
  | [], k, j, p, h, _ => by simp at h
  | q :: r, 0, j, p, h, hj => by
    simp at h; subst h
    simp only [rcs, List.flatMap_cons, Nat.zero_mul, Nat.zero_add]
    rw [List.getElem?_append_left (by simp [rc]; omega)]
  | q :: r, k + 1, j, p, h, hj => by
    simp at h
    have := rcs_get r k j p h hj
    simp only [rcs, List.flatMap_cons] at this ⊢
    rw [List.getElem?_append_right (by simp [rc]; omega)]
    simp only [rc, List.length_cons, List.length_nil] at this ⊢
    rw [← this]
    congr 1; omega

--@@ types
/-- block a is a reference's gate; vb: the block of its rows (a itself where it has none) -/
structure RG (w : World) (a vb : Nat) (rows : List RR) : Prop where
  ex : ∃ v, w.heap[a]? = some (.cells #[v] 32 (0, 0)) ∧ w.ownsRow 0 66 4 v rows.length (rcs rows) ∧ (v = .slice none 0 0 ∧ vb = a ∨ v.ownBlock = some vb ∧ vb ≠ a)

theorem RG.cells {w : World} {a vb : Nat} {rows : List RR} (h : RG w a vb rows) : ∃ av cap, rows.length ≤ 9223372036854775807 ∧ w.cell? ⟨a, 0, none⟩ = some (.slice av rows.length cap) ∧ w.frozen? ⟨a, 0, none⟩ = false ∧ (0 < rows.length → av = some ⟨vb, 0, none⟩ ∧ vb ≠ a) ∧
    (∀ k p, rows[k]? = some p → w.cell? ⟨vb, k * 4, none⟩ = some (.int .i64 p.1) ∧ w.cell? ⟨vb, k * 4 + 1, none⟩ = some (.int .u16 (p.2.mask : Int)) ∧
      w.cell? ⟨vb, k * 4 + 2, none⟩ = some (.int .i64 p.2.rel) ∧ w.cell? ⟨vb, k * 4 + 3, none⟩ = some (.int .i64 p.2.out)) := by
  obtain ⟨v, h1, h2, h3⟩ := h.ex
  rcases h2.2 with ⟨rfl, hn⟩ | ⟨g, cap, cur, rfl, _, hg, hle, hcm, hsz, htk⟩
  · have hr : rows = [] := List.eq_nil_of_length_eq_zero hn
    subst hr
    exact ⟨none, 0, by simp, by simp [World.cell?, h1], by simp [World.frozen?, h1], by simp, by simp⟩
  · have hv : vb = g ∧ vb ≠ a := by
      rcases h3 with ⟨h, _⟩ | ⟨h, h'⟩
      · cases h
      · simp [Value.ownBlock] at h; exact ⟨h.symm, h'⟩
    obtain ⟨rfl, hne⟩ := hv
    refine ⟨some ⟨vb, 0, none⟩, cap, by unfold maxLen at hcm; omega, by simp [World.cell?, h1], by simp [World.frozen?, h1], fun _ => ⟨rfl, hne⟩, fun k p hk => ?_⟩
    have key : ∀ j u, j < 4 → (rc p)[j]? = some u → w.cell? ⟨vb, k * 4 + j, none⟩ = some u := fun j u hj hu => by
      have e1 := rcs_get rows k j p hk hj
      rw [hu] at e1
      have e2 := h2.cells (g := vb) rfl _ _ e1
      have hadd : (⟨vb, 0, none⟩ : Addr).add (k * 4 + j) = ⟨vb, k * 4 + j, none⟩ := by unfold Addr.add; split <;> simp_all
      rw [hadd] at e2
      exact e2
    exact ⟨key 0 _ (by omega) rfl, key 1 _ (by omega) rfl, key 2 _ (by omega) rfl, key 3 _ (by omega) rfl⟩

theorem RG.lt {w : World} {a vb : Nat} {rows : List RR} (h : RG w a vb rows) : a < w.heap.size ∧ vb < w.heap.size := by
  obtain ⟨v, h1, h2, h3⟩ := h.ex
  have ha := (Array.getElem?_eq_some_iff.1 h1).1
  rcases h3 with ⟨_, rfl⟩ | ⟨h3, _⟩
  · exact ⟨ha, ha⟩
  · exact ⟨ha, (h2.lt _ h3).2⟩
theorem RG.kept {w w' : World} {a vb : Nat} {rows : List RR} {S : List Nat} (h : RG w a vb rows) (hk : Kept S w w') (ha : a ∉ S) (hb : vb ∉ S) : RG w' a vb rows := by
  have hl := h.lt
  obtain ⟨v, h1, h2, h3⟩ := h.ex
  refine ⟨v, (hk.block a hl.1 ha).trans h1, ⟨h2.1, ?_⟩, h3⟩
  rcases h2.2 with hn | ⟨g, cap, cur, rfl, h4, hg, r⟩
  · exact .inl hn
  · refine .inr ⟨g, cap, cur, rfl, h4, ?_, r⟩
    have : vb = g := by
      rcases h3 with ⟨h3, _⟩ | ⟨h3, _⟩
      · cases h3
      · simp [Value.ownBlock] at h3; exact h3.symm
    subst this
    exact (hk.block vb hl.2 hb).trans hg
--@@ ref14.at
def ridx (rows : List RR) (tx : Int) : Int := match afind tx rows 0 with | some (k, _) => (k : Int) | none => -1
theorem afind_here {α β : Type} [DecidableEq α] {x : α} : ∀ {l : List (α × β)} {k i : Nat} {p : α × β}, l[k]? = some p → p.1 = x → (∀ j q, j < k → l[j]? = some q → q.1 ≠ x) → afind x l i = some (i + k, p.2)
  | [], _, _, _, h, _, _ => by simp at h
  | q :: r, 0, i, p, h, hp, _ => by simp at h; subst h; simp [afind, hp]
  | q :: r, k + 1, i, p, h, hp, hj => by
    have h0 := hj 0 q (by omega) rfl
    have := afind_here (l := r) (k := k) (i := i + 1) (by simpa using h) hp (fun j q' hj' hq => hj (j + 1) q' (by omega) (by simpa using hq))
    simp only [afind, if_neg h0, this]
    congr 2; omega
theorem afind_nowhere {α β : Type} [DecidableEq α] {x : α} : ∀ {l : List (α × β)} {i : Nat}, (∀ j q, j < l.length → l[j]? = some q → q.1 ≠ x) → afind x l i = none
  | [], _, _ => rfl
  | q :: r, i, hj => by
    have h0 := hj 0 q (by simp) rfl
    simp only [afind, if_neg h0]
    exact afind_nowhere fun j q' hl hq => hj (j + 1) q' (by simp; omega) (by simpa using hq)
set_option maxHeartbeats 1000000 in
theorem rat_any (a vb : Nat) (rows : List RR) (tx : Int) (w : World) (hG : RG w a vb rows) :
    Calls Try.prog 27 #[.pointer (some ⟨a, 0, none⟩), .int .i64 tx] w fun e w' => e = .returned (.int .i64 (ridx rows tx)) ∧ w = w' := by
  obtain ⟨av, cap, hmax, c0, f0, hav, hcs⟩ := hG.cells
  clear hG
  have HA := hid hav
  have HC := hid hcs
  clear hav hcs
  go_enter Try.func27, Try.ntmps27
  go_wp2
  go_loop [5] (fun i => ∃ k : Nat, k ≤ rows.length ∧ i = .int .i64 k ∧ ∀ j p, j < k → rows[j]? = some p → p.1 ≠ tx) (fun i => rows.length - (intOf i).toNat)
  case atStart => exact ⟨0, Nat.zero_le _, rfl, fun _ _ h => by omega⟩
  case round =>
    obtain ⟨k, hk, rfl, hj⟩ := hrel
    have HJ := hid hj
    clear hj
    by_cases hlt : k < rows.length
    · obtain ⟨rfl, hne⟩ := HA.out (by omega)
      obtain ⟨d0, _, _, _⟩ := HC.out k rows[k] (by simp [hlt])
      have HP := hid (show rows[k]? = some rows[k] by simp [hlt])
      generalize rows[k] = p at *
      go_wp2
      · have hp : p.1 = tx := by simpa using ‹(p.fst == tx) = true›
        go_ret
        refine ⟨ret_int ?_, rfl⟩
        unfold ridx
        rw [afind_here HP.out hp HJ.out]
        simp
      · have hp : p.1 ≠ tx := by simpa using ‹(p.fst == tx) = false›
        go_round
        case rel => exact ⟨k + 1, by omega, by go_num, fun j q hj hq => by
          by_cases e : j = k
          · subst e; rw [HP.out] at hq; cases hq; exact hp
          · exact HJ.out j q (by omega) hq⟩
        case measure => simp [intOf]; omega
    · go_wp2
      go_ret
      refine ⟨ret_int ?_, rfl⟩
      unfold ridx
      rw [afind_nowhere (fun j q hj hq => HJ.out j q (by omega) hq)]
--@@ ref14.Read
theorem ridx_some {rows : List RR} {tx : Int} {r : GR} (h : aget tx rows = some r) : ∃ k : Nat, ridx rows tx = (k : Int) ∧ rows[k]? = some (tx, r) ∧ k < rows.length ∧ adel tx rows = rows.eraseIdx k ∧ ∀ u, aput tx u rows = rows.set k (tx, u) := by
  cases hf : afind tx rows 0 with
  | none => rw [(afind_none hf).1] at h; cases h
  | some q =>
    obtain ⟨j, v⟩ := q
    obtain ⟨k, h1, h2, h3, h4, h5⟩ := afind_some hf
    rw [h3] at h; cases h
    refine ⟨k, ?_, h2, (List.getElem?_eq_some_iff.1 h2).1, h4, h5⟩
    unfold ridx; rw [hf]; simp [h1]
theorem ridx_none {rows : List RR} {tx : Int} (h : aget tx rows = none) : ridx rows tx = -1 := by
  cases hf : afind tx rows 0 with
  | none => unfold ridx; rw [hf]
  | some q =>
    obtain ⟨j, v⟩ := q
    obtain ⟨k, h1, h2, h3, h4, h5⟩ := afind_some hf
    rw [h3] at h; cases h
set_option maxHeartbeats 1000000 in
theorem rread_any (a vb : Nat) (rows : List RR) (tx part now : Int) (w : World) (hG : RG w a vb rows) (hok : GOk rows) (hout : ∀ p, p ∈ rows → 0 ≤ p.2.out ∧ p.2.out ≤ 2) :
    Calls Try.prog 15 #[.pointer (some ⟨a, 0, none⟩), .int .i64 tx, .int .i64 part, .int .i64 now] w fun e w' =>
      e = .returned (.tuple #[.int .i64 (gRead rows tx part now).1, .int .i64 (gRead rows tx part now).2]) ∧ w = w' := by
  have HG := hid hG
  obtain ⟨av, cap, hmax, c0, f0, hav, hcs⟩ := hG.cells
  clear hG
  cases hr : aget tx rows with
  | none =>
    have e : gRead rows tx part now = (0, 12) := by unfold gRead; rw [hr]
    have HI := hid (ridx_none hr)
    rw [e]
    clear hr e hav hcs hok hout
    go_enter Try.func15, Try.ntmps15
    go_wp2_with (go_at_call 27; refine (rat_any _ _ _ _ _ HG.out).mono ?_; rintro e w' ⟨rfl, rfl⟩; rw [HI.out])
    go_ret2
    exact ⟨rfl, rfl⟩
  | some r =>
    have hmk : r.mask < 64 := hok _ (aget_mem hr)
    have ho := hout _ (aget_mem hr)
    simp only at ho
    have hu : U64 r.mask := by unfold U64; omega
    have e : gRead rows tx part now = if hasB r.mask part = false then (0, 12) else if now < r.rel ∨ r.out = 0 then (0, 17) else (if r.out = 2 then 1 else 0, 0) := by unfold gRead; rw [hr]
    have HE := hid e
    obtain ⟨k, hi, hk, hkl, _, _⟩ := ridx_some hr
    obtain ⟨d0, d1, d2, d3⟩ := hcs k _ hk
    obtain ⟨rfl, hne⟩ := hav (by omega)
    have HI := hid hi
    clear hr e hcs hok hout hk hi
    go_enter Try.func15, Try.ntmps15
    go_wp2_with (first
      | (go_at_call 27; refine (rat_any _ _ _ _ _ HG.out).mono ?_; rintro e w' ⟨rfl, rfl⟩; rw [HI.out])
      | (go_at_call 29; refine (ghas_any _ _ _ hu (by omega)).mono ?_; rintro e w' ⟨rfl, rfl⟩))
    all_goals go_ret2
    all_goals rw [HE.out]
    · have h1 : hasB r.mask part = false := by
        rcases ‹(k : Int) < 0 ∨ (!hasB r.mask part) = true› with h | h
        · omega
        · simpa using h
      rw [if_pos h1]
      exact ⟨rfl, rfl⟩
    · have h1 : ¬ hasB r.mask part = false := by simpa using (‹0 ≤ (k : Int) ∧ (!hasB r.mask part) = false›).2
      rw [if_neg h1, if_pos (by simpa using ‹now < r.rel ∨ (r.out == 0) = true›)]
      exact ⟨rfl, rfl⟩
    · have h1 : ¬ hasB r.mask part = false := by simpa using (‹0 ≤ (k : Int) ∧ (!hasB r.mask part) = false›).2
      have h2 : r.rel ≤ now ∧ ¬ r.out = 0 := by simpa using ‹r.rel ≤ now ∧ (r.out == 0) = false›
      rw [if_neg h1, if_neg (by omega)]
      have h3 : r.out - 1 = if r.out = 2 then 1 else 0 := by split <;> omega
      exact ⟨congrArg (fun x => Ending.returned (.tuple #[.int .i64 x, .int .i64 0])) h3, rfl⟩
    · have h1 : ¬ hasB r.mask part = false := by simpa using (‹0 ≤ (k : Int) ∧ (!hasB r.mask part) = false›).2
      rw [if_neg h1, if_pos (.inl (by omega))]
      exact ⟨rfl, rfl⟩
--@@ ref14.Mask
set_option maxRecDepth 100000 in
set_option maxHeartbeats 1000000 in
theorem rmask_any (a vb : Nat) (rows : List RR) (tx : Int) (w : World) (hG : RG w a vb rows) :
    Calls Try.prog 19 #[.pointer (some ⟨a, 0, none⟩), .int .i64 tx] w fun e w' =>
      e = .returned (.tuple #[.int .u16 ((gMask rows tx).1 : Nat), .int .i64 (gMask rows tx).2]) ∧ Kept [] w w' := by
  have HG := hid hG
  obtain ⟨av, cap, hmax, c0, f0, hav, hcs⟩ := hG.cells
  clear hG
  cases hr : aget tx rows with
  | none =>
    have e : gMask rows tx = (0, 0) := by unfold gMask; rw [hr]
    have HI := hid (ridx_none hr)
    rw [e]
    clear hr e hav hcs
    go_enter Try.func19, Try.ntmps19
    go_wp2_with (go_at_call 27; refine (rat_any _ _ _ _ _ HG.out).mono ?_; rintro e w' ⟨rfl, rfl⟩; rw [HI.out])
    go_ret2
    exact ⟨rfl, Kept.refl _ _⟩
  | some r =>
    have e : gMask rows tx = (r.mask, r.rel) := by unfold gMask; rw [hr]
    rw [e]
    obtain ⟨k, hi, hk, hkl, _, _⟩ := ridx_some hr
    obtain ⟨d0, d1, d2, d3⟩ := hcs k _ hk
    obtain ⟨rfl, hne⟩ := hav (by omega)
    have HI := hid hi
    clear hr e hcs hk hi
    go_enter Try.func19, Try.ntmps19
    go_wp2_with (go_at_call 27; refine (rat_any _ _ _ _ _ HG.out).mono ?_; rintro e w' ⟨rfl, rfl⟩; rw [HI.out])
    go_quiet (fail)
    go_wp2
    go_ret2
    exact ⟨rfl, (Kept.refl [] w).drewN _⟩
--@@ ref14.Txs
set_option maxHeartbeats 1000000 in
theorem rtxs_any (a vb : Nat) (rows : List RR) (w : World) (hG : RG w a vb rows) (hlen : rows.length ≤ 64) :
    Calls Try.prog 22 #[.pointer (some ⟨a, 0, none⟩)] w fun e w' => ∃ v, e = .returned v ∧
      w'.ownsRow w.heap.size 3 1 v rows.length ((rows.map (·.1)).map (Value.int .i64)) ∧ Kept [] w w' := by
  have HG := hid hG
  have HL := hid hG.lt
  have info3 : (Try.prog.info? 3).map (fun i => (i.zero, i.size, i.bytes)) = some (some (.int .i64 0), 1, 8) := by kernel_rfl
  have HF := hid info3
  obtain ⟨av, cap, hmax, c0, f0, hav, hcs⟩ := hG.cells
  clear hG info3
  have HA := hid hav
  have HC := hid hcs
  clear hav hcs
  have hal : a < w.heap.size := HL.out.1
  have hvl : vb < w.heap.size := HL.out.2
  go_enter Try.func22, Try.ntmps22
  go_wp2
  go_loopw [3, 4] (fun v i wr => ∃ k : Nat, k ≤ rows.length ∧ i = .int .i64 k ∧ wr.ownsRow w.heap.size 3 1 v k (((rows.take k).map (·.1)).map (Value.int .i64)) ∧ Kept [] w wr) (fun _ i _ => rows.length - (intOf i).toNat)
  case atStart => exact ⟨0, Nat.zero_le _, rfl, ownsRow_made0 w 3 1 _ (Nat.le_refl _), (Kept.refl [] w).alloc _⟩
  case round =>
    obtain ⟨k, hk, rfl, hown, hkp⟩ := hrel
    have HO := hid hown
    have HK := hid hkp
    have c1 := hkp.cell c0 (by simp)
    have hsz := hkp.size
    clear hown hkp
    by_cases hlt : k < rows.length
    · obtain ⟨rfl, hne⟩ := HA.out (by omega)
      obtain ⟨d0, _, _, _⟩ := HC.out k rows[k] (by simp [hlt])
      have d1 := HK.out.cell d0 (by simp)
      have HP := hid (show rows.take (k + 1) = rows.take k ++ [rows[k]] by rw [List.take_succ_eq_append_getElem hlt])
      generalize rows[k] = p at *
      clear c0 d0
      go_wp2_with (at_builtin; refine wpList_append_is rfl _ _ 45 rfl 3 _ 1 8 Try.underlying45 HF.out rfl (by decide) (by decide) w.heap.size _ k _ rfl (HO.out.alloc _) _ 1 1 [.int .i64 p.1] rfl rfl (fun j u h => cells_new _ [.int .i64 p.1] _ j u h) (by simp [Value.oneCell']) (by omega) (by simp; omega) ?_; intro v' w1 hown1 hgrow hnil)
      have hk1 : Kept [] w w1 := (HK.out.alloc _).grown_own (HO.out.alloc _) hgrow (Nat.le_refl _)
      have H1 := hid hown1
      have H2 := hid hk1
      clear hown1 hgrow hnil hk1
      go_roundw
      case rel => exact ⟨k + 1, by omega, by go_num, by rw [HP.out]; simpa using H1.out, H2.out⟩
      case measure => simp [intOf]; omega
    · go_wp2
      go_ret
      obtain rfl : k = rows.length := by omega
      exact ⟨_, rfl, by simpa using HO.out, HK.out⟩
--@@ ref14.Set
theorem rcs_set : ∀ (rows : List RR) (k : Nat) (tx : Int) (r : GR) (o : Int), rows[k]? = some (tx, r) → rcs (rows.set k (tx, ⟨r.mask, r.rel, o⟩)) = (rcs rows).set (k * 4 + 3) (.int .i64 o)
  | [], k, tx, r, o, h => by simp at h
  | q :: rs, 0, tx, r, o, h => by
    simp at h; subst h
    simp [rcs, rc]
  | q :: rs, k + 1, tx, r, o, h => by
    have ih := rcs_set rs k tx r o (by simpa using h)
    simp only [rcs] at ih
    simp only [rcs, List.set_cons_succ, List.flatMap_cons, ih]
    rw [List.set_append_right _ _ (by simp [rc]; omega)]
    congr 2
    simp [rc]; omega
set_option maxHeartbeats 1000000 in
theorem rset_any (a vb : Nat) (rows : List RR) (tx : Int) (yes : Bool) (w : World) (hG : RG w a vb rows) :
    Calls Try.prog 13 #[.pointer (some ⟨a, 0, none⟩), .int .i64 tx, .bool yes] w fun e w' =>
      e = .returned (.int .i64 (gSet rows tx yes).1) ∧ RG w' a vb (gSet rows tx yes).2 ∧ Kept [vb] w w' := by
  have HG := hid hG
  obtain ⟨av, cap, hmax, c0, f0, hav, hcs⟩ := hG.cells
  cases hr : aget tx rows with
  | none =>
    have e : gSet rows tx yes = (12, rows) := by unfold gSet; rw [hr]
    have HI := hid (ridx_none hr)
    rw [e]
    clear hr e hav hcs hG
    go_enter Try.func13, Try.ntmps13
    go_wp2_with (go_at_call 27; refine (rat_any _ _ _ _ _ HG.out).mono ?_; rintro e w' ⟨rfl, rfl⟩; rw [HI.out])
    go_ret
    exact ⟨rfl, HG.out, Kept.refl _ _⟩
  | some r =>
    obtain ⟨k, hi, hk, hkl, _, hput⟩ := ridx_some hr
    obtain ⟨d0, d1, d2, d3⟩ := hcs k _ hk
    obtain ⟨rfl, hne⟩ := hav (by omega)
    have HI := hid hi
    have hz : w.frozen? ⟨vb, k * 4 + 3, none⟩ = false := by
      obtain ⟨v, h1, h2, h3⟩ := hG.ex
      simp [World.cell?, h1] at c0
      subst c0
      rcases h2.2 with ⟨h, _⟩ | ⟨g, cap', cur, hv, _, hg, _⟩
      · cases h
      · cases hv; simp [World.frozen?, hg]
    have fin : ∀ o : Int, RG (w.setCell ⟨vb, k * 4 + 3, none⟩ (.int .i64 o)) a vb (aput tx ⟨r.mask, r.rel, o⟩ rows) ∧ Kept [vb] w (w.setCell ⟨vb, k * 4 + 3, none⟩ (.int .i64 o)) := fun o => by
      have hkp : Kept [vb] w (w.setCell ⟨vb, k * 4 + 3, none⟩ (.int .i64 o)) := (Kept.refl _ _).setCell (.inl (by simp)) _
      refine ⟨?_, hkp⟩
      obtain ⟨v, h1, h2, h3⟩ := hG.ex
      have ha := (Array.getElem?_eq_some_iff.1 h1).1
      simp [World.cell?, h1] at c0
      subst c0
      refine ⟨_, (hkp.block a ha (by simp; exact fun e => hne e.symm)).trans h1, ?_, .inr ⟨rfl, hne⟩⟩
      rw [hput, rcs_set rows k tx r o hk, List.length_set]
      exact ownsRow_set h2 _ _ (by rw [rcs_len]; omega)
    have HF := hid fin
    clear fin
    by_cases hc : r.out ≠ 0 ∧ r.out ≠ (if yes then 2 else 1)
    · have e : gSet rows tx yes = (13, rows) := by unfold gSet; rw [hr]; simp only; rw [if_pos hc]
      rw [e]
      have h1 : (r.out != 0) = true := by simp [hc.1]
      have h2 : (r.out != if yes then 2 else 1) = true := by simp [hc.2]
      clear hr e hk hput hi hcs hc hG
      go_enter Try.func13, Try.ntmps13
      cases yes
      all_goals simp only [if_true, if_false, Bool.false_eq_true] at h2
      all_goals go_wp2_with (go_at_call 27; refine (rat_any _ _ _ _ _ HG.out).mono ?_; rintro e w' ⟨rfl, rfl⟩; rw [HI.out])
      all_goals go_ret
      all_goals exact ⟨rfl, HG.out, Kept.refl _ _⟩
    · have e : gSet rows tx yes = (0, aput tx ⟨r.mask, r.rel, if yes then 2 else 1⟩ rows) := by unfold gSet; rw [hr]; simp only; rw [if_neg hc]
      rw [e]
      have h1 : (r.out != 0 && r.out != if yes then 2 else 1) = false := by
        by_cases h0 : r.out = 0
        · simp [h0]
        · have : r.out = if yes then 2 else 1 := Classical.byContradiction fun h => hc ⟨h0, h⟩
          simp [this]
      clear hr e hk hput hi hcs hc hG
      go_enter Try.func13, Try.ntmps13
      cases yes
      all_goals simp only [if_true, if_false, Bool.false_eq_true] at h1
      all_goals cases h0 : (r.out != 0)
      all_goals rw [h0] at h1
      all_goals simp only [Bool.true_and, Bool.false_and] at h1
      all_goals go_wp2_with (go_at_call 27; refine (rat_any _ _ _ _ _ HG.out).mono ?_; rintro e w' ⟨rfl, rfl⟩; rw [HI.out])
      all_goals go_ret
      · exact ⟨rfl, HF.out 1⟩
      · exact ⟨rfl, HF.out 1⟩
      · exact ⟨rfl, HF.out 2⟩
      · exact ⟨rfl, HF.out 2⟩
--@@ end
end Go.Proofs.Ytdaipbaclccodaa
