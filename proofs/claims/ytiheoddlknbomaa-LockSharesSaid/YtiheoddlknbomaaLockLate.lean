/- Who waits for too long. -/
import Derived.Test.YtiheoddlknbomaaLockFree
import Derived.Test.YtiheoddlknbomaaIter
import Derived.Sort.OwnSortedInts
set_option linter.all false
namespace Go.Proofs.Ytiheoddlknbomaa
open Go.RowKit Go.Shelf Go.Lib Go.Sort Go.Proofs
set_option linter.unusedVariables false
set_option linter.unusedSimpArgs false

def srtI (l : List Int) : List Int := l.mergeSort fun x y => decide (x ≤ y)
theorem srtI_perm (l : List Int) : (srtI l).Perm l := List.mergeSort_perm l _
theorem srtI_permeq {l l' : List Int} (h : l.Perm l') : srtI l = srtI l' := by
  unfold srtI
  refine List.Perm.eq_of_pairwise (le := fun x y => decide (x ≤ y)) ?_ (List.pairwise_mergeSort ?_ ?_ l) (List.pairwise_mergeSort ?_ ?_ l') ((List.mergeSort_perm l _).trans (h.trans (List.mergeSort_perm l' _).symm))
  all_goals simp
  all_goals omega
def lateP (now lim : Int) (x : Wi) : Bool := decide (IntKind.i64.wrap (x.since + lim) ≤ now)
def lateL (now lim : Int) (q : List Wi) : List Int := (q.filter (lateP now lim)).map (·.tx)
def lates (now lim : Int) (l : List (K4 × RR)) : List Int := l.flatMap fun p => lateL now lim p.2.r.q
def Ta.lateT (t : Ta) (now : Int) : List Int := srtI (t.rows.flatMap fun p => lateL now t.lim p.2.q)
theorem lateL_len (now lim : Int) (q : List Wi) : (lateL now lim q).length ≤ q.length := by
  unfold lateL
  rw [List.length_map]
  exact List.length_filter_le _ _
theorem lates_len (now lim : Int) : ∀ (l : List (K4 × RR)), (∀ p ∈ l, p.2.r.h.length + p.2.r.q.length ≤ 100000) → (lates now lim l).length ≤ l.length * 100000
  | [], _ => by simp [lates]
  | p :: l, h => by
    have ih := lates_len now lim l (fun q hq => h q (List.mem_cons_of_mem _ hq))
    have h1 := h p List.mem_cons_self
    have h2 := lateL_len now lim p.2.r.q
    simp only [lates, List.flatMap_cons, List.length_append, List.length_cons] at ih ⊢
    omega
theorem lates_snoc (now lim : Int) (l : List (K4 × RR)) (k : K4) (rr : RR) : lates now lim (l ++ [(k, rr)]) = lates now lim l ++ lateL now lim rr.r.q := by
  unfold lates
  rw [List.flatMap_append]
  simp
theorem lateL_snoc (now lim : Int) (q : List Wi) (x : Wi) : lateL now lim (q ++ [x]) = lateL now lim q ++ (if lateP now lim x = true then [x.tx] else []) := by
  unfold lateL
  rw [List.filter_append, List.map_append]
  congr 1
  by_cases h : lateP now lim x = true <;> simp [h]
theorem late_tab (now lim : Int) (rs : List (K4 × RR)) (ws : List (Int × K4)) : (tabT lim rs ws).lateT now = srtI (lates now lim rs) := by
  unfold Ta.lateT tabT lates
  dsimp only
  rw [List.flatMap_map]
--@@ (*lock.Table).Late
theorem sortI_any (v : Value) (base n : Nat) (ps : List Int) (w : World) (hown : w.ownsRow base 3 1 v n (ps.map (Value.int .i64))) (hnl : n = ps.length) (hl : ps.length ≤ 100000000000) :
    Calls Try.prog 34 #[v] w fun e w' => e = .returned (.tuple #[]) ∧ w'.ownsRow base 3 1 v n ((srtI ps).map (Value.int .i64)) ∧ Kept v.ownBlock.toList w w' := by
  subst hnl
  rcases hown.2 with ⟨rfl, hz⟩ | ⟨g, cap, cur, rfl, hb, hg, hle, hm, hs, ht⟩
  · have hps : ps = [] := List.eq_nil_of_length_eq_zero hz
    subst hps
    refine (AnyM.slices_Sort_int_none Try.sort34 none 0 w).mono ?_
    rintro e w' ⟨rfl, rfl⟩
    exact ⟨rfl, by rw [show srtI [] = [] by simp [srtI]]; exact hown, Kept.refl _ _⟩
  · have hgl := (Array.getElem?_eq_some_iff.1 hg).1
    refine (AnyM.slices_Sort_int Try.sort34 g 0 cap ps w (holds_of_blockI hg (by simpa using ht)) hgl (by omega)).mono ?_
    rintro e w' ⟨rfl, n, os, rfl⟩
    have hlen : (srtI ps).length = ps.length := (srtI_perm ps).length_eq
    refine ⟨rfl, ⟨by simp [hlen], .inr ⟨g, cap, _, rfl, hb, heap_sortedI _ hg, hle, hm, by simpa [putCells] using hs, ?_⟩⟩, Kept.of_grown (grownBy_sortedI _) _ (fun k hk => by cases hk; simp [Value.ownBlock])⟩
    have := take_putCellsI cur (srtI ps) (by omega)
    rw [hlen] at this
    simpa [srtI] using this
set_option maxHeartbeats 8000000 in
set_option maxRecDepth 100000 in
theorem late_any (A R M : Nat) (lim : Int) (rs : List (K4 × RR)) (ws : List (Int × K4)) (now : Int) (w : World) (H : TabIs w A R M lim rs ws) (hl : rs.length ≤ 100000) (hle : (tabT lim rs ws).le 100000) :
    Calls Try.prog 17 #[.pointer (some ⟨A, 0, none⟩), .int .i64 now] w fun e w' => ∃ v, e = .returned v ∧ w'.ownsRow w.heap.size 3 1 v ((tabT lim rs ws).lateT now).length (((tabT lim rs ws).lateT now).map (Value.int .i64)) ∧ Kept [] w w' := by
  obtain ⟨a0, a1, a2⟩ := H.cells
  have HT := hid H
  have HF := hid (show (Try.prog.info? 3).map (fun i => (i.zero, i.size, i.bytes)) = some (some (.int .i64 0), 1, 8) by kernel_rfl)
  have hRw := H.rows.lt
  have hAw := H.lt A (by simp [tabBs])
  have HLE := hid (le_tab.1 hle)
  rw [late_tab]
  clear H
  go_enter Try.func17, Try.ntmps17
  go_wp2_with (first | (at_range; refine wpList_range_is rfl _ 51 rfl _ _ Try.underlying51 rfl HT.out.rows ?_; intro w0 hR hk hsz0))
  go_frame
  have HR := hid (show RangeIs w0 R w.heap.size K4.v (rowsL rs) from hR)
  have HK := hid hk
  clear hR hk
  go_loopg [5] rs.length (fun kx s5 wr => ∃ (todo acc : List (K4 × RR)), Aside (wr.ownsRow w0.heap.size 3 1 s5 (lates now lim acc).length ((lates now lim acc).map (Value.int .i64))) ∧ Aside ((acc ++ todo).Perm rs) ∧ Aside (RangeIs wr R w.heap.size K4.v (rowsL todo)) ∧ Aside (Kept [] w wr) ∧ todo.length ≤ kx ∧ w0.heap.size ≤ wr.heap.size)
  case atStart => exact ⟨rs, [], ⟨rfl, .inl ⟨rfl, rfl⟩⟩, List.Perm.refl _, HR.out, HK.out, Nat.le_refl _, Nat.le_refl _⟩
  case round =>
    clear HR HK
    obtain ⟨todo, acc, HO, HPM, HR, HK, hkx, hsz⟩ := hrel
    rename World => wo
    go_wp2_with (first
      | (at_next; refine wpList_next_is rfl _ rfl rfl HR.out ?_ ?_; (intro hd0); rotate_left; (intro x u T w1 hp hR1 hk1 hs1 hen; obtain ⟨rr, t', rfl, rfl, hp'⟩ := rows_perm hp; have HP' := hid hp'; have HR1 := hid hR1; have HK1 := hid hk1; clear hp hp' hR1 hk1; refine Here.mk ?_))
      | (go_at_call 34; refine Here.mk ?_))
    · refine Here.of ?_
      have hmem : (x, rr) ∈ rs := HPM.out.subset (List.mem_append_right _ (HP'.out.symm.subset List.mem_cons_self))
      have HKW := hid (HK.out.trans HK1.out (fun x hx => .inr (by simp at hx; omega)))
      have hlr := HLE.out _ hmem
      have HRI := hid (HT.out.each _ hmem)
      obtain ⟨P, hv, qv, ⟨rh, rq⟩⟩ := rr
      dsimp only at hlr
      obtain ⟨qa, qc, hqv⟩ := wrow_slice HRI.out.q
      dsimp only at hqv
      subst hqv
      have HRJ := hid (show RowIs w P hv (.slice qa rq.length qc) ⟨rh, rq⟩ from HRI.out)
      obtain ⟨c0, c1, f0, f1⟩ := (HRJ.out.kept HKW.out (fun _ _ => by simp)).c0
      have hacc : acc.length + todo.length = rs.length := by have := HPM.out.length_eq; simpa using this
      have htl : todo.length = t'.length + 1 := by have := HP'.out.length_eq; simpa using this
      have HPN := hid (show ((acc ++ [(x, (⟨P, hv, .slice qa rq.length qc, ⟨rh, rq⟩⟩ : RR))]) ++ t').Perm rs by rw [List.append_assoc]; exact (HP'.out.symm.append_left acc).trans HPM.out)
      have HSN := hid (show lates now lim (acc ++ [(x, (⟨P, hv, .slice qa rq.length qc, ⟨rh, rq⟩⟩ : RR))]) = lates now lim acc ++ lateL now lim rq from lates_snoc now lim acc x ⟨P, hv, .slice qa rq.length qc, ⟨rh, rq⟩⟩)
      have hlt := lates_len now lim acc (fun p hp => HLE.out p (HPM.out.subset (List.mem_append_left _ hp)))
      have HO1 := hid (own_below HO.out HK1.out (fun x hx => by simp at hx; omega))
      clear hmem HRI
      dsimp only at hen ⊢
      obtain ⟨la, hla⟩ : ∃ la, la = lates now lim acc := ⟨_, rfl⟩
      rw [← hla] at HO1 HSN hlt
      have HLA := hid hla
      clear hla HO HPM HP' HK HR
      go_wp2_with fail
      clear c0 c1 f0 f1 hen
      go_loopg [5, 24] rq.length (fun kx s5 s24 wr => ∃ (j : Nat), s24 = .int .i64 j ∧ j ≤ rq.length ∧ rq.length - j ≤ kx ∧ Aside (wr.ownsRow w0.heap.size 3 1 s5 (la ++ lateL now lim (rq.take j)).length ((la ++ lateL now lim (rq.take j)).map (Value.int .i64))) ∧ Aside (RangeIs wr R w.heap.size K4.v (rowsL t')) ∧ Aside (Kept [] w wr) ∧ w1.heap.size ≤ wr.heap.size)
      case atStart => exact ⟨0, by first | rfl | go_num, by omega, by omega, by show World.ownsRow _ _ _ _ _ _ _; simpa [lateL] using HO1.out, HR1.out, HKW.out, Nat.le_refl _⟩
      case round =>
        clear HO1 HR1 HKW
        obtain ⟨j, rfl, hjr, hjx, HO2, HR2, HK2, hsz2⟩ := hrel
        rename World => wi
        by_cases hb : j < rq.length
        · have hltz : (j : Int) < (rq.length : Int) := by omega
          have hwq := HRJ.out.q.kept HK2.out (by simp)
          dsimp only at hwq
          rcases hwq with ⟨_, h2⟩ | ⟨g, off, cap, sz, h1, h2⟩
          · rw [h2] at hb; simp at hb
          injection h1 with e1 e2 e3
          subst e1
          subst e3
          obtain ⟨d0, d1, d2, d3⟩ := wish_cells (fun j u hj => h2.cell hj) hb
          have HTK := hid (show lateL now lim (rq.take (j + 1)) = lateL now lim (rq.take j) ++ (if lateP now lim rq[j] = true then [rq[j].tx] else []) by rw [List.take_succ_eq_append_getElem hb, lateL_snoc])
          clear h2
          generalize rq[j] = y at *
          have HB := hid hb
          obtain ⟨x1, x2, x3, x4⟩ := y
          dsimp only at d0 d1 d2 d3 HTK
          obtain ⟨lj, hlj⟩ : ∃ lj, lj = lateL now lim (rq.take j) := ⟨_, rfl⟩
          rw [← hlj] at HO2 HTK
          have hljl : lj.length ≤ rq.length := by rw [hlj]; have := lateL_len now lim (rq.take j); simp at this; omega
          clear hlj
          obtain ⟨sm, hsm⟩ : ∃ sm, IntKind.i64.wrap (x3 + lim) = sm := ⟨_, rfl⟩
          have HTA := hid (HT.out.kept (HK2.out.alloc (.cells #[.int .i64 x1, .bool x2, .int .i64 x3, .bool x4] 59)) (fun _ _ => by simp))
          obtain ⟨a0, a1, a2⟩ := HTA.out.cells
          have HOA := hid (own_below HO2.out ((Kept.refl [] wi).alloc (.cells #[.int .i64 x1, .bool x2, .int .i64 x3, .bool x4] 59)) (by simp))
          have HRA := hid (HR2.out.kept ((Kept.refl [] wi).alloc (.cells #[.int .i64 x1, .bool x2, .int .i64 x3, .bool x4] 59)) (by simp) (by simp))
          have HKA := hid (HK2.out.alloc (.cells #[.int .i64 x1, .bool x2, .int .i64 x3, .bool x4] 59))
          by_cases hlat : sm ≤ now
          · have HLP := hid (show lateP now lim ⟨x1, x2, x3, x4⟩ = true by unfold lateP; dsimp only; rw [hsm]; exact decide_eq_true hlat)
            go_wp2_with fail
            go_quiet (fail)
            have hkq := ((Kept.refl [] wi).alloc (.cells #[.int .i64 x1, .bool x2, .int .i64 x3, .bool x4] 59)).drewN nq
            have z0 := ((Kept.refl [] _).drewN nq).cell (new_cell wi [.int .i64 x1, .bool x2, .int .i64 x3, .bool x4] 59 0 _ rfl) (by simp)
            have HOQ := hid (own_below HO2.out hkq (by simp))
            have HRQ := hid (HR2.out.kept hkq (by simp) (by simp))
            have HKQ := hid (HK2.out.trans hkq (fun x hx => by cases hx))
            have hszq := hkq.size
            clear d0 d1 d2 d3 a0 a1 a2 hkq HTA HOA HRA HKA
            generalize (wi.alloc (.cells #[.int .i64 x1, .bool x2, .int .i64 x3, .bool x4] 59)).drewN nq = wq at *
            go_wp2_with (at_builtin; refine Here.mk ?_)
            refine Here.of ?_
            refine wpList_append_is rfl _ _ 26 rfl 3 _ 1 8 Try.underlying26 HF.out rfl (by decide) (by decide) w0.heap.size _ (la ++ lj).length _ rfl (HOQ.out.alloc _) _ 1 1 [.int .i64 x1] rfl rfl (fun j u h => cells_new wq [.int .i64 x1] 3 j u h) (by simp [Value.oneCell']) (by simp; omega) (by simp; omega) ?_
            intro v' w3 hown3 hgrow hnil
            obtain ⟨S, hS1, hS2⟩ := ownsRow_grownL (HOQ.out.alloc _) hgrow
            have HA2 := hid ((Kept.refl [] wq).alloc (.cells #[.int .i64 x1] 3))
            have HR3 := hid ((HRQ.out.kept HA2.out (by simp) (by simp)).kept hS1 (fun hx => by have := hS2 _ hx; omega) (fun hx => by have := hS2 _ hx; omega))
            have HK3 := hid ((HKQ.out.trans HA2.out (fun x hx => by cases hx)).trans hS1 (fun x hx => .inr (by have := hS2 x hx; omega)))
            have hsz3 : wq.heap.size ≤ w3.heap.size := Nat.le_trans HA2.out.size hS1.size
            have HO3 := hid hown3
            clear hown3 hgrow hnil hS1
            go_wp2_with fail
            go_roundg (rq.length - (j + 1))
            case measure => have := HB.out; omega
            case rel =>
              refine ⟨j + 1, by first | rfl | go_num, by have := HB.out; omega, Nat.le_refl _, ?_, HR3.out, HK3.out, by omega⟩
              show World.ownsRow _ _ _ _ _ _ _
              rw [HTK.out, HLP.out, if_pos rfl, ← List.append_assoc, List.map_append, List.length_append]
              exact HO3.out
          · have HLP := hid (show lateP now lim ⟨x1, x2, x3, x4⟩ = false by unfold lateP; dsimp only; rw [hsm]; exact decide_eq_false hlat)
            go_wp2_with fail
            go_quiet (fail)
            have hkq := ((Kept.refl [] wi).alloc (.cells #[.int .i64 x1, .bool x2, .int .i64 x3, .bool x4] 59)).drewN nq
            have z0 := ((Kept.refl [] _).drewN nq).cell (new_cell wi [.int .i64 x1, .bool x2, .int .i64 x3, .bool x4] 59 0 _ rfl) (by simp)
            have HOQ := hid (own_below HO2.out hkq (by simp))
            have HRQ := hid (HR2.out.kept hkq (by simp) (by simp))
            have HKQ := hid (HK2.out.trans hkq (fun x hx => by cases hx))
            have hszq := hkq.size
            clear d0 d1 d2 d3 a0 a1 a2 hkq HTA HOA HRA HKA
            generalize (wi.alloc (.cells #[.int .i64 x1, .bool x2, .int .i64 x3, .bool x4] 59)).drewN nq = wq at *
            go_wp2_with fail
            go_roundg (rq.length - (j + 1))
            case measure => have := HB.out; omega
            case rel =>
              refine ⟨j + 1, by first | rfl | go_num, by have := HB.out; omega, Nat.le_refl _, ?_, HRQ.out, HKQ.out, by omega⟩
              show World.ownsRow _ _ _ _ _ _ _
              rw [HTK.out, HLP.out, if_neg (by simp), List.append_nil]
              exact HOQ.out
        · obtain rfl : j = rq.length := by omega
          have hltz : ¬ (rq.length : Int) < (rq.length : Int) := by omega
          have HO4 := hid (show wi.ownsRow w0.heap.size 3 1 u5 (lates now lim (acc ++ [(x, (⟨P, hv, .slice qa rq.length qc, ⟨rh, rq⟩⟩ : RR))])).length ((lates now lim (acc ++ [(x, (⟨P, hv, .slice qa rq.length qc, ⟨rh, rq⟩⟩ : RR))])).map (Value.int .i64)) by
            rw [HSN.out]
            have := HO2.out
            rw [List.take_length] at this
            exact this)
          go_wp2_with fail
          go_roundg t'.length
          case measure => omega
          case rel => exact ⟨t', _, HO4.out, HPN.out, HR2.out, HK2.out, Nat.le_refl _, by omega⟩
    · refine Here.of ?_
      have ht : todo = [] := by
        cases todo with
        | nil => rfl
        | cons p t => simp [rowsL] at hd0
      subst ht
      have hperm : (lates now lim acc).Perm (lates now lim rs) := List.Perm.flatMap_right _ (by have := HPM.out; simpa using this)
      have hacc : acc.length = rs.length := by have := HPM.out.length_eq; simpa using this
      have hlt := lates_len now lim acc (fun p hp => HLE.out p (HPM.out.subset (List.mem_append_left _ hp)))
      refine (sortI_any _ w0.heap.size (lates now lim acc).length (lates now lim acc) wo HO.out rfl (by omega)).mono ?_
      rintro e w3 ⟨rfl, hown, hk3⟩
      rw [srtI_permeq hperm] at hown
      have hlen : (lates now lim acc).length = (srtI (lates now lim rs)).length := by rw [(srtI_perm _).length_eq, hperm.length_eq]
      rw [hlen] at hown
      have HO3 := hid hown
      have HK3 := hid (HK.out.trans hk3 (fun x hx => .inr (by have := HO.out.lt x (by simpa using hx); omega)))
      clear hown hk3 hlen hperm
      go_wp2_with fail
      go_returns
      exact ⟨_, rfl, ownsRow_base HO3.out (by omega), HK3.out⟩
--@@ end
end Go.Proofs.Ytiheoddlknbomaa
