/- Who holds or waits, each once, sorted. -/
import Derived.Test.YtiheoddlknbomaaLockConcat
import Derived.Test.YtiheoddlknbomaaLockInv3
import Derived.Test.YtiheoddlknbomaaKeys
import Derived.Deep.RegionHeld3
set_option linter.all false
namespace Go.Proofs.Ytiheoddlknbomaa
open Go.RowKit Go.Shelf Go.Lib Go.Sort Go.Proofs Go.Maps
set_option linter.unusedVariables false
set_option linter.unusedSimpArgs false

def cntI (l : List (Int × Int)) : List (Int × Value) := l.map fun p => (p.1, Value.int .i64 p.2)
section
variable {α : Type} [DecidableEq α] {P : Program} {b : Nat} {ek : α → Value}
theorem wpList_lookup_ints {l : List (α × Int)} {w : World} {ops : Array Oper} {rest : List Oper} {o : Oper} {a : Act} {Q : Exit → Act → World → Prop}
    (hg : o.guard = none) (m x : Operand) (t : TypeId) (hop : o.op = Op.lookup t m x false)
    (kt et : TypeId) (K : KeyOK P kt ek) (ht : P.underlying t = some (.map kt et)) (hz : ∀ w, (zeroValue et).run P w = .ok (.int .i64 0) w)
    (hm : a.eval m = .map (some b)) (key : α) (hx : a.eval x = ek key) (hM : MapIs w b ek (l.map fun p => (p.1, Value.int .i64 p.2))) (c : Int) (hc : (aget key l).getD 0 = c)
    (hK : wpList P ops Q rest (a.put o.dst (.int .i64 c)) w) :
    wpList P ops Q (o :: rest) a w := by
  refine wpList_lookup_is hg m x t false hop kt et K ht _ hz hm key hx hM _ rfl ?_
  rw [aget_map (Value.int .i64)]
  have : (if false = true then Value.tuple #[((aget key l).map (Value.int .i64)).getD (.int .i64 0), .bool ((aget key l).map (Value.int .i64)).isSome] else ((aget key l).map (Value.int .i64)).getD (.int .i64 0)) = .int .i64 c := by
    rw [← hc]
    cases aget key l <;> rfl
  rw [this]
  exact hK
end
theorem mem_tput {α β : Type} [DecidableEq α] (k : α) (v : β) (l : List (α × β)) (x : α) : x ∈ (aput k v l).map (·.1) ↔ x ∈ l.map (·.1) ∨ x = k := by
  rw [tput_keys]
  split
  · rename_i h
    refine ⟨.inl, fun h' => h'.elim id fun e => ?_⟩
    subst e
    exact Decidable.byContradiction fun hn => by rw [tget_none.2 hn] at h; cases h
  · rw [List.mem_append, List.mem_singleton]
theorem mergeI_srt (l : List Int) (h : l.Nodup) : (l.mergeSort fun x y => decide (x ≤ y)).Pairwise (· < ·) := by
  have h1 := List.pairwise_mergeSort (le := fun x y : Int => decide (x ≤ y)) (by simp; omega) (by simp; omega) l
  have h2 : (l.mergeSort fun x y => decide (x ≤ y)).Nodup := (List.mergeSort_perm l _).nodup_iff.2 h
  refine (h1.and h2).imp ?_
  intro a b h
  have h3 : a ≤ b := by simpa using h.1
  have h4 : a ≠ b := h.2
  omega
def rowAll (l : List (K4 × RR)) (tx : Int) : Prop := ∃ p ∈ l, has (p.2.r.h ++ p.2.r.q) tx = true
theorem rowAll_snoc (l : List (K4 × RR)) (k : K4) (rr : RR) (tx : Int) : rowAll (l ++ [(k, rr)]) tx ↔ rowAll l tx ∨ has (rr.r.h ++ rr.r.q) tx = true := by
  unfold rowAll
  constructor
  · rintro ⟨p, hp, h⟩
    rcases List.mem_append.1 hp with hp | hp
    · exact .inl ⟨p, hp, h⟩
    · rw [List.mem_singleton] at hp; subst hp; exact .inr h
  · rintro (⟨p, hp, h⟩ | h)
    · exact ⟨p, List.mem_append_left _ hp, h⟩
    · exact ⟨_, List.mem_append_right _ (List.mem_singleton.2 rfl), h⟩
theorem own_wishes {w : World} {base g cap n : Nat} {e : TypeId} {l : List Wi} (h : w.ownsRow base e 4 (.slice (some ⟨g, 0, none⟩) n cap) n (l.flatMap Wi.f)) {i : Nat} (hi : i < l.length) :
    w.cell? ⟨g, i * 4, none⟩ = some (.int .i64 l[i].tx) ∧ w.cell? ⟨g, i * 4 + 1, none⟩ = some (.bool l[i].ex) ∧ w.cell? ⟨g, i * 4 + 2, none⟩ = some (.int .i64 l[i].since) ∧ w.cell? ⟨g, i * 4 + 3, none⟩ = some (.bool l[i].ri) := by
  have key : ∀ j, j < 4 → ∀ u, (Wi.f l[i])[j]? = some u → w.cell? ⟨g, i * 4 + j, none⟩ = some u := fun j hj u hu => by
    have hg := flatMap_get Wi.f (c := 4) (fun _ => rfl) l i j l[i] (by simp [hi]) hj
    rw [hu] at hg
    have := h.cells (g := g) rfl (i * 4 + j) u hg
    rw [Addr.add_lit, Nat.zero_add] at this
    exact this
  exact ⟨key 0 (by omega) _ rfl, key 1 (by omega) _ rfl, key 2 (by omega) _ rfl, key 3 (by omega) _ rfl⟩
theorem has_take_succ (l : List Wi) (j : Nat) (hj : j < l.length) (tx : Int) : has (l.take (j + 1)) tx = true ↔ has (l.take j) tx = true ∨ tx = l[j].tx := by
  rw [List.take_succ_eq_append_getElem hj, has_app, Bool.or_eq_true]
  refine or_congr Iff.rfl ?_
  simp [has]
  exact ⟨fun h => h.symm, fun h => h.symm⟩
--@@ (*lock.Table).Txs
theorem zeroI : ∀ w, (zeroValue 3).run Try.prog w = .ok (.int .i64 0) w := fun w => by kernel_rfl
set_option maxHeartbeats 8000000 in
set_option maxRecDepth 100000 in
theorem txs_any (A R M : Nat) (lim : Int) (rs : List (K4 × RR)) (ws : List (Int × K4)) (w : World) (H : TabIs w A R M lim rs ws) (hl : rs.length ≤ 100000) (hle : (tabT lim rs ws).le 100000) (hb : ∀ k, ∀ x ∈ ((tabT lim rs ws).row k).h ++ ((tabT lim rs ws).row k).q, 1 ≤ x.tx ∧ x.tx ≤ 1048576) :
    Calls Try.prog 11 #[.pointer (some ⟨A, 0, none⟩)] w fun e w' => ∃ v L, e = .returned v ∧ TxsOf (tabT lim rs ws) L ∧ w'.ownsRow w.heap.size 3 1 v L.length (L.map (Value.int .i64)) ∧ L.length ≤ 10000000000 ∧ Kept [] w w' := by
  obtain ⟨a0, a1, a2⟩ := H.cells
  have HT := hid H
  have hAw := H.lt A (by simp [tabBs])
  have hRw := H.rows.lt
  have HLE := hid (le_tab.1 hle)
  have HB := hid (show ∀ p ∈ rs, ∀ x ∈ p.2.r.h ++ p.2.r.q, 1 ≤ x.tx ∧ x.tx ≤ 1048576 from fun p hp x hx => hb p.1 x (by
    have : (tabT lim rs ws).row p.1 = p.2.r := Ta.row_mem (by simp [tabT, List.map_map, Function.comp_def]; exact H.kn) (List.mem_map.2 ⟨p, hp, rfl⟩)
    rw [this]; exact hx))
  have hmm := @run_makeMap Try.prog
  clear H hb
  go_enter Try.func11, Try.ntmps11
  go_wp2_with (first | (at_range; refine wpList_range_is rfl _ 51 rfl _ _ Try.underlying51 rfl (HT.out.rows.alloc _) ?_; intro w0 hR hk hsz0; rw [World.size_alloc] at hR hsz0 ⊢))
  go_frame
  have HM0 := hid ((MapIs.made w (Value.int .i64)).kept hk (by simp))
  have HR := hid (show RangeIs w0 R (w.heap.size + 1) K4.v (rowsL rs) from hR)
  have HK := hid (((Kept.refl [] w).alloc (.map #[] 0)).trans hk (fun x hx => by cases hx))
  clear hR hk hmm
  go_loopg [5] rs.length (fun kx s5 wr => ∃ (todo acc : List (K4 × RR)) (l : List (Int × Int)), Aside (MapIs wr w.heap.size (Value.int .i64) (cntI l)) ∧ Aside ((l.map (·.1)).Nodup) ∧ Aside (∀ tx, tx ∈ l.map (·.1) ↔ rowAll acc tx) ∧ l.length ≤ acc.length * 100000 ∧ Aside ((acc ++ todo).Perm rs) ∧ Aside (RangeIs wr R (w.heap.size + 1) K4.v (rowsL todo)) ∧ Aside (Kept [] w wr) ∧ todo.length ≤ kx ∧ w0.heap.size ≤ wr.heap.size)
  case atStart => exact ⟨rs, [], [], HM0.out, List.nodup_nil, fun tx => by simp [rowAll], by simp, List.Perm.refl _, HR.out, HK.out, Nat.le_refl _, Nat.le_refl _⟩
  case round =>
    clear HR HK HM0
    obtain ⟨todo, acc, l, HM, HND, HIN, hll, HPM, HR, HK, hkx, hsz⟩ := hrel
    rename World => wo
    go_wp2_with (first
      | (at_next; go_loud (refine wpList_next_is rfl _ rfl rfl HR.out ?_ ?_); (intro hd0); rotate_left; (intro x u T w1 hp hR1 hk1 hs1 hen; obtain ⟨rr, t', rfl, rfl, hp'⟩ := rows_perm hp; have HP' := hid hp'; have HR1 := hid hR1; have HK1 := hid hk1; clear hp hp' hR1 hk1; refine Here.mk ?_))
      | (go_at_call 24; refine Here.mk ?_))
    · refine Here.of ?_
      have hmem : (x, rr) ∈ rs := HPM.out.subset (List.mem_append_right _ (HP'.out.symm.subset List.mem_cons_self))
      have HKW := hid (HK.out.trans HK1.out (fun x hx => .inr (by simp at hx; omega)))
      have HMW := hid (HM.out.kept HK1.out (by simp))
      have hlr := HLE.out _ hmem
      have hbr := HB.out _ hmem
      have HRI := hid (HT.out.each _ hmem)
      obtain ⟨P, hv, qv, ⟨rh, rq⟩⟩ := rr
      dsimp only at hlr hbr
      obtain ⟨ha, hc, hhv⟩ := ownsRow_slice HRI.out.h
      obtain ⟨qa, qc, hqv⟩ := wrow_slice HRI.out.q
      dsimp only at hqv hhv
      subst hqv
      subst hhv
      have HRJ := hid (show RowIs w P (.slice ha rh.length hc) (.slice qa rq.length qc) ⟨rh, rq⟩ from HRI.out)
      obtain ⟨c0, c1, f0, f1⟩ := (HRJ.out.kept HKW.out (fun _ _ => by simp)).c0
      clear f0 f1
      have hacc : acc.length + todo.length = rs.length := by have := HPM.out.length_eq; simpa using this
      have htl : todo.length = t'.length + 1 := by have := HP'.out.length_eq; simpa using this
      have HPN := hid (show ((acc ++ [(x, (⟨P, .slice ha rh.length hc, .slice qa rq.length qc, ⟨rh, rq⟩⟩ : RR))]) ++ t').Perm rs by rw [List.append_assoc]; exact (HP'.out.symm.append_left acc).trans HPM.out)
      have HSN := hid (fun tx => rowAll_snoc acc x ⟨P, .slice ha rh.length hc, .slice qa rq.length qc, ⟨rh, rq⟩⟩ tx)
      have HBR := hid hbr
      have HS1 := hid hs1
      clear hmem HRI hbr HK1 HM HP' HK HR hs1
      dsimp only at hen HSN ⊢
      have hwl : (rh ++ rq).length ≤ 100000 := by simp; omega
      have HX := hid (fun (w' : World) (hk : Kept [] w1 w') => (show w'.cell? ⟨P, 0, none⟩ = some (.slice ha rh.length hc) ∧ w'.cell? ⟨P, 1, none⟩ = some (.slice qa rq.length qc) from ⟨hk.cell c0 (by simp), hk.cell c1 (by simp)⟩))
      obtain ⟨cl, hcl⟩ : ∃ cl, cl = rh ++ rq := ⟨_, rfl⟩
      have hwl2 : rh.length + rq.length ≤ 100000 := by rw [← List.length_append]; exact hwl
      have HCC := hid (show ∀ (W : World), Kept [] w1 W → W.heap[w1.heap.size]? = some (.cells #[.slice ha rh.length hc, .slice qa rq.length qc] 56 (0, 0)) → Calls Try.prog 22 #[.slice (some ⟨w1.heap.size, 0, none⟩) 2 2] W fun e w' => ∃ v, e = .returned v ∧ w'.ownsRow W.heap.size 59 4 v cl.length (cl.flatMap Wi.f) ∧ Kept [] W w' from fun W hk hB => by
        rw [hcl]
        exact wconcat_any w1.heap.size (.slice ha rh.length hc) (.slice qa rq.length qc) rh rq W hB (own_wrow (HRJ.out.kept (HKW.out.trans hk (fun x hx => by cases hx)) (fun _ _ => by simp)).h) (HRJ.out.kept (HKW.out.trans hk (fun x hx => by cases hx)) (fun _ _ => by simp)).q hwl2)
      rw [← hcl] at HBR hwl
      simp only [← hcl] at HSN
      clear hcl hwl2
      have hclz : (cl.length : Int) ≤ 100000 := by omega
      go_wp2_with fail
      clear c0 c1 hen
      go_region_held3 (fun w' => w'.cell? ⟨P, 0, none⟩ = some (.slice ha rh.length hc) ∧ w'.cell? ⟨P, 1, none⟩ = some (.slice qa rq.length qc))
        ((refine HX.out _ ?_; (repeat (first | assumption | (with_reducible exact Kept.refl _ _) | (with_reducible refine Kept.drew ?_) | (with_reducible refine Kept.alloc ?_ _) | (with_reducible refine Kept.setCell ?_ (by right; simp; try omega) _)))))
        (first
          | (go_at_call 22; refine (HCC.out _ (show Kept [] w1 _ by (repeat (first | assumption | (with_reducible exact Kept.refl _ _) | (with_reducible refine Kept.drew ?_) | (with_reducible refine Kept.alloc ?_ _) | (with_reducible refine Kept.setCell ?_ (by right; simp; try omega) _)))) (by exact heap_alloc_new w1 _)).mono ?_; clear HCC; rintro e w2 ⟨v2, rfl, ho2, hk2'⟩; obtain ⟨va, vc, hv2⟩ := ownsRow_slice ho2; subst hv2; have hk2 : Kept [] w1 w2 := Kept.trans (show Kept [] w1 _ by (repeat (first | assumption | (with_reducible exact Kept.refl _ _) | (with_reducible refine Kept.drew ?_) | (with_reducible refine Kept.alloc ?_ _) | (with_reducible refine Kept.setCell ?_ (by right; simp; try omega) _)))) hk2' (fun x hx => by cases hx)))
      have hszw := HKW.out.size
      have hw1s : w0.heap.size ≤ w1.heap.size := by rw [HS1.out]; exact hsz
      have HO2 := hid (show w2.ownsRow w0.heap.size 59 4 (.slice va cl.length vc) cl.length (cl.flatMap Wi.f) from ownsRow_base ho2 (by simp; omega))
      have HM2 := hid (HMW.out.kept hk2 (by simp))
      have HR2 := hid (HR1.out.kept hk2 (by simp) (by simp))
      have HK2 := hid (HKW.out.trans hk2 (fun x hx => by cases hx))
      have hsz2 : w1.heap.size ≤ w2.heap.size := hk2.size
      clear ho2 hk2 hk2' HX
      rename World => wz
      go_wp2_with fail
      obtain ⟨m5, hm5⟩ : ∃ m5, m5 = acc.length * 100000 := ⟨_, rfl⟩
      have HM5 := hid hm5
      rw [← hm5] at hll
      clear hm5
      go_loopg [29] cl.length (fun kx s29 wr => ∃ (j : Nat) (lj : List (Int × Int)), s29 = .int .i64 j ∧ j ≤ cl.length ∧ cl.length - j ≤ kx ∧ Aside (MapIs wr w.heap.size (Value.int .i64) (cntI lj)) ∧ Aside ((lj.map (·.1)).Nodup) ∧ Aside (∀ tx, tx ∈ lj.map (·.1) ↔ rowAll acc tx ∨ has (cl.take j) tx = true) ∧ lj.length ≤ m5 + j ∧ Aside (RangeIs wr R (w.heap.size + 1) K4.v (rowsL t')) ∧ Aside (Kept [] w wr) ∧ Aside (wr.ownsRow w0.heap.size 59 4 (.slice va cl.length vc) cl.length (cl.flatMap Wi.f)) ∧ w1.heap.size ≤ wr.heap.size)
      case atStart => exact ⟨0, l, by first | rfl | go_num, by omega, by omega, HM2.out, HND.out, fun tx => by rw [HIN.out, List.take_zero]; exact ⟨.inl, fun h => h.elim id (fun h => by cases h)⟩, hll, HR2.out, HK2.out, HO2.out, hsz2⟩
      case round =>
        clear HM2 HR2 HK2 HO2 hsz2 HMW HR1
        obtain ⟨j, lj, rfl, hj, hjx, HM2, HN2, HI2, hl2, HR2, HK2, HO2, hsz2⟩ := hrel
        rename World => wi
        by_cases hb : j < cl.length
        · have hltz : (j : Int) < (cl.length : Int) := by omega
          obtain ⟨g, hva⟩ : ∃ g, va = some ⟨g, 0, none⟩ := by
            rcases HO2.out.2 with ⟨hv, hz⟩ | ⟨g, cap, cur, hv, _⟩
            · omega
            · cases hv; exact ⟨g, rfl⟩
          subst hva
          obtain ⟨d0, d1, d2, d3⟩ := own_wishes HO2.out hb
          have HTI := hid (fun tx => has_take_succ cl j hb tx)
          generalize cl[j] = y at *
          obtain ⟨x1, x2, x3, x4⟩ := y
          dsimp only at d0 d1 d2 d3 HTI
          obtain ⟨c, hcv⟩ : ∃ c, (aget x1 lj).getD 0 = c := ⟨_, rfl⟩
          obtain ⟨c', hcw⟩ : ∃ c', IntKind.i64.wrap (c + 1) = c' := ⟨_, rfl⟩
          have HCV := hid hcv
          clear hcv
          have HKA := hid ((Kept.refl [] wi).alloc (.cells #[.int .i64 x1, .bool x2, .int .i64 x3, .bool x4] 59))
          have HMA := hid (HM2.out.kept HKA.out (by simp))
          have HRA := hid (HR2.out.kept HKA.out (by simp) (by simp))
          have HOA := hid (own_below HO2.out HKA.out (by simp))
          go_wp2_with (first
            | (at_lookup; refine wpList_lookup_ints rfl _ _ 50 rfl 3 3 (KeyOK.int (k := .i64) Try.underlying3) Try.underlying50 zeroI rfl x1 rfl HMA.out c HCV.out ?_)
            | (at_mapUpdate; refine Here.mk ?_))
          refine Here.of ?_
          refine wpList_mapUpdate_is rfl _ _ _ 50 rfl 3 3 (KeyOK.int (k := .i64) Try.underlying3) Try.underlying50 rfl x1 rfl (.int .i64 c') rfl HMA.out ?_
          intro w5 hM5 hK5
          rw [cntI, aput_map (Value.int .i64)] at hM5
          have HMM := hid (show MapIs w5 w.heap.size (Value.int .i64) (cntI (aput x1 c' lj)) from hM5)
          have HR5 := hid (HRA.out.kept hK5 (by simp; omega) (by simp))
          have HO5 := hid (own_below HOA.out hK5 (fun x hx => by simp at hx; omega))
          have HK5 := hid ((HK2.out.trans HKA.out (fun x hx => by cases hx)).trans hK5 (fun x hx => .inr (by simp at hx; omega)))
          have hsz5 : w1.heap.size ≤ w5.heap.size := by have := hK5.size; simp at this; omega
          have hal := aput_len x1 c' lj
          have HN5 := hid (tput_nodup x1 c' lj HN2.out)
          have HI5 := hid (fun tx => mem_tput x1 c' lj tx)
          clear hM5 hK5 d0 d1 d2 d3 hcw
          go_wp2_with fail
          go_roundg (cl.length - (j + 1))
          case measure => omega
          case rel => exact ⟨j + 1, aput x1 c' lj, by first | rfl | go_num, by omega, Nat.le_refl _, HMM.out, HN5.out, fun tx => by rw [HI5.out, HI2.out, HTI.out, or_assoc], by split at hal <;> omega, HR5.out, HK5.out, HO5.out, hsz5⟩
        · obtain rfl : j = cl.length := by omega
          have hltz : ¬ (cl.length : Int) < (cl.length : Int) := by omega
          go_wp2_with fail
          go_roundg t'.length
          case measure => omega
          case rel => exact ⟨t', _, lj, HM2.out, HN2.out, fun tx => by rw [HI2.out, List.take_length]; exact (HSN.out tx).symm, by rw [List.length_append, List.length_singleton]; have := HM5.out; omega, HPN.out, HR2.out, HK2.out, Nat.le_refl _, by omega⟩
    · refine Here.of ?_
      have ht : todo = [] := by
        cases todo with
        | nil => rfl
        | cons p t => simp [rowsL] at hd0
      subst ht
      have hacc : acc.length = rs.length := by have := HPM.out.length_eq; simpa using this
      have hll2 : l.length ≤ 10000000000 := by omega
      have HALL := hid (show ∀ tx, tx ∈ l.map (·.1) ↔ ∃ p ∈ (tabT lim rs ws).rows, has p.2.h tx = true ∨ has p.2.q tx = true from fun tx => by
        rw [HIN.out]
        unfold rowAll tabT
        simp only [List.mem_map, has_app, Bool.or_eq_true]
        constructor
        · rintro ⟨p, hp, h⟩
          exact ⟨(p.1, p.2.r), ⟨p, HPM.out.subset (List.mem_append_left _ hp), rfl⟩, h⟩
        · rintro ⟨q, ⟨p, hp, rfl⟩, h⟩
          have := HPM.out.symm.subset hp
          rw [List.append_nil] at this
          exact ⟨p, this, h⟩)
      have hkeys : (cntI l).map (·.1) = l.map (·.1) := by simp [cntI, List.map_map, Function.comp_def]
      have hcl : (cntI l).length = l.length := by simp [cntI]
      obtain ⟨D, hown, hperm, hsize⟩ := HM.out.owns (k := 3) Try.underlying3 (by rw [hkeys]; exact HND.out) (fun p hp => by
        have hm : p.1 ∈ l.map (·.1) := by rw [← hkeys]; exact List.mem_map.2 ⟨p, hp, rfl⟩
        rw [HIN.out] at hm
        obtain ⟨q, hq, hm⟩ := hm
        obtain ⟨x, hx, hxt⟩ := has_iff.1 hm
        have := HB.out q (HPM.out.subset (List.mem_append_left _ hq)) x hx
        rw [hxt] at this
        simp [Lit.wf, IntKind.min, IntKind.max, IntKind.signed, IntKind.bits]; omega) (by rw [hcl]; unfold maxLen; omega)
      rw [hkeys] at hperm
      have HKK := hid (Try.maps_Keys_24 (some w.heap.size) wo)
      have HSS := hid (Try.slices_Sorted_keys_23_24 w.heap.size _ D anyR wo hown (by rw [hsize, hcl]; unfold maxLen; omega) (by rw [hsize, hcl]; omega))
      have HP := hid hperm
      clear hperm hsize hown hkeys hcl
      refine (callsIn_wide.1 HKK.out).mono ?_
      rintro e w1 ⟨rfl, rfl⟩
      go_wp2_with fail
      refine (callsIn_wide.1 HSS.out).mono ?_
      rintro e w2 ⟨v, ss, rfl, hS, hrow, hnil, hb⟩
      have hp2 := hS.trans HP.out
      have hlen : ss.length = (ss.mergeSort fun x y => decide (x ≤ y)).length := (List.mergeSort_perm ss _).length_eq.symm
      rw [hlen] at hrow
      have HRW := hid hrow
      have HT2 := hid (show TxsOf (tabT lim rs ws) (ss.mergeSort fun x y => decide (x ≤ y)) from ⟨mergeI_srt ss (hp2.nodup_iff.2 HND.out), fun tx => by rw [(List.mergeSort_perm ss _).mem_iff, hp2.mem_iff, HALL.out]⟩)
      have hl3 : (ss.mergeSort fun x y => decide (x ≤ y)).length ≤ 10000000000 := by rw [← hlen, hp2.length_eq, List.length_map]; exact hll2
      have HKE := hid ((HK.out.alloc (.cells #[.map (some w.heap.size)] 50)).then_below hb (by simp; have := HK.out.size; omega))
      clear hS hrow hnil hp2 hlen hb
      go_wp2
      go_ret
      refine ⟨v, _, rfl, HT2.out, ownsRow_base HRW.out (by simp; have := HK.out.size; omega), hl3, HKE.out⟩
--@@ end
end Go.Proofs.Ytiheoddlknbomaa
