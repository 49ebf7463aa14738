/- A key of the table goes on. -/
import Derived.Test.YtiheoddlknbomaaLockTab3
set_option linter.all false
namespace Go.Proofs.Ytiheoddlknbomaa
open Go.RowKit Go.Shelf Go.Lib Go.Sort Go.Proofs
set_option linter.unusedVariables false
set_option linter.unusedSimpArgs false

theorem onR_len : ∀ (q h : List Wi), (onR h q).2.length ≤ q.length
  | [], h => by rw [onR_nil]; exact Nat.le_refl _
  | x :: q, h => by
    cases hm : mayR h x with
    | true => rw [onR_go hm]; have := onR_len q (grantR h x); simp; omega
    | false => rw [onR_stop hm]; exact Nat.le_refl _
theorem onR_tot : ∀ (q h : List Wi), (onR h q).1.length + (onR h q).2.length ≤ h.length + q.length
  | [], h => by rw [onR_nil]; exact Nat.le_refl _
  | x :: q, h => by
    cases hm : mayR h x with
    | true => rw [onR_go hm]; have := onR_tot q (grantR h x); have := grantR_len h x; simp; omega
    | false => rw [onR_stop hm]; exact Nat.le_refl _
--@@ (*lock.Table).on
theorem tab_on {lim : Int} {rs rs1 : List (K4 × RR)} {ws : List (Int × K4)} {k : K4} {P n : Nat} {hv' qv' : Value} {rh rq oh oq : List Wi} (hN1 : tabT lim rs1 ws = (tabT lim rs ws).need k) (hR1 : (⟨rh, rq⟩ : Ro) = (tabT lim rs ws).row k) (ho : (oh, oq) = onR rh rq) (hn : rq.length = n + oq.length) :
    (tabT lim rs ws).on k = if oh.length + oq.length = 0 then tabT lim (adel k (aput k (⟨P, hv', qv', ⟨oh, oq⟩⟩ : RR) rs1)) ((rq.take n).foldl (fun ws x => adel x.tx ws) ws) else tabT lim (aput k (⟨P, hv', qv', ⟨oh, oq⟩⟩ : RR) rs1) ((rq.take n).foldl (fun ws x => adel x.tx ws) ws) := by
  unfold Ta.on
  rw [← hR1, ← hN1]
  dsimp only
  rw [← ho]
  dsimp only
  rw [show rq.length - oq.length = n by omega]
  have h1 : (aput k (⟨P, hv', qv', ⟨oh, oq⟩⟩ : RR) rs1).map (fun p => (p.1, p.2.r)) = aput k ⟨oh, oq⟩ (rs1.map fun p => (p.1, p.2.r)) := (aput_map (fun x : RR => x.r) k ⟨P, hv', qv', ⟨oh, oq⟩⟩ rs1).symm
  have h2 : (adel k (aput k (⟨P, hv', qv', ⟨oh, oq⟩⟩ : RR) rs1)).map (fun p => (p.1, p.2.r)) = adel k ((aput k (⟨P, hv', qv', ⟨oh, oq⟩⟩ : RR) rs1).map fun p => (p.1, p.2.r)) := (adel_map (fun x : RR => x.r) k _).symm
  by_cases hz : oh.length + oq.length = 0
  · rw [if_pos hz, if_pos hz]
    unfold tabT Ta.setRow
    dsimp only
    rw [h2, h1]
  · rw [if_neg hz, if_neg hz]
    unfold tabT Ta.setRow
    dsimp only
    rw [h1]
theorem row_len {lim : Int} {rs : List (K4 × RR)} {ws : List (Int × K4)} {k : K4} (hl : ∀ p ∈ rs, p.2.r.h.length + p.2.r.q.length < 1000000) : ((tabT lim rs ws).row k).h.length + ((tabT lim rs ws).row k).q.length < 1000000 := by
  unfold Ta.row tabT
  dsimp only
  rw [aget_map (fun x : RR => x.r)]
  cases h : aget k rs with
  | none => simp
  | some x => exact hl _ (tget_mem h)
section
variable {w w' : World} {A R M : Nat} {lim : Int} {rs : List (K4 × RR)} {ws : List (Int × K4)} {k : K4} {rr : RR}
theorem TabIs.setw (H : TabIs w A R M lim rs ws) {ws' : List (Int × K4)} (hM : MapIs w' M (Value.int .i64) (ws'.map fun p => (p.1, K4.v p.2))) (hn : (ws'.map (·.1)).Nodup) (hK : Kept [M] w w') : TabIs w' A R M lim rs ws' where
  blk := (hK.block A (H.lt A (by simp [tabBs])) (by simp; exact H.hd.2.1)).trans H.blk
  rows := H.rows.kept hK (by simp; exact H.hd.2.2)
  waits := hM
  each := fun p hp => (H.each p hp).kept hK fun b hb hx => by simp at hx; subst hx; exact (H.out p hp).2.2 hb
  hd := H.hd
  out := H.out
  dis := H.dis
  kn := H.kn
  wn := hn
theorem TabIs.delRow (H : TabIs w A R M lim rs ws) (hM : MapIs w' R K4.v (adel k (rs.map fun p => (p.1, Value.pointer (some ⟨p.2.P, 0, none⟩))))) (hK : Kept [R] w w') : TabIs w' A R M lim (adel k rs) ws where
  blk := (hK.block A (H.lt A (by simp [tabBs])) (by simp; exact H.hd.1)).trans H.blk
  rows := by rw [adel_map (fun x : RR => Value.pointer (some ⟨x.P, 0, none⟩))] at hM; exact hM
  waits := H.waits.kept hK (by simp; exact H.hd.2.2.symm)
  each := fun p hp => (H.each p ((tdel_sub k rs).subset hp)).kept hK fun b hb hx => by simp at hx; subst hx; exact (H.out p ((tdel_sub k rs).subset hp)).2.1 hb
  hd := H.hd
  out := fun p hp => H.out p ((tdel_sub k rs).subset hp)
  dis := fun p hp q hq => H.dis p ((tdel_sub k rs).subset hp) q ((tdel_sub k rs).subset hq)
  kn := tdel_nodup k rs H.kn
  wn := H.wn
theorem tabBs_turn {r' : RR} (hk : aget k rs = some rr) (hn : (rs.map (·.1)).Nodup) (hs : ∀ b ∈ r'.bs, b ∈ rr.bs ∨ w.heap.size ≤ b) : ∀ b ∈ tabBs A R M (aput k r' rs), b ∈ tabBs A R M rs ∨ w.heap.size ≤ b := fun b hb => by
  simp only [tabBs, List.mem_cons, List.mem_flatMap] at hb ⊢
  rcases hb with h | h | h | ⟨p, hp, h⟩
  · exact .inl (.inl h)
  · exact .inl (.inr (.inl h))
  · exact .inl (.inr (.inr (.inl h)))
  · rcases mem_aput hn hp with rfl | ⟨h1, _⟩
    · rcases hs b h with h | h
      · exact .inl (.inr (.inr (.inr ⟨(k, rr), tget_mem hk, h⟩)))
      · exact .inr h
    · exact .inl (.inr (.inr (.inr ⟨p, h1, h⟩)))
theorem bs_tab (hk : aget k rs = some rr) : ∀ b ∈ rr.bs, b ∈ tabBs A R M rs := fun b hb => by
  simp only [tabBs, List.mem_cons, List.mem_flatMap]
  exact .inr (.inr (.inr ⟨(k, rr), tget_mem hk, hb⟩))
end
set_option maxHeartbeats 4000000 in
set_option maxRecDepth 100000 in
theorem tabOn_any (A R M : Nat) (lim : Int) (rs : List (K4 × RR)) (ws : List (Int × K4)) (k : K4) (w : World) (H : TabIs w A R M lim rs ws) (hl : ∀ p ∈ rs, p.2.r.h.length + p.2.r.q.length < 1000000) :
    Calls Try.prog 32 #[.pointer (some ⟨A, 0, none⟩), k.v] w fun e w' => e = .returned (.tuple #[]) ∧ ∃ rs' ws', TabIs w' A R M lim rs' ws' ∧ tabT lim rs' ws' = (tabT lim rs ws).on k ∧ Kept (tabBs A R M rs) w w' ∧ (∀ b ∈ tabBs A R M rs', b ∈ tabBs A R M rs ∨ w.heap.size ≤ b) := by
  have hA := H.lt A (by simp [tabBs])
  have hne : w.heap.size ≠ A := by omega
  have HLT := hid H.lt
  have H1 := hid (H.kept ((Kept.refl [] w).alloc (.cells k.f.toArray 32)) (fun _ _ => by simp))
  have HRow := hid (row_any A R M lim rs ws k (w.alloc (.cells k.f.toArray 32)) H1.out)
  have HW := hid ((Kept.refl [] w).alloc (.cells k.f.toArray 32))
  have HSK := hid (fun S W (hK : Kept S (w.alloc (.cells k.f.toArray 32)) W) (hS : w.heap.size ∉ S) j u h => hK.cell (new_cell w k.f 32 j u h) hS)
  have hb0 : ∀ b ∈ tabBs A R M rs, b ≠ w.heap.size := fun b hb e => by have := H.lt b hb; omega
  have HB0 := hid hb0
  clear H hb0
  have HK := hid (rfl : k = k)
  obtain ⟨k', hk'⟩ : ∃ k', k' = k := ⟨_, rfl⟩
  rw [← hk'] at HRow
  have HKE := hid hk'
  clear hk' HK
  have hq0 := HSK.out [] _ (Kept.refl [] _) (by simp)
  obtain ⟨k1, k2, k3, k4⟩ := k
  simp only [K4.f] at hq0
  have q0 := hq0 0 _ rfl
  have q1 := hq0 1 _ rfl
  have q2 := hq0 2 _ rfl
  have q3 := hq0 3 _ rfl
  clear hq0
  rw [HKE.out] at HRow
  simp only [K4.v, K4.f] at HRow HW HSK H1 ⊢
  go_enter Try.func32, Try.ntmps32
  go_wp2_with (first
    | (go_at_call 30; refine HRow.out.mono ?_; clear HRow; rintro e w1 ⟨rs1, rr, rfl, hT1, hk1, hn1, hr1, hK1, hb1⟩; have HT1 := hid hT1; have HK1 := hid hk1; have HN1 := hid hn1; have HR1 := hid hr1; have HKept1 := hid hK1; have HB1 := hid hb1; obtain ⟨qa, qc, hqv⟩ := wrow_slice (HT1.out.at' HK1.out).q; obtain ⟨c0, c1, f0, f1⟩ := (HT1.out.at' HK1.out).c0; have HQV := hid hqv; rw [hqv] at c1; clear hT1 hk1 hn1 hr1 hK1 hb1 hqv q0 q1 q2 q3)
    | (go_at_call 48; refine Here.mk ?_))
  refine Here.of ?_
  have hln := row_len (lim := lim) (ws := ws) (k := ⟨k1, k2, k3, k4⟩) hl
  rw [← HR1.out] at hln
  obtain ⟨rP, rhv, rqv, ⟨rh, rq⟩⟩ := rr
  dsimp only at *
  refine (rowOn_any rP rhv rqv ⟨rh, rq⟩ w1 (HT1.out.at' HK1.out) (by dsimp only; omega)).mono ?_
  rintro e w2 ⟨rfl, hv', qv', hR2, hs2, hk2, hq2⟩
  dsimp only at hR2 hq2
  have HO := hid (rfl : onR rh rq = onR rh rq)
  have hol := onR_len rq rh
  have hot := onR_tot rq rh
  obtain ⟨o, ho⟩ : ∃ o, o = onR rh rq := ⟨_, rfl⟩
  rw [← ho] at hR2 hol hot
  obtain ⟨oh, oq⟩ := o
  dsimp only at hR2 hol hot
  have HOE := hid ho
  clear ho HO
  have HT2 := hid (HT1.out.turn HK1.out hR2 hs2 hk2)
  have HBT := hid (tabBs_turn (w := w1) (A := A) (R := R) (M := M) (r' := ⟨rP, hv', qv', ⟨oh, oq⟩⟩) HK1.out HT1.out.kn hs2)
  have HKN := hid (fun b hb => bs_tab (A := A) (R := R) (M := M) HK1.out b hb)
  have HKept2 := hid hk2
  rw [HQV.out] at hq2
  obtain ⟨n, hn⟩ : ∃ n, rq.length = n + oq.length := ⟨rq.length - oq.length, by omega⟩
  have HQ2 := hid hq2
  have HN := hid hn
  obtain ⟨ha, hc, hhv⟩ := ownsRow_slice hR2.h
  obtain ⟨qb, qd, hqv'⟩ := wrow_slice hR2.q
  obtain ⟨c0, c1, f0, f1⟩ := hR2.c0
  rw [hhv] at c0
  rw [hqv'] at c1
  dsimp only at c0 c1
  have HHV := hid hhv
  have HQB := hid hqv'
  clear hR2 hs2 hk2 hq2 hhv hqv' hol
  rename World => wy
  go_upto_region 4 with (fail)
  go_cut [26, 27, 28] (fun s26 s27 s28 wx => s26 = .slice qa n qc ∧ s27 = .int .i64 n ∧ s28 = .int .i64 0 ∧ wx = wy)
  case first =>
    have hmx : n ≤ 9223372036854775807 := by omega
    rcases HQ2.out with ⟨h1, h2⟩ | ⟨g, off, cap, sz, h1, h2⟩
    · injection h1 with e1 e2 e3
      subst e1
      subst e3
      have hn0 : n = 0 := by omega
      have ho0 : oq.length = 0 := by omega
      subst hn0
      clear hn e2 h2
      go_wp2_with fail
      go_meet
      exact ⟨rfl, rfl, rfl, rfl⟩
    · injection h1 with e1 e2 e3
      subst e1
      subst e3
      have hle := h2.le
      have hmx2 := h2.mx
      have hnc : (n : Int) ≤ (qc : Int) := by omega
      clear h2
      go_wp2_with fail
      go_meet
      exact ⟨rfl, rfl, rfl, rfl⟩
  case rest =>
  obtain ⟨rfl, rfl, rfl, hwy⟩ := hcut
  subst hwy
  clear c0 c1 f0 f1 hne
  rename World => wy
  obtain ⟨rs2, hrs2⟩ : ∃ rs2, rs2 = aput ⟨k1, k2, k3, k4⟩ (⟨rP, hv', qv', ⟨oh, oq⟩⟩ : RR) rs1 := ⟨_, rfl⟩
  rw [← hrs2] at HT2 HBT
  have HG2 := hid (show aget ⟨k1, k2, k3, k4⟩ rs2 = some ⟨rP, hv', qv', ⟨oh, oq⟩⟩ by rw [hrs2, tget_put, if_pos rfl])
  have HRS2 := hid hrs2
  clear hrs2
  have HMQ := hid (show M ∉ (Value.slice qa rq.length qc).ownBlock.toList from fun hx => (HT1.out.out _ (tget_mem HK1.out)).2.2 (by rw [← HQV.out] at hx; simp only [RR.bs, rowBs, List.mem_cons, List.mem_append]; exact .inr (.inr hx)))
  go_wp2_with fail
  go_loopg [28] n (fun kx s28 wr => ∃ i : Nat, s28 = .int .i64 i ∧ i ≤ n ∧ n - i ≤ kx ∧ Aside (TabIs wr A R M lim rs2 ((rq.take i).foldl (fun ws x => adel x.tx ws) ws)) ∧ Aside (Kept [M] wy wr))
  case atStart => exact ⟨0, by first | rfl | go_num, by omega, by omega, HT2.out, Kept.refl _ _⟩
  case round =>
    obtain ⟨i, rfl, hi, hix, HT, HKL⟩ := hrel
    by_cases hlt : i < n
    · have hltz : (i : Int) < (n : Int) := by omega
      have hiq : i < rq.length := by omega
      rcases HQ2.out with ⟨_, h2⟩ | ⟨g, off, cap, sz, h1, h2⟩
      · rw [h2] at hiq; simp at hiq
      injection h1 with e1 e2 e3
      subst e1
      subst e3
      have hb := h2.kept HKL.out (fun hx => by have := HMQ.out; simp [Value.ownBlock] at this; simp at hx; exact this hx.symm)
      obtain ⟨d0, d1, d2, d3⟩ := wish_cells (fun j u hj => hb.cell hj) hiq
      have HTK := hid (show rq.take (i + 1) = rq.take i ++ [rq[i]] by rw [List.take_succ_eq_append_getElem hiq])
      obtain ⟨a0, a1, a2⟩ := HT.out.cells
      have hAl := HT.out.lt A (by simp [tabBs])
      have hAne : wr.heap.size ≠ A := by omega
      clear h2 hb
      generalize rq[i] = x at *
      obtain ⟨x1, x2, x3, x4⟩ := x
      dsimp only at d0 d1 d2 d3
      have HTA := hid (HT.out.kept (((Kept.refl [] wr).alloc (.cells #[.int .i64 x1, .bool x2, .int .i64 x3, .bool x4] 59)).drew) (fun _ _ => by simp))
      go_wp2_with fail
      refine region_tail 6 (by kernel_rfl) (by kernel_rfl) ?_
      simp only [List.take_succ_cons, List.take_zero, List.drop_succ_cons, List.drop_zero]
      repeat still_step
      refine wpStill_nil ?_
      go_wp2_with (at_delete; refine wpList_delete_is rfl _ _ 52 3 rfl 3 32 (KeyOK.int (k := .i64) Try.underlying3) Try.underlying52 rfl x1 rfl HTA.out.waits ?_; intro w5 hM5 hK5)
      have HT5 := hid (HTA.out.setw (ws' := adel x1 ((rq.take i).foldl (fun ws x => adel x.tx ws) ws)) (by rw [adel_map K4.v] at hM5; exact hM5) (tdel_nodup _ _ HTA.out.wn) hK5)
      have HK5 := hid ((HKL.out.trans (((Kept.refl [M] wr).alloc (.cells #[.int .i64 x1, .bool x2, .int .i64 x3, .bool x4] 59)).drew) (fun x hx => .inl hx)).trans hK5 (fun x hx => .inl hx))
      clear hM5 hK5 d0 d1 d2 d3 a0 a1 a2
      go_roundg (n - (i + 1))
      case measure => omega
      case rel => exact ⟨i + 1, by first | rfl | go_num, by omega, Nat.le_refl _, by show TabIs _ _ _ _ _ _ _; rw [HTK.out, List.foldl_append]; exact HT5.out, HK5.out⟩
    · obtain rfl : i = n := by omega
      have hltz : ¬ (i : Int) < (i : Int) := by omega
      obtain ⟨c0, c1, f0, f1⟩ := (HT.out.at' HG2.out).c0
      dsimp only at c0 c1
      rw [HHV.out] at c0
      rw [HQB.out] at c1
      have HALL0 := hid (show Kept (tabBs A R M rs) (w.alloc (.cells #[.int .u8 (k1.toNat : Int), .int .u8 (k2.toNat : Int), .int .u8 (k3.toNat : Int), .int .u8 (k4.toNat : Int)] 32)) wr from ((HKept1.out.mono (fun x hx => by simp at hx; subst hx; simp [tabBs])).trans HKept2.out (fun x hx => HB1.out x (HKN.out x hx))).trans HKL.out (fun x hx => .inl (by simp at hx; subst hx; simp [tabBs])))
      have HALL := hid ((HW.out.mono (T := tabBs A R M rs) (fun x hx => by cases hx)).trans HALL0.out (fun x hx => .inl hx))
      have HSUB := hid (show ∀ b ∈ tabBs A R M rs2, b ∈ tabBs A R M rs ∨ w.heap.size ≤ b from fun b hb => by
        rcases HBT.out b hb with h | h
        · rcases HB1.out b h with h | h
          · exact .inl h
          · exact .inr (by simp at h; omega)
        · have := HKept1.out.size; simp at this; exact .inr (by omega))
      have heq := tab_on (P := rP) (hv' := hv') (qv' := qv') HN1.out HR1.out HOE.out HN.out
      rw [← HRS2.out] at heq
      by_cases hz : oh.length + oq.length = 0
      · rw [if_pos hz] at heq
        have HEQ := hid heq
        have hzb : ((oh.length : Int) + (oq.length : Int) == 0) = true := by rw [beq_iff_eq]; omega
        have q0 := HSK.out _ wr HALL0.out (fun hx => HB0.out _ hx rfl) 0 _ rfl
        have q1 := HSK.out _ wr HALL0.out (fun hx => HB0.out _ hx rfl) 1 _ rfl
        have q2 := HSK.out _ wr HALL0.out (fun hx => HB0.out _ hx rfl) 2 _ rfl
        have q3 := HSK.out _ wr HALL0.out (fun hx => HB0.out _ hx rfl) 3 _ rfl
        obtain ⟨a0, a1, a2⟩ := HT.out.cells
        have hwz : IntKind.i64.wrap ((oh.length : Int) + (oq.length : Int)) = (oh.length : Int) + (oq.length : Int) := by rw [IntKind.wrap_i64]; omega
        clear heq hz
        go_wp2_with fail
        go_quiet (fail)
        go_wp2_with fail
        clear hwz
        refine region_tail 5 (by kernel_rfl) (by kernel_rfl) ?_
        simp only [List.take_succ_cons, List.take_zero, List.drop_succ_cons, List.drop_zero]
        repeat still_step
        refine wpStill_nil ?_
        have HTD := hid (HT.out.kept (((Kept.refl [] wr).drewN nq).drew) (fun _ _ => by simp))
        go_wp2_with (at_delete; refine wpList_delete_is rfl _ _ 51 32 rfl 32 55 keyK Try.underlying51 rfl ⟨k1, k2, k3, k4⟩ rfl HTD.out.rows ?_; intro w5 hM5 hK5)
        go_returns
        exact ⟨rfl, _, _, HTD.out.delRow hM5 hK5, HEQ.out.symm, (HALL.out.trans (((Kept.refl [R] wr).drewN nq).drew) (fun x hx => .inl (by simp at hx; subst hx; simp [tabBs]))).trans hK5 (fun x hx => .inl (by simp at hx; subst hx; simp [tabBs])), fun b hb => HSUB.out b (by
          simp only [tabBs, List.mem_cons, List.mem_flatMap] at hb ⊢
          rcases hb with h | h | h | ⟨p, hp, h⟩
          · exact .inl h
          · exact .inr (.inl h)
          · exact .inr (.inr (.inl h))
          · exact .inr (.inr (.inr ⟨p, (tdel_sub _ _).subset hp, h⟩)))⟩
      · rw [if_neg hz] at heq
        have HEQ := hid heq
        have hzb : ((oh.length : Int) + (oq.length : Int) == 0) = false := by rw [beq_eq_false_iff_ne]; omega
        have hwz : IntKind.i64.wrap ((oh.length : Int) + (oq.length : Int)) = (oh.length : Int) + (oq.length : Int) := by rw [IntKind.wrap_i64]; omega
        clear heq hz
        go_wp2_with fail
        go_quiet (fail)
        go_wp2_with fail
        go_returns
        exact ⟨rfl, rs2, _, HT.out.kept ((Kept.refl [] wr).drewN _) (fun _ _ => by simp), HEQ.out.symm, HALL.out.drewN _, HSUB.out⟩
--@@ end
end Go.Proofs.Ytiheoddlknbomaa
