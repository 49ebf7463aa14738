/- The player does a record. -/
import Derived.Test.YtpcpeoejcnndhaaGreatM8
import Derived.Test.YtpcpeoejcnndhaaGreatM2
import Derived.Deep.DeepCutAuto
import Derived.Deep.CutBlock
set_option linter.all false
namespace Go.Proofs.YtpcpeoejcnndhaaGreat
open Go.RowKit Go.Shelf Go.Lib Go.Sort Go.Proofs
theorem box_cells {w W : World} {t : TypeId} {S : List Nat} (r : Rc) (hK : Kept S (w.alloc (.cells r.f.toArray t)) W) (h : w.heap.size ∉ S) :
    W.cell? ⟨w.heap.size, 0, none⟩ = some (.int .i64 r.kind) ∧ W.cell? ⟨w.heap.size, 1, none⟩ = some (.int .i64 r.tx) ∧ W.cell? ⟨w.heap.size, 2, none⟩ = some (.int .u16 (r.mask : Int)) ∧ W.cell? ⟨w.heap.size, 3, none⟩ = some (.int .u8 (r.key.a.toNat : Int)) ∧ W.cell? ⟨w.heap.size, 4, none⟩ = some (.int .u8 (r.key.b.toNat : Int)) ∧ W.cell? ⟨w.heap.size, 5, none⟩ = some (.int .u8 (r.key.c.toNat : Int)) ∧ W.cell? ⟨w.heap.size, 6, none⟩ = some (.int .u8 (r.key.d.toNat : Int)) ∧ W.cell? ⟨w.heap.size, 7, none⟩ = some (.bool r.old.there) ∧ W.cell? ⟨w.heap.size, 8, none⟩ = some (.int .i64 r.old.n) ∧ W.cell? ⟨w.heap.size, 9, none⟩ = some (.bool r.new.there) ∧ W.cell? ⟨w.heap.size, 10, none⟩ = some (.int .i64 r.new.n) :=
  ⟨hK.cell (new_cell w r.f t 0 _ rfl) h, hK.cell (new_cell w r.f t 1 _ rfl) h, hK.cell (new_cell w r.f t 2 _ rfl) h, hK.cell (new_cell w r.f t 3 _ rfl) h, hK.cell (new_cell w r.f t 4 _ rfl) h, hK.cell (new_cell w r.f t 5 _ rfl) h, hK.cell (new_cell w r.f t 6 _ rfl) h, hK.cell (new_cell w r.f t 7 _ rfl) h, hK.cell (new_cell w r.f t 8 _ rfl) h, hK.cell (new_cell w r.f t 9 _ rfl) h, hK.cell (new_cell w r.f t 10 _ rfl) h⟩
--@@ (*redo.player).one
section
variable {w w' : World} {n0 A m lo : Nat} {bv tv tv' : Value} {ws : List (Int × Wo)} {p : Pl}
theorem PlayIs.appended (H : PlayIs w n0 A m bv tv lo ws p) (hl : 0 ≤ p.left) {S : List Nat} (hk : Kept S w w') (hS : ∀ x ∈ S, tv.ownBlock = some x) {q : Pr} (hown : w'.ownsRow lo 57 6 tv' (p.taken.length + 1) (p.taken.flatMap Pr.f ++ q.f)) :
    PlayIs (w'.setCell ⟨A, 3, none⟩ tv') n0 A m bv tv' lo ws ⟨p.base, p.works, p.left, p.taken ++ [q]⟩ ∧ Below n0 w (w'.setCell ⟨A, 3, none⟩ tv') := by
  have hT := H.tk hl
  have hfar : ∀ b ∈ playBs A m ws, b ∉ S := fun b hb hx => own_far hT.own (H.not_pairs b hb) (hS b hx)
  have hlo : ∀ x ∈ S, lo ≤ x := fun x hx => (hT.own.lt x (hS x hx)).1
  have hbase : PrF n0 w' bv p.base := H.base.kept_of hk fun a n c hv hn hb => by
    have := hT.far a n c hv hn
    have := hlo _ hb
    omega
  have hA := H.lt A (by simp [playBs])
  have hblk : w'.heap[A]? = some (.cells #[bv, .map (some m), .int .i64 p.left, tv] 71 (0, 0)) := (hk.block A hA (hfar A (by simp [playBs]))).trans H.blk
  have hX : PlayIs w' n0 A m bv tv lo ws ⟨p.base, p.works, -1, p.taken⟩ ∨ True := .inr trivial
  have hK2 : Kept [A] w' (w'.setCell ⟨A, 3, none⟩ tv') := (Kept.refl [A] w').setCell (.inl (by simp)) _
  have hAo : ∀ x, tv'.ownBlock = some x → x ∉ [A] := fun x hx hb => by
    simp only [List.mem_singleton] at hb
    subst hb
    refine own_far hown (fun cs fr e => ?_) hx
    rw [hblk] at e; cases e
  refine ⟨⟨heap_put hblk 3 tv', ?_, fun _ => ⟨?_, hT.low, hT.far, Nat.le_trans hT.hi (Nat.le_trans hk.size hK2.size)⟩, ?_, fun x hx => ?_, H.eq, H.nd, H.low, H.kn⟩, ?_⟩
  · exact hbase.kept_of hK2 fun a n c hv hn hb => by
      simp only [List.mem_singleton] at hb
      exact hbase.far (small_cells hblk (by simp)) a n c hv hn hb
  · have := ownK_kept hown hK2 hAo
    simpa using this
  · exact (H.map.kept hk (hfar m (by simp [playBs]))).kept hK2 (by simp [H.ne_A.1])
  · have hm := mem_bs (A := A) (m := m) hx
    exact ((H.each x hx).kept hk (hfar _ hm.1) (hfar _ hm.2)).kept hK2 (by simp [(H.ne_A.2 x hx).1]) (by simp [(H.ne_A.2 x hx).2])
  · refine ((hk.mono (T := A :: S) (fun x hx => List.mem_cons_of_mem _ hx)).trans hK2 (fun x hx => .inl (by simp at hx; simp [hx]))).below H.n0_le fun b hb => ?_
    rcases List.mem_cons.1 hb with rfl | hb
    · exact H.low b (by simp [playBs])
    · have := hlo b hb; have := hT.low; omega
theorem getW_len {works : List (Int × Wk)} (h : ∀ q ∈ works, q.2.ws.length ≤ 10000) (tx : Int) : (getW works tx).ws.length ≤ 10000 := by
  unfold getW
  cases hg : aget tx works with
  | none => simp [Wk.none]
  | some v => exact h _ (tget_mem hg)
end
set_option maxHeartbeats 8000000 in
set_option maxRecDepth 100000 in
theorem one_ckpt {n0 A : Nat} {p : Pl} (r : Rc) (w : World) (H : PlayAt w n0 A p) (hkk : r.kind = 8 ∨ r.kind = 7) (hm : r.mask ≤ 65535) (hb : p.base.length ≤ 10000) (hw : ∀ q ∈ p.works, q.2.ws.length ≤ 10000) (ht : p.taken.length ≤ 50000) (hl : p.left ≤ 100000) :
    Calls Tryz.prog 28 #[.pointer (some ⟨A, 0, none⟩), r.v] w fun e w' => e = .returned (.tuple #[]) ∧ PlayAt w' n0 A (oneP p r) ∧ Below n0 w w' := by
  obtain ⟨m, bv, tv, lo, ws, H⟩ := H
  obtain ⟨base, works, left, taken⟩ := p
  have hA := H.lt A (by simp [playBs])
  have HH := hid H
  have HBX := hid (fun S W (hK : Kept S (w.alloc (.cells r.f.toArray 55)) W) h => box_cells r hK h)
  have HRV := hid (show r.v = r.v from rfl)
  obtain ⟨kind, tx, mask, ⟨k1, k2, k3, k4⟩, ⟨o1, o2⟩, ⟨n1, n2⟩⟩ := r
  have hgl := getW_len hw tx
  dsimp only at hm hb ht hl hgl hkk ⊢
  simp only [Rc.v, Rc.f] at HBX ⊢
  clear H hw HRV
  obtain ⟨pl, hpl⟩ : ∃ pl, pl = oneP ⟨base, works, left, taken⟩ ⟨kind, tx, mask, ⟨k1, k2, k3, k4⟩, ⟨o1, o2⟩, ⟨n1, n2⟩⟩ := ⟨_, rfl⟩
  rw [← hpl]
  unfold oneP at hpl
  dsimp only at hpl
  go_enter Tryz.func28, Tryz.ntmps28
  go_upto_region 0 with (fail)
  go_cut [3] (fun s3 wx => s3 = .pointer (some ⟨w.heap.size, 0, none⟩) ∧ Aside (Kept [] (w.alloc (.cells #[.int .i64 kind, .int .i64 tx, .int .u16 (mask : Int), .int .u8 (k1.toNat : Int), .int .u8 (k2.toNat : Int), .int .u8 (k3.toNat : Int), .int .u8 (k4.toNat : Int), .bool o1, .int .i64 o2, .bool n1, .int .i64 n2] 55)) wx))
  case first =>
    go_wp2
    go_meet
    exact ⟨rfl, Kept.refl _ _⟩
  case rest =>
  obtain ⟨rfl, HK⟩ := hcut
  rename World => wb
  have HKB := hid (((Kept.refl [] w).alloc _).trans HK.out (fun x hx => .inl hx))
  have H1 := hid (HH.out.kept HKB.out)
  have hsz : w.heap.size < wb.heap.size := by have := HK.out.size; simp at this; omega
  have HX := hid (fun S W (hK : Kept S wb W) h => HBX.out S W ((HK.out.mono (T := S) (by simp)).trans hK (fun x hx => .inl hx)) h)
  have HB0 := hid (HH.out.below HKB.out (by simp))
  clear HBX HK HH HKB
  have hnA : w.heap.size ≠ A := by omega
  obtain ⟨a0, a1, a2, a3⟩ := H1.out.cells
  have z2 := H1.out.frz 2
  have z3 := H1.out.frz 3
  obtain ⟨b0, b1, b2, _⟩ := HX.out [] _ (Kept.refl [] _) (by simp)
  dsimp only at a2
  by_cases g8 : kind = 8
  · subst g8
    rw [if_pos rfl] at hpl
    subst hpl
    go_wp2_with (go_at_call 50; refine Here.mk ?_)
    refine Here.of ?_
    have hK2 : Kept [A] wb ((wb.setCell ⟨A, 2, none⟩ (.int .i64 (mask : Int))).setCell ⟨A, 3, none⟩ (.slice none 0 0)) := ((Kept.refl [A] wb).setCell (.inl (by simp)) _).setCell (.inl (by simp)) _
    have hb2 := H1.out.base.kept_of hK2 (H1.out.base_far (by simp [playBs]))
    have H2 := H1.out.reA (lo' := wb.heap.size) (l' := mask) (t' := []) hK2 (heap_put (heap_put H1.out.blk 2 (.int .i64 (mask : Int))) 3 (.slice none 0 0)) hb2 (fun _ => ⟨⟨rfl, .inl ⟨rfl, rfl⟩⟩, H1.out.n0_le, H1.out.base.lt, hK2.size⟩)
    refine (whole_any _ H2 (by simp)).mono ?_
    rintro e w3 ⟨rfl, hP, hB⟩
    have HP := hid hP
    have HB := hid ((H1.out.below hK2 (by simp [playBs])).trans hB)
    clear hP hB hK2 hb2 H2 H1 HX
    go_wp2
    go_returns
    exact ⟨rfl, HP.out, HB0.out.trans HB.out⟩
  · rw [if_neg g8] at hpl
    have e8 : (kind == 8) = false := by simpa using g8
    have G8 := hid g8
    clear g8
    have g7 : kind = 7 := hkk.resolve_left G8.out
    · subst g7
      rw [if_pos rfl] at hpl
      clear e8
      by_cases h0 : 0 < left
      · rw [if_pos h0] at hpl
        subst hpl
        have HT := hid (H1.out.tk (Int.le_of_lt h0))
        obtain ⟨ta, tc, rfl⟩ := ownsRow_slice HT.out.own
        go_upto_region 7 with (fail)
        go_cut [] (fun wx => Aside (PlayIs wx n0 A m bv (.slice ta taken.length tc) lo ws ⟨base, works, left - 1, taken⟩) ∧ Aside (Kept [A] wb wx))
        case first =>
          clear HX
          go_wp2
          go_meet
          have hK2 : Kept [A] wb (wb.setCell ⟨A, 2, none⟩ (.int .i64 (left - 1))) := (Kept.refl [A] wb).setCell (.inl (by simp)) _
          exact ⟨H1.out.reA (lo' := lo) (l' := left - 1) (t' := taken) hK2 (heap_put H1.out.blk 2 (.int .i64 (left - 1))) (H1.out.base.kept_of hK2 (H1.out.base_far (by simp [playBs]))) (fun _ => HT.out.kept hK2 (H1.out.taken_far (Int.le_of_lt h0) (by simp [playBs]))), hK2⟩
        case rest =>
        obtain ⟨H2, HK2⟩ := hcut
        rename World => w2
        have HB2 := hid (H1.out.below HK2.out (by simp [playBs]))
        have hT2 := hid (H2.out.tk (by dsimp only; omega))
        obtain ⟨c0, c1, c2, c3⟩ := H2.out.cells
        obtain ⟨q0, q1, q2, q3, q4, q5, q6, q7, q8, q9, q10⟩ := HX.out [A] _ HK2.out (by simpa using hnA)
        clear a0 a1 a2 a3 z2 z3 b0 b1 b2 HX H1 HT HK2
        have hlo : lo ≤ w2.heap.size := hT2.out.hi
        have HAn := hid (own_far hT2.out.own (H2.out.not_pairs A (by simp [playBs])))
        have hA2 := H2.out.lt A (by simp [playBs])
        go_wp2_with fail
        go_region_law (refine wp_append_ow (.tmp 39) (.tmp 45) 29 rfl 57 (.agg #[.int .u8 0, .int .u8 0, .int .u8 0, .int .u8 0, .bool false, .int .i64 0]) 6 24 Tryz.underlying29 pairInfo rfl (by decide) (by decide) lo (.slice ta taken.length tc) taken.length (taken.flatMap Pr.f) rfl (ownK_kept hT2.out.own (((Kept.refl [] w2).drew).alloc (.cells (Pr.f ⟨⟨k1, k2, k3, k4⟩, ⟨n1, n2⟩⟩).toArray 57)) (fun _ _ => List.not_mem_nil)) ⟨w2.heap.size, 0, none⟩ 1 1 (Pr.f ⟨⟨k1, k2, k3, k4⟩, ⟨n1, n2⟩⟩) rfl rfl (fun j u h => cells_new w2.drew (Pr.f ⟨⟨k1, k2, k3, k4⟩, ⟨n1, n2⟩⟩) 57 j u h) (by simp [Pr.f, Value.oneCell']) (by decide) (by omega) (by simp; omega) ?_; intro g3 gc3 w3 hown3 hgr3 hwh3; have hk3 : Kept (Value.slice ta taken.length tc).ownBlock.toList w2 w3 := Kept.trans (((Kept.refl _ w2).drew).alloc _) (Kept.of_grown hgr3 _ (fun k hk => by simpa using hk)) (fun x hx => .inl hx); have hA3 := (hk3.block A hA2 (fun hx => HAn.out (by simpa using hx))).trans H2.out.blk; have d3 := cell_of_row w3 A 3 _ _ (0, 0) hA3; have zz : w3.frozen? ⟨A, 3, none⟩ = false := by simp [World.frozen?, hA3])
        all_goals
          obtain ⟨h4, hB4⟩ := H2.out.appended (by dsimp only; omega) hk3 (fun x hx => by simpa using hx) hown3
          have H4 := hid h4
          have HB4 := hid hB4
          clear h4 hB4 hk3 hA3 d3 zz hown3 hgr3 hwh3 HAn hT2 H2 c0 c1 c2 c3 q0 q1 q2 q3 q4 q5 q6 q7 q8 q9 q10
          go_wp2_with (go_at_call 50; refine (whole_any _ H4.out (by simp; omega)).mono ?_; rintro e w5 ⟨rfl, hP, hB⟩)
          go_returns
          exact ⟨rfl, hP, HB0.out.trans (HB2.out.trans (HB4.out.trans hB))⟩
      · rw [if_neg h0] at hpl
        subst hpl
        have hd0 : ¬ 0 < left := h0
        go_wp2
        go_returns
        exact ⟨rfl, ⟨m, bv, tv, lo, ws, H1.out⟩, HB0.out⟩
--@@ end
end Go.Proofs.YtpcpeoejcnndhaaGreat
