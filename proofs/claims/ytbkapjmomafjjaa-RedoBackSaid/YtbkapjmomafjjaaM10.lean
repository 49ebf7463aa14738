/- The reference's own answers on pairs: sort, over, find, put. -/
import Derived.Test.YtbkapjmomafjjaaRefKeys
import Derived.Test.YtbkapjmomafjjaaRedoAlive
import Derived.Test.YtbkapjmomafjjaaM2
import Derived.Test.YtbkapjmomafjjaaM1
import Derived.Test.YtbkapjmomafjjaaStConv
set_option linter.all false
namespace Go.Proofs.Ytbkapjmomafjjaa
open Go.RowKit Go.Shelf Go.Lib Go.Sort Go.Proofs
set_option linter.unusedVariables false
set_option linter.unusedSimpArgs false

theorem run_append_nil_src {P : Program} {w : World} {size : Nat} (base : Nat) (t ty e : TypeId) (i : TypeInfo) (ht : P.underlying t = some (.slice e)) (hi : P.info? e = some i)
    (v : Value) (n c : Nat) (xs : List Value) (hown : w.ownsRow base e size v n xs) :
    (Builtin.append_ #[t, t] ty #[v, .slice none 0 c]).run P w = .ok v w := by
  rcases hown.2 with ⟨rfl, rfl⟩ | ⟨g, cap, cur, rfl, _, _, hnc, _⟩
  · simp [Builtin.append_, run_underlying ht, sizeOf, typeInfo, hi, Builtin.lenOf, Builtin.firstCells]
  · simp [Builtin.append_, run_underlying ht, sizeOf, typeInfo, hi, Builtin.lenOf, Builtin.firstCells, hnc, storeCells]
theorem thereP_snoc (l : List Pr) (p : Pr) : thereP (l ++ [p]) = thereP l ++ (if p.val.there = true then [p] else []) := by
  unfold thereP
  rw [List.filter_append]
  congr 1
  cases h : p.val.there <;> simp [h]
theorem sortP_len' (l : List Pr) : (sortP l).length ≤ l.length :=
  Nat.le_trans (List.length_filter_le _ _) (keysP_len l)
theorem findP_snoc (l : List Pr) (p : Pr) (k : K4) : findP (l ++ [p]) k = if p.key = k then p.val else findP l k := by
  unfold findP
  rw [lastP_snoc]
  split <;> rfl
--@@ concordatref09.Keys
/-- all of a row of pairs, behind a row of the call's own -/
theorem wp_append_rp {w : World} {o : Oper} {a : Act} {K : Act → World → Prop} {Q : Exit → Act → World → Prop} (s x : Operand)
    (ho : o.op = .call { callee := .builtin .append, args := #[s, x], argTypes := #[23, 23] })
    (base : Nat) (v : Value) (n : Nat) (xs : List Value) (hs : a.eval s = v) (hown : w.ownsRow base 54 6 v n xs) (vx : Value) (l : List Pr) (hx : a.eval x = vx) (hp : SlAt w vx 6 l.length (l.flatMap Pr.f))
    (hn : n + l.length ≤ 100000) (hbase : base ≤ w.heap.size)
    (h : ∀ v' w', w'.ownsRow base 54 6 v' (n + l.length) (xs ++ l.flatMap Pr.f) → (v ≠ .slice none 0 0 → v' ≠ .slice none 0 0) → w.grownBy w' v.ownBlock → K (a.put o.dst v') w') : o.wp Try.prog a w K Q := by
  obtain ⟨ax, c, rfl, h1, h2, h3⟩ := hp.ex
  cases ax with
  | none =>
    have hl0 : l = [] := by
      cases l with
      | nil => rfl
      | cons y l => obtain ⟨b, off, e, _⟩ := h3 (by simp); cases e
    subst hl0
    obtain ⟨i, hi, hz0, hz1, hz2⟩ := info_parts refPairInfo
    have hr := run_append_nil_src (P := Try.prog) (w := w) base 23 o.type 54 i Try.underlying23 hi v n c xs hown
    unfold Oper.wp execOp
    simp only [ho, resolve, invoke, builtin, Sem.run_bind, Sem.run_pure, Result.andThen_ok, List.map_toArray, List.map_cons, List.map_nil, hs, hx, hr, List.length_nil]
    exact h v w (by simpa using hown) id (World.grownBy.refl _ _)
  | some ad =>
    refine wp_append_is s x 23 ho 54 _ 6 24 Try.underlying23 refPairInfo rfl (by decide) (by decide) base v n xs hs hown ad l.length c (l.flatMap Pr.f) hx h2 ?_ (flat_one' l) (by omega) hbase (fun v' w' g1 g2 g3 => h v' w' g1 (fun hne e => hne (g3.1 e).1) g2)
    intro j u hj
    have hpos : 0 < l.length := by
      cases l with
      | nil => simp at hj
      | cons y l => simp
    obtain ⟨b, off, e, _, hcs⟩ := h3 hpos
    cases e
    rw [Addr.add_lit]
    exact hcs j u hj
theorem wpList_append_rp {w : World} {ops : Array Oper} {rest : List Oper} {o : Oper} {a : Act} {Q : Exit → Act → World → Prop} (hgd : o.guard = none) (s x : Operand)
    (ho : o.op = .call { callee := .builtin .append, args := #[s, x], argTypes := #[23, 23] })
    (base : Nat) (v : Value) (n : Nat) (xs : List Value) (hs : a.eval s = v) (hown : w.ownsRow base 54 6 v n xs) (vx : Value) (l : List Pr) (hx : a.eval x = vx) (hp : SlAt w vx 6 l.length (l.flatMap Pr.f))
    (hn : n + l.length ≤ 100000) (hbase : base ≤ w.heap.size)
    (h : ∀ v' w', w'.ownsRow base 54 6 v' (n + l.length) (xs ++ l.flatMap Pr.f) → (v ≠ .slice none 0 0 → v' ≠ .slice none 0 0) → w.grownBy w' v.ownBlock → wpList Try.prog ops Q rest (a.put o.dst v') w') : wpList Try.prog ops Q (o :: rest) a w :=
  wpList_plain hgd fun _ hK => wp_append_rp s x ho base v n xs hs hown vx l hx hp hn hbase fun v' w' h2 h3 h4 => hK _ _ (h v' w' h2 h3 h4)
--@@ concordatref09.Sort
set_option maxHeartbeats 4000000 in
set_option maxRecDepth 100000 in
theorem rsort_any (v : Value) (l : List Pr) (w : World) (h : SlAt w v 6 l.length (l.flatMap Pr.f)) (hl : l.length ≤ 20000) :
    Calls Try.prog 38 #[v] w fun e w' => ∃ v', e = .returned v' ∧ w'.ownsRow w.heap.size 54 6 v' (sortP l).length ((sortP l).flatMap Pr.f) ∧ v' ≠ .slice none 0 0 ∧ Kept [] w w' := by
  have HKe := hid (rkeys_any v l w h hl)
  have hkl := keysP_len l
  obtain ⟨ps, hps⟩ : ∃ ps, ps = keysP l := ⟨_, rfl⟩
  have HPS := hid (show sortP l = thereP ps by rw [hps]; rfl)
  rw [← hps] at HKe hkl
  rw [HPS.out]
  clear hps HPS
  obtain ⟨a, cap, rfl, _⟩ := h.ex
  have HF := hid refPairInfo
  clear h
  go_enter Try.func38, Try.ntmps38
  go_wp2_with (first
    | (go_at_call 55; refine HKe.out.mono ?_; rintro e w1 ⟨v1, rfl, ho1, hn1, hk1⟩; obtain ⟨g, gc, rfl, hg1, hg2, hg3, hg4, hgc⟩ := ownsRow_form ho1 hn1; have HGC := hid hgc; have HK1 := hid hk1; clear hgc ho1 hn1 hk1))
  clear HKe
  have HO0 := hid (ownsRow_made0 w1 54 6 w1.heap.size (Nat.le_refl _))
  have HK0 := hid ((Kept.refl [] w1).alloc (.cells #[] 54))
  go_loopg [4, 5] ps.length (fun kx s4 s5 wr => ∃ k : Nat, s5 = .int .i64 k ∧ k ≤ ps.length ∧ ps.length - k ≤ kx ∧ Aside (s4 ≠ .slice none 0 0) ∧ Aside (wr.ownsRow w1.heap.size 54 6 s4 (thereP (ps.take k)).length ((thereP (ps.take k)).flatMap Pr.f)) ∧ Aside (Kept [] w1 wr))
  case atStart => exact ⟨0, by first | rfl | go_num, by omega, by omega, (fun e => by cases e), HO0.out, HK0.out⟩
  case round =>
    clear HO0 HK0
    obtain ⟨k, rfl, hk, hkx, HN, HO, HK⟩ := hrel
    have hsz := HK.out.size
    by_cases hlt : k < ps.length
    · have hltz : (k : Int) < (ps.length : Int) := by omega
      have hcs := pair_cells (fun j u hj => HK.out.cell (HGC.out j u hj) (by simp)) hlt
      simp only [Nat.zero_add] at hcs
      obtain ⟨e0, e1, e2, e3, e4, e5⟩ := hcs
      have HT := hid (show thereP (ps.take (k + 1)) = thereP (ps.take k) ++ (if ps[k].val.there = true then [ps[k]] else []) by rw [List.take_succ_eq_append_getElem hlt, thereP_snoc])
      have hcnt : (thereP (ps.take k)).length ≤ k := by have := List.length_filter_le (fun p : Pr => p.val.there) (ps.take k); rw [List.length_take] at this; unfold thereP; omega
      have HCNT := hid hcnt
      clear hcnt
      generalize ps[k] = x at *
      obtain ⟨⟨x1, x2, x3, x4⟩, ⟨x5, x6⟩⟩ := x
      dsimp only at e0 e1 e2 e3 e4 e5 HT
      cases x5 with
      | false =>
        clear e0 e1 e2 e3 e5
        go_wp2_with fail
        go_roundg (ps.length - (k + 1))
        case measure => omega
        case rel => exact ⟨k + 1, by first | rfl | go_num, by omega, Nat.le_refl _, HN.out, by show World.ownsRow _ _ _ _ _ _ _; rw [HT.out]; simpa using HO.out, HK.out⟩
      | true =>
        go_wp2_with (at_builtin; refine Here.mk ?_)
        refine Here.of ?_
        refine wpList_append_is rfl _ _ 23 rfl 54 _ 6 24 Try.underlying23 HF.out rfl (by decide) (by decide) w1.heap.size _ _ _ rfl (ownsRow_kept HO.out ((Kept.refl [] wr).alloc _) (by simp)) _ 1 1 (Pr.f ⟨⟨x1, x2, x3, x4⟩, ⟨true, x6⟩⟩) rfl rfl (fun j u h => cells_new _ (Pr.f ⟨⟨x1, x2, x3, x4⟩, ⟨true, x6⟩⟩) _ j u h) (by simp [Pr.f, Value.oneCell']) (by have := HCNT.out; omega) (by simp; omega) ?_
        intro v' w2 hown hgr hnil
        have hn2 : v' ≠ .slice none 0 0 := fun h => HN.out (hnil.1 h).1
        have HK2 := hid ((HK.out.alloc (.cells (Pr.f ⟨⟨x1, x2, x3, x4⟩, ⟨true, x6⟩⟩).toArray 54)).grown_own (ownsRow_kept HO.out ((Kept.refl [] wr).alloc _) (by simp)) hgr (Nat.le_refl _))
        have H2 := hid hown
        clear hown hgr hnil e0 e1 e2 e3 e4 e5
        go_wp2_with fail
        go_roundg (ps.length - (k + 1))
        case measure => omega
        case rel => exact ⟨k + 1, by first | rfl | go_num, by omega, Nat.le_refl _, hn2, by show World.ownsRow _ _ _ _ _ _ _; rw [HT.out, if_pos trivial, List.flatMap_append, List.length_append]; simpa using H2.out, HK2.out⟩
    · obtain rfl : k = ps.length := by omega
      have hltz : ¬ (ps.length : Int) < (ps.length : Int) := by omega
      go_wp2
      go_returns
      exact ⟨_, rfl, by have := HO.out; rw [List.take_length] at this; exact ownsRow_base this HK1.out.size, HN.out, HK1.out.trans HK.out (fun x hx => by cases hx)⟩
--@@ concordatref09.Over
set_option maxHeartbeats 4000000 in
set_option maxRecDepth 100000 in
theorem rover_any (v1 v2 : Value) (l1 l2 : List Pr) (w : World) (h1 : SlAt w v1 6 l1.length (l1.flatMap Pr.f)) (h2 : SlAt w v2 6 l2.length (l2.flatMap Pr.f)) (hl1 : l1.length ≤ 5000) (hl2 : l2.length ≤ 5000) :
    Calls Try.prog 20 #[v1, v2] w fun e w' => ∃ v', e = .returned v' ∧ w'.ownsRow w.heap.size 54 6 v' (sortP (l1 ++ l2)).length ((sortP (l1 ++ l2)).flatMap Pr.f) ∧ v' ≠ .slice none 0 0 ∧ Kept [] w w' := by
  have H1 := hid h1
  have H2 := hid h2
  obtain ⟨a, cap, rfl, _⟩ := h1.ex
  obtain ⟨a', cap', rfl, _⟩ := h2.ex
  clear h1 h2
  go_enter Try.func20, Try.ntmps20
  go_wp2_with (at_builtin; refine Here.mk ?_)
  refine Here.of ?_
  refine wpList_append_rp rfl _ _ rfl w.heap.size _ 0 [] rfl (ownsRow_made0 w 54 6 w.heap.size (Nat.le_refl _)) _ l1 rfl (H1.out.kept ((Kept.refl [] w).alloc _)) (by omega) (by simp) ?_
  intro u1 w1 hown1 hn1 hgr1
  have hk1 := ((Kept.refl [] w).alloc (.cells #[] 54)).grown_own (ownsRow_made0 w 54 6 w.heap.size (Nat.le_refl _)) hgr1 (Nat.le_refl _)
  have hnn1 := hn1 (fun e => by cases e)
  have HO1 := hid hown1
  have HK1 := hid hk1
  clear hown1 hgr1 hn1 hk1
  go_wp2_with (at_builtin; refine Here.mk ?_)
  refine Here.of ?_
  refine wpList_append_rp rfl _ _ rfl w.heap.size _ _ _ rfl HO1.out _ l2 rfl (H2.out.kept HK1.out) (by omega) HK1.out.size ?_
  intro u2 w2 hown2 hn2 hgr2
  have HK2 := hid (HK1.out.grown_own HO1.out hgr2 (Nat.le_refl _))
  have HSo := hid (rsort_any u2 (l1 ++ l2) w2 (by have := SlAt.of_own hown2; rw [List.flatMap_append, List.length_append]; simpa using this) (by simp; omega))
  clear hown2 hgr2 hn2 HO1 HK1 H1 H2
  go_wp2_with (first
    | (go_at_call 38; refine HSo.out.mono ?_; rintro e w3 ⟨v3, rfl, ho3, hn3, hk3⟩))
  go_returns
  exact ⟨_, rfl, ownsRow_base ho3 HK2.out.size, hn3, HK2.out.trans hk3 (fun x hx => by cases hx)⟩
--@@ end
end Go.Proofs.Ytbkapjmomafjjaa
/- What the statements' walks share. -/
namespace Go.Proofs.Ytbkapjmomafjjaa
open Go.RowKit Go.Shelf Go.Lib Go.Sort Go.Proofs
set_option linter.unusedVariables false
set_option linter.unusedSimpArgs false

theorem blk2 {w W : World} {x y : Value} {t : TypeId} (hK : Kept [] (w.alloc (.cells #[x, y] t)) W) : W.cell? ⟨w.heap.size, 0, none⟩ = some x ∧ W.cell? ⟨w.heap.size, 1, none⟩ = some y :=
  ⟨hK.cell (new_cell w [x, y] t 0 _ rfl) (by simp), hK.cell (new_cell w [x, y] t 1 _ rfl) (by simp)⟩
theorem mem_sum {n : Nat} {l : List Nat} (h : n ∈ l) : n ≤ l.sum := by
  induction l with
  | nil => cases h
  | cons x l ih =>
    rw [List.sum_cons]
    rcases List.mem_cons.1 h with rfl | h
    · omega
    · have := ih h; omega
theorem st_sizes (l : List Rc) (hm : ∀ r ∈ l, r.mask ≤ 65535) : (replayP l).base.length ≤ l.length ∧ (replayP l).txs.length ≤ l.length ∧ ∀ x ∈ (replayP l).txs, x.ws.length ≤ l.length := by
  obtain ⟨h1, h2⟩ := replay_le l hm
  refine ⟨by omega, h2, fun x hx => ?_⟩
  have := mem_sum (List.mem_map_of_mem (f := fun x : Txp => x.ws.length) hx)
  omega
theorem filt_map (L : List (Txp × Value)) (p : Txp → Bool) : (L.filter fun q => p q.1).map (·.1) = (L.map (·.1)).filter p := by
  rw [List.filter_map]
  rfl
theorem take_filt {α : Type} (p : α → Bool) {L : List α} {i : Nat} (h : i < L.length) : (L.take (i + 1)).filter p = (L.take i).filter p ++ if p L[i] = true then [L[i]] else [] := by
  rw [List.take_succ_eq_append_getElem h, List.filter_append]
  congr 1
  by_cases hp : p L[i] = true <;> simp [hp]
theorem slice_one (a : Option Addr) (n c : Nat) : (Value.slice a n c).oneCell' = true := rfl
--@@ []redo.Tx
theorem txInfoA : (Try.prog.info? 58).map (fun i => (i.zero, i.size, i.bytes)) = some (some (.agg #[.int .i64 0, .int .u16 0, .bool false, .slice none 0 0]), 4, 40) := by kernel_rfl
theorem wpList_append_tx {w : World} {o : Oper} {a : Act} {ops : Array Oper} {rest : List Oper} {Q : Exit → Act → World → Prop} (hgd : o.guard = none) (s x : Operand)
    (ho : o.op = .call { callee := .builtin .append, args := #[s, x], argTypes := #[30, 30] })
    (base : Nat) (v : Value) (M : List (Txp × Value)) (hs : a.eval s = v) (hown : w.ownsRow base 58 4 v M.length (M.flatMap txF))
    (vx : Value) (q : Txp × Value) (hx : a.eval x = vx) (hp : SlAt w vx 4 1 (txF q)) (hq : q.2.oneCell' = true)
    (hlen : M.length + 1 ≤ 1000000) (hbase : base ≤ w.heap.size)
    (h : ∀ v' w', w'.ownsRow base 58 4 v' (M ++ [q]).length ((M ++ [q]).flatMap txF) → w.grownBy w' v.ownBlock → wpList Try.prog ops Q rest (a.put o.dst v') w') : wpList Try.prog ops Q (o :: rest) a w :=
  wpList_append_sl hgd s x 30 ho 58 _ 4 40 Try.underlying30 txInfoA rfl (by decide) (by decide) base v M.length _ hs hown vx 1 (txF q) hx hp (fun u hu => by
    simp only [txF, List.mem_cons, List.not_mem_nil, or_false] at hu
    rcases hu with rfl | rfl | rfl | rfl
    · rfl
    · rfl
    · rfl
    · exact hq) (by omega) hbase fun v' w' h1 h2 _ => h v' w' (by rw [List.flatMap_append, List.length_append]; simpa using h1) h2
--@@ concordatref11.State
theorem field_base (x y : Value) (w : World) : (Instr.field 26 (.agg #[x, y]) 0).run Try.prog w = .ok x w := by kernel_rfl
--@@ redo.Recs
theorem recs_right_any (W : World) (bv tv : Value) (s : Stp) (h : StAt W bv tv s) (hr : s.right = true) (hl : (recsS s).length ≤ 100000) :
    Calls Try.prog 12 #[.agg #[bv, tv]] W fun e w' => ∃ v, e = .returned (.tuple #[v, .bool true]) ∧ w'.ownsRow W.heap.size 43 11 v (recsS s).length ((recsS s).flatMap Rc.f) ∧ Kept [] W w' := by
  have := redoRecs_any bv tv s W h hl
  rw [hr] at this
  exact this.mono fun e w' ⟨v, h1, h2, _, h4⟩ => ⟨v, h1, h2 rfl, h4⟩
theorem recs_wrong_any (W : World) (bv tv : Value) (s : Stp) (h : StAt W bv tv s) (hr : s.right = false) (hl : (recsS s).length ≤ 100000) :
    Calls Try.prog 12 #[.agg #[bv, tv]] W fun e w' => e = .returned (.tuple #[.slice none 0 0, .bool false]) ∧ Kept [] W w' := by
  have := redoRecs_any bv tv s W h hl
  rw [hr] at this
  exact this.mono fun e w' ⟨v, h1, _, h3, h4⟩ => ⟨by rw [h1, h3 rfl], h4⟩
--@@ redo.Same
theorem same_one_any (W : World) (b1 t1 b2 t2 : Value) (s t : Stp) (he : s = t) (h1 : StAt W b1 t1 s) (h2 : StAt W b2 t2 t) :
    Calls Try.prog 14 #[.agg #[b1, t1], .agg #[b2, t2]] W fun e w' => e = .returned (.bool true) ∧ Kept [] W w' := by
  have := same_any b1 t1 b2 t2 s t W h1 h2
  rw [decide_eq_true he] at this
  exact this
--@@ end
end Go.Proofs.Ytbkapjmomafjjaa
