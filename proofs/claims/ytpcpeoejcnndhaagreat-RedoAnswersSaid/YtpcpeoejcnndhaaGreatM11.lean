/- The reference's own answers on pairs: sort, over, find, put. -/
import Derived.Test.YtpcpeoejcnndhaaGreatRefKeys
import Derived.Test.YtpcpeoejcnndhaaGreatRedoAlive
import Derived.Test.YtpcpeoejcnndhaaGreatM2
import Derived.Test.YtpcpeoejcnndhaaGreatM1
import Derived.Test.YtpcpeoejcnndhaaGreatStConv
import Derived.Test.YtpcpeoejcnndhaaGreatM8
import Derived.Test.YtpcpeoejcnndhaaGreatM10
import Derived.Test.YtpcpeoejcnndhaaGreatM3
import Derived.BigQuiet
set_option linter.all false
namespace Go.Proofs.YtpcpeoejcnndhaaGreat
open Go.RowKit Go.Shelf Go.Lib Go.Sort Go.Proofs
theorem run_append_nil_src {P : Program} {w : World} {size : Nat} (base : Nat) (t ty e : TypeId) (i : TypeInfo) (ht : P.underlying t = some (.slice e)) (hi : P.info? e = some i)
    (v : Value) (n c : Nat) (xs : List Value) (hown : w.ownsRow base e size v n xs) :
    (Builtin.append_ #[t, t] ty #[v, .slice none 0 c]).run P w = .ok v w := by
  rcases hown.2 with ⟨rfl, rfl⟩ | ⟨g, cap, cur, rfl, _, _, hnc, _⟩
  · simp [Builtin.append_, run_underlying ht, sizeOf, typeInfo, hi, Builtin.lenOf, Builtin.firstCells]
  · simp [Builtin.append_, run_underlying ht, sizeOf, typeInfo, hi, Builtin.lenOf, Builtin.firstCells, hnc, storeCells]
theorem thereP_snoc (l : List Pr) (p : Pr) : thereP (l ++ [p]) = thereP l ++ (if p.val.there = true then [p] else []) := by
  unfold thereP
  rw [List.filter_append]
  congr 1
  cases h : p.val.there <;> simp [h]
theorem sortP_len' (l : List Pr) : (sortP l).length ≤ l.length :=
  Nat.le_trans (List.length_filter_le _ _) (keysP_len l)
theorem findP_snoc (l : List Pr) (p : Pr) (k : K4) : findP (l ++ [p]) k = if p.key = k then p.val else findP l k := by
  unfold findP
  rw [lastP_snoc]
  split <;> rfl
--@@ concordatref09.Keys
theorem wp_append_rp {w : World} {o : Oper} {a : Act} {K : Act → World → Prop} {Q : Exit → Act → World → Prop} (s x : Operand)
    (ho : o.op = .call { callee := .builtin .append, args := #[s, x], argTypes := #[23, 23] })
    (base : Nat) (v : Value) (n : Nat) (xs : List Value) (hs : a.eval s = v) (hown : w.ownsRow base 64 6 v n xs) (vx : Value) (l : List Pr) (hx : a.eval x = vx) (hp : SlAt w vx 6 l.length (l.flatMap Pr.f))
    (hn : n + l.length ≤ 100000) (hbase : base ≤ w.heap.size)
    (h : ∀ v' w', w'.ownsRow base 64 6 v' (n + l.length) (xs ++ l.flatMap Pr.f) → (v ≠ .slice none 0 0 → v' ≠ .slice none 0 0) → w.grownBy w' v.ownBlock → K (a.put o.dst v') w') : o.wp Tryz.prog a w K Q := by
  obtain ⟨ax, c, rfl, h1, h2, h3⟩ := hp.ex
  cases ax with
  | none =>
    have hl0 : l = [] := by
      cases l with
      | nil => rfl
      | cons y l => obtain ⟨b, off, e, _⟩ := h3 (by simp); cases e
    subst hl0
    obtain ⟨i, hi, hz0, hz1, hz2⟩ := info_parts refPairInfo
    have hr := run_append_nil_src (P := Tryz.prog) (w := w) base 23 o.type 64 i Tryz.underlying23 hi v n c xs hown
    unfold Oper.wp execOp
    simp only [ho, resolve, invoke, builtin, Sem.run_bind, Sem.run_pure, Result.andThen_ok, List.map_toArray, List.map_cons, List.map_nil, hs, hx, hr, List.length_nil]
    exact h v w (by simpa using hown) id (World.grownBy.refl _ _)
  | some ad =>
    refine wp_append_is s x 23 ho 64 _ 6 24 Tryz.underlying23 refPairInfo rfl (by decide) (by decide) base v n xs hs hown ad l.length c (l.flatMap Pr.f) hx h2 ?_ (flat_one' l) (by omega) hbase (fun v' w' g1 g2 g3 => h v' w' g1 (fun hne e => hne (g3.1 e).1) g2)
    intro j u hj
    have hpos : 0 < l.length := by
      cases l with
      | nil => simp at hj
      | cons y l => simp
    obtain ⟨b, off, e, _, hcs⟩ := h3 hpos
    cases e
    rw [Addr.add_lit]
    exact hcs j u hj
theorem wpList_append_rp {w : World} {ops : Array Oper} {rest : List Oper} {o : Oper} {a : Act} {Q : Exit → Act → World → Prop} (hgd : o.guard = none) (s x : Operand)
    (ho : o.op = .call { callee := .builtin .append, args := #[s, x], argTypes := #[23, 23] })
    (base : Nat) (v : Value) (n : Nat) (xs : List Value) (hs : a.eval s = v) (hown : w.ownsRow base 64 6 v n xs) (vx : Value) (l : List Pr) (hx : a.eval x = vx) (hp : SlAt w vx 6 l.length (l.flatMap Pr.f))
    (hn : n + l.length ≤ 100000) (hbase : base ≤ w.heap.size)
    (h : ∀ v' w', w'.ownsRow base 64 6 v' (n + l.length) (xs ++ l.flatMap Pr.f) → (v ≠ .slice none 0 0 → v' ≠ .slice none 0 0) → w.grownBy w' v.ownBlock → wpList Tryz.prog ops Q rest (a.put o.dst v') w') : wpList Tryz.prog ops Q (o :: rest) a w :=
  wpList_plain hgd fun _ hK => wp_append_rp s x ho base v n xs hs hown vx l hx hp hn hbase fun v' w' h2 h3 h4 => hK _ _ (h v' w' h2 h3 h4)
--@@ concordatref09.Sort
set_option maxHeartbeats 4000000 in
set_option maxRecDepth 100000 in
theorem rsort_any (v : Value) (l : List Pr) (w : World) (h : SlAt w v 6 l.length (l.flatMap Pr.f)) (hl : l.length ≤ 20000) :
    Calls Tryz.prog 44 #[v] w fun e w' => ∃ v', e = .returned v' ∧ w'.ownsRow w.heap.size 64 6 v' (sortP l).length ((sortP l).flatMap Pr.f) ∧ v' ≠ .slice none 0 0 ∧ Kept [] w w' := by
  have HKe := hid (rkeys_any v l w h hl)
  have hkl := keysP_len l
  obtain ⟨ps, hps⟩ : ∃ ps, ps = keysP l := ⟨_, rfl⟩
  have HPS := hid (show sortP l = thereP ps by rw [hps]; rfl)
  rw [← hps] at HKe hkl
  rw [HPS.out]
  clear hps HPS
  obtain ⟨a, cap, rfl, _⟩ := h.ex
  have HF := hid refPairInfo
  clear h
  go_enter Tryz.func44, Tryz.ntmps44
  go_wp2_with (first
    | (go_at_call 45; refine HKe.out.mono ?_; rintro e w1 ⟨v1, rfl, ho1, hn1, hk1⟩; obtain ⟨g, gc, rfl, hg1, hg2, hg3, hg4, hgc⟩ := ownsRow_form ho1 hn1; have HGC := hid hgc; have HK1 := hid hk1; clear hgc ho1 hn1 hk1))
  clear HKe
  have HO0 := hid (ownsRow_made0 w1 64 6 w1.heap.size (Nat.le_refl _))
  have HK0 := hid ((Kept.refl [] w1).alloc (.cells #[] 64))
  go_loopg [4, 5] ps.length (fun kx s4 s5 wr => ∃ k : Nat, s5 = .int .i64 k ∧ k ≤ ps.length ∧ ps.length - k ≤ kx ∧ Aside (s4 ≠ .slice none 0 0) ∧ Aside (wr.ownsRow w1.heap.size 64 6 s4 (thereP (ps.take k)).length ((thereP (ps.take k)).flatMap Pr.f)) ∧ Aside (Kept [] w1 wr))
  case atStart => exact ⟨0, by first | rfl | go_num, by omega, by omega, (fun e => by cases e), HO0.out, HK0.out⟩
  case round =>
    clear HO0 HK0
    obtain ⟨k, rfl, hk, hkx, HN, HO, HK⟩ := hrel
    have hsz := HK.out.size
    by_cases hlt : k < ps.length
    · have hltz : (k : Int) < (ps.length : Int) := by omega
      have hcs := pair_cells (fun j u hj => HK.out.cell (HGC.out j u hj) (by simp)) hlt
      simp only [Nat.zero_add] at hcs
      obtain ⟨e0, e1, e2, e3, e4, e5⟩ := hcs
      have HT := hid (show thereP (ps.take (k + 1)) = thereP (ps.take k) ++ (if ps[k].val.there = true then [ps[k]] else []) by rw [List.take_succ_eq_append_getElem hlt, thereP_snoc])
      have hcnt : (thereP (ps.take k)).length ≤ k := by have := List.length_filter_le (fun p : Pr => p.val.there) (ps.take k); rw [List.length_take] at this; unfold thereP; omega
      have HCNT := hid hcnt
      clear hcnt
      generalize ps[k] = x at *
      obtain ⟨⟨x1, x2, x3, x4⟩, ⟨x5, x6⟩⟩ := x
      dsimp only at e0 e1 e2 e3 e4 e5 HT
      cases x5 with
      | false =>
        clear e0 e1 e2 e3 e5
        go_wp2_with fail
        go_roundg (ps.length - (k + 1))
        case measure => omega
        case rel => exact ⟨k + 1, by first | rfl | go_num, by omega, Nat.le_refl _, HN.out, by show World.ownsRow _ _ _ _ _ _ _; rw [HT.out]; simpa using HO.out, HK.out⟩
      | true =>
        go_wp2_with (at_builtin; refine Here.mk ?_)
        refine Here.of ?_
        refine wpList_append_is rfl _ _ 23 rfl 64 _ 6 24 Tryz.underlying23 HF.out rfl (by decide) (by decide) w1.heap.size _ _ _ rfl (ownsRow_kept HO.out ((Kept.refl [] wr).alloc _) (by simp)) _ 1 1 (Pr.f ⟨⟨x1, x2, x3, x4⟩, ⟨true, x6⟩⟩) rfl rfl (fun j u h => cells_new _ (Pr.f ⟨⟨x1, x2, x3, x4⟩, ⟨true, x6⟩⟩) _ j u h) (by simp [Pr.f, Value.oneCell']) (by have := HCNT.out; omega) (by simp; omega) ?_
        intro v' w2 hown hgr hnil
        have hn2 : v' ≠ .slice none 0 0 := fun h => HN.out (hnil.1 h).1
        have HK2 := hid ((HK.out.alloc (.cells (Pr.f ⟨⟨x1, x2, x3, x4⟩, ⟨true, x6⟩⟩).toArray 64)).grown_own (ownsRow_kept HO.out ((Kept.refl [] wr).alloc _) (by simp)) hgr (Nat.le_refl _))
        have H2 := hid hown
        clear hown hgr hnil e0 e1 e2 e3 e4 e5
        go_wp2_with fail
        go_roundg (ps.length - (k + 1))
        case measure => omega
        case rel => exact ⟨k + 1, by first | rfl | go_num, by omega, Nat.le_refl _, hn2, by show World.ownsRow _ _ _ _ _ _ _; rw [HT.out, if_pos trivial, List.flatMap_append, List.length_append]; simpa using H2.out, HK2.out⟩
    · obtain rfl : k = ps.length := by omega
      have hltz : ¬ (ps.length : Int) < (ps.length : Int) := by omega
      go_wp2
      go_returns
      exact ⟨_, rfl, by have := HO.out; rw [List.take_length] at this; exact ownsRow_base this HK1.out.size, HN.out, HK1.out.trans HK.out (fun x hx => by cases hx)⟩
--@@ concordatref09.Over
set_option maxHeartbeats 4000000 in
set_option maxRecDepth 100000 in
theorem rover_any (v1 v2 : Value) (l1 l2 : List Pr) (w : World) (h1 : SlAt w v1 6 l1.length (l1.flatMap Pr.f)) (h2 : SlAt w v2 6 l2.length (l2.flatMap Pr.f)) (hl1 : l1.length ≤ 5000) (hl2 : l2.length ≤ 5000) :
    Calls Tryz.prog 61 #[v1, v2] w fun e w' => ∃ v', e = .returned v' ∧ w'.ownsRow w.heap.size 64 6 v' (sortP (l1 ++ l2)).length ((sortP (l1 ++ l2)).flatMap Pr.f) ∧ v' ≠ .slice none 0 0 ∧ Kept [] w w' := by
  have H1 := hid h1
  have H2 := hid h2
  obtain ⟨a, cap, rfl, _⟩ := h1.ex
  obtain ⟨a', cap', rfl, _⟩ := h2.ex
  clear h1 h2
  go_enter Tryz.func61, Tryz.ntmps61
  go_wp2_with (at_builtin; refine Here.mk ?_)
  refine Here.of ?_
  refine wpList_append_rp rfl _ _ rfl w.heap.size _ 0 [] rfl (ownsRow_made0 w 64 6 w.heap.size (Nat.le_refl _)) _ l1 rfl (H1.out.kept ((Kept.refl [] w).alloc _)) (by omega) (by simp) ?_
  intro u1 w1 hown1 hn1 hgr1
  have hk1 := ((Kept.refl [] w).alloc (.cells #[] 64)).grown_own (ownsRow_made0 w 64 6 w.heap.size (Nat.le_refl _)) hgr1 (Nat.le_refl _)
  have hnn1 := hn1 (fun e => by cases e)
  have HO1 := hid hown1
  have HK1 := hid hk1
  clear hown1 hgr1 hn1 hk1
  go_wp2_with (at_builtin; refine Here.mk ?_)
  refine Here.of ?_
  refine wpList_append_rp rfl _ _ rfl w.heap.size _ _ _ rfl HO1.out _ l2 rfl (H2.out.kept HK1.out) (by omega) HK1.out.size ?_
  intro u2 w2 hown2 hn2 hgr2
  have HK2 := hid (HK1.out.grown_own HO1.out hgr2 (Nat.le_refl _))
  have HSo := hid (rsort_any u2 (l1 ++ l2) w2 (by have := SlAt.of_own hown2; rw [List.flatMap_append, List.length_append]; simpa using this) (by simp; omega))
  clear hown2 hgr2 hn2 HO1 HK1 H1 H2
  go_wp2_with (first
    | (go_at_call 44; refine HSo.out.mono ?_; rintro e w3 ⟨v3, rfl, ho3, hn3, hk3⟩))
  go_returns
  exact ⟨_, rfl, ownsRow_base ho3 HK2.out.size, hn3, HK2.out.trans hk3 (fun x hx => by cases hx)⟩
--@@ end
theorem blk2 {w W : World} {x y : Value} {t : TypeId} (hK : Kept [] (w.alloc (.cells #[x, y] t)) W) : W.cell? ⟨w.heap.size, 0, none⟩ = some x ∧ W.cell? ⟨w.heap.size, 1, none⟩ = some y :=
  ⟨hK.cell (new_cell w [x, y] t 0 _ rfl) (by simp), hK.cell (new_cell w [x, y] t 1 _ rfl) (by simp)⟩
theorem mem_sum {n : Nat} {l : List Nat} (h : n ∈ l) : n ≤ l.sum := by
  induction l with
  | nil => cases h
  | cons x l ih =>
    rw [List.sum_cons]
    rcases List.mem_cons.1 h with rfl | h
    · omega
    · have := ih h; omega
theorem st_sizes (l : List Rc) (hm : ∀ r ∈ l, r.mask ≤ 65535) : (replayP l).base.length ≤ l.length ∧ (replayP l).txs.length ≤ l.length ∧ ∀ x ∈ (replayP l).txs, x.ws.length ≤ l.length := by
  obtain ⟨h1, h2⟩ := replay_le l hm
  refine ⟨by omega, h2, fun x hx => ?_⟩
  have := mem_sum (List.mem_map_of_mem (f := fun x : Txp => x.ws.length) hx)
  omega
theorem filt_map (L : List (Txp × Value)) (p : Txp → Bool) : (L.filter fun q => p q.1).map (·.1) = (L.map (·.1)).filter p := by
  rw [List.filter_map]
  rfl
theorem take_filt {α : Type} (p : α → Bool) {L : List α} {i : Nat} (h : i < L.length) : (L.take (i + 1)).filter p = (L.take i).filter p ++ if p L[i] = true then [L[i]] else [] := by
  rw [List.take_succ_eq_append_getElem h, List.filter_append]
  congr 1
  by_cases hp : p L[i] = true <;> simp [hp]
theorem slice_one (a : Option Addr) (n c : Nat) : (Value.slice a n c).oneCell' = true := rfl
--@@ []redo.Tx
theorem txInfoA : (Tryz.prog.info? 59).map (fun i => (i.zero, i.size, i.bytes)) = some (some (.agg #[.int .i64 0, .int .u16 0, .bool false, .slice none 0 0]), 4, 40) := by kernel_rfl
theorem wpList_append_tx {w : World} {o : Oper} {a : Act} {ops : Array Oper} {rest : List Oper} {Q : Exit → Act → World → Prop} (hgd : o.guard = none) (s x : Operand)
    (ho : o.op = .call { callee := .builtin .append, args := #[s, x], argTypes := #[30, 30] })
    (base : Nat) (v : Value) (M : List (Txp × Value)) (hs : a.eval s = v) (hown : w.ownsRow base 59 4 v M.length (M.flatMap txF))
    (vx : Value) (q : Txp × Value) (hx : a.eval x = vx) (hp : SlAt w vx 4 1 (txF q)) (hq : q.2.oneCell' = true)
    (hlen : M.length + 1 ≤ 1000000) (hbase : base ≤ w.heap.size)
    (h : ∀ v' w', w'.ownsRow base 59 4 v' (M ++ [q]).length ((M ++ [q]).flatMap txF) → w.grownBy w' v.ownBlock → wpList Tryz.prog ops Q rest (a.put o.dst v') w') : wpList Tryz.prog ops Q (o :: rest) a w :=
  wpList_append_sl hgd s x 30 ho 59 _ 4 40 Tryz.underlying30 txInfoA rfl (by decide) (by decide) base v M.length _ hs hown vx 1 (txF q) hx hp (fun u hu => by
    simp only [txF, List.mem_cons, List.not_mem_nil, or_false] at hu
    rcases hu with rfl | rfl | rfl | rfl
    · rfl
    · rfl
    · rfl
    · exact hq) (by omega) hbase fun v' w' h1 h2 _ => h v' w' (by rw [List.flatMap_append, List.length_append]; simpa using h1) h2
--@@ concordatref11.State
theorem field_base (x y : Value) (w : World) : (Instr.field 26 (.agg #[x, y]) 0).run Tryz.prog w = .ok x w := by kernel_rfl
--@@ redo.Recs
theorem recs_right_any (W : World) (bv tv : Value) (s : Stp) (h : StAt W bv tv s) (hr : s.right = true) (hl : (recsS s).length ≤ 100000) :
    Calls Tryz.prog 7 #[.agg #[bv, tv]] W fun e w' => ∃ v, e = .returned (.tuple #[v, .bool true]) ∧ w'.ownsRow W.heap.size 55 11 v (recsS s).length ((recsS s).flatMap Rc.f) ∧ Kept [] W w' := by
  have := redoRecs_any bv tv s W h hl
  rw [hr] at this
  exact this.mono fun e w' ⟨v, h1, h2, _, h4⟩ => ⟨v, h1, h2 rfl, h4⟩
theorem recs_wrong_any (W : World) (bv tv : Value) (s : Stp) (h : StAt W bv tv s) (hr : s.right = false) (hl : (recsS s).length ≤ 100000) :
    Calls Tryz.prog 7 #[.agg #[bv, tv]] W fun e w' => e = .returned (.tuple #[.slice none 0 0, .bool false]) ∧ Kept [] W w' := by
  have := redoRecs_any bv tv s W h hl
  rw [hr] at this
  exact this.mono fun e w' ⟨v, h1, _, h3, h4⟩ => ⟨by rw [h1, h3 rfl], h4⟩
--@@ redo.Same
theorem same_one_any (W : World) (b1 t1 b2 t2 : Value) (s t : Stp) (he : s = t) (h1 : StAt W b1 t1 s) (h2 : StAt W b2 t2 t) :
    Calls Tryz.prog 18 #[.agg #[b1, t1], .agg #[b2, t2]] W fun e w' => e = .returned (.bool true) ∧ Kept [] W w' := by
  have := same_any b1 t1 b2 t2 s t W h1 h2
  rw [decide_eq_true he] at this
  exact this
--@@ end
theorem src_far2 {w w1 : World} {t e : TypeId} {L : List Value} {row : Option Nat} (hgr : ((w.alloc (.cells #[] e)).alloc (.cells L.toArray t)).grownBy w1 row) (hrow : row = some w.heap.size) :
    ∀ j u, L[j]? = some u → w1.cell? ((⟨w.heap.size + 1, 0, none⟩ : Addr).add j) = some u := fun j u h => by
  have h1 := cells_new (w.alloc (.cells #[] e)) L t j u h
  simp only [World.size_alloc] at h1
  rw [Addr.add_lit] at h1 ⊢
  rw [World.cell?_of_block (a := ⟨w.heap.size + 1, 0 + j, none⟩) (hgr.block (w.heap.size + 1) (by simp) (by rw [hrow]; simp))]
  exact h1
theorem src_far3 {w w1 : World} {t e : TypeId} {L : List Value} {row : Option Nat} (hgr : ((w.alloc (.cells L.toArray t)).alloc (.cells #[] e)).grownBy w1 row) (hrow : row = some (w.heap.size + 1)) :
    ∀ j u, L[j]? = some u → w1.cell? ((⟨w.heap.size, 0, none⟩ : Addr).add j) = some u := fun j u h => by
  have h1 := cells_new w L t j u h
  rw [Addr.add_lit] at h1 ⊢
  rw [World.cell?_of_block (a := ⟨w.heap.size, 0 + j, none⟩) (hgr.block w.heap.size (by simp; omega) (by rw [hrow]; simp))]
  exact ((Kept.refl [] _).alloc _).cell h1 (by simp)
--@@ concordatref09.Find
set_option maxHeartbeats 4000000 in
set_option maxRecDepth 100000 in
theorem rfind_any (v : Value) (l : List Pr) (k : K4) (w : World) (h : SlAt w v 6 l.length (l.flatMap Pr.f)) :
    Calls Tryz.prog 47 #[v, k.v] w fun e w' => e = .returned (.agg #[.bool (findP l k).there, .int .i64 (findP l k).n]) ∧ Kept [] w w' := by
  obtain ⟨a, cap, rfl, hmax, _, hcs⟩ := h.ex
  have HC := hid hcs
  have HFind := hid (findP_snoc (k := k))
  obtain ⟨k1, k2, k3, k4⟩ := k
  simp only [K4.v]
  clear h hcs
  go_enter Tryz.func47, Tryz.ntmps47
  go_wp2
  have HB0 := hid (heap_alloc_new ((w.alloc (.cells #[.int .u8 (k1.toNat : Int), .int .u8 (k2.toNat : Int), .int .u8 (k3.toNat : Int), .int .u8 (k4.toNat : Int)] 49)).alloc (.cells #[.bool false, .int .i64 0] 51)) (.cells #[.bool false, .int .i64 0] 51))
  have HB4 := hid (two_kept (t := 51) (x := .bool false) (y := .int .i64 0) (w := w.alloc (.cells #[.int .u8 (k1.toNat : Int), .int .u8 (k2.toNat : Int), .int .u8 (k3.toNat : Int), .int .u8 (k4.toNat : Int)] 49)) ((Kept.refl [] _).alloc (.cells #[.bool false, .int .i64 0] 51)))
  have HK0 := hid ((((Kept.refl [] w).alloc (.cells #[.int .u8 (k1.toNat : Int), .int .u8 (k2.toNat : Int), .int .u8 (k3.toNat : Int), .int .u8 (k4.toNat : Int)] 49)).alloc (.cells #[.bool false, .int .i64 0] 51)).alloc (.cells #[.bool false, .int .i64 0] 51))
  have HKK := hid (fun j u h => (((Kept.refl [] (w.alloc (.cells #[.int .u8 (k1.toNat : Int), .int .u8 (k2.toNat : Int), .int .u8 (k3.toNat : Int), .int .u8 (k4.toNat : Int)] 49))).alloc (.cells #[.bool false, .int .i64 0] 51)).alloc (.cells #[.bool false, .int .i64 0] 51)).cell (new_cell w [.int .u8 (k1.toNat : Int), .int .u8 (k2.toNat : Int), .int .u8 (k3.toNat : Int), .int .u8 (k4.toNat : Int)] 49 j u h) (by simp))
  obtain ⟨W2, hW2⟩ : ∃ W2, W2 = ((w.alloc (.cells #[.int .u8 (k1.toNat : Int), .int .u8 (k2.toNat : Int), .int .u8 (k3.toNat : Int), .int .u8 (k4.toNat : Int)] 49)).alloc (.cells #[.bool false, .int .i64 0] 51)).alloc (.cells #[.bool false, .int .i64 0] 51) := ⟨_, rfl⟩
  have hWs : W2.heap.size = w.heap.size + 3 := by rw [hW2]; simp
  rw [← hW2] at HB0 HB4 HK0 HKK
  rw [← hW2]
  simp only [World.size_alloc] at HB0 HB4
  clear hW2
  go_loopg [6] l.length (fun kx s6 wr => ∃ (i : Nat) (fv : V), s6 = .int .i64 i ∧ i ≤ l.length ∧ l.length - i ≤ kx ∧ Aside (fv = findP (l.take i) (⟨k1, k2, k3, k4⟩ : K4)) ∧ Aside (wr.heap[w.heap.size + 2]? = some (.cells #[.bool fv.there, .int .i64 fv.n] 51 (0, 0))) ∧ Aside (Kept [w.heap.size + 2] W2 wr))
  case atStart => exact ⟨0, V.zero, by first | rfl | go_num, by omega, by omega, rfl, HB0.out, Kept.refl _ _⟩
  case round =>
    obtain ⟨i, fv, rfl, hi, hix, HFV, HB, HK⟩ := hrel
    obtain ⟨y0, y1, y2, y3⟩ := cell2 HB.out
    have HBlt := (Array.getElem?_eq_some_iff.1 HB.out).1
    by_cases hlt : i < l.length
    · have hltz : (i : Int) < (l.length : Int) := by omega
      obtain ⟨b, off, rfl, hb, hcs⟩ := HC.out (by omega)
      obtain ⟨e0, e1, e2, e3, e4, e5⟩ := pair_cells (fun j u hj => HK.out.cell (HK0.out.cell (hcs j u hj) (by simp)) (by simp; omega)) hlt
      have q0 := HK.out.cell (HKK.out 0 _ rfl) (by simp)
      have q1 := HK.out.cell (HKK.out 1 _ rfl) (by simp)
      have q2 := HK.out.cell (HKK.out 2 _ rfl) (by simp)
      have q3 := HK.out.cell (HKK.out 3 _ rfl) (by simp)
      have HT := hid (show l.take (i + 1) = l.take i ++ [l[i]] by rw [List.take_succ_eq_append_getElem hlt])
      have hbn : b ≠ w.heap.size + 2 := by omega
      clear hcs
      generalize l[i] = x at *
      obtain ⟨⟨x1, x2, x3, x4⟩, ⟨x5, x6⟩⟩ := x
      dsimp only at e0 e1 e2 e3 e4 e5
      have hq := fun (w : World) => eqK w ⟨x1, x2, x3, x4⟩ ⟨k1, k2, k3, k4⟩
      simp only [K4.v] at hq
      by_cases hxk : (⟨x1, x2, x3, x4⟩ : K4) = ⟨k1, k2, k3, k4⟩
      · rw [decide_eq_true hxk] at hq
        have HX := hid hxk
        clear hxk
        go_wp2_with fail
        go_quiet (fail)
        go_wp2_with fail
        go_roundg (l.length - (i + 1))
        case measure => omega
        case rel => exact ⟨i + 1, ⟨x5, x6⟩, by first | rfl | go_num, by omega, Nat.le_refl _, by show _ = _; rw [HT.out, HFind.out, if_pos HX.out], set2 HB.out _ _, ((HK.out.drewN _).setCell (.inl (by simp)) _).setCell (.inl (by simp)) _⟩
      · rw [decide_eq_false hxk] at hq
        have HX := hid hxk
        clear hxk
        go_wp2_with fail
        go_quiet (fail)
        go_wp2_with fail
        go_roundg (l.length - (i + 1))
        case measure => omega
        case rel => exact ⟨i + 1, fv, by first | rfl | go_num, by omega, Nat.le_refl _, by show _ = _; rw [HT.out, HFind.out, if_neg HX.out]; exact HFV.out, HB.out, HK.out.drewN _⟩
    · obtain rfl : i = l.length := by omega
      have hltz : ¬ (l.length : Int) < (l.length : Int) := by omega
      rw [List.take_length] at HFV
      obtain ⟨z0, z1, z2, z3⟩ := cell2 ((HK.out.block (w.heap.size + 1) (by omega) (by simp)).trans HB4.out)
      obtain ⟨g0, g1, _, _⟩ := cell2 (set2 ((HK.out.block (w.heap.size + 1) (by omega) (by simp)).trans HB4.out) (.bool fv.there) (.int .i64 fv.n))
      have HKZ := hid (((HK.out.mono (T := [w.heap.size + 2, w.heap.size + 1]) (by simp)).setCell (p := ⟨w.heap.size + 1, 0, none⟩) (.inl (by simp)) (.bool fv.there)).setCell (p := ⟨w.heap.size + 1, 1, none⟩) (.inl (by simp)) (.int .i64 fv.n))
      go_wp2_with fail
      try simp only [Exit.inBlock, Exit.then]
      refine bodyPost_ret (by simp [results, Tryz.results47, go_sem, g0, g1]; rfl) rfl ?_
      exact ⟨by rw [HFV.out], HK0.out.trans HKZ.out (fun x hx => .inr (by simp at hx; omega))⟩
--@@ end
--@@ concordatref09.Recs
set_option maxHeartbeats 8000000 in
set_option maxRecDepth 100000 in
theorem rrecs_any (tx : Int) (v1 v2 : Value) (base ps : List Pr) (w : World) (h1 : SlAt w v1 6 base.length (base.flatMap Pr.f)) (h2 : SlAt w v2 6 ps.length (ps.flatMap Pr.f)) (hl : ps.length ≤ 1000) :
    Calls Tryz.prog 24 #[.int .i64 tx, v1, v2] w fun e w' => ∃ v', e = .returned v' ∧ w'.ownsRow w.heap.size 55 11 v' (recsP tx base ps).length ((recsP tx base ps).flatMap Rc.f) ∧ Kept [] w w' := by
  have HF := hid (show (Tryz.prog.info? 55).map (fun i => (i.zero, i.size, i.bytes)) = some (some (.agg #[.int .i64 0, .int .i64 0, .int .u16 0, .int .u8 0, .int .u8 0, .int .u8 0, .int .u8 0, .bool false, .int .i64 0, .bool false, .int .i64 0]), 11, 56) by kernel_rfl)
  have HV := hid h1
  obtain ⟨a1, c1, rfl, _⟩ := h1.ex
  obtain ⟨a2, c2, rfl, _, _, hcs⟩ := h2.ex
  have HC := hid hcs
  clear h1 h2 hcs
  go_enter Tryz.func24, Tryz.ntmps24
  go_wp2
  have HO0 := hid (ownsRow_made0 w 55 11 w.heap.size (Nat.le_refl _))
  have HK0 := hid ((Kept.refl [] w).alloc (.cells #[] 55))
  go_loopg [7, 8] ps.length (fun kx s7 s8 wr => ∃ k : Nat, s8 = .int .i64 k ∧ k ≤ ps.length ∧ ps.length - k ≤ kx ∧ Aside (s7 ≠ .slice none 0 0) ∧ Aside (wr.ownsRow w.heap.size 55 11 s7 k ((recsP tx base (ps.take k)).flatMap Rc.f)) ∧ Aside (Kept [] w wr))
  case atStart => exact ⟨0, by first | rfl | go_num, by omega, by omega, (fun e => by cases e), HO0.out, HK0.out⟩
  case round =>
    clear HO0 HK0
    obtain ⟨k, rfl, hk, hkx, HN, HO, HK⟩ := hrel
    have hsz := HK.out.size
    by_cases hlt : k < ps.length
    · have hltz : (k : Int) < (ps.length : Int) := by omega
      obtain ⟨b, off, rfl, hb, hcs⟩ := HC.out (by omega)
      have HX := hid (fun (w' : World) (hk' : Kept [] w w') => pair_cells (fun j u hj => hk'.cell (hcs j u hj) (by simp)) hlt)
      have HT := hid (show ps.take (k + 1) = ps.take k ++ [ps[k]] by rw [List.take_succ_eq_append_getElem hlt])
      clear hcs
      generalize ps[k] = x at *
      obtain ⟨⟨x1, x2, x3, x4⟩, ⟨x5, x6⟩⟩ := x
      dsimp only at HX
      obtain ⟨fv, hfv⟩ : ∃ fv, fv = findP base ⟨x1, x2, x3, x4⟩ := ⟨_, rfl⟩
      have HFI := hid (fun W (hk : Kept [] w W) => rfind_any _ base ⟨x1, x2, x3, x4⟩ W (HV.out.kept hk))
      rw [← hfv] at HFI
      simp only [K4.v] at HFI
      have hrec : recP tx base ⟨⟨x1, x2, x3, x4⟩, ⟨x5, x6⟩⟩ = ⟨1, tx, 0, ⟨x1, x2, x3, x4⟩, fixV fv, ⟨x5, x6⟩⟩ := by rw [hfv]; rfl
      have HREC := hid hrec
      have HR := hid (rright_any fv)
      obtain ⟨rt, hrt⟩ : ∃ rt, V.right fv = rt := ⟨_, rfl⟩
      rw [hrt] at HR
      have HFX := hid (show fixV fv = if rt = true then fv else V.zero by unfold fixV; rw [hrt])
      clear hrt hrec hfv
      obtain ⟨f1, f2⟩ := fv
      simp only [V.v] at HR
      dsimp only at HFI
      obtain ⟨r, hr⟩ : ∃ r, r = fixV ⟨f1, f2⟩ := ⟨_, rfl⟩
      rw [← hr] at HREC HFX
      clear hr
      obtain ⟨r1, r2⟩ := r
      rename World => wo
      obtain ⟨g, gc, rfl, hg1, hg2, _⟩ := ownsRow_form HO.out HN.out
      obtain ⟨e0, e1, e2, e3, e4, e5⟩ := HX.out wo HK.out
      go_upto_if 26 with (first
        | (go_at_call 47; refine (HFI.out _ HK.out).mono ?_; clear HFI; rintro e w2 ⟨rfl, hk2⟩; have HB2 := hid (heap_alloc_new w2 (.cells #[.bool f1, .int .i64 f2] 51)); have hs2 := hk2.size; have HK2 := hid (hk2.alloc (.cells #[.bool f1, .int .i64 f2] 51)); clear hk2 e0 e1 e2 e3 e4 e5; obtain ⟨y0, y1, _, _⟩ := cell2 HB2.out)
        | (go_at_call 46; refine (HR.out _).mono ?_; clear HR y0 y1; rintro e w3 ⟨rfl, hk3⟩; have HB3 := hid ((hk3.block w2.heap.size (by simp) (by simp)).trans HB2.out); have HK3 := hid (HK2.out.trans hk3 (fun x hx => by cases hx)); clear hk3))
      go_cut [] (fun wx => Aside (wx.heap[w2.heap.size]? = some (.cells #[.bool r1, .int .i64 r2] 51 (0, 0))) ∧ Aside (Kept [] wo wx))
      case first =>
        cases rt with
        | true =>
          have hfx := HFX.out
          rw [if_pos rfl] at hfx
          cases hfx
          go_wp2_with fail
          go_meet
          exact ⟨HB3.out, HK3.out⟩
        | false =>
          have hfx := HFX.out
          rw [if_neg (by simp)] at hfx
          cases hfx
          obtain ⟨y0, y1, y2, y3⟩ := cell2 HB3.out
          go_wp2_with fail
          go_meet
          exact ⟨set2 HB3.out _ _, (HK3.out.setCell (.inr (by simp; omega)) _).setCell (.inr (by simp; omega)) _⟩
      case rest =>
      obtain ⟨HB, HKX⟩ := hcut
      clear HB2 HB3 HK2 HK3 HFX
      generalize w2.heap.size = BT at *
      rename World => wq
      have HS := hid (show ∀ w', Kept [g] wq w' → (w'.cell? ⟨b, off + k * 6, none⟩ = some (.int .u8 (x1.toNat : Int)) ∧ w'.cell? ⟨b, off + k * 6 + 1, none⟩ = some (.int .u8 (x2.toNat : Int)) ∧ w'.cell? ⟨b, off + k * 6 + 2, none⟩ = some (.int .u8 (x3.toNat : Int)) ∧ w'.cell? ⟨b, off + k * 6 + 3, none⟩ = some (.int .u8 (x4.toNat : Int)) ∧ w'.cell? ⟨b, off + k * 6 + 4, none⟩ = some (.bool x5) ∧ w'.cell? ⟨b, off + k * 6 + 5, none⟩ = some (.int .i64 x6)) ∧ w'.cell? ⟨BT, 0, none⟩ = some (.bool r1) ∧ w'.cell? ⟨BT, 1, none⟩ = some (.int .i64 r2) from fun w' hk' => by
        have h1 := HX.out w' ((HK.out.trans HKX.out (fun x hx => by cases hx)).trans hk' (fun x hx => .inr (by simp at hx; omega)))
        have h2 := cell2 ((hk'.block BT (Array.getElem?_eq_some_iff.1 HB.out).1 (by simp; omega)).trans HB.out)
        exact ⟨h1, h2.1, h2.2.1⟩)
      have HOq := hid (ownsRow_kept HO.out HKX.out (by simp))
      have hqs := HKX.out.size
      go_wp2_with fail
      go_region_held3 (fun w' => (w'.cell? ⟨b, off + k * 6, none⟩ = some (.int .u8 (x1.toNat : Int)) ∧ w'.cell? ⟨b, off + k * 6 + 1, none⟩ = some (.int .u8 (x2.toNat : Int)) ∧ w'.cell? ⟨b, off + k * 6 + 2, none⟩ = some (.int .u8 (x3.toNat : Int)) ∧ w'.cell? ⟨b, off + k * 6 + 3, none⟩ = some (.int .u8 (x4.toNat : Int)) ∧ w'.cell? ⟨b, off + k * 6 + 4, none⟩ = some (.bool x5) ∧ w'.cell? ⟨b, off + k * 6 + 5, none⟩ = some (.int .i64 x6)) ∧ w'.cell? ⟨BT, 0, none⟩ = some (.bool r1) ∧ w'.cell? ⟨BT, 1, none⟩ = some (.int .i64 r2))
        ((refine HS.out _ ?_; first | exact hk5 | (repeat (first | assumption | (with_reducible exact Kept.refl _ _) | (with_reducible refine Kept.drew ?_) | (with_reducible refine Kept.alloc ?_ _) | (with_reducible refine Kept.setCell ?_ (by right; simp; try omega) _)))))
        ((rw [if_pos (by rfl)]; refine wp_append_is _ _ 22 rfl 55 _ 11 56 Tryz.underlying22 HF.out rfl (by decide) (by decide) w.heap.size _ k _ rfl (ownsRow_kept HOq.out (((Kept.refl [] wq).drew).alloc _) (by simp)) _ 1 1 (Rc.f ⟨1, tx, 0, ⟨x1, x2, x3, x4⟩, ⟨r1, r2⟩, ⟨x5, x6⟩⟩) rfl rfl (fun j u h => cells_new _ (Rc.f ⟨1, tx, 0, ⟨x1, x2, x3, x4⟩, ⟨r1, r2⟩, ⟨x5, x6⟩⟩) _ j u h) (by simp [Rc.f, Value.oneCell']) (by omega) (by simp; omega) ?_; intro v' w5 hown5 hgrow hnil; have hk5 : Kept [g] wq w5 := Kept.trans (S := [g]) (((Kept.refl [g] wq).drew).alloc _) (Kept.of_grown hgrow [g] (fun k hk => by cases hk; simp)) (fun x hx => .inl hx); have hn5 : v' ≠ .slice none 0 0 := fun h => by have := (hnil.1 h).1; cases this))
      have HK5 := hid ((HK.out.trans HKX.out (fun x hx => by cases hx)).trans hk5 (fun x hx => .inr (by simp at hx; omega)))
      have H5 := hid hown5
      clear hown5 hgrow hnil hk5
      go_wp2
      go_roundg (ps.length - (k + 1))
      case measure => omega
      case rel => exact ⟨k + 1, by first | rfl | go_num, by omega, Nat.le_refl _, hn5, by show World.ownsRow _ _ _ _ _ _ _; rw [HT.out]; unfold recsP; rw [List.map_append, List.flatMap_append, List.map_cons, HREC.out]; simpa [recsP] using H5.out, HK5.out⟩
    · obtain rfl : k = ps.length := by omega
      have hltz : ¬ (ps.length : Int) < (ps.length : Int) := by omega
      go_wp2
      go_returns
      refine ⟨_, rfl, ?_, HK.out⟩
      have := HO.out
      rw [List.take_length] at this
      have hl1 : (recsP tx base ps).length = ps.length := by simp [recsP]
      rw [hl1]
      exact this
--@@ end
--@@ concordatref00.SameRecs
set_option maxHeartbeats 4000000 in
set_option maxRecDepth 100000 in
theorem sameRecs_any (v1 v2 : Value) (xs ys : List Rc) (w : World) (h1 : SlAt w v1 11 xs.length (xs.flatMap Rc.f)) (h2 : SlAt w v2 11 ys.length (ys.flatMap Rc.f)) :
    Calls Tryz.prog 13 #[v1, v2] w fun e w' => e = .returned (.bool (decide (xs = ys))) ∧ Kept [] w w' := by
  obtain ⟨a1, cap1, rfl, m1, _, c1⟩ := h1.ex
  obtain ⟨a2, cap2, rfl, m2, _, c2⟩ := h2.ex
  clear h1 h2
  have HC1 := hid c1
  have HC2 := hid c2
  clear c1 c2
  by_cases hl : xs.length = ys.length
  · have hb : ((xs.length : Int) != (ys.length : Int)) = false := by simp [hl]
    have HL := hid hl
    clear hl
    go_enter Tryz.func13, Tryz.ntmps13
    go_wp2
    go_loopw [5] (fun i wr => ∃ k : Nat, k ≤ xs.length ∧ i = .int .i64 k ∧ xs.take k = ys.take k ∧ ∃ n, wr = w.drewN n) (fun i _ => xs.length - (intOf i).toNat)
    case atStart => exact ⟨0, Nat.zero_le _, rfl, rfl, 0, rfl⟩
    case round =>
      obtain ⟨k, hk, rfl, ht, n, rfl⟩ := hrel
      have HT := hid ht
      clear ht
      by_cases hlt : k < xs.length
      · have hlt2 : k < ys.length := by rw [← HL.out]; exact hlt
        obtain ⟨b1, o1, rfl, _, d1⟩ := HC1.out (by omega)
        obtain ⟨b2, o2, rfl, _, d2⟩ := HC2.out (by omega)
        obtain ⟨e0, e1, e2, e3, e4, e5, e6, e7, e8, e9, e10⟩ := rec_cells d1 hlt
        obtain ⟨f0, f1, f2, f3, f4, f5, f6, f7, f8, f9, f10⟩ := rec_cells d2 hlt2
        clear d1 d2
        have HX := hid (show xs.take (k + 1) = xs.take k ++ [xs[k]] by rw [List.take_succ_eq_append_getElem hlt])
        have HY := hid (show ys.take (k + 1) = ys.take k ++ [ys[k]] by rw [List.take_succ_eq_append_getElem hlt2])
        have HXE := hid (show xs[k]? = some xs[k] by simp [hlt])
        have HYE := hid (show ys[k]? = some ys[k] by simp [hlt2])
        generalize xs[k] = x at *
        generalize ys[k] = y at *
        by_cases hxy : x = y
        · have hq := fun (w : World) => neR w x y
          rw [show (!decide (x = y)) = false by simp [hxy]] at hq
          have HXY := hid hxy
          clear hxy
          obtain ⟨x0, x1, x2, ⟨x3, x4, x5, x6⟩, ⟨x7, x8⟩, ⟨x9, xa⟩⟩ := x
          obtain ⟨y0, y1, y2, ⟨y3, y4, y5, y6⟩, ⟨y7, y8⟩, ⟨y9, ya⟩⟩ := y
          dsimp only at e0 e1 e2 e3 e4 e5 e6 e7 e8 e9 e10 f0 f1 f2 f3 f4 f5 f6 f7 f8 f9 f10
          simp only [Rc.v] at hq
          go_wp2_with fail
          go_quiet (fail)
          go_wp2
          go_roundw
          case rel => exact ⟨k + 1, by omega, by go_num, by rw [HX.out, HY.out, HT.out, HXY.out], _, rfl⟩
          case measure => simp [intOf]; omega
        · have hq := fun (w : World) => neR w x y
          rw [show (!decide (x = y)) = true by simp [hxy]] at hq
          have HXY := hid hxy
          clear hxy
          obtain ⟨x0, x1, x2, ⟨x3, x4, x5, x6⟩, ⟨x7, x8⟩, ⟨x9, xa⟩⟩ := x
          obtain ⟨y0, y1, y2, ⟨y3, y4, y5, y6⟩, ⟨y7, y8⟩, ⟨y9, ya⟩⟩ := y
          dsimp only at e0 e1 e2 e3 e4 e5 e6 e7 e8 e9 e10 f0 f1 f2 f3 f4 f5 f6 f7 f8 f9 f10
          simp only [Rc.v] at hq
          go_wp2_with fail
          go_quiet (fail)
          go_wp2
          go_ret
          refine ⟨ret_bool ?_, ((Kept.refl [] w).drewN _).drewN _⟩
          symm
          refine decide_eq_false fun h => HXY.out ?_
          have := HXE.out
          rw [h, HYE.out] at this
          exact (Option.some.inj this).symm
      · go_wp2
        go_ret
        obtain rfl : k = xs.length := by omega
        refine ⟨ret_bool ?_, (Kept.refl [] w).drewN _⟩
        have := HT.out
        rw [List.take_length, HL.out, List.take_length] at this
        simp [this]
  · have hb : ((xs.length : Int) != (ys.length : Int)) = true := by simp; omega
    have HL := hid hl
    clear hl
    go_enter Tryz.func13, Tryz.ntmps13
    go_wp2
    go_ret
    exact ⟨ret_bool (by symm; exact decide_eq_false fun h => HL.out (by rw [h])), Kept.refl _ _⟩
--@@ concordatref04.value
theorem r4value_any (v : V) (w : World) :
    Calls Tryz.prog 59 #[v.v] w fun e w' => e = .returned (.bool v.right) ∧ Kept [] w w' := by
  obtain ⟨b, n⟩ := v
  simp only [V.v]
  cases b
  · by_cases hn : n = 0
    · subst hn
      go_enter Tryz.func59, Tryz.ntmps59
      go_wp2
      go_ret
      exact ⟨rfl, (Kept.refl [] w).alloc _⟩
    · have hn' : (n == 0) = false := by simp [hn]
      go_enter Tryz.func59, Tryz.ntmps59
      go_wp2
      go_ret
      exact ⟨ret_bool (by simp [V.right, hn]), (Kept.refl [] w).alloc _⟩
  · go_enter Tryz.func59, Tryz.ntmps59
    go_wp2
    go_ret
    exact ⟨rfl, (Kept.refl [] w).alloc _⟩
--@@ concordatref04.Right
set_option maxHeartbeats 4000000 in
set_option maxRecDepth 100000 in
theorem r4right_any (tx : Int) (k : K4) (o n : V) (w : World) (h1 : 1 ≤ tx) (h2 : tx ≤ 1048576) (ho : V.right o = true) (hn : V.right n = true) :
    Calls Tryz.prog 32 #[(⟨1, tx, 0, k, o, n⟩ : Rc).v] w fun e w' => e = .returned (.bool true) ∧ Kept [] w w' := by
  have HO := hid (r4value_any o)
  have HN := hid (r4value_any n)
  rw [ho] at HO
  rw [hn] at HN
  clear ho hn
  obtain ⟨k1, k2, k3, k4⟩ := k
  obtain ⟨o1, o2⟩ := o
  obtain ⟨n1, n2⟩ := n
  simp only [Rc.v]
  simp only [V.v] at HO HN
  have HS := hid (show ∀ w', Kept [] (w.alloc (.cells #[.int .i64 1, .int .i64 tx, .int .u16 0, .int .u8 (k1.toNat : Int), .int .u8 (k2.toNat : Int), .int .u8 (k3.toNat : Int), .int .u8 (k4.toNat : Int), .bool o1, .int .i64 o2, .bool n1, .int .i64 n2] 55)) w' → w'.cell? ⟨w.heap.size, 9, none⟩ = some (.bool n1) ∧ w'.cell? ⟨w.heap.size, 10, none⟩ = some (.int .i64 n2) from fun w' hk' =>
    ⟨hk'.cell (new_cell w [.int .i64 1, .int .i64 tx, .int .u16 0, .int .u8 (k1.toNat : Int), .int .u8 (k2.toNat : Int), .int .u8 (k3.toNat : Int), .int .u8 (k4.toNat : Int), .bool o1, .int .i64 o2, .bool n1, .int .i64 n2] 55 9 _ rfl) (by simp), hk'.cell (new_cell w [.int .i64 1, .int .i64 tx, .int .u16 0, .int .u8 (k1.toNat : Int), .int .u8 (k2.toNat : Int), .int .u8 (k3.toNat : Int), .int .u8 (k4.toNat : Int), .bool o1, .int .i64 o2, .bool n1, .int .i64 n2] 55 10 _ rfl) (by simp)⟩)
  go_enter Tryz.func32, Tryz.ntmps32
  go_wp2_with (first
    | (go_at_call 59; refine (HO.out _).mono ?_; clear HO; rintro e w2 ⟨rfl, hk2⟩; obtain ⟨z0, z1⟩ := HS.out w2 (by exact Kept.trans ((Kept.refl [] _).alloc _) hk2 (fun x hx => by cases hx)); have HK2 := hid hk2; clear hk2)
    | (go_at_call 59; refine (HN.out _).mono ?_; clear HN; rintro e w3 ⟨rfl, hk3⟩; have HK3 := hid hk3; clear hk3))
  go_returns
  exact ⟨rfl, (((Kept.refl [] w).alloc _).alloc _ |>.trans HK2.out (fun x hx => by cases hx)).trans HK3.out (fun x hx => by cases hx)⟩
--@@ end
theorem RfAt.row {w : World} {D : Nat → Prop} {A : Nat} {s : Stp} (h : RfAt w D A s) {i : Nat} {x : Txp} (hx : s.txs[i]? = some x) :
    ∃ bv g c L qa qc, RfD w D A bv (.slice (some ⟨g, 0, none⟩) L.length c) L s ∧ ∃ hi : i < L.length, L[i] = (x, .slice qa x.ws.length qc) := by
  obtain ⟨bv, tv, L, H⟩ := h
  have hll : L.length = s.txs.length := by rw [← H.is.l, List.length_map]
  have hi : i < s.txs.length := (List.getElem?_eq_some_iff.1 hx).1
  obtain ⟨g, c, rfl, _, _⟩ := own_pos H.is.g.own (by omega)
  obtain ⟨qa, qc, e, _⟩ := (H.is.g.prs L[i] (List.getElem_mem (by omega))).1.at'.ex
  have e1 : L[i].1 = x := by
    have := (List.getElem?_eq_some_iff.1 hx).2
    simp only [← H.is.l, List.getElem_map] at this
    exact this
  rw [e1] at e
  exact ⟨bv, g, c, L, qa, qc, H, by omega, Prod.ext e1 e⟩
structure RowF (w : World) (A g i : Nat) (bv tv qv : Value) (x : Txp) : Prop where
  c0 : w.cell? ⟨A, 0, none⟩ = some bv
  c1 : w.cell? ⟨A, 1, none⟩ = some tv
  z0 : w.frozen? ⟨A, 0, none⟩ = false
  z1 : w.frozen? ⟨A, 1, none⟩ = false
  e0 : w.cell? ⟨g, i * 4, none⟩ = some (.int .i64 x.n)
  e1 : w.cell? ⟨g, i * 4 + 1, none⟩ = some (.int .u16 (x.mask : Int))
  e2 : w.cell? ⟨g, i * 4 + 2, none⟩ = some (.bool x.com)
  e3 : w.cell? ⟨g, i * 4 + 3, none⟩ = some qv
  fz : ∀ o, w.frozen? ⟨g, o, none⟩ = false
  pr : PrAt w qv x.ws
  nb : notBlkG qv (some g)
  ag : A < g
theorem RfD.facts {w : World} {D : Nat → Prop} {A g c : Nat} {bv qv : Value} {L : List (Txp × Value)} {s : Stp} {i : Nat} {x : Txp} (H : RfD w D A bv (.slice (some ⟨g, 0, none⟩) L.length c) L s) (hi : i < L.length) (hq : L[i] = (x, qv)) : RowF w A g i bv (.slice (some ⟨g, 0, none⟩) L.length c) qv x := by
  obtain ⟨c0, c1, z0, z1⟩ := cell2 H.is.g.blk
  obtain ⟨e0, e1, e2, e3⟩ := tx_cells (own_cell H.is.g.own) hi
  rw [hq] at e0 e1 e2 e3
  simp only [Nat.zero_add] at e0 e1 e2 e3
  have hp := H.is.g.prs L[i] (List.getElem_mem hi)
  rw [hq] at hp
  exact ⟨c0, c1, z0, z1, e0, e1, e2, e3, own_frz H.is.g.own, hp.1, hp.2.1, by have := (H.is.g.own.lt g rfl).1; omega⟩
theorem RfD.set {w : World} {D : Nat → Prop} {A g c : Nat} {bv qv v : Value} {L : List (Txp × Value)} {s : Stp} {i j : Nat} {x : Txp} {q' : Txp × Value} (H : RfD w D A bv (.slice (some ⟨g, 0, none⟩) L.length c) L s) (hi : i < L.length) (hq : L[i] = (x, qv)) (hj : j < 4)
    (hf : txF q' = (txF (x, qv)).set j v) (hp : PrAt w q'.2 q'.1.ws) (hn : notBlkG q'.2 (some g)) : RfD (w.setCell ⟨g, i * 4 + j, none⟩ v) D A bv (.slice (some ⟨g, 0, none⟩) (L.set i q').length c) (L.set i q') ⟨s.base, s.txs.set i q'.1⟩ ∧ KeD D w (w.setCell ⟨g, i * 4 + j, none⟩ v) := by
  obtain ⟨h1, h2, h3⟩ := H.is.set hi hj (by rw [hq]; exact hf) hp hn
  have hg : ¬ D g := H.nT g rfl
  exact ⟨⟨h1, H.nA, fun g' e => by cases e; exact hg, fun b hb => by have := H.lt b hb; simpa [World.setCell] using this⟩, KeD.of h2 fun k hk => ⟨H.lt k hk, fun hm => by simp only [List.mem_singleton] at hm; subst hm; exact hg hk⟩⟩
theorem RfD.setBase {w : World} {D : Nat → Prop} {A : Nat} {bv tv bv' : Value} {L : List (Txp × Value)} {s : Stp} {base' : List Pr} (H : RfD w D A bv tv L s) (hb : PrAt w bv' base') (hn : notBlkG bv' tv.ownBlock) : RfAt (w.setCell ⟨A, 0, none⟩ bv') D A ⟨base', s.txs⟩ ∧ KeD D w (w.setCell ⟨A, 0, none⟩ bv') := by
  obtain ⟨h1, h2⟩ := H.is.setBase hb hn
  exact ⟨⟨bv', _, _, h1, H.nA, H.nT, fun b hb => by have := H.lt b hb; simpa [World.setCell] using this⟩, KeD.of h2 fun k hk => ⟨H.lt k hk, fun hm => by simp only [List.mem_singleton] at hm; subst hm; exact H.nA hk⟩⟩
theorem new_nb {g lo : Nat} {v : Value} (hf : ∀ a m c, v = .slice (some a) m c → 0 < m → lo ≤ a.block) (hg : g < lo) : notBlkG v (some g) := fun a m c hv hm e => by
  have := hf a m c hv hm
  have : g = a.block := Option.some.inj e
  omega
theorem set_self {l : List Txp} {i : Nat} {x : Txp} (h : l[i]? = some x) : l.set i x = l := by
  obtain ⟨h1, h2⟩ := List.getElem?_eq_some_iff.1 h
  rw [← h2]
  exact List.set_getElem_self h1
--@@ concordatref09.Keys
set_option maxRecDepth 10000 in
theorem wp_append_e {w : World} {o : Oper} {a : Act} {K : Act → World → Prop} {Q : Exit → Act → World → Prop} (s x : Operand)
    (ho : o.op = .call { callee := .builtin .append, args := #[s, x], argTypes := #[23, 23] })
    (lo g : Nat) (hs : a.eval s = .slice (some ⟨g, 0, none⟩) 0 0) (hown : w.ownsRow lo 64 6 (.slice (some ⟨g, 0, none⟩) 0 0) 0 []) (vx : Value) (l : List Pr) (hx : a.eval x = vx) (hp : SlAt w vx 6 l.length (l.flatMap Pr.f))
    (hn : l.length ≤ 100000) (hlo : lo ≤ w.heap.size)
    (h : ∀ v' w', w'.ownsRow lo 64 6 v' l.length (l.flatMap Pr.f) → Kept [] w w' → K (a.put o.dst v') w') : o.wp Tryz.prog a w K Q := by
  obtain ⟨i, hi, hz0, hz1, hz2⟩ := info_parts refPairInfo
  obtain ⟨ax, c, rfl, h1, h2, h3⟩ := hp.ex
  have ht := Tryz.underlying23
  rcases hown.2 with ⟨hh, _⟩ | ⟨g', cap, cur, hh, hb, hg, _, _, hcs, _⟩
  · cases hh
  cases hh
  by_cases hl : l = []
  · subst hl
    cases ax with
    | none =>
      have hr := run_append_nil_src (P := Tryz.prog) (w := w) lo 23 o.type 64 i ht hi _ 0 c [] hown
      unfold Oper.wp execOp
      simp only [ho, resolve, invoke, builtin, Sem.run_bind, Sem.run_pure, Result.andThen_ok, List.map_toArray, List.map_cons, List.map_nil, hs, hx, hr, List.length_nil]
      exact h _ w (by simpa using hown) (Kept.refl _ _)
    | some ad =>
      have hr := run_append_room (P := Tryz.prog) w 23 o.type 64 i ht hi g 0 0 cur hg ad 0 c [] (by simp) (by simp) (by simp) (by omega) (by simp)
      have hW : w.setRow g (cur.toList.take (0 * i.size) ++ [] ++ cur.toList.drop (0 * i.size + ([] : List Value).length)).toArray = w.setRow g cur := by simp
      rw [hW] at hr
      have hk : Kept [] w (w.setRow g cur) := ⟨rfl, rfl, rfl, by simp, fun k hk _ => by
        by_cases e : k = g
        · subst e; rw [setRow_heap w k cur cur _ _ hg, hg]
        · exact setRow_other w g k _ e⟩
      unfold Oper.wp execOp
      simp only [ho, resolve, invoke, builtin, Sem.run_bind, Sem.run_pure, Result.andThen_ok, List.map_toArray, List.map_cons, List.map_nil, hs, hx, hr, List.length_nil]
      exact h _ _ (by have := ownsRow_kept hown hk (by simp); simpa using this) hk
  · have hpos : 0 < l.length := List.length_pos_iff.2 hl
    obtain ⟨b, off, rfl, _, hcc⟩ := h3 hpos
    have hsz : i.size = 6 := hz1
    have hr := run_append_grow (P := Tryz.prog) w 23 o.type 64 i _ ht hi hz0 ⟨g, 0, none⟩ 0 0 [] (by simp) (by simp) ⟨b, off, none⟩ l.length c (l.flatMap Pr.f) (by rw [hsz]; exact h2) (fun j u hu => by rw [Addr.add_lit]; exact hcc j u hu) (by omega) (by omega) (growslice_fits (by omega) (by rw [hz2]; omega))
    have hge := grownCap_ge w (0 + l.length) 0 64
    have hcm := grownCap_le_maxLen w (0 + l.length) 0 64 (by unfold maxLen; omega)
    unfold Oper.wp execOp
    simp only [ho, resolve, invoke, builtin, Sem.run_bind, Sem.run_pure, Result.andThen_ok, List.map_toArray, List.map_cons, List.map_nil, hs, hx, hr]
    refine h _ _ ⟨h2, .inr ⟨w.heap.size, _, _, by rw [Nat.zero_add], hlo, heap_alloc_new w.drew _, by omega, hcm, ?_, ?_⟩⟩ ((Kept.refl [] w).drew.alloc _)
    · simp only [Array.size_append, List.size_toArray, size_zeroCells, List.length_nil, h2]
      rw [show (Value.cells (.agg #[.int .u8 0, .int .u8 0, .int .u8 0, .int .u8 0, .bool false, .int .i64 0])).size = 6 from rfl]
      omega
    · simp only [Array.toList_append, List.nil_append, List.append_assoc]
      rw [← h2]
      exact List.take_left
--@@ end
theorem next_filter {m : Txp} {last : Int} (h1 : last < m.n) : ∀ {Z : List Txp}, Z.Pairwise (fun a b => a.n < b.n) → m ∈ Z → (∀ x ∈ Z, last < x.n → m.n ≤ x.n) → Z.filter (fun x => decide (x.n ≤ m.n)) = Z.filter (fun x => decide (x.n ≤ last)) ++ [m]
  | [], _, hm, _ => by cases hm
  | z :: Z, hs, hm, h2 => by
    rw [List.pairwise_cons] at hs
    by_cases hz : z.n ≤ last
    · have hm' : m ∈ Z := by
        rcases List.mem_cons.1 hm with rfl | h
        · omega
        · exact h
      rw [List.filter_cons_of_pos (by simp; omega), List.filter_cons_of_pos (by simpa using hz), next_filter h1 hs.2 hm' (fun x hx => h2 x (List.mem_cons_of_mem _ hx))]
      rfl
    · have h3 := h2 z List.mem_cons_self (by omega)
      have hmz : m = z := by
        rcases List.mem_cons.1 hm with h | h
        · exact h
        · have := hs.1 m h; omega
      subst hmz
      rw [List.filter_cons_of_pos (by simp), List.filter_cons_of_neg (by simpa using hz), List.filter_eq_nil_iff.2 (fun x hx => by have := hs.1 x hx; simp; omega), List.filter_eq_nil_iff.2 (fun x hx => by have := hs.1 x hx; simp; omega)]
      rfl
theorem rGet_n (n : Int) : ∀ l : List Txp, (rGet n l).n = n
  | [] => rfl
  | x :: l => by
    simp only [rGet]
    split
    · assumption
    · exact rGet_n n l
theorem rGet_mem {n : Int} : ∀ {l : List Txp}, n ∈ l.map (·.n) → rGet n l ∈ l
  | [], h => by cases h
  | x :: l, h => by
    simp only [rGet]
    split
    · exact List.mem_cons_self
    · rename_i e
      rcases List.mem_cons.1 h with h | h
      · exact absurd h.symm e
      · exact List.mem_cons_of_mem _ (rGet_mem h)
theorem rGet_self {x : Txp} : ∀ {l : List Txp}, (l.map (·.n)).Nodup → x ∈ l → rGet x.n l = x
  | [], _, h => by cases h
  | y :: l, hn, h => by
    rw [List.map_cons, List.nodup_cons] at hn
    simp only [rGet]
    rcases List.mem_cons.1 h with rfl | h
    · rw [if_pos rfl]
    · rw [if_neg (fun e => hn.1 (by rw [e]; exact List.mem_map_of_mem h))]
      exact rGet_self hn.2 h
section
variable {txs : List Txp} (hn : (txs.map (·.n)).Nodup)
include hn
theorem rOut_mem {b : List Pr} {x : Txp} : x ∈ (rOut ⟨b, txs⟩).txs ↔ x ∈ txs ∧ x.mask ≠ 0 := by
  unfold rOut
  simp only [List.mem_filterMap, (srtI_perm _).mem_iff]
  constructor
  · rintro ⟨n, h1, h2⟩
    unfold rTx at h2
    split at h2
    · rename_i hm
      cases h2
      exact ⟨rGet_mem h1, hm⟩
    · cases h2
  · rintro ⟨h1, h2⟩
    refine ⟨x.n, List.mem_map_of_mem h1, ?_⟩
    unfold rTx
    rw [rGet_self hn h1, if_pos h2]
theorem rOut_srt {b : List Pr} : (rOut ⟨b, txs⟩).txs.Pairwise (fun a b => a.n < b.n) := by
  unfold rOut
  dsimp only
  have hs := srtI_srt hn
  refine List.Pairwise.filterMap _ (fun a a' hlt b hb b' hb' => ?_) hs
  have key : ∀ {n : Int} {x : Txp}, rTx txs n = some x → x.n = n := fun {n x} h => by
    unfold rTx at h
    split at h
    · cases h; exact rGet_n n txs
    · cases h
  rw [key hb, key hb']
  exact hlt
end
structure Least (txs : List Txp) (last : Int) (i : Nat) (o : Option Nat) : Prop where
  no : o = none → ∀ j (h : j < txs.length), j < i → ¬ (last < txs[j].n ∧ txs[j].mask ≠ 0)
  yes : ∀ m, o = some m → ∃ h : m < txs.length, (last < txs[m].n ∧ txs[m].mask ≠ 0) ∧ ∀ j (h' : j < txs.length), j < i → last < txs[j].n ∧ txs[j].mask ≠ 0 → txs[m].n ≤ txs[j].n
theorem Least.zero (txs : List Txp) (last : Int) : Least txs last 0 none := ⟨fun _ j _ hj => by omega, fun m h => by cases h⟩
theorem Least.skip {txs : List Txp} {last : Int} {i : Nat} {o : Option Nat} (H : Least txs last i o) (hi : i < txs.length) (h : ¬ (last < txs[i].n ∧ txs[i].mask ≠ 0)) : Least txs last (i + 1) o :=
  ⟨fun ho j hj hji => by
    by_cases e : j = i
    · subst e; exact h
    · exact H.no ho j hj (by omega), fun m hm => by
    obtain ⟨h1, h2, h3⟩ := H.yes m hm
    refine ⟨h1, h2, fun j hj hji hc => ?_⟩
    by_cases e : j = i
    · subst e; exact absurd hc h
    · exact h3 j hj (by omega) hc⟩
theorem Least.keep {txs : List Txp} {last : Int} {i m : Nat} (H : Least txs last i (some m)) (hi : i < txs.length) (hm : m < txs.length) (h : ¬ txs[i].n < txs[m].n) : Least txs last (i + 1) (some m) :=
  ⟨fun ho => (by cases ho), fun m' hm' => by
    cases hm'
    obtain ⟨h1, h2, h3⟩ := H.yes m rfl
    refine ⟨h1, h2, fun j hj hji hc => ?_⟩
    by_cases e : j = i
    · subst e; omega
    · exact h3 j hj (by omega) hc⟩
theorem Least.take {txs : List Txp} {last : Int} {i : Nat} {o : Option Nat} (H : Least txs last i o) (hi : i < txs.length) (h : last < txs[i].n ∧ txs[i].mask ≠ 0) (h' : ∀ m, o = some m → ∀ hm : m < txs.length, txs[i].n < txs[m].n) : Least txs last (i + 1) (some i) :=
  ⟨fun ho => (by cases ho), fun m' hm' => by
    cases hm'
    refine ⟨hi, h, fun j hj hji hc => ?_⟩
    by_cases e : j = i
    · subst e; omega
    · cases ho : o with
      | none => exact absurd hc (H.no ho j hj (by omega))
      | some m =>
        obtain ⟨h1, h2, h3⟩ := H.yes m ho
        have := h3 j hj (by omega) hc
        have := h' m ho h1
        omega⟩
theorem Least.last {txs : List Txp} {last : Int} {b : List Pr} (hn : (txs.map (·.n)).Nodup) (H : Least txs last txs.length none) : (rOut ⟨b, txs⟩).txs.filter (fun x => decide (x.n ≤ last)) = (rOut ⟨b, txs⟩).txs :=
  List.filter_eq_self.2 fun x hx => by
    obtain ⟨h1, h2⟩ := (rOut_mem hn).1 hx
    obtain ⟨j, hj, rfl⟩ := List.mem_iff_getElem.1 h1
    have := H.no rfl j hj hj
    simp only [not_and] at this
    refine decide_eq_true ?_
    by_cases hl : last < txs[j].n
    · exact absurd h2 (by simpa using this hl)
    · omega
theorem Least.next {txs : List Txp} {last : Int} {b : List Pr} {m : Nat} (hn : (txs.map (·.n)).Nodup) (H : Least txs last txs.length (some m)) : ∃ h : m < txs.length, last < txs[m].n ∧ (rOut ⟨b, txs⟩).txs.filter (fun x => decide (x.n ≤ txs[m].n)) = (rOut ⟨b, txs⟩).txs.filter (fun x => decide (x.n ≤ last)) ++ [txs[m]] := by
  obtain ⟨h1, h2, h3⟩ := H.yes m rfl
  refine ⟨h1, h2.1, next_filter h2.1 (rOut_srt hn) ((rOut_mem hn).2 ⟨List.getElem_mem h1, h2.2⟩) fun x hx hl => ?_⟩
  obtain ⟨h4, h5⟩ := (rOut_mem hn).1 hx
  obtain ⟨j, hj, rfl⟩ := List.mem_iff_getElem.1 h4
  exact h3 j hj hj ⟨hl, h5⟩
theorem Least.lt {txs : List Txp} {last : Int} {i m : Nat} (H : Least txs last i (some m)) : m < txs.length := (H.yes m rfl).1
theorem ref_state (l : List Rc) : ∃ s, rPlay ⟨[], []⟩ (l.filter Rc.right) = s ∧ (s.txs.map (·.n)).Nodup ∧ ∀ x ∈ s.txs, 1 ≤ x.n := by
  have H : RelR p0 ⟨[], []⟩ (l.filter Rc.right) := .of_none (pend_neg (by show ¬ (0 : Int) < -1; omega)) rfl
  have hr : ∀ r ∈ l.filter Rc.right, r.right = true := fun r hr => (List.mem_filter.1 hr).2
  have h := rel_play _ H PlOk.zero hr
  have hok : PlOk (playP p0 l) := by
    unfold playP
    have : ∀ (L : List Rc) (p : Pl), PlOk p → (∀ r ∈ L, r.right = true) → PlOk (L.foldl oneP p) := fun L => by
      induction L with
      | nil => intro p h _; exact h
      | cons r L ih => intro p h hr; exact ih _ (h.one (hr r List.mem_cons_self)) fun x hx => hr x (List.mem_cons_of_mem _ hx)
    exact this _ _ PlOk.zero hr
  have hn : pend (playP p0 l) [] = none := by
    unfold pend
    split
    · rename_i hp
      obtain ⟨m, hm⟩ : ∃ m, (playP p0 l).left.toNat = m + 1 := ⟨(playP p0 l).left.toNat - 1, by omega⟩
      rw [hm]
      rfl
    · rfl
  have hs := h.nn hn
  refine ⟨_, hs, ?_, fun x hx => ?_⟩
  · have := hok.kn
    show ((((playP p0 l).works.map rowOf)).map (·.n)).Nodup
    rw [List.map_map]
    exact this
  · obtain ⟨q, hq, rfl⟩ := List.mem_map.1 hx
    exact (hok.wk q hq).1
def tot (s : Stp) : Nat := s.base.length + (s.txs.map fun x => x.ws.length).sum
structure Bnd (N : Nat) (s : Stp) (i : Nat) : Prop where
  tx : s.txs.length ≤ i
  all : tot s ≤ N + i
theorem Bnd.zero (N : Nat) : Bnd N ⟨[], []⟩ 0 := ⟨Nat.le_refl _, by simp [tot]⟩
theorem Bnd.mono {N : Nat} {s : Stp} {i j : Nat} (h : Bnd N s i) (hj : i ≤ j) : Bnd N s j := ⟨Nat.le_trans h.tx hj, Nat.le_trans h.all (by omega)⟩
theorem sum_get {l : List Txp} {x : Txp} (h : x ∈ l) : x.ws.length ≤ (l.map fun x => x.ws.length).sum := by
  induction l with
  | nil => cases h
  | cons y l ih =>
    rw [List.map_cons, List.sum_cons]
    rcases List.mem_cons.1 h with rfl | h
    · omega
    · have := ih h; omega
theorem Bnd.row {N : Nat} {s : Stp} {i : Nat} (h : Bnd N s i) {x : Txp} (hx : x ∈ s.txs) : s.base.length + x.ws.length ≤ N + i := by
  have := sum_get hx
  have := h.all
  unfold tot at this
  omega
theorem rPut_len (n : Int) (f : Txp → Txp) : ∀ l : List Txp, (rPut n f l).length ≤ l.length + 1
  | [] => by simp [rPut]
  | x :: l => by
    simp only [rPut]
    split
    · simp
    · have := rPut_len n f l; simp; omega
theorem rPut_sum (n : Int) (f : Txp → Txp) {c : Nat} : ∀ l : List Txp, (f (rGet n l)).ws.length ≤ (rGet n l).ws.length + c → ((rPut n f l).map fun x => x.ws.length).sum ≤ (l.map fun x => x.ws.length).sum + c
  | [], h => by simpa [rPut, rGet, Txp.new] using h
  | x :: l, h => by
    simp only [rPut, rGet] at h ⊢
    by_cases e : x.n = n
    · rw [if_pos e] at h ⊢
      simp only [List.map_cons, List.sum_cons]
      omega
    · rw [if_neg e] at h ⊢
      have := rPut_sum n f l h
      simp only [List.map_cons, List.sum_cons]
      omega
theorem rPut_com (n : Int) : ∀ l : List Txp, ((rPut n rCom l).map fun x => x.ws.length).sum + (if (rGet n l).mask = 0 ∨ (rGet n l).com = true then 0 else (rGet n l).ws.length) ≤ (l.map fun x => x.ws.length).sum
  | [] => by simp [rPut, rGet, Txp.new, rCom]
  | x :: l => by
    by_cases e : x.n = n
    · have h1 : rGet n (x :: l) = x := by simp only [rGet, if_pos e]
      have h2 : rPut n rCom (x :: l) = rCom x :: l := by simp only [rPut, if_pos e]
      rw [h1, h2]
      simp only [List.map_cons, List.sum_cons]
      unfold rCom
      split
      · omega
      · simp only [List.length_nil]; omega
    · have h1 : rGet n (x :: l) = rGet n l := by simp only [rGet, if_neg e]
      have h2 : rPut n rCom (x :: l) = x :: rPut n rCom l := by simp only [rPut, if_neg e]
      rw [h1, h2]
      have := rPut_com n l
      simp only [List.map_cons, List.sum_cons]
      omega
theorem Bnd.one {N : Nat} {s : Stp} {i : Nat} (h : Bnd N s i) (r : Rc) : Bnd N (rOne s r) (i + 1) := by
  have h1 := h.tx
  have h2 := h.all
  unfold tot at h2
  unfold rOne
  split
  · refine ⟨by have := rPut_len r.tx (rWrite r) s.txs; dsimp only; omega, ?_⟩
    have := rPut_sum r.tx (rWrite r) (c := 1) s.txs (by
      unfold rWrite
      split
      · have := keysP_len ((rGet r.tx s.txs).ws ++ [⟨r.key, r.new⟩]); rw [List.length_append] at this; exact this
      · omega)
    unfold tot
    dsimp only
    omega
  split
  · refine ⟨by have := rPut_len r.tx (rYes r.mask) s.txs; dsimp only; omega, ?_⟩
    have := rPut_sum r.tx (rYes r.mask) (c := 0) s.txs (by unfold rYes; split <;> simp)
    unfold tot
    dsimp only
    omega
  split
  · refine ⟨by have := rPut_len r.tx rCom s.txs; dsimp only; omega, ?_⟩
    have h3 := rPut_com r.tx s.txs
    unfold tot rBase
    dsimp only
    split at h3
    · rename_i hc; rw [if_pos hc]; omega
    · rename_i hc
      rw [if_neg hc]
      have := sortP_len' (s.base ++ (rGet r.tx s.txs).ws)
      rw [List.length_append] at this
      omega
  split
  · refine ⟨by dsimp only; have := List.length_filter_le (fun x : Txp => decide (x.n ≠ r.tx)) s.txs; omega, ?_⟩
    have : ∀ l : List Txp, ((l.filter fun x => decide (x.n ≠ r.tx)).map fun x => x.ws.length).sum ≤ (l.map fun x => x.ws.length).sum := fun l => by
      induction l with
      | nil => simp
      | cons x l ih =>
        rw [List.filter_cons]
        split
        · simp only [List.map_cons, List.sum_cons]; omega
        · simp only [List.map_cons, List.sum_cons]; omega
    have := this s.txs
    unfold tot
    dsimp only
    omega
  · exact h.mono (by omega)
theorem rCheck_len : ∀ (n : Nat) (l : List Rc) (b : List Pr), rCheck n l = some b → b.length = n ∧ n ≤ l.length
  | 0, l, b, h => by simp [rCheck] at h; subst h; simp
  | n + 1, [], b, h => by simp [rCheck] at h
  | n + 1, r :: l, b, h => by
    simp only [rCheck] at h
    split at h
    · cases hc : rCheck n l with
      | none => rw [hc] at h; cases h
      | some b' =>
        rw [hc] at h
        cases h
        have := rCheck_len n l b' hc
        simp; omega
    · cases h
theorem Bnd.start {N : Nat} {s : Stp} {i : Nat} (h : Bnd N s i) (m : Nat) {l : List Rc} (hl : l.length ≤ N) : Bnd N (rStart s m l) (i + 1) := by
  unfold rStart
  cases hc : rCheck m l with
  | none => exact h.mono (by omega)
  | some b =>
    have := rCheck_len m l b hc
    have := sortP_len' b
    refine ⟨by simp, ?_⟩
    unfold tot
    dsimp only
    simp
    omega
theorem rCheck_step {n j i : Nat} {l : List Rc} (hj : j < n) (h : i < l.length) (hk : l[i].kind = 7) : rCheck (n - j) (l.drop i) = (rCheck (n - (j + 1)) (l.drop (i + 1))).map (⟨l[i].key, l[i].new⟩ :: ·) := by
  rw [show n - j = (n - (j + 1)) + 1 by omega, List.drop_eq_getElem_cons h]
  simp only [rCheck, if_pos hk]
theorem rCheck_bad {n j i : Nat} {l : List Rc} (hj : j < n) (h : ∀ h : i < l.length, l[i].kind ≠ 7) : rCheck (n - j) (l.drop i) = none := by
  rw [show n - j = (n - (j + 1)) + 1 by omega]
  by_cases hi : i < l.length
  · rw [List.drop_eq_getElem_cons hi]
    simp only [rCheck, if_neg (h hi)]
  · rw [List.drop_eq_nil_of_le (by omega)]
    rfl
--@@ concordatref11.checkpoint
def CkIs (o : Option (List Pr)) (lo : Nat) (e : Ending) (w' : World) : Prop := match o with
  | none => e = .returned (.tuple #[.slice none 0 0, .bool false])
  | some b => ∃ v', e = .returned (.tuple #[v', .bool true]) ∧ w'.ownsRow lo 64 6 v' (sortP b).length ((sortP b).flatMap Pr.f)
set_option maxHeartbeats 8000000 in
set_option maxRecDepth 100000 in
theorem rcheck_any (v : Value) (l : List Rc) (i : Nat) (w : World) (h : SlAt w v 11 l.length (l.flatMap Rc.f)) (hl : l.length ≤ 10000) (hi : i < l.length) (hm : l[i].mask ≤ 65535) :
    Calls Tryz.prog 33 #[v, .int .i64 (i : Int)] w fun e w' => CkIs (rCheck l[i].mask (l.drop (i + 1))) w.heap.size e w' ∧ Kept [] w w' := by
  have HF := hid refPairInfo
  obtain ⟨a, c, rfl, _, _, hcs⟩ := h.ex
  obtain ⟨b, off, rfl, hb, hcs⟩ := hcs (by omega)
  have HX := hid (fun (w' : World) (hk' : Kept [] w w') (k : Nat) (hk : k < l.length) => rec_cells (fun j u hj => hk'.cell (hcs j u hj) (by simp)) hk)
  have HK0 := hid ((Kept.refl [] w).alloc (.cells #[] 64))
  have HO0 := hid (ownsRow_made0 w 64 6 w.heap.size (Nat.le_refl _))
  obtain ⟨_, _, e2, _⟩ := HX.out _ HK0.out i hi
  obtain ⟨n, hn⟩ : ∃ n, n = l[i].mask := ⟨_, rfl⟩
  rw [← hn] at e2 hm ⊢
  clear hn h hcs hb
  have hiz : (i : Int) < (l.length : Int) := by omega
  go_enter Tryz.func33, Tryz.ntmps33
  go_wp2
  clear e2
  go_loopg [6, 8] n (fun kx s6 s8 wr => ∃ (k : Nat) (T : List Pr), s8 = .int .i64 (k + 1 : Nat) ∧ k ≤ n ∧ k ≤ l.length ∧ n - k ≤ kx ∧ Aside (s6 ≠ .slice none 0 0) ∧ Aside (T.length = k) ∧ Aside (wr.ownsRow w.heap.size 64 6 s6 k (T.flatMap Pr.f)) ∧ Aside (rCheck n (l.drop (i + 1)) = (rCheck (n - k) (l.drop (i + 1 + k))).map (T ++ ·)) ∧ Aside (Kept [] w wr))
  case atStart => exact ⟨0, [], by first | rfl | go_num, by omega, by omega, by omega, (fun e => by cases e), rfl, HO0.out, (show rCheck _ _ = _ by simp), HK0.out⟩
  case round =>
    clear HO0 HK0
    obtain ⟨k, T, rfl, hk, hkl, hkx, HN, HT, HO, HC, HK⟩ := hrel
    have hsz := HK.out.size
    by_cases hlt : k < n
    · have hltz : ((k + 1 : Nat) : Int) ≤ (n : Int) := by omega
      by_cases hge : l.length ≤ i + (k + 1)
      · have hgez : (l.length : Int) ≤ (i : Int) + ((k : Int) + 1) := by omega
        have HB := hid (show rCheck n (l.drop (i + 1)) = none by rw [HC.out, rCheck_bad hlt (fun h => by omega)]; rfl)
        clear HC
        go_wp2
        go_returns
        rw [HB.out]
        exact ⟨rfl, HK.out⟩
      · have hgez : ¬ (l.length : Int) ≤ (i : Int) + ((k : Int) + 1) := by omega
        have hpl : i + (k + 1) < l.length := by omega
        have hplz : (i : Int) + ((k : Int) + 1) < (l.length : Int) := by omega
        obtain ⟨c0, _⟩ := HX.out wr HK.out (i + (k + 1)) hpl
        by_cases hk7 : l[i + (k + 1)].kind = 7
        · have hb7 : (l[i + (k + 1)].kind == 7) = true := by simpa using hk7
          have HC2 := hid (show rCheck n (l.drop (i + 1)) = (rCheck (n - (k + 1)) (l.drop (i + 1 + (k + 1)))).map ((T ++ [⟨l[i + (k + 1)].key, l[i + (k + 1)].new⟩]) ++ ·) by
            rw [HC.out, show i + 1 + k = i + (k + 1) by omega, rCheck_step hlt hpl hk7, show i + (k + 1) + 1 = i + 1 + (k + 1) by omega, Option.map_map]
            congr 1
            funext x
            simp)
          have HXp := hid (fun W hW => HX.out W hW (i + (k + 1)) hpl)
          clear HC hk7
          generalize l[i + (k + 1)] = x at *
          obtain ⟨x1, x2, x3, ⟨k1, k2, k3, k4⟩, ⟨o1, o2⟩, ⟨n1, n2⟩⟩ := x
          dsimp only at HXp HC2 hb7 c0
          obtain ⟨g, gc, rfl, hg1, hg2, _⟩ := ownsRow_form HO.out HN.out
          have HS := hid (show ∀ w', Kept [g] wr w' → w'.cell? ⟨b, off + (i + (k + 1)) * 11 + 3, none⟩ = some (.int .u8 (k1.toNat : Int)) ∧ w'.cell? ⟨b, off + (i + (k + 1)) * 11 + 4, none⟩ = some (.int .u8 (k2.toNat : Int)) ∧ w'.cell? ⟨b, off + (i + (k + 1)) * 11 + 5, none⟩ = some (.int .u8 (k3.toNat : Int)) ∧ w'.cell? ⟨b, off + (i + (k + 1)) * 11 + 6, none⟩ = some (.int .u8 (k4.toNat : Int)) ∧ w'.cell? ⟨b, off + (i + (k + 1)) * 11 + 9, none⟩ = some (.bool n1) ∧ w'.cell? ⟨b, off + (i + (k + 1)) * 11 + 10, none⟩ = some (.int .i64 n2) from fun w' hk' => by
            obtain ⟨_, _, _, h3, h4, h5, h6, _, _, h9, h10⟩ := HXp.out w' (HK.out.trans hk' (fun x hx => .inr (by simp at hx; omega)))
            exact ⟨h3, h4, h5, h6, h9, h10⟩)
          have hpl0 : (0 : Int) ≤ (i : Int) + ((k : Int) + 1) := by omega
          have htn : ((i : Int) + ((k : Int) + 1)).toNat = i + (k + 1) := by omega
          have hwr : IntKind.i64.wrap ((i : Int) + ((k : Int) + 1)) = (i : Int) + ((k : Int) + 1) := by rw [IntKind.wrap_i64]; omega
          go_wp2
          go_region_held3 (fun w' => w'.cell? ⟨b, off + (i + (k + 1)) * 11 + 3, none⟩ = some (.int .u8 (k1.toNat : Int)) ∧ w'.cell? ⟨b, off + (i + (k + 1)) * 11 + 4, none⟩ = some (.int .u8 (k2.toNat : Int)) ∧ w'.cell? ⟨b, off + (i + (k + 1)) * 11 + 5, none⟩ = some (.int .u8 (k3.toNat : Int)) ∧ w'.cell? ⟨b, off + (i + (k + 1)) * 11 + 6, none⟩ = some (.int .u8 (k4.toNat : Int)) ∧ w'.cell? ⟨b, off + (i + (k + 1)) * 11 + 9, none⟩ = some (.bool n1) ∧ w'.cell? ⟨b, off + (i + (k + 1)) * 11 + 10, none⟩ = some (.int .i64 n2))
            ((refine HS.out _ ?_; first | exact hk5 | (repeat (first | assumption | (with_reducible exact Kept.refl _ _) | (with_reducible refine Kept.drew ?_) | (with_reducible refine Kept.alloc ?_ _) | (with_reducible refine Kept.setCell ?_ (by right; simp; try omega) _)))))
            ((rw [if_pos (by rfl)]; refine wp_append_is _ _ 23 rfl 64 _ 6 24 Tryz.underlying23 HF.out rfl (by decide) (by decide) w.heap.size _ k _ rfl (ownsRow_kept HO.out (((Kept.refl [] wr).drew).alloc _) (by simp)) _ 1 1 (Pr.f ⟨⟨k1, k2, k3, k4⟩, ⟨n1, n2⟩⟩) rfl rfl (fun j u h => cells_new _ (Pr.f ⟨⟨k1, k2, k3, k4⟩, ⟨n1, n2⟩⟩) _ j u h) (by simp [Pr.f, Value.oneCell']) (by have := HT.out; omega) (by simp; omega) ?_; intro v' w5 hown5 hgrow hnil; have hk5 : Kept [g] wr w5 := Kept.trans (S := [g]) (((Kept.refl [g] wr).drew).alloc _) (Kept.of_grown hgrow [g] (fun k hk => by cases hk; simp)) (fun x hx => .inl hx); have hn5 : v' ≠ .slice none 0 0 := fun h => by have := (hnil.1 h).1; cases this))
          have HK5 := hid (HK.out.trans hk5 (fun x hx => .inr (by simp at hx; omega)))
          have H5 := hid hown5
          clear hown5 hgrow hnil hk5
          go_wp2
          go_roundg (n - (k + 1))
          case measure => omega
          case rel => exact ⟨k + 1, T ++ [(⟨⟨k1, k2, k3, k4⟩, ⟨n1, n2⟩⟩ : Pr)], by first | rfl | go_num, by omega, by omega, Nat.le_refl _, hn5, (show _ = _ by have := HT.out; rw [List.length_append, this]; rfl), (show World.ownsRow _ _ _ _ _ _ _ by simpa using H5.out), HC2.out, HK5.out⟩
        · have hb7 : (l[i + (k + 1)].kind == 7) = false := by simpa using hk7
          have HB := hid (show rCheck n (l.drop (i + 1)) = none by
            rw [HC.out, rCheck_bad hlt (fun h => by simpa [show i + 1 + k = i + (k + 1) by omega] using hk7)]; rfl)
          clear HC hk7
          go_wp2
          go_returns
          rw [HB.out]
          exact ⟨rfl, HK.out⟩
    · obtain rfl : k = n := by omega
      have hltz : ¬ ((k + 1 : Nat) : Int) ≤ (k : Int) := by omega
      have HB := hid (show rCheck k (l.drop (i + 1)) = some T by rw [HC.out, Nat.sub_self]; simp [rCheck])
      have HSO := hid (rsort_any _ T wr (SlAt.of_own (by rw [HT.out]; exact HO.out)) (by have := HT.out; omega))
      clear HC
      go_wp2_with (go_at_call 44; refine HSO.out.mono ?_; rintro e w2 ⟨v2, rfl, ho2, _, hk2⟩; have HO2 := hid (ownsRow_base ho2 hsz); have HK2 := hid (HK.out.trans hk2 (fun x hx => by cases hx)); clear ho2 hk2)
      go_returns
      rw [HB.out]
      exact ⟨⟨_, rfl, HO2.out⟩, HK2.out⟩
--@@ end
theorem Bnd.get {N : Nat} {s : Stp} {i : Nat} (h : Bnd N s i) (n : Int) : (rGet n s.txs).ws.length ≤ N + i := by
  by_cases hn : n ∈ s.txs.map (·.n)
  · have := h.row (rGet_mem hn)
    omega
  · have : ∀ l : List Txp, n ∉ l.map (·.n) → rGet n l = Txp.new n := fun l => by
      induction l with
      | nil => intro _; rfl
      | cons x l ih =>
        intro h
        rw [List.map_cons, List.mem_cons, not_or] at h
        simp only [rGet, if_neg (Ne.symm h.1)]
        exact ih h.2
    rw [this _ hn]
    simp [Txp.new]
theorem Bnd.base {N : Nat} {s : Stp} {i : Nat} (h : Bnd N s i) : s.base.length ≤ N + i := by
  have := h.all
  unfold tot at this
  omega
theorem rPlay_at {s : Stp} {L : List Rc} {i : Nat} (h : i < L.length) : rPlay s (L.drop i) = if L[i].kind = 8 then rPlay (rStart s L[i].mask (L.drop (i + 1))) (L.drop (i + 1)) else rPlay (rOne s L[i]) (L.drop (i + 1)) := by
  rw [List.drop_eq_getElem_cons h]
  simp only [rPlay]
theorem notBlkG_none (v : Value) : notBlkG v none := fun a n c _ _ e => by cases e
theorem rOut_len (s : Stp) : (rOut s).txs.length ≤ s.txs.length := by
  unfold rOut
  refine Nat.le_trans (List.length_filterMap_le _ _) ?_
  rw [(srtI_perm _).length_eq, List.length_map]
  exact Nat.le_refl _
--@@ concordatref11.State
theorem RfAt.new {w : World} {bv : Value} {base : List Pr} (hb : PrAt w bv base) : RfAt (w.alloc (.cells #[bv, .slice none 0 0] 26)) (fun b => b < w.heap.size) w.heap.size ⟨base, []⟩ := by
  refine ⟨bv, .slice none 0 0, [], ⟨⟨heap_alloc_new w _, ⟨rfl, .inl ⟨rfl, rfl⟩⟩, (fun q hq => by cases hq), by simp, by omega⟩, hb.kept ((Kept.refl [] w).alloc _), notBlkG_none _, rfl⟩, by omega, (fun g hg => by cases hg), fun b hb => by simp; omega⟩
theorem RfD.reset {w : World} {D : Nat → Prop} {A : Nat} {bv tv bv' : Value} {L : List (Txp × Value)} {s : Stp} {base' : List Pr} (H : RfD w D A bv tv L s) (hb : PrAt w bv' base') :
    RfAt ((w.setCell ⟨A, 0, none⟩ bv').setCell ⟨A, 1, none⟩ (.slice none 0 0)) D A ⟨base', []⟩ ∧ KeD D w ((w.setCell ⟨A, 0, none⟩ bv').setCell ⟨A, 1, none⟩ (.slice none 0 0)) := by
  have hk : Kept [A] w ((w.setCell ⟨A, 0, none⟩ bv').setCell ⟨A, 1, none⟩ (.slice none 0 0)) := ((Kept.refl _ w).setCell (.inl (by simp)) _).setCell (.inl (by simp)) _
  have hA := H.ltA
  have hsm := small_cells H.is.g.blk (by simp)
  have hs : ((w.setCell ⟨A, 0, none⟩ bv').setCell ⟨A, 1, none⟩ (.slice none 0 0)).heap.size = w.heap.size := by simp [World.setCell]
  refine ⟨⟨bv', .slice none 0 0, [], ⟨⟨heap_put (heap_put H.is.g.blk 0 _) 1 _, ⟨rfl, .inl ⟨rfl, rfl⟩⟩, (fun q hq => by cases hq), by rw [hs]; omega, by omega⟩, hb.kept_of hk fun a n c hv hn hm => ?_, notBlkG_none _, rfl⟩, H.nA, (fun g hg => by cases hg), fun b hb => by rw [hs]; exact H.lt b hb⟩, KeD.of hk fun k hk' => ⟨H.lt k hk', fun hm => ?_⟩⟩
  · simp only [List.mem_singleton] at hm
    exact hb.far hsm a n c hv hn hm
  · simp only [List.mem_singleton] at hm
    subst hm
    exact H.nA hk'
theorem RfD.push {w w5 W : World} {D : Nat → Prop} {A g c : Nat} {bv tv : Value} {L : List (Txp × Value)} {s : Stp} {q : Txp × Value} (H : RfD w D A bv tv L s) (hp : PrAt w q.2 q.1.ws) (hn : notBlkG q.2 tv.ownBlock) (hW : Kept [] w W)
    (hown : w5.ownsRow (A + 1) 61 4 (.slice (some ⟨g, 0, none⟩) (L.length + 1) c) (L.length + 1) (L.flatMap txF ++ txF q)) (hgr : W.grownBy w5 tv.ownBlock) (hwh : tv.ownBlock = some g ∨ g = W.heap.size) :
    RfAt (w5.setCell ⟨A, 1, none⟩ (.slice (some ⟨g, 0, none⟩) (L.length + 1) c)) D A ⟨s.base, s.txs ++ [q.1]⟩ ∧ KeD D w (w5.setCell ⟨A, 1, none⟩ (.slice (some ⟨g, 0, none⟩) (L.length + 1) c)) := by
  have G := H.is.g
  have hk5 : Kept tv.ownBlock.toList W w5 := Kept.of_grown hgr _ (fun k hk => by simpa using hk)
  have hkr : Kept tv.ownBlock.toList w w5 := (hW.mono (by simp)).trans hk5 (fun x hx => .inl hx)
  have ho : ∀ x, tv.ownBlock = some x → A + 1 ≤ x ∧ x < w.heap.size := fun x hx => G.own.lt x hx
  have hA := H.ltA
  have hB5 : w5.heap[A]? = some (.cells #[bv, tv] 26 (0, 0)) := (hkr.block A hA (fun hx => by have := ho A (by simpa using hx); omega)).trans G.blk
  have hk6 : Kept [A] w5 (w5.setCell ⟨A, 1, none⟩ (.slice (some ⟨g, 0, none⟩) (L.length + 1) c)) := (Kept.refl _ w5).setCell (.inl (by simp)) _
  have hsm := small_cells hB5 (by simp)
  have hgl : A + 1 ≤ g := by
    rcases hown.2 with ⟨h, _⟩ | ⟨g', cap, cur, h, hb, _⟩
    · cases h
    · cases h; exact hb
  have s1 := hW.size
  have s2 := hk5.size
  have hset : (w5.setCell ⟨A, 1, none⟩ (.slice (some ⟨g, 0, none⟩) (L.length + 1) c)).heap.size = w5.heap.size := by simp [World.setCell]
  have hkA : Kept (A :: tv.ownBlock.toList) w (w5.setCell ⟨A, 1, none⟩ (.slice (some ⟨g, 0, none⟩) (L.length + 1) c)) := (hkr.mono (T := A :: tv.ownBlock.toList) (fun x hx => List.mem_cons_of_mem _ hx)).trans hk6 (fun x hx => .inl (by simp at hx; simp [hx]))
  have pr6 : ∀ v l, PrAt w v l → notBlkG v tv.ownBlock → PrAt (w5.setCell ⟨A, 1, none⟩ (.slice (some ⟨g, 0, none⟩) (L.length + 1) c)) v l ∧ notBlkG v (some g) ∧ ∀ a n cc, v = .slice (some a) n cc → 0 < n → a.block < w5.heap.size := fun v l h hnb => by
    refine ⟨(h.kept_of hkr fun a n cc hv hm hb => hnb a n cc hv hm (by simpa using hb)).kept_of hk6 fun a n cc hv hm hb => ?_, fun a n cc hv hm e => ?_, fun a n cc hv hm => by have := h.lt a n cc hv hm; omega⟩
    · simp only [List.mem_singleton] at hb
      exact (h.kept_of hkr fun a n cc hv hm hb => hnb a n cc hv hm (by simpa using hb)).far hsm a n cc hv hm hb
    · have h4 := h.lt a n cc hv hm
      have e' : g = a.block := Option.some.inj e
      rcases hwh with h' | h'
      · exact hnb a n cc hv hm (h'.trans (by rw [e']))
      · omega
  have hD : ∀ k, D k → k < w.heap.size ∧ k ∉ A :: tv.ownBlock.toList := H.far
  refine ⟨⟨bv, _, L ++ [q], ⟨⟨heap_put hB5 1 _, ?_, fun r hr => ?_, by rw [hset]; omega, by omega⟩, ((pr6 _ _ H.is.b H.is.bo).1), ((pr6 _ _ H.is.b H.is.bo).2.1), by rw [List.map_append, H.is.l]; rfl⟩, H.nA, fun g' hg' hb => ?_, fun b hb => by rw [hset]; have := H.lt b hb; omega⟩, KeD.of hkA hD⟩
  · have := ownK_kept hown hk6 (fun x hx hb => by
      simp only [List.mem_singleton] at hb
      have hx' : g = x := by simpa [Value.ownBlock] using hx
      omega)
    simpa using this
  · rw [hset]
    rcases List.mem_append.1 hr with hr | hr
    · obtain ⟨h1, h2, h3⟩ := G.prs r hr
      exact pr6 _ _ h1 h2
    · rw [List.mem_singleton] at hr
      subst hr
      exact pr6 _ _ hp hn
  · have e' : g = g' := by simpa [Value.ownBlock] using hg'
    subst e'
    rcases hwh with h' | h'
    · exact H.nT _ h' hb
    · have := H.lt _ hb; omega
theorem RfD.at {w : World} {D : Nat → Prop} {A : Nat} {bv tv : Value} {L : List (Txp × Value)} {s : Stp} (H : RfD w D A bv tv L s) {i : Nat} (hi : i < s.txs.length) : ∃ hi' : i < L.length, ∃ qa qc, L[i] = (s.txs[i], .slice qa s.txs[i].ws.length qc) := by
  have hll : L.length = s.txs.length := by rw [← H.is.l, List.length_map]
  have hi' : i < L.length := by omega
  obtain ⟨qa, qc, e, _⟩ := (H.is.g.prs L[i] (List.getElem_mem hi')).1.at'.ex
  have e1 : L[i].1 = s.txs[i] := by simp only [← H.is.l, List.getElem_map]
  rw [e1] at e
  exact ⟨hi', qa, qc, Prod.ext e1 e⟩
theorem RfD.len {w : World} {D : Nat → Prop} {A : Nat} {bv tv : Value} {L : List (Txp × Value)} {s : Stp} (H : RfD w D A bv tv L s) : L.length = s.txs.length := by rw [← H.is.l, List.length_map]
theorem RfD.st {w : World} {D : Nat → Prop} {A R : Nat} {bv tv x y : Value} {t : TypeId} {L : List (Txp × Value)} {s : Stp} (H : RfD w D A bv tv L s) (hR : D R) (hb : w.heap[R]? = some (.cells #[x, y] t (0, 0))) (v1 v2 : Value) :
    StAt ((w.setCell ⟨R, 0, none⟩ v1).setCell ⟨R, 1, none⟩ v2) bv tv s ∧ Kept [R] w ((w.setCell ⟨R, 0, none⟩ v1).setCell ⟨R, 1, none⟩ v2) := by
  have hk : Kept [R] w ((w.setCell ⟨R, 0, none⟩ v1).setCell ⟨R, 1, none⟩ v2) := ((Kept.refl _ w).setCell (.inl (by simp)) _).setCell (.inl (by simp)) _
  have hsm := small_cells hb (by simp)
  have pk : ∀ v l, PrAt w v l → PrAt ((w.setCell ⟨R, 0, none⟩ v1).setCell ⟨R, 1, none⟩ v2) v l := fun v l h => h.kept_of hk fun a n c hv hn hm => by
    simp only [List.mem_singleton] at hm
    exact h.far hsm a n c hv hn hm
  refine ⟨⟨pk _ _ H.is.b, ⟨L, H.is.l, SlAt.of_own (ownK_kept H.is.g.own hk fun g hg hm => ?_), fun q hq => pk _ _ (H.is.g.prs q hq).1⟩⟩, hk⟩
  simp only [List.mem_singleton] at hm
  subst hm
  exact H.nT _ hg hR
--@@ end
--@@ concordatref11.Numbers
set_option maxHeartbeats 8000000 in
set_option maxRecDepth 100000 in
theorem rnumbers_any (bv tv : Value) (s : Stp) (c : Bool) (w : World) (h : RSt w bv tv s) (hlen : s.txs.length ≤ 1000) :
    Calls Tryz.prog 16 #[.agg #[bv, tv], .bool c] w fun e w' => ∃ v, e = .returned v ∧ w'.ownsRow w.heap.size 3 1 v (numsL s.txs c).length ((numsL s.txs c).map (Value.int .i64)) ∧ Kept [] w w' := by
  obtain ⟨base, txs⟩ := s
  dsimp only at hlen
  obtain ⟨L, hL, hS, hP⟩ := h.txs.ex
  obtain ⟨ba, bc, rfl, _⟩ := h.base.ex
  obtain ⟨ta, tc, rfl, htm, _, htc⟩ := hS.ex
  dsimp only at hL ⊢
  have HB := hid (fun W (hK : Kept [] (w.alloc (.cells #[.slice ba base.length bc, .slice ta L.length tc] 26)) W) => blk2 hK)
  have info3 : (Tryz.prog.info? 3).map (fun i => (i.zero, i.size, i.bytes)) = some (some (.int .i64 0), 1, 8) := by kernel_rfl
  have HF := hid info3
  have HTC := hid htc
  have HL := hid hL
  have HW0 := hid ((Kept.refl [] w).alloc (.cells #[.slice ba base.length bc, .slice ta L.length tc] 26))
  have hll : txs.length = L.length := by rw [← hL, List.length_map]
  have hLl : L.length ≤ 1000 := by omega
  clear h hS hP htc hL info3 hlen
  have HLL := hid hll
  clear hll
  go_enter Tryz.func16, Tryz.ntmps16
  go_wp2
  have hRs : (w.alloc (.cells #[.slice ba base.length bc, .slice ta L.length tc] 26)).heap.size = w.heap.size + 1 := by simp
  have HRS := hid hRs
  clear hRs
  generalize w.alloc (.cells #[.slice ba base.length bc, .slice ta L.length tc] 26) = W0 at *
  have HO0 := hid (ownsRow_made0 W0 3 1 W0.heap.size (Nat.le_refl _))
  have HK0 := hid ((Kept.refl [] W0).alloc (.cells #[] 3))
  go_loopg [5, 6] L.length (fun kx s5 s6 wr => ∃ i : Nat, s6 = .int .i64 i ∧ i ≤ L.length ∧ L.length - i ≤ kx ∧ Aside (wr.ownsRow W0.heap.size 3 1 s5 (numsL (txs.take i) c).length ((numsL (txs.take i) c).map (Value.int .i64))) ∧ Aside (Kept [] W0 wr))
  case atStart => exact ⟨0, by first | rfl | go_num, by omega, by omega, (show World.ownsRow _ _ _ _ _ _ _ from by rw [← HRS.out]; exact HO0.out), HK0.out⟩
  case round =>
    clear HO0 HK0
    obtain ⟨i, rfl, hi, hix, HO, HK⟩ := hrel
    have hsz := HK.out.size
    have hsw := HW0.out.size
    obtain ⟨y0, y1⟩ := HB.out wr HK.out
    by_cases hlt : i < L.length
    · have hltz : (i : Int) < (L.length : Int) := by omega
      obtain ⟨b, off, rfl, _, d1⟩ := HTC.out (by omega)
      obtain ⟨e0, e1, e2, e3⟩ := tx_cells (fun j u hu => (HW0.out.trans HK.out (fun x hx => .inl hx)).cell (d1 j u hu) (by simp)) hlt
      have hq1 : txs[i]'(by rw [HLL.out]; exact hlt) = L[i].1 := by simp [← HL.out]
      have HT := hid (show txs.take (i + 1) = txs.take i ++ [L[i].1] by rw [List.take_succ_eq_append_getElem (by rw [HLL.out]; exact hlt), hq1])
      have HLE := hid (Nat.le_trans (numsL_le (txs.take i) c) (Nat.le_trans (List.length_take_le _ _) (by omega : i ≤ 1000)))
      clear d1 hq1
      generalize L[i] = q at *
      obtain ⟨⟨n, mask, com, ws⟩, qv⟩ := q
      dsimp only at e0 e1 e2 e3
      by_cases hc : com = c
      · have hcb : (com == c) = true := by simpa using hc
        have HNX := hid (show numsL (txs.take (i + 1)) c = numsL (txs.take i) c ++ [n] by rw [HT.out]; simp [numsL, hc])
        clear hc
        go_wp2_with (at_builtin; refine wpList_append_is rfl _ _ 43 rfl 3 _ 1 8 Tryz.underlying43 HF.out rfl (by decide) (by decide) W0.heap.size _ _ _ rfl (HO.out.alloc _) _ 1 1 [.int .i64 n] rfl rfl (fun j u h => cells_new _ [.int .i64 n] _ j u h) (by simp [Value.oneCell']) (by have := HLE.out; omega) (by simp; omega) ?_; intro v' w1 hown1 hgrow hnil)
        have H2 := hid ((HK.out.alloc (.cells #[.int .i64 n] 3)).grown_own (HO.out.alloc _) hgrow (Nat.le_refl _))
        have H1 := hid hown1
        clear hown1 hgrow hnil
        go_roundg (L.length - (i + 1))
        case measure => omega
        case rel => exact ⟨i + 1, by first | rfl | go_num, by omega, Nat.le_refl _, by show World.ownsRow _ _ _ _ _ _ _; rw [HNX.out]; simpa using H1.out, H2.out⟩
      · have hcb : (com == c) = false := by simpa using hc
        have HNX := hid (show numsL (txs.take (i + 1)) c = numsL (txs.take i) c by rw [HT.out]; simp [numsL, hc])
        clear hc
        go_wp2
        go_roundg (L.length - (i + 1))
        case measure => omega
        case rel => exact ⟨i + 1, by first | rfl | go_num, by omega, Nat.le_refl _, by show World.ownsRow _ _ _ _ _ _ _; rw [HNX.out]; exact HO.out, HK.out⟩
    · obtain rfl : i = L.length := by omega
      have hltz : ¬ (L.length : Int) < (L.length : Int) := by omega
      go_wp2
      go_returns
      refine ⟨_, rfl, ?_, HW0.out.trans HK.out (fun x hx => .inl hx)⟩
      have := ownsRow_base HO.out (show w.heap.size ≤ W0.heap.size by omega)
      rw [← HLL.out, List.take_length] at this
      exact this
--@@ end
end Go.Proofs.YtpcpeoejcnndhaaGreat
