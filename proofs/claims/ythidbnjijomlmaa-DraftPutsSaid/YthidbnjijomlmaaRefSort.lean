/- The reference's own answers on pairs: sort, over, find, put. -/
import Derived.Test.YthidbnjijomlmaaRefKeys
set_option linter.all false
namespace Go.Proofs.Ythidbnjijomlmaa
open Go.RowKit Go.Shelf Go.Lib Go.Sort Go.Proofs
set_option linter.unusedVariables false
set_option linter.unusedSimpArgs false

theorem run_append_nil_src {P : Program} {w : World} {size : Nat} (base : Nat) (t ty e : TypeId) (i : TypeInfo) (ht : P.underlying t = some (.slice e)) (hi : P.info? e = some i)
    (v : Value) (n c : Nat) (xs : List Value) (hown : w.ownsRow base e size v n xs) :
    (Builtin.append_ #[t, t] ty #[v, .slice none 0 c]).run P w = .ok v w := by
  rcases hown.2 with ⟨rfl, rfl⟩ | ⟨g, cap, cur, rfl, _, _, hnc, _⟩
  · simp [Builtin.append_, run_underlying ht, sizeOf, typeInfo, hi, Builtin.lenOf, Builtin.firstCells]
  · simp [Builtin.append_, run_underlying ht, sizeOf, typeInfo, hi, Builtin.lenOf, Builtin.firstCells, hnc, storeCells]
theorem thereP_snoc (l : List Pr) (p : Pr) : thereP (l ++ [p]) = thereP l ++ (if p.val.there = true then [p] else []) := by
  unfold thereP
  rw [List.filter_append]
  congr 1
  cases h : p.val.there <;> simp [h]
theorem sortP_len' (l : List Pr) : (sortP l).length ≤ l.length :=
  Nat.le_trans (List.length_filter_le _ _) (keysP_len l)
theorem findP_snoc (l : List Pr) (p : Pr) (k : K4) : findP (l ++ [p]) k = if p.key = k then p.val else findP l k := by
  unfold findP
  rw [lastP_snoc]
  split <;> rfl
--@@ concordatref09.Keys
/-- all of a row of pairs, behind a row of the call's own -/
theorem wp_append_rp {w : World} {o : Oper} {a : Act} {K : Act → World → Prop} {Q : Exit → Act → World → Prop} (s x : Operand)
    (ho : o.op = .call { callee := .builtin .append, args := #[s, x], argTypes := #[22, 22] })
    (base : Nat) (v : Value) (n : Nat) (xs : List Value) (hs : a.eval s = v) (hown : w.ownsRow base 34 6 v n xs) (vx : Value) (l : List Pr) (hx : a.eval x = vx) (hp : SlAt w vx 6 l.length (l.flatMap Pr.f))
    (hn : n + l.length ≤ 100000) (hbase : base ≤ w.heap.size)
    (h : ∀ v' w', w'.ownsRow base 34 6 v' (n + l.length) (xs ++ l.flatMap Pr.f) → (v ≠ .slice none 0 0 → v' ≠ .slice none 0 0) → w.grownBy w' v.ownBlock → K (a.put o.dst v') w') : o.wp Try.prog a w K Q := by
  obtain ⟨ax, c, rfl, h1, h2, h3⟩ := hp.ex
  cases ax with
  | none =>
    have hl0 : l = [] := by
      cases l with
      | nil => rfl
      | cons y l => obtain ⟨b, off, e, _⟩ := h3 (by simp); cases e
    subst hl0
    obtain ⟨i, hi, hz0, hz1, hz2⟩ := info_parts refPairInfo
    have hr := run_append_nil_src (P := Try.prog) (w := w) base 22 o.type 34 i Try.underlying22 hi v n c xs hown
    unfold Oper.wp execOp
    simp only [ho, resolve, invoke, builtin, Sem.run_bind, Sem.run_pure, Result.andThen_ok, List.map_toArray, List.map_cons, List.map_nil, hs, hx, hr, List.length_nil]
    exact h v w (by simpa using hown) id (World.grownBy.refl _ _)
  | some ad =>
    refine wp_append_is s x 22 ho 34 _ 6 24 Try.underlying22 refPairInfo rfl (by decide) (by decide) base v n xs hs hown ad l.length c (l.flatMap Pr.f) hx h2 ?_ (flat_one' l) (by omega) hbase (fun v' w' g1 g2 g3 => h v' w' g1 (fun hne e => hne (g3.1 e).1) g2)
    intro j u hj
    have hpos : 0 < l.length := by
      cases l with
      | nil => simp at hj
      | cons y l => simp
    obtain ⟨b, off, e, _, hcs⟩ := h3 hpos
    cases e
    rw [Addr.add_lit]
    exact hcs j u hj
theorem wpList_append_rp {w : World} {ops : Array Oper} {rest : List Oper} {o : Oper} {a : Act} {Q : Exit → Act → World → Prop} (hgd : o.guard = none) (s x : Operand)
    (ho : o.op = .call { callee := .builtin .append, args := #[s, x], argTypes := #[22, 22] })
    (base : Nat) (v : Value) (n : Nat) (xs : List Value) (hs : a.eval s = v) (hown : w.ownsRow base 34 6 v n xs) (vx : Value) (l : List Pr) (hx : a.eval x = vx) (hp : SlAt w vx 6 l.length (l.flatMap Pr.f))
    (hn : n + l.length ≤ 100000) (hbase : base ≤ w.heap.size)
    (h : ∀ v' w', w'.ownsRow base 34 6 v' (n + l.length) (xs ++ l.flatMap Pr.f) → (v ≠ .slice none 0 0 → v' ≠ .slice none 0 0) → w.grownBy w' v.ownBlock → wpList Try.prog ops Q rest (a.put o.dst v') w') : wpList Try.prog ops Q (o :: rest) a w :=
  wpList_plain hgd fun _ hK => wp_append_rp s x ho base v n xs hs hown vx l hx hp hn hbase fun v' w' h2 h3 h4 => hK _ _ (h v' w' h2 h3 h4)
--@@ concordatref09.Sort
set_option maxHeartbeats 4000000 in
set_option maxRecDepth 100000 in
theorem rsort_any (v : Value) (l : List Pr) (w : World) (h : SlAt w v 6 l.length (l.flatMap Pr.f)) (hl : l.length ≤ 20000) :
    Calls Try.prog 26 #[v] w fun e w' => ∃ v', e = .returned v' ∧ w'.ownsRow w.heap.size 34 6 v' (sortP l).length ((sortP l).flatMap Pr.f) ∧ v' ≠ .slice none 0 0 ∧ Kept [] w w' := by
  have HKe := hid (rkeys_any v l w h hl)
  have hkl := keysP_len l
  obtain ⟨ps, hps⟩ : ∃ ps, ps = keysP l := ⟨_, rfl⟩
  have HPS := hid (show sortP l = thereP ps by rw [hps]; rfl)
  rw [← hps] at HKe hkl
  rw [HPS.out]
  clear hps HPS
  obtain ⟨a, cap, rfl, _⟩ := h.ex
  have HF := hid refPairInfo
  clear h
  go_enter Try.func26, Try.ntmps26
  go_wp2_with (first
    | (go_at_call 31; refine HKe.out.mono ?_; rintro e w1 ⟨v1, rfl, ho1, hn1, hk1⟩; obtain ⟨g, gc, rfl, hg1, hg2, hg3, hg4, hgc⟩ := ownsRow_form ho1 hn1; have HGC := hid hgc; have HK1 := hid hk1; clear hgc ho1 hn1 hk1))
  clear HKe
  have HO0 := hid (ownsRow_made0 w1 34 6 w1.heap.size (Nat.le_refl _))
  have HK0 := hid ((Kept.refl [] w1).alloc (.cells #[] 34))
  go_loopg [4, 5] ps.length (fun kx s4 s5 wr => ∃ k : Nat, s5 = .int .i64 k ∧ k ≤ ps.length ∧ ps.length - k ≤ kx ∧ Aside (s4 ≠ .slice none 0 0) ∧ Aside (wr.ownsRow w1.heap.size 34 6 s4 (thereP (ps.take k)).length ((thereP (ps.take k)).flatMap Pr.f)) ∧ Aside (Kept [] w1 wr))
  case atStart => exact ⟨0, by first | rfl | go_num, by omega, by omega, (fun e => by cases e), HO0.out, HK0.out⟩
  case round =>
    clear HO0 HK0
    obtain ⟨k, rfl, hk, hkx, HN, HO, HK⟩ := hrel
    have hsz := HK.out.size
    by_cases hlt : k < ps.length
    · have hltz : (k : Int) < (ps.length : Int) := by omega
      have hcs := pair_cells (fun j u hj => HK.out.cell (HGC.out j u hj) (by simp)) hlt
      simp only [Nat.zero_add] at hcs
      obtain ⟨e0, e1, e2, e3, e4, e5⟩ := hcs
      have HT := hid (show thereP (ps.take (k + 1)) = thereP (ps.take k) ++ (if ps[k].val.there = true then [ps[k]] else []) by rw [List.take_succ_eq_append_getElem hlt, thereP_snoc])
      have hcnt : (thereP (ps.take k)).length ≤ k := by have := List.length_filter_le (fun p : Pr => p.val.there) (ps.take k); rw [List.length_take] at this; unfold thereP; omega
      have HCNT := hid hcnt
      clear hcnt
      generalize ps[k] = x at *
      obtain ⟨⟨x1, x2, x3, x4⟩, ⟨x5, x6⟩⟩ := x
      dsimp only at e0 e1 e2 e3 e4 e5 HT
      cases x5 with
      | false =>
        clear e0 e1 e2 e3 e5
        go_wp2_with fail
        go_roundg (ps.length - (k + 1))
        case measure => omega
        case rel => exact ⟨k + 1, by first | rfl | go_num, by omega, Nat.le_refl _, HN.out, by show World.ownsRow _ _ _ _ _ _ _; rw [HT.out]; simpa using HO.out, HK.out⟩
      | true =>
        go_wp2_with (at_builtin; refine Here.mk ?_)
        refine Here.of ?_
        refine wpList_append_is rfl _ _ 22 rfl 34 _ 6 24 Try.underlying22 HF.out rfl (by decide) (by decide) w1.heap.size _ _ _ rfl (ownsRow_kept HO.out ((Kept.refl [] wr).alloc _) (by simp)) _ 1 1 (Pr.f ⟨⟨x1, x2, x3, x4⟩, ⟨true, x6⟩⟩) rfl rfl (fun j u h => cells_new _ (Pr.f ⟨⟨x1, x2, x3, x4⟩, ⟨true, x6⟩⟩) _ j u h) (by simp [Pr.f, Value.oneCell']) (by have := HCNT.out; omega) (by simp; omega) ?_
        intro v' w2 hown hgr hnil
        have hn2 : v' ≠ .slice none 0 0 := fun h => HN.out (hnil.1 h).1
        have HK2 := hid ((HK.out.alloc (.cells (Pr.f ⟨⟨x1, x2, x3, x4⟩, ⟨true, x6⟩⟩).toArray 34)).grown_own (ownsRow_kept HO.out ((Kept.refl [] wr).alloc _) (by simp)) hgr (Nat.le_refl _))
        have H2 := hid hown
        clear hown hgr hnil e0 e1 e2 e3 e4 e5
        go_wp2_with fail
        go_roundg (ps.length - (k + 1))
        case measure => omega
        case rel => exact ⟨k + 1, by first | rfl | go_num, by omega, Nat.le_refl _, hn2, by show World.ownsRow _ _ _ _ _ _ _; rw [HT.out, if_pos trivial, List.flatMap_append, List.length_append]; simpa using H2.out, HK2.out⟩
    · obtain rfl : k = ps.length := by omega
      have hltz : ¬ (ps.length : Int) < (ps.length : Int) := by omega
      go_wp2
      go_returns
      exact ⟨_, rfl, by have := HO.out; rw [List.take_length] at this; exact ownsRow_base this HK1.out.size, HN.out, HK1.out.trans HK.out (fun x hx => by cases hx)⟩
--@@ concordatref09.Over
set_option maxHeartbeats 4000000 in
set_option maxRecDepth 100000 in
theorem rover_any (v1 v2 : Value) (l1 l2 : List Pr) (w : World) (h1 : SlAt w v1 6 l1.length (l1.flatMap Pr.f)) (h2 : SlAt w v2 6 l2.length (l2.flatMap Pr.f)) (hl1 : l1.length ≤ 5000) (hl2 : l2.length ≤ 5000) :
    Calls Try.prog 20 #[v1, v2] w fun e w' => ∃ v', e = .returned v' ∧ w'.ownsRow w.heap.size 34 6 v' (sortP (l1 ++ l2)).length ((sortP (l1 ++ l2)).flatMap Pr.f) ∧ v' ≠ .slice none 0 0 ∧ Kept [] w w' := by
  have H1 := hid h1
  have H2 := hid h2
  obtain ⟨a, cap, rfl, _⟩ := h1.ex
  obtain ⟨a', cap', rfl, _⟩ := h2.ex
  clear h1 h2
  go_enter Try.func20, Try.ntmps20
  go_wp2_with (at_builtin; refine Here.mk ?_)
  refine Here.of ?_
  refine wpList_append_rp rfl _ _ rfl w.heap.size _ 0 [] rfl (ownsRow_made0 w 34 6 w.heap.size (Nat.le_refl _)) _ l1 rfl (H1.out.kept ((Kept.refl [] w).alloc _)) (by omega) (by simp) ?_
  intro u1 w1 hown1 hn1 hgr1
  have hk1 := ((Kept.refl [] w).alloc (.cells #[] 34)).grown_own (ownsRow_made0 w 34 6 w.heap.size (Nat.le_refl _)) hgr1 (Nat.le_refl _)
  have hnn1 := hn1 (fun e => by cases e)
  have HO1 := hid hown1
  have HK1 := hid hk1
  clear hown1 hgr1 hn1 hk1
  go_wp2_with (at_builtin; refine Here.mk ?_)
  refine Here.of ?_
  refine wpList_append_rp rfl _ _ rfl w.heap.size _ _ _ rfl HO1.out _ l2 rfl (H2.out.kept HK1.out) (by omega) HK1.out.size ?_
  intro u2 w2 hown2 hn2 hgr2
  have HK2 := hid (HK1.out.grown_own HO1.out hgr2 (Nat.le_refl _))
  have HSo := hid (rsort_any u2 (l1 ++ l2) w2 (by have := SlAt.of_own hown2; rw [List.flatMap_append, List.length_append]; simpa using this) (by simp; omega))
  clear hown2 hgr2 hn2 HO1 HK1 H1 H2
  go_wp2_with (first
    | (go_at_call 26; refine HSo.out.mono ?_; rintro e w3 ⟨v3, rfl, ho3, hn3, hk3⟩))
  go_returns
  exact ⟨_, rfl, ownsRow_base ho3 HK2.out.size, hn3, HK2.out.trans hk3 (fun x hx => by cases hx)⟩
--@@ end
end Go.Proofs.Ythidbnjijomlmaa
