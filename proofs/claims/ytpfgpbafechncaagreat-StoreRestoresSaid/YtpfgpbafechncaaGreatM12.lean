/- The reference's own answers on pairs: sort, over, find, put. -/
import Derived.Test.YtpfgpbafechncaaGreatRefKeys
import Derived.Test.YtpfgpbafechncaaGreatM2
set_option linter.all false
namespace Go.Proofs.YtpfgpbafechncaaGreat
open Go.RowKit Go.Shelf Go.Lib Go.Sort Go.Proofs
theorem run_append_nil_src {P : Program} {w : World} {size : Nat} (base : Nat) (t ty e : TypeId) (i : TypeInfo) (ht : P.underlying t = some (.slice e)) (hi : P.info? e = some i)
    (v : Value) (n c : Nat) (xs : List Value) (hown : w.ownsRow base e size v n xs) :
    (Builtin.append_ #[t, t] ty #[v, .slice none 0 c]).run P w = .ok v w := by
  rcases hown.2 with ⟨rfl, rfl⟩ | ⟨g, cap, cur, rfl, _, _, hnc, _⟩
  · simp [Builtin.append_, run_underlying ht, sizeOf, typeInfo, hi, Builtin.lenOf, Builtin.firstCells]
  · simp [Builtin.append_, run_underlying ht, sizeOf, typeInfo, hi, Builtin.lenOf, Builtin.firstCells, hnc, storeCells]
theorem thereP_snoc (l : List Pr) (p : Pr) : thereP (l ++ [p]) = thereP l ++ (if p.val.there = true then [p] else []) := by
  unfold thereP
  rw [List.filter_append]
  congr 1
  cases h : p.val.there <;> simp [h]
theorem sortP_len' (l : List Pr) : (sortP l).length ≤ l.length :=
  Nat.le_trans (List.length_filter_le _ _) (keysP_len l)
theorem findP_snoc (l : List Pr) (p : Pr) (k : K4) : findP (l ++ [p]) k = if p.key = k then p.val else findP l k := by
  unfold findP
  rw [lastP_snoc]
  split <;> rfl
--@@ concordatref09.Keys
theorem wp_append_rp {w : World} {o : Oper} {a : Act} {K : Act → World → Prop} {Q : Exit → Act → World → Prop} (s x : Operand)
    (ho : o.op = .call { callee := .builtin .append, args := #[s, x], argTypes := #[22, 22] })
    (base : Nat) (v : Value) (n : Nat) (xs : List Value) (hs : a.eval s = v) (hown : w.ownsRow base 68 6 v n xs) (vx : Value) (l : List Pr) (hx : a.eval x = vx) (hp : SlAt w vx 6 l.length (l.flatMap Pr.f))
    (hn : n + l.length ≤ 100000) (hbase : base ≤ w.heap.size)
    (h : ∀ v' w', w'.ownsRow base 68 6 v' (n + l.length) (xs ++ l.flatMap Pr.f) → (v ≠ .slice none 0 0 → v' ≠ .slice none 0 0) → w.grownBy w' v.ownBlock → K (a.put o.dst v') w') : o.wp Tryz.prog a w K Q := by
  obtain ⟨ax, c, rfl, h1, h2, h3⟩ := hp.ex
  cases ax with
  | none =>
    have hl0 : l = [] := by
      cases l with
      | nil => rfl
      | cons y l => obtain ⟨b, off, e, _⟩ := h3 (by simp); cases e
    subst hl0
    obtain ⟨i, hi, hz0, hz1, hz2⟩ := info_parts refPairInfo
    have hr := run_append_nil_src (P := Tryz.prog) (w := w) base 22 o.type 68 i Tryz.underlying22 hi v n c xs hown
    unfold Oper.wp execOp
    simp only [ho, resolve, invoke, builtin, Sem.run_bind, Sem.run_pure, Result.andThen_ok, List.map_toArray, List.map_cons, List.map_nil, hs, hx, hr, List.length_nil]
    exact h v w (by simpa using hown) id (World.grownBy.refl _ _)
  | some ad =>
    refine wp_append_is s x 22 ho 68 _ 6 24 Tryz.underlying22 refPairInfo rfl (by decide) (by decide) base v n xs hs hown ad l.length c (l.flatMap Pr.f) hx h2 ?_ (flat_one' l) (by omega) hbase (fun v' w' g1 g2 g3 => h v' w' g1 (fun hne e => hne (g3.1 e).1) g2)
    intro j u hj
    have hpos : 0 < l.length := by
      cases l with
      | nil => simp at hj
      | cons y l => simp
    obtain ⟨b, off, e, _, hcs⟩ := h3 hpos
    cases e
    rw [Addr.add_lit]
    exact hcs j u hj
theorem wpList_append_rp {w : World} {ops : Array Oper} {rest : List Oper} {o : Oper} {a : Act} {Q : Exit → Act → World → Prop} (hgd : o.guard = none) (s x : Operand)
    (ho : o.op = .call { callee := .builtin .append, args := #[s, x], argTypes := #[22, 22] })
    (base : Nat) (v : Value) (n : Nat) (xs : List Value) (hs : a.eval s = v) (hown : w.ownsRow base 68 6 v n xs) (vx : Value) (l : List Pr) (hx : a.eval x = vx) (hp : SlAt w vx 6 l.length (l.flatMap Pr.f))
    (hn : n + l.length ≤ 100000) (hbase : base ≤ w.heap.size)
    (h : ∀ v' w', w'.ownsRow base 68 6 v' (n + l.length) (xs ++ l.flatMap Pr.f) → (v ≠ .slice none 0 0 → v' ≠ .slice none 0 0) → w.grownBy w' v.ownBlock → wpList Tryz.prog ops Q rest (a.put o.dst v') w') : wpList Tryz.prog ops Q (o :: rest) a w :=
  wpList_plain hgd fun _ hK => wp_append_rp s x ho base v n xs hs hown vx l hx hp hn hbase fun v' w' h2 h3 h4 => hK _ _ (h v' w' h2 h3 h4)
--@@ concordatref09.Sort
set_option maxHeartbeats 4000000 in
set_option maxRecDepth 100000 in
theorem rsort_any (v : Value) (l : List Pr) (w : World) (h : SlAt w v 6 l.length (l.flatMap Pr.f)) (hl : l.length ≤ 20000) :
    Calls Tryz.prog 40 #[v] w fun e w' => ∃ v', e = .returned v' ∧ w'.ownsRow w.heap.size 68 6 v' (sortP l).length ((sortP l).flatMap Pr.f) ∧ v' ≠ .slice none 0 0 ∧ Kept [] w w' := by
  have HKe := hid (rkeys_any v l w h hl)
  have hkl := keysP_len l
  obtain ⟨ps, hps⟩ : ∃ ps, ps = keysP l := ⟨_, rfl⟩
  have HPS := hid (show sortP l = thereP ps by rw [hps]; rfl)
  rw [← hps] at HKe hkl
  rw [HPS.out]
  clear hps HPS
  obtain ⟨a, cap, rfl, _⟩ := h.ex
  have HF := hid refPairInfo
  clear h
  go_enter Tryz.func40, Tryz.ntmps40
  go_wp2_with (first
    | (go_at_call 76; refine HKe.out.mono ?_; rintro e w1 ⟨v1, rfl, ho1, hn1, hk1⟩; obtain ⟨g, gc, rfl, hg1, hg2, hg3, hg4, hgc⟩ := ownsRow_form ho1 hn1; have HGC := hid hgc; have HK1 := hid hk1; clear hgc ho1 hn1 hk1))
  clear HKe
  have HO0 := hid (ownsRow_made0 w1 68 6 w1.heap.size (Nat.le_refl _))
  have HK0 := hid ((Kept.refl [] w1).alloc (.cells #[] 68))
  go_loopg [4, 5] ps.length (fun kx s4 s5 wr => ∃ k : Nat, s5 = .int .i64 k ∧ k ≤ ps.length ∧ ps.length - k ≤ kx ∧ Aside (s4 ≠ .slice none 0 0) ∧ Aside (wr.ownsRow w1.heap.size 68 6 s4 (thereP (ps.take k)).length ((thereP (ps.take k)).flatMap Pr.f)) ∧ Aside (Kept [] w1 wr))
  case atStart => exact ⟨0, by first | rfl | go_num, by omega, by omega, (fun e => by cases e), HO0.out, HK0.out⟩
  case round =>
    clear HO0 HK0
    obtain ⟨k, rfl, hk, hkx, HN, HO, HK⟩ := hrel
    have hsz := HK.out.size
    by_cases hlt : k < ps.length
    · have hltz : (k : Int) < (ps.length : Int) := by omega
      have hcs := pair_cells (fun j u hj => HK.out.cell (HGC.out j u hj) (by simp)) hlt
      simp only [Nat.zero_add] at hcs
      obtain ⟨e0, e1, e2, e3, e4, e5⟩ := hcs
      have HT := hid (show thereP (ps.take (k + 1)) = thereP (ps.take k) ++ (if ps[k].val.there = true then [ps[k]] else []) by rw [List.take_succ_eq_append_getElem hlt, thereP_snoc])
      have hcnt : (thereP (ps.take k)).length ≤ k := by have := List.length_filter_le (fun p : Pr => p.val.there) (ps.take k); rw [List.length_take] at this; unfold thereP; omega
      have HCNT := hid hcnt
      clear hcnt
      generalize ps[k] = x at *
      obtain ⟨⟨x1, x2, x3, x4⟩, ⟨x5, x6⟩⟩ := x
      dsimp only at e0 e1 e2 e3 e4 e5 HT
      cases x5 with
      | false =>
        clear e0 e1 e2 e3 e5
        go_wp2_with fail
        go_roundg (ps.length - (k + 1))
        case measure => omega
        case rel => exact ⟨k + 1, by first | rfl | go_num, by omega, Nat.le_refl _, HN.out, by show World.ownsRow _ _ _ _ _ _ _; rw [HT.out]; simpa using HO.out, HK.out⟩
      | true =>
        go_wp2_with (at_builtin; refine Here.mk ?_)
        refine Here.of ?_
        refine wpList_append_is rfl _ _ 22 rfl 68 _ 6 24 Tryz.underlying22 HF.out rfl (by decide) (by decide) w1.heap.size _ _ _ rfl (ownsRow_kept HO.out ((Kept.refl [] wr).alloc _) (by simp)) _ 1 1 (Pr.f ⟨⟨x1, x2, x3, x4⟩, ⟨true, x6⟩⟩) rfl rfl (fun j u h => cells_new _ (Pr.f ⟨⟨x1, x2, x3, x4⟩, ⟨true, x6⟩⟩) _ j u h) (by simp [Pr.f, Value.oneCell']) (by have := HCNT.out; omega) (by simp; omega) ?_
        intro v' w2 hown hgr hnil
        have hn2 : v' ≠ .slice none 0 0 := fun h => HN.out (hnil.1 h).1
        have HK2 := hid ((HK.out.alloc (.cells (Pr.f ⟨⟨x1, x2, x3, x4⟩, ⟨true, x6⟩⟩).toArray 68)).grown_own (ownsRow_kept HO.out ((Kept.refl [] wr).alloc _) (by simp)) hgr (Nat.le_refl _))
        have H2 := hid hown
        clear hown hgr hnil e0 e1 e2 e3 e4 e5
        go_wp2_with fail
        go_roundg (ps.length - (k + 1))
        case measure => omega
        case rel => exact ⟨k + 1, by first | rfl | go_num, by omega, Nat.le_refl _, hn2, by show World.ownsRow _ _ _ _ _ _ _; rw [HT.out, if_pos trivial, List.flatMap_append, List.length_append]; simpa using H2.out, HK2.out⟩
    · obtain rfl : k = ps.length := by omega
      have hltz : ¬ (ps.length : Int) < (ps.length : Int) := by omega
      go_wp2
      go_returns
      exact ⟨_, rfl, by have := HO.out; rw [List.take_length] at this; exact ownsRow_base this HK1.out.size, HN.out, HK1.out.trans HK.out (fun x hx => by cases hx)⟩
--@@ concordatref09.Over
set_option maxHeartbeats 4000000 in
set_option maxRecDepth 100000 in
theorem rover_any (v1 v2 : Value) (l1 l2 : List Pr) (w : World) (h1 : SlAt w v1 6 l1.length (l1.flatMap Pr.f)) (h2 : SlAt w v2 6 l2.length (l2.flatMap Pr.f)) (hl1 : l1.length ≤ 5000) (hl2 : l2.length ≤ 5000) :
    Calls Tryz.prog 19 #[v1, v2] w fun e w' => ∃ v', e = .returned v' ∧ w'.ownsRow w.heap.size 68 6 v' (sortP (l1 ++ l2)).length ((sortP (l1 ++ l2)).flatMap Pr.f) ∧ v' ≠ .slice none 0 0 ∧ Kept [] w w' := by
  have H1 := hid h1
  have H2 := hid h2
  obtain ⟨a, cap, rfl, _⟩ := h1.ex
  obtain ⟨a', cap', rfl, _⟩ := h2.ex
  clear h1 h2
  go_enter Tryz.func19, Tryz.ntmps19
  go_wp2_with (at_builtin; refine Here.mk ?_)
  refine Here.of ?_
  refine wpList_append_rp rfl _ _ rfl w.heap.size _ 0 [] rfl (ownsRow_made0 w 68 6 w.heap.size (Nat.le_refl _)) _ l1 rfl (H1.out.kept ((Kept.refl [] w).alloc _)) (by omega) (by simp) ?_
  intro u1 w1 hown1 hn1 hgr1
  have hk1 := ((Kept.refl [] w).alloc (.cells #[] 68)).grown_own (ownsRow_made0 w 68 6 w.heap.size (Nat.le_refl _)) hgr1 (Nat.le_refl _)
  have hnn1 := hn1 (fun e => by cases e)
  have HO1 := hid hown1
  have HK1 := hid hk1
  clear hown1 hgr1 hn1 hk1
  go_wp2_with (at_builtin; refine Here.mk ?_)
  refine Here.of ?_
  refine wpList_append_rp rfl _ _ rfl w.heap.size _ _ _ rfl HO1.out _ l2 rfl (H2.out.kept HK1.out) (by omega) HK1.out.size ?_
  intro u2 w2 hown2 hn2 hgr2
  have HK2 := hid (HK1.out.grown_own HO1.out hgr2 (Nat.le_refl _))
  have HSo := hid (rsort_any u2 (l1 ++ l2) w2 (by have := SlAt.of_own hown2; rw [List.flatMap_append, List.length_append]; simpa using this) (by simp; omega))
  clear hown2 hgr2 hn2 HO1 HK1 H1 H2
  go_wp2_with (first
    | (go_at_call 40; refine HSo.out.mono ?_; rintro e w3 ⟨v3, rfl, ho3, hn3, hk3⟩))
  go_returns
  exact ⟨_, rfl, ownsRow_base ho3 HK2.out.size, hn3, HK2.out.trans hk3 (fun x hx => by cases hx)⟩
--@@ end
theorem src_far2 {w w1 : World} {t e : TypeId} {L : List Value} {row : Option Nat} (hgr : ((w.alloc (.cells #[] e)).alloc (.cells L.toArray t)).grownBy w1 row) (hrow : row = some w.heap.size) :
    ∀ j u, L[j]? = some u → w1.cell? ((⟨w.heap.size + 1, 0, none⟩ : Addr).add j) = some u := fun j u h => by
  have h1 := cells_new (w.alloc (.cells #[] e)) L t j u h
  simp only [World.size_alloc] at h1
  rw [Addr.add_lit] at h1 ⊢
  rw [World.cell?_of_block (a := ⟨w.heap.size + 1, 0 + j, none⟩) (hgr.block (w.heap.size + 1) (by simp) (by rw [hrow]; simp))]
  exact h1
theorem src_far3 {w w1 : World} {t e : TypeId} {L : List Value} {row : Option Nat} (hgr : ((w.alloc (.cells L.toArray t)).alloc (.cells #[] e)).grownBy w1 row) (hrow : row = some (w.heap.size + 1)) :
    ∀ j u, L[j]? = some u → w1.cell? ((⟨w.heap.size, 0, none⟩ : Addr).add j) = some u := fun j u h => by
  have h1 := cells_new w L t j u h
  rw [Addr.add_lit] at h1 ⊢
  rw [World.cell?_of_block (a := ⟨w.heap.size, 0 + j, none⟩) (hgr.block w.heap.size (by simp; omega) (by rw [hrow]; simp))]
  exact ((Kept.refl [] _).alloc _).cell h1 (by simp)
--@@ concordatref09.Find
set_option maxHeartbeats 4000000 in
set_option maxRecDepth 100000 in
theorem rfind_any (v : Value) (l : List Pr) (k : K4) (w : World) (h : SlAt w v 6 l.length (l.flatMap Pr.f)) :
    Calls Tryz.prog 18 #[v, k.v] w fun e w' => e = .returned (.agg #[.bool (findP l k).there, .int .i64 (findP l k).n]) ∧ Kept [] w w' := by
  obtain ⟨a, cap, rfl, hmax, _, hcs⟩ := h.ex
  have HC := hid hcs
  have HFind := hid (findP_snoc (k := k))
  obtain ⟨k1, k2, k3, k4⟩ := k
  simp only [K4.v]
  clear h hcs
  go_enter Tryz.func18, Tryz.ntmps18
  go_wp2
  have HB0 := hid (heap_alloc_new ((w.alloc (.cells #[.int .u8 (k1.toNat : Int), .int .u8 (k2.toNat : Int), .int .u8 (k3.toNat : Int), .int .u8 (k4.toNat : Int)] 33)).alloc (.cells #[.bool false, .int .i64 0] 44)) (.cells #[.bool false, .int .i64 0] 44))
  have HB4 := hid (two_kept (t := 44) (x := .bool false) (y := .int .i64 0) (w := w.alloc (.cells #[.int .u8 (k1.toNat : Int), .int .u8 (k2.toNat : Int), .int .u8 (k3.toNat : Int), .int .u8 (k4.toNat : Int)] 33)) ((Kept.refl [] _).alloc (.cells #[.bool false, .int .i64 0] 44)))
  have HK0 := hid ((((Kept.refl [] w).alloc (.cells #[.int .u8 (k1.toNat : Int), .int .u8 (k2.toNat : Int), .int .u8 (k3.toNat : Int), .int .u8 (k4.toNat : Int)] 33)).alloc (.cells #[.bool false, .int .i64 0] 44)).alloc (.cells #[.bool false, .int .i64 0] 44))
  have HKK := hid (fun j u h => (((Kept.refl [] (w.alloc (.cells #[.int .u8 (k1.toNat : Int), .int .u8 (k2.toNat : Int), .int .u8 (k3.toNat : Int), .int .u8 (k4.toNat : Int)] 33))).alloc (.cells #[.bool false, .int .i64 0] 44)).alloc (.cells #[.bool false, .int .i64 0] 44)).cell (new_cell w [.int .u8 (k1.toNat : Int), .int .u8 (k2.toNat : Int), .int .u8 (k3.toNat : Int), .int .u8 (k4.toNat : Int)] 33 j u h) (by simp))
  obtain ⟨W2, hW2⟩ : ∃ W2, W2 = ((w.alloc (.cells #[.int .u8 (k1.toNat : Int), .int .u8 (k2.toNat : Int), .int .u8 (k3.toNat : Int), .int .u8 (k4.toNat : Int)] 33)).alloc (.cells #[.bool false, .int .i64 0] 44)).alloc (.cells #[.bool false, .int .i64 0] 44) := ⟨_, rfl⟩
  have hWs : W2.heap.size = w.heap.size + 3 := by rw [hW2]; simp
  rw [← hW2] at HB0 HB4 HK0 HKK
  rw [← hW2]
  simp only [World.size_alloc] at HB0 HB4
  clear hW2
  go_loopg [6] l.length (fun kx s6 wr => ∃ (i : Nat) (fv : V), s6 = .int .i64 i ∧ i ≤ l.length ∧ l.length - i ≤ kx ∧ Aside (fv = findP (l.take i) (⟨k1, k2, k3, k4⟩ : K4)) ∧ Aside (wr.heap[w.heap.size + 2]? = some (.cells #[.bool fv.there, .int .i64 fv.n] 44 (0, 0))) ∧ Aside (Kept [w.heap.size + 2] W2 wr))
  case atStart => exact ⟨0, V.zero, by first | rfl | go_num, by omega, by omega, rfl, HB0.out, Kept.refl _ _⟩
  case round =>
    obtain ⟨i, fv, rfl, hi, hix, HFV, HB, HK⟩ := hrel
    obtain ⟨y0, y1, y2, y3⟩ := cell2 HB.out
    have HBlt := (Array.getElem?_eq_some_iff.1 HB.out).1
    by_cases hlt : i < l.length
    · have hltz : (i : Int) < (l.length : Int) := by omega
      obtain ⟨b, off, rfl, hb, hcs⟩ := HC.out (by omega)
      obtain ⟨e0, e1, e2, e3, e4, e5⟩ := pair_cells (fun j u hj => HK.out.cell (HK0.out.cell (hcs j u hj) (by simp)) (by simp; omega)) hlt
      have q0 := HK.out.cell (HKK.out 0 _ rfl) (by simp)
      have q1 := HK.out.cell (HKK.out 1 _ rfl) (by simp)
      have q2 := HK.out.cell (HKK.out 2 _ rfl) (by simp)
      have q3 := HK.out.cell (HKK.out 3 _ rfl) (by simp)
      have HT := hid (show l.take (i + 1) = l.take i ++ [l[i]] by rw [List.take_succ_eq_append_getElem hlt])
      have hbn : b ≠ w.heap.size + 2 := by omega
      clear hcs
      generalize l[i] = x at *
      obtain ⟨⟨x1, x2, x3, x4⟩, ⟨x5, x6⟩⟩ := x
      dsimp only at e0 e1 e2 e3 e4 e5
      have hq := fun (w : World) => eqK w ⟨x1, x2, x3, x4⟩ ⟨k1, k2, k3, k4⟩
      simp only [K4.v] at hq
      by_cases hxk : (⟨x1, x2, x3, x4⟩ : K4) = ⟨k1, k2, k3, k4⟩
      · rw [decide_eq_true hxk] at hq
        have HX := hid hxk
        clear hxk
        go_wp2_with fail
        go_quiet (fail)
        go_wp2_with fail
        go_roundg (l.length - (i + 1))
        case measure => omega
        case rel => exact ⟨i + 1, ⟨x5, x6⟩, by first | rfl | go_num, by omega, Nat.le_refl _, by show _ = _; rw [HT.out, HFind.out, if_pos HX.out], set2 HB.out _ _, ((HK.out.drewN _).setCell (.inl (by simp)) _).setCell (.inl (by simp)) _⟩
      · rw [decide_eq_false hxk] at hq
        have HX := hid hxk
        clear hxk
        go_wp2_with fail
        go_quiet (fail)
        go_wp2_with fail
        go_roundg (l.length - (i + 1))
        case measure => omega
        case rel => exact ⟨i + 1, fv, by first | rfl | go_num, by omega, Nat.le_refl _, by show _ = _; rw [HT.out, HFind.out, if_neg HX.out]; exact HFV.out, HB.out, HK.out.drewN _⟩
    · obtain rfl : i = l.length := by omega
      have hltz : ¬ (l.length : Int) < (l.length : Int) := by omega
      rw [List.take_length] at HFV
      obtain ⟨z0, z1, z2, z3⟩ := cell2 ((HK.out.block (w.heap.size + 1) (by omega) (by simp)).trans HB4.out)
      obtain ⟨g0, g1, _, _⟩ := cell2 (set2 ((HK.out.block (w.heap.size + 1) (by omega) (by simp)).trans HB4.out) (.bool fv.there) (.int .i64 fv.n))
      have HKZ := hid (((HK.out.mono (T := [w.heap.size + 2, w.heap.size + 1]) (by simp)).setCell (p := ⟨w.heap.size + 1, 0, none⟩) (.inl (by simp)) (.bool fv.there)).setCell (p := ⟨w.heap.size + 1, 1, none⟩) (.inl (by simp)) (.int .i64 fv.n))
      go_wp2_with fail
      try simp only [Exit.inBlock, Exit.then]
      refine bodyPost_ret (by simp [results, Tryz.results18, go_sem, g0, g1]; rfl) rfl ?_
      exact ⟨by rw [HFV.out], HK0.out.trans HKZ.out (fun x hx => .inr (by simp at hx; omega))⟩
--@@ end
end Go.Proofs.YtpfgpbafechncaaGreat
