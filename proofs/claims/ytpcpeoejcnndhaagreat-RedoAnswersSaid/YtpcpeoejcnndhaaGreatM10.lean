/- The reference's state in memory: two cells, and a row of its own for the transactions. -/
import Derived.Test.YtpcpeoejcnndhaaGreatStConv
import Derived.Test.YtpcpeoejcnndhaaGreatM2
import Derived.Test.YtpcpeoejcnndhaaGreatM1
set_option linter.all false
namespace Go.Proofs.YtpcpeoejcnndhaaGreat
open Go.RowKit Go.Shelf Go.Lib Go.Sort Go.Proofs
structure KeD (D : Nat → Prop) (w w' : World) : Prop where
  os : w'.os = w.os
  tape : w'.tape = w.tape
  output : w'.output = w.output
  size : w.heap.size ≤ w'.heap.size
  block : ∀ k, D k → w'.heap[k]? = w.heap[k]?
theorem KeD.refl (D : Nat → Prop) (w : World) : KeD D w w := ⟨rfl, rfl, rfl, Nat.le_refl _, fun _ _ => rfl⟩
theorem KeD.trans {D E : Nat → Prop} {a b c : World} (h : KeD D a b) (k : KeD E b c) (hE : ∀ x, D x → E x) : KeD D a c := ⟨k.os.trans h.os, k.tape.trans h.tape, k.output.trans h.output, Nat.le_trans h.size k.size, fun i hi => (k.block i (hE i hi)).trans (h.block i hi)⟩
theorem KeD.of {D : Nat → Prop} {S : List Nat} {w w' : World} (h : Kept S w w') (hD : ∀ k, D k → k < w.heap.size ∧ k ∉ S) : KeD D w w' := ⟨h.os, h.tape, h.output, h.size, fun k hk => h.block k (hD k hk).1 (hD k hk).2⟩
theorem KeD.kept {w w' : World} (h : KeD (fun b => b < w.heap.size) w w') : Kept [] w w' := ⟨h.os, h.tape, h.output, h.size, fun k hk _ => h.block k hk⟩
theorem KeD.less {D E : Nat → Prop} {w w' : World} (h : KeD D w w') (hE : ∀ x, E x → D x) : KeD E w w' := ⟨h.os, h.tape, h.output, h.size, fun k hk => h.block k (hE k hk)⟩
theorem KeD.cell {D : Nat → Prop} {w w' : World} (h : KeD D w w') {b o : Nat} {v : Value} (hc : w.cell? ⟨b, o, none⟩ = some v) (hb : D b) : w'.cell? ⟨b, o, none⟩ = some v := (World.cell?_of_block (h.block b hb)).trans hc
def rIdx (n : Int) : List Txp → Nat
  | [] => 0
  | x :: l => if x.n = n then 0 else rIdx n l + 1
def rAdd (n : Int) (l : List Txp) : List Txp := if rIdx n l < l.length then l else l ++ [Txp.new n]
theorem rIdx_le (n : Int) : ∀ l : List Txp, rIdx n l ≤ l.length
  | [] => Nat.le_refl _
  | x :: l => by
    simp only [rIdx]
    split
    · omega
    · have := rIdx_le n l; simp; omega
theorem rIdx_at (n : Int) : ∀ (l : List Txp) (i : Nat), (∀ j (h : j < l.length), j < i → l[j].n ≠ n) → (∀ h : i < l.length, l[i].n = n) → i ≤ l.length → rIdx n l = i
  | [], i, _, _, hi => by simp at hi; rw [hi]; rfl
  | x :: l, 0, _, h, _ => by
    have := h (by simp)
    simp only [List.getElem_cons_zero] at this
    simp only [rIdx, if_pos this]
  | x :: l, i + 1, h1, h2, hi => by
    have h0 := h1 0 (by simp) (by omega)
    simp only [List.getElem_cons_zero] at h0
    have := rIdx_at n l i (fun j h hj => by have := h1 (j + 1) (by simpa using h) (by omega); simpa using this) (fun h => by have := h2 (by simpa using h); simpa using this) (by simpa using hi)
    simp only [rIdx, if_neg h0, this]
theorem rAdd_get (n : Int) (l : List Txp) : (rAdd n l)[rIdx n l]? = some (rGet n l) := by
  have key : ∀ l : List Txp, rIdx n l < l.length → l[rIdx n l]? = some (rGet n l) := fun l => by
    induction l with
    | nil => intro h; simp at h
    | cons x l ih =>
      intro h
      simp only [rIdx, rGet] at h ⊢
      by_cases e : x.n = n
      · simp [e]
      · rw [if_neg e] at h ⊢
        rw [if_neg e]
        simpa using ih (by simpa using h)
  have none : ∀ l : List Txp, ¬ rIdx n l < l.length → rGet n l = Txp.new n := fun l => by
    induction l with
    | nil => intro _; rfl
    | cons x l ih =>
      intro h
      simp only [rIdx, rGet] at h ⊢
      by_cases e : x.n = n
      · simp [e] at h
      · rw [if_neg e] at h ⊢
        exact ih (by simpa using h)
  unfold rAdd
  split
  · rename_i h; exact key l h
  · rename_i h
    have : rIdx n l = l.length := by have := rIdx_le n l; omega
    rw [this, none l h]
    simp
theorem rPut_set (n : Int) (f : Txp → Txp) (l : List Txp) : rPut n f l = (rAdd n l).set (rIdx n l) (f (rGet n l)) := by
  induction l with
  | nil => rfl
  | cons x l ih =>
    by_cases e : x.n = n
    · simp [rPut, rAdd, rIdx, rGet, e]
    · have hk : rAdd n (x :: l) = x :: rAdd n l := by
        unfold rAdd
        simp only [rIdx, if_neg e, List.length_cons]
        by_cases h : rIdx n l < l.length
        · rw [if_pos h, if_pos (by omega)]
        · rw [if_neg h, if_neg (by omega)]; rfl
      rw [hk]
      simp only [rPut, rIdx, rGet, if_neg e, ih, List.set_cons_succ]
theorem rAdd_len (n : Int) (l : List Txp) : (rAdd n l).length ≤ l.length + 1 ∧ rIdx n l < (rAdd n l).length := by
  have := rIdx_le n l
  unfold rAdd
  split
  · exact ⟨by omega, by assumption⟩
  · simp; omega
theorem flat_set4 (v : Value) (q' : Txp × Value) {j : Nat} (hj : j < 4) : ∀ (L : List (Txp × Value)) (i : Nat) (h : i < L.length), txF q' = (txF L[i]).set j v → (L.flatMap txF).set (i * 4 + j) v = (L.set i q').flatMap txF
  | [], i, h, _ => by simp at h
  | q :: L, 0, _, e => by
    simp only [List.getElem_cons_zero] at e
    rw [Nat.zero_mul, Nat.zero_add, List.flatMap_cons, List.set_append_left _ _ (by rw [txF_len]; exact hj), List.set_cons_zero, List.flatMap_cons, e]
  | q :: L, i + 1, h, e => by
    simp only [List.getElem_cons_succ] at e
    rw [List.flatMap_cons, List.set_append_right _ _ (by rw [txF_len]; omega), txF_len, List.set_cons_succ, List.flatMap_cons, ← flat_set4 v q' hj L i (by simpa using h) e]
    congr 2
    omega
theorem own_set1 {w : World} {lo g c n size : Nat} {e : TypeId} {xs : List Value} (h : w.ownsRow lo e size (.slice (some ⟨g, 0, none⟩) n c) n xs) (j : Nat) (u : Value) (hj : j < n * size) :
    (w.setCell ⟨g, j, none⟩ u).ownsRow lo e size (.slice (some ⟨g, 0, none⟩) n c) n (xs.set j u) := by
  refine ⟨by rw [List.length_set]; exact h.1, ?_⟩
  rcases h.2 with ⟨h1, _⟩ | ⟨g', cap, cur, h1, h2, h3, h4, h5, h6, h7⟩
  · cases h1
  · cases h1
    refine .inr ⟨g, c, cur.setIfInBounds j u, rfl, h2, heap_put h3 j u, h4, h5, by simpa using h6, ?_⟩
    rw [← h7, Array.toList_setIfInBounds, List.take_set]
theorem own_frz {w : World} {lo g c n size : Nat} {e : TypeId} {xs : List Value} (h : w.ownsRow lo e size (.slice (some ⟨g, 0, none⟩) n c) n xs) (o : Nat) : w.frozen? ⟨g, o, none⟩ = false := by
  rcases h.2 with ⟨h1, _⟩ | ⟨g', cap, cur, h1, h2, h3, _⟩
  · cases h1
  · cases h1; simp [World.frozen?, h3]
theorem own_cell {w : World} {lo g c n size : Nat} {e : TypeId} {xs : List Value} (h : w.ownsRow lo e size (.slice (some ⟨g, 0, none⟩) n c) n xs) : ∀ j u, xs[j]? = some u → w.cell? ⟨g, 0 + j, none⟩ = some u := fun j u hu => by
  have := h.cells (g := g) rfl j u hu
  rw [Addr.add_lit] at this
  exact this
theorem own_pos {w : World} {lo n size : Nat} {e : TypeId} {v : Value} {xs : List Value} (h : w.ownsRow lo e size v n xs) (hn : 0 < n) : ∃ g c, v = .slice (some ⟨g, 0, none⟩) n c ∧ lo ≤ g ∧ g < w.heap.size := by
  rcases h.2 with ⟨_, h1⟩ | ⟨g, cap, cur, h1, h2, h3, _⟩
  · omega
  · exact ⟨g, cap, h1, h2, (Array.getElem?_eq_some_iff.1 h3).1⟩
theorem own_setL {L : List (Txp × Value)} {i j : Nat} {q' : Txp × Value} {w : World} {lo g c : Nat} {e : TypeId} {v : Value} (h : w.ownsRow lo e 4 (.slice (some ⟨g, 0, none⟩) L.length c) L.length (L.flatMap txF)) (hi : i < L.length) (hj : j < 4) (hq : txF q' = (txF L[i]).set j v) :
    (w.setCell ⟨g, i * 4 + j, none⟩ v).ownsRow lo e 4 (.slice (some ⟨g, 0, none⟩) (L.set i q').length c) (L.set i q').length ((L.set i q').flatMap txF) := by
  have := own_set1 h (i * 4 + j) v (by omega)
  rw [flat_set4 v q' hj L i hi hq] at this
  rw [List.length_set]
  exact this
--@@ concordatref11.State
structure RfIs (w : World) (A : Nat) (bv tv : Value) (L : List (Txp × Value)) (s : Stp) : Prop where
  g : OutG 26 61 w (A + 1) A bv tv L
  b : PrAt w bv s.base
  bo : notBlkG bv tv.ownBlock
  l : L.map (·.1) = s.txs
theorem RfIs.kept {w w' : World} {A : Nat} {bv tv : Value} {L : List (Txp × Value)} {s : Stp} (H : RfIs w A bv tv L s) (hk : Kept [] w w') : RfIs w' A bv tv L s :=
  ⟨⟨(hk.block A (Array.getElem?_eq_some_iff.1 H.g.blk).1 (by simp)).trans H.g.blk, ownK_kept H.g.own hk (fun _ _ => by simp), fun q hq => ⟨(H.g.prs q hq).1.kept hk, (H.g.prs q hq).2.1, fun a n c h1 h2 => Nat.lt_of_lt_of_le ((H.g.prs q hq).2.2 a n c h1 h2) hk.size⟩, Nat.le_trans H.g.hi hk.size, H.g.bo⟩, H.b.kept hk, H.bo, H.l⟩
theorem RfIs.set {w : World} {A g c : Nat} {bv : Value} {L : List (Txp × Value)} {s : Stp} (H : RfIs w A bv (.slice (some ⟨g, 0, none⟩) L.length c) L s) {i j : Nat} (hi : i < L.length) (hj : j < 4) {q' : Txp × Value} {v : Value}
    (hq : txF q' = (txF L[i]).set j v) (hp : PrAt w q'.2 q'.1.ws) (hn : notBlkG q'.2 (some g)) : RfIs (w.setCell ⟨g, i * 4 + j, none⟩ v) A bv (.slice (some ⟨g, 0, none⟩) (L.set i q').length c) (L.set i q') ⟨s.base, s.txs.set i q'.1⟩ ∧ Kept [g] w (w.setCell ⟨g, i * 4 + j, none⟩ v) ∧ A < g := by
  have hk : Kept [g] w (w.setCell ⟨g, i * 4 + j, none⟩ v) := (Kept.refl _ w).setCell (.inl (by simp)) _
  have hg := H.g.own.lt g rfl
  have hA := (Array.getElem?_eq_some_iff.1 H.g.blk).1
  have hs : (w.setCell ⟨g, i * 4 + j, none⟩ v).heap.size = w.heap.size := by simp [World.setCell]
  have pk : ∀ x l, PrAt w x l → notBlkG x (some g) → PrAt (w.setCell ⟨g, i * 4 + j, none⟩ v) x l := fun x l h hb => h.kept_of hk fun a n cc hv hn' hm => by
    simp only [List.mem_singleton] at hm
    exact hb a n cc hv hn' (by rw [hm])
  have hln : (L.set i q').length = L.length := List.length_set
  refine ⟨⟨⟨by rw [hln]; exact (hk.block A hA (by simp; omega)).trans H.g.blk, own_setL H.g.own hi hj hq, fun r hr => ?_, by rw [hs]; exact H.g.hi, H.g.bo⟩, pk _ _ H.b H.bo, H.bo, ?_⟩, hk, by omega⟩
  · rw [hs]
    rcases List.mem_or_eq_of_mem_set hr with hr | rfl
    · obtain ⟨h1, h2, h3⟩ := H.g.prs r hr
      exact ⟨pk _ _ h1 h2, h2, h3⟩
    · exact ⟨pk _ _ hp hn, hn, hp.lt⟩
  · rw [List.map_set, H.l]
theorem RfIs.setBase {w : World} {A : Nat} {bv tv bv' : Value} {L : List (Txp × Value)} {s : Stp} {base' : List Pr} (H : RfIs w A bv tv L s) (hb : PrAt w bv' base') (hn : notBlkG bv' tv.ownBlock) :
    RfIs (w.setCell ⟨A, 0, none⟩ bv') A bv' tv L ⟨base', s.txs⟩ ∧ Kept [A] w (w.setCell ⟨A, 0, none⟩ bv') := by
  have hk : Kept [A] w (w.setCell ⟨A, 0, none⟩ bv') := (Kept.refl _ w).setCell (.inl (by simp)) _
  have hsm := small_cells H.g.blk (by simp)
  have hs : (w.setCell ⟨A, 0, none⟩ bv').heap.size = w.heap.size := by simp [World.setCell]
  have pk : ∀ x l, PrAt w x l → PrAt (w.setCell ⟨A, 0, none⟩ bv') x l := fun x l h => h.kept_of hk fun a n cc hv hn' hm => by
    simp only [List.mem_singleton] at hm
    exact h.far hsm a n cc hv hn' hm
  refine ⟨⟨⟨heap_put H.g.blk 0 _, ownK_kept H.g.own hk (fun x hx hm => ?_), fun r hr => ?_, by rw [hs]; exact H.g.hi, H.g.bo⟩, pk _ _ hb, hn, H.l⟩, hk⟩
  · have := H.g.own.lt x hx
    simp only [List.mem_singleton] at hm
    omega
  · rw [hs]
    obtain ⟨h1, h2, h3⟩ := H.g.prs r hr
    exact ⟨pk _ _ h1, h2, h3⟩
theorem RfIs.push {w w5 : World} {A g c : Nat} {bv tv : Value} {L : List (Txp × Value)} {s : Stp} {n : Int} {W : World} (H : RfIs w A bv tv L s) (hW : Kept [] w W) (hown : w5.ownsRow (A + 1) 61 4 (.slice (some ⟨g, 0, none⟩) (L.length + 1) c) (L.length + 1) (L.flatMap txF ++ txF (Txp.new n, .slice none 0 0))) (hgr : W.grownBy w5 tv.ownBlock) (hwh : tv.ownBlock = some g ∨ g = W.heap.size) :
    RfIs (w5.setCell ⟨A, 1, none⟩ (.slice (some ⟨g, 0, none⟩) (L.length + 1) c)) A bv (.slice (some ⟨g, 0, none⟩) (L.length + 1) c) (L ++ [(Txp.new n, .slice none 0 0)]) ⟨s.base, s.txs ++ [Txp.new n]⟩ ∧ Kept (A :: tv.ownBlock.toList) w (w5.setCell ⟨A, 1, none⟩ (.slice (some ⟨g, 0, none⟩) (L.length + 1) c)) := by
  obtain ⟨h1, h2⟩ := H.g.step (q := (Txp.new n, .slice none 0 0)) (Kept.refl [] w) (PrAt.nil w) (fun a m cc hv => by cases hv) hW hown hgr hwh
  refine ⟨⟨h1, ?_, ?_, by rw [List.map_append, H.l]; rfl⟩, h2⟩
  · refine H.b.kept_of h2 fun a m cc hv hm hb => ?_
    rcases List.mem_cons.1 hb with hb | hb
    · exact H.b.far (small_cells H.g.blk (by simp)) a m cc hv hm hb
    · exact H.bo a m cc hv hm (by simpa using hb)
  · intro a m cc hv hm e
    have e' : g = a.block := by simpa [Value.ownBlock] using e
    rcases hwh with h | h
    · exact H.bo a m cc hv hm (h.trans (by rw [e']))
    · have := H.b.lt a m cc hv hm
      have := hW.size
      omega
structure RfD (w : World) (D : Nat → Prop) (A : Nat) (bv tv : Value) (L : List (Txp × Value)) (s : Stp) : Prop where
  is : RfIs w A bv tv L s
  nA : ¬ D A
  nT : ∀ g, tv.ownBlock = some g → ¬ D g
  lt : ∀ b, D b → b < w.heap.size
def RfAt (w : World) (D : Nat → Prop) (A : Nat) (s : Stp) : Prop := ∃ bv tv L, RfD w D A bv tv L s
theorem RfD.kept {w w' : World} {D : Nat → Prop} {A : Nat} {bv tv : Value} {L : List (Txp × Value)} {s : Stp} (H : RfD w D A bv tv L s) (hk : Kept [] w w') : RfD w' D A bv tv L s := ⟨H.is.kept hk, H.nA, H.nT, fun b hb => Nat.lt_of_lt_of_le (H.lt b hb) hk.size⟩
theorem RfAt.kept {w w' : World} {D : Nat → Prop} {A : Nat} {s : Stp} (h : RfAt w D A s) (hk : Kept [] w w') : RfAt w' D A s := by
  obtain ⟨bv, tv, L, H⟩ := h
  exact ⟨bv, tv, L, H.kept hk⟩
theorem RfAt.less {w : World} {D E : Nat → Prop} {A : Nat} {s : Stp} (h : RfAt w D A s) (hE : ∀ b, E b → D b) : RfAt w E A s := by
  obtain ⟨bv, tv, L, H⟩ := h
  exact ⟨bv, tv, L, H.is, fun hb => H.nA (hE _ hb), fun g hg hb => H.nT g hg (hE _ hb), fun b hb => H.lt b (hE b hb)⟩
theorem RfD.ltA {w : World} {D : Nat → Prop} {A : Nat} {bv tv : Value} {L : List (Txp × Value)} {s : Stp} (H : RfD w D A bv tv L s) : A < w.heap.size := (Array.getElem?_eq_some_iff.1 H.is.g.blk).1
theorem RfAt.widen {w w' : World} {D : Nat → Prop} {A : Nat} {s : Stp} (h : RfAt w D A s) (hk : Kept [] w w') : RfAt w' (fun b => D b ∨ (w.heap.size ≤ b ∧ b < w'.heap.size)) A s := by
  obtain ⟨bv, tv, L, H⟩ := h
  have hA := H.ltA
  refine ⟨bv, tv, L, H.is.kept hk, fun hb => ?_, fun g hg hb => ?_, fun b hb => ?_⟩
  · rcases hb with hb | hb
    · exact H.nA hb
    · omega
  · have := (H.is.g.own.lt g hg).2
    rcases hb with hb | hb
    · exact H.nT g hg hb
    · omega
  · have := hk.size
    rcases hb with hb | hb
    · have := H.lt b hb; omega
    · exact hb.2
theorem RfD.far {w : World} {D : Nat → Prop} {A : Nat} {bv tv : Value} {L : List (Txp × Value)} {s : Stp} (H : RfD w D A bv tv L s) : ∀ k, D k → k < w.heap.size ∧ k ∉ A :: tv.ownBlock.toList := fun k hk => by
  refine ⟨H.lt k hk, fun hm => ?_⟩
  rcases List.mem_cons.1 hm with rfl | hm
  · exact H.nA hk
  · exact H.nT k (by simpa using hm) hk
--@@ end
--@@ (*concordatref11.State).at
set_option maxHeartbeats 4000000 in
set_option maxRecDepth 100000 in
theorem rat_any {w : World} {D : Nat → Prop} {A : Nat} {s : Stp} (h : RfAt w D A s) (hl : s.txs.length ≤ 100000) (n : Int) :
    Calls Tryz.prog 60 #[.pointer (some ⟨A, 0, none⟩), .int .i64 n] w fun e w' => e = .returned (.int .i64 (rIdx n s.txs : Int)) ∧ RfAt w' D A ⟨s.base, rAdd n s.txs⟩ ∧ KeD D w w' := by
  obtain ⟨bv, tv, L, HD⟩ := h
  have H := HD.is
  obtain ⟨c0, c1, z0, z1⟩ := cell2 H.g.blk
  obtain ⟨ta, tc, rfl⟩ := ownsRow_slice H.g.own
  have hAlt := (Array.getElem?_eq_some_iff.1 H.g.blk).1
  have HDD := hid HD
  clear HD
  have hll : s.txs.length = L.length := by rw [← H.l, List.length_map]
  have hLl : L.length ≤ 100000 := by omega
  have HH := hid H
  have HLL := hid hll
  clear H hll hl
  go_enter Tryz.func60, Tryz.ntmps60
  go_wp2
  go_loopg [5] L.length (fun kx s5 wr => ∃ i : Nat, s5 = .int .i64 i ∧ i ≤ L.length ∧ L.length - i ≤ kx ∧ Aside (∀ j (h : j < L.length), j < i → L[j].1.n ≠ n) ∧ Aside (Kept [] w wr))
  case atStart => exact ⟨0, by first | rfl | go_num, by omega, by omega, fun j h hj => by omega, Kept.refl _ _⟩
  case round =>
    obtain ⟨i, rfl, hi, hix, HN, HK⟩ := hrel
    have HR := hid (HH.out.kept HK.out)
    have hsz := HK.out.size
    obtain ⟨d0, d1, y0, y1⟩ := cell2 HR.out.g.blk
    by_cases hlt : i < L.length
    · have hltz : (i : Int) < (L.length : Int) := by omega
      obtain ⟨g, c, hg, _, _⟩ := own_pos HR.out.g.own (by omega)
      cases hg
      obtain ⟨e0, _, _, _⟩ := tx_cells (own_cell HR.out.g.own) hlt
      simp only [Nat.zero_add] at e0
      by_cases hn : L[i].1.n = n
      · have hb : (L[i].1.n == n) = true := by simpa using hn
        go_wp2
        go_returns
        have hx : rIdx n s.txs = i := rIdx_at n s.txs i (fun j h hj => by
          have := HN.out j (by have := HLL.out; omega) hj
          simpa [← HR.out.l] using this) (fun h => by simpa [← HR.out.l] using hn) (by have := HLL.out; omega)
        refine ⟨by rw [hx]; rfl, ?_, KeD.of HK.out (fun k hk => ⟨HDD.out.lt k hk, by simp⟩)⟩
        have ha : rAdd n s.txs = s.txs := by unfold rAdd; rw [if_pos (by have := HLL.out; omega)]
        rw [ha]
        exact ⟨_, _, _, HDD.out.kept HK.out⟩
      · have hb : (L[i].1.n == n) = false := by simpa using hn
        have HN2 := hid (show ∀ j (h : j < L.length), j < i + 1 → L[j].1.n ≠ n from fun j h hj => by
          by_cases e : j = i
          · subst e; exact hn
          · exact HN.out j h (by omega))
        clear hn
        go_wp2
        go_roundg (L.length - (i + 1))
        case measure => omega
        case rel => exact ⟨i + 1, by first | rfl | go_num, by omega, Nat.le_refl _, HN2.out, HK.out⟩
    · obtain rfl : i = L.length := by omega
      have hltz : ¬ (L.length : Int) < (L.length : Int) := by omega
      have hx : rIdx n s.txs = L.length := rIdx_at n s.txs L.length (fun j h hj => by
        have := HN.out j hj hj
        simpa [← HR.out.l] using this) (fun h => by have := HLL.out; omega) (by have := HLL.out; omega)
      have HX := hid hx
      have hAr : A < wr.heap.size := by omega
      clear hx HN hix hi c0 c1 z0 z1
      go_wp2_with (at_builtin; refine Here.mk ?_)
      refine Here.of ?_
      refine wpList_plain rfl fun _ hKK => wp_append_ow (.tmp 30) (.tmp 33) 24 rfl 61 (.agg #[.int .i64 0, .int .u16 0, .bool false, .slice none 0 0]) 4 40 Tryz.underlying24 txInfoOf rfl (by decide) (by decide) (A + 1) (.slice ta L.length tc) L.length (L.flatMap txF) rfl (ownK_kept HR.out.g.own ((Kept.refl [] wr).alloc _) (fun _ _ => List.not_mem_nil)) ⟨wr.heap.size, 0, none⟩ 1 1 (txF (Txp.new n, .slice none 0 0)) rfl rfl (fun j u h => cells_new wr (txF (Txp.new n, .slice none 0 0)) 61 j u h) (by simp [txF, Value.oneCell']) (by decide) (by omega) (by simp; omega) ?_
      intro g5 gc5 w5 hown5 hgr5 hwh5
      obtain ⟨hp, hkp⟩ := HR.out.push ((Kept.refl [] wr).alloc _) hown5 hgr5 hwh5
      have hk5 := Kept.trans (((Kept.refl [] wr).alloc (.cells #[.int .i64 n, .int .u16 0, .bool false, .slice none 0 0] 61)).mono (T := (Value.slice ta L.length tc).ownBlock.toList) (by simp)) (Kept.of_grown hgr5 _ (fun k hk => by simpa using hk)) (fun x hx => .inl hx)
      have hBO5 := (hk5.block A hAr (fun hx => by have := HR.out.g.own.lt A (by simpa using hx); omega)).trans HR.out.g.blk
      obtain ⟨_, y5, _, zz5⟩ := cell2 hBO5
      have HP := hid hp
      have HKP := hid (KeD.of hkp (HDD.out.kept HK.out).far)
      have HNT := hid (show ¬ D g5 from fun hb => by
        have h1 := HDD.out.lt g5 hb
        rcases hwh5 with h | h
        · exact HDD.out.nT g5 h hb
        · simp at h; omega)
      refine hKK _ _ ?_
      obtain ⟨q0, q1, _, _⟩ := cell2 hp.g.blk
      clear hp hkp hk5 hBO5 hown5 hgr5 hwh5 d0 d1 y0 y1
      go_wp2
      go_returns
      have ha : rAdd n s.txs = s.txs ++ [Txp.new n] := by unfold rAdd; rw [if_neg (by have := HX.out; have := HLL.out; omega)]
      refine ⟨?_, by rw [ha]; exact ⟨_, _, _, HP.out, HDD.out.nA, fun g hg => by cases hg; exact HNT.out, fun b hb => Nat.lt_of_lt_of_le (HDD.out.lt b hb) (Nat.le_trans HK.out.size HKP.out.size)⟩, (KeD.of HK.out (fun k hk => ⟨HDD.out.lt k hk, by simp⟩)).trans HKP.out (fun _ h => h)⟩
      rw [HX.out]
      first | rfl | (congr 2; rw [IntKind.wrap_i64]; simp; omega) | simp
--@@ end
--@@ (*concordatref11.State).gone
theorem RfD.gone {w wr : World} {D : Nat → Prop} {A : Nat} {bv tv tv' : Value} {L M : List (Txp × Value)} {s : Stp} {n : Int} (H : RfD w D A bv tv L s) (hk : Kept [] w wr) (ho : wr.ownsRow w.heap.size 61 4 tv' M.length (M.flatMap txF)) (hM : M = L.filter fun q => decide (q.1.n ≠ n)) :
    RfAt (wr.setCell ⟨A, 1, none⟩ tv') D A ⟨s.base, s.txs.filter fun x => decide (x.n ≠ n)⟩ ∧ KeD D w (wr.setCell ⟨A, 1, none⟩ tv') := by
  have HR := H.kept hk
  have hA := H.ltA
  have h2 := hk.size
  have hks : Kept [A] wr (wr.setCell ⟨A, 1, none⟩ tv') := (Kept.refl _ wr).setCell (.inl (by simp)) _
  have hsm := small_cells HR.is.g.blk (by simp)
  have hs : (wr.setCell ⟨A, 1, none⟩ tv').heap.size = wr.heap.size := by simp [World.setCell]
  have hg : ∀ g, tv'.ownBlock = some g → w.heap.size ≤ g ∧ g < wr.heap.size := fun g h => ho.lt g h
  have pk : ∀ x l, PrAt wr x l → PrAt (wr.setCell ⟨A, 1, none⟩ tv') x l := fun x l h => h.kept_of hks fun a m cc hv hm hb => by
    simp only [List.mem_singleton] at hb
    exact h.far hsm a m cc hv hm hb
  have nb : ∀ v : Value, (∀ a m c, v = .slice (some a) m c → 0 < m → a.block < w.heap.size) → notBlkG v tv'.ownBlock := fun v h a m c hv hm e => by
    have := h a m c hv hm
    have := (hg _ e).1
    omega
  refine ⟨⟨bv, tv', M, ⟨⟨heap_put HR.is.g.blk 1 _, ?_, fun r hr => ?_, by rw [hs]; omega, H.is.g.bo⟩, pk _ _ HR.is.b, nb _ H.is.b.lt, ?_⟩, H.nA, fun g h hb => ?_, fun b hb => by rw [hs]; exact HR.lt b hb⟩, ?_⟩
  · refine ownK_kept (ownsRow_base ho (by omega)) hks fun x hx hb => ?_
    simp only [List.mem_singleton] at hb
    have := (hg x hx).1
    omega
  · have hrL : r ∈ L := by rw [hM] at hr; exact (List.mem_filter.1 hr).1
    have h3 := (H.is.g.prs r hrL)
    exact ⟨pk _ _ ((HR.is.g.prs r hrL).1), nb _ h3.2.2, fun a m c hv hm => by rw [hs]; have := h3.2.2 a m c hv hm; omega⟩
  · rw [hM, ← H.is.l, List.filter_map]
    rfl
  · have := H.lt g hb
    have := (hg g h).1
    omega
  · exact (KeD.of hk (fun k hk' => ⟨H.lt k hk', by simp⟩)).trans (KeD.of hks fun k hk' => ⟨HR.lt k hk', fun hm => by simp only [List.mem_singleton] at hm; subst hm; exact H.nA hk'⟩) (fun _ h => h)
set_option maxHeartbeats 4000000 in
set_option maxRecDepth 100000 in
theorem rgone_any {w : World} {D : Nat → Prop} {A : Nat} {s : Stp} (h : RfAt w D A s) (hl : s.txs.length ≤ 100000) (n : Int) :
    Calls Tryz.prog 62 #[.pointer (some ⟨A, 0, none⟩), .int .i64 n] w fun e w' => e = .returned (.tuple #[]) ∧ RfAt w' D A ⟨s.base, s.txs.filter fun x => decide (x.n ≠ n)⟩ ∧ KeD D w w' := by
  obtain ⟨bv, tv, L, HD⟩ := h
  obtain ⟨c0, c1, z0, z1⟩ := cell2 HD.is.g.blk
  obtain ⟨ta, tc, rfl⟩ := ownsRow_slice HD.is.g.own
  have hLl : L.length ≤ 100000 := by rw [← HD.is.l, List.length_map] at hl; exact hl
  have HDD := hid HD
  have HO0 := hid (ownsRow_made0 w 61 4 w.heap.size (Nat.le_refl _))
  have HK0 := hid ((Kept.refl [] w).alloc (.cells #[] 61))
  clear HD hl
  go_enter Tryz.func62, Tryz.ntmps62
  go_wp2
  go_loopg [4, 5] L.length (fun kx s4 s5 wr => ∃ (i : Nat) (M : List (Txp × Value)), s5 = .int .i64 i ∧ i ≤ L.length ∧ L.length - i ≤ kx ∧ Aside (wr.ownsRow w.heap.size 61 4 s4 M.length (M.flatMap txF)) ∧ Aside (M = (L.take i).filter fun q => decide (q.1.n ≠ n)) ∧ Aside (Kept [] w wr))
  case atStart => exact ⟨0, [], by first | rfl | go_num, by omega, by omega, HO0.out, rfl, HK0.out⟩
  case round =>
    clear HO0 HK0
    obtain ⟨i, M, rfl, hi, hix, HO, HM, HK⟩ := hrel
    have HR := hid (HDD.out.kept HK.out)
    have hsz := HK.out.size
    obtain ⟨d0, d1, y0, y1⟩ := cell2 HR.out.is.g.blk
    obtain ⟨ma, mc, rfl⟩ := ownsRow_slice HO.out
    by_cases hlt : i < L.length
    · have hltz : (i : Int) < (L.length : Int) := by omega
      obtain ⟨g, c, hg, _, _⟩ := own_pos HR.out.is.g.own (by omega)
      cases hg
      obtain ⟨e0, e1, e2, e3⟩ := tx_cells (own_cell HR.out.is.g.own) hlt
      simp only [Nat.zero_add] at e0 e1 e2 e3
      have hml : M.length ≤ L.length := by rw [HM.out]; exact Nat.le_trans (List.length_filter_le _ _) (by simp; omega)
      by_cases hn : L[i].1.n = n
      · have hb : (L[i].1.n == n) = true := by simpa using hn
        have HM2 := hid (show M = (L.take (i + 1)).filter fun q => decide (q.1.n ≠ n) from by
          rw [List.take_succ_eq_append_getElem hlt, List.filter_append, ← HM.out, List.filter_cons_of_neg (by simp [hn])]
          simp)
        clear hn
        go_wp2
        go_roundg (L.length - (i + 1))
        case measure => omega
        case rel => exact ⟨i + 1, M, by first | rfl | go_num, by omega, Nat.le_refl _, HO.out, HM2.out, HK.out⟩
      · have hb : (L[i].1.n == n) = false := by simpa using hn
        have HM2 := hid (show M ++ [L[i]] = (L.take (i + 1)).filter fun q => decide (q.1.n ≠ n) from by
          rw [List.take_succ_eq_append_getElem hlt, List.filter_append, ← HM.out, List.filter_cons_of_pos (by simp [hn])]
          rfl)
        have hq1 : L[i].2.oneCell' = true := by
          obtain ⟨a, c, e, _⟩ := (HDD.out.is.g.prs L[i] (List.getElem_mem hlt)).1.at'.ex
          rw [e]; rfl
        clear hn
        generalize L[i] = q at *
        obtain ⟨⟨qn, qm, qc, qw⟩, qv⟩ := q
        dsimp only at e0 e1 e2 e3 hb hq1
        go_wp2_with (at_builtin; refine Here.mk ?_)
        refine Here.of ?_
        refine wpList_plain rfl fun _ hKK => wp_append_ow (.tmp 26) (.tmp 34) 24 rfl 61 (.agg #[.int .i64 0, .int .u16 0, .bool false, .slice none 0 0]) 4 40 Tryz.underlying24 txInfoOf rfl (by decide) (by decide) w.heap.size (.slice ma M.length mc) M.length (M.flatMap txF) rfl (ownK_kept HO.out ((Kept.refl [] wr).alloc _) (fun _ _ => List.not_mem_nil)) ⟨wr.heap.size, 0, none⟩ 1 1 (txF (⟨qn, qm, qc, qw⟩, qv)) rfl rfl (fun j u h => cells_new wr (txF (⟨qn, qm, qc, qw⟩, qv)) 61 j u h) (by simpa [txF, Value.oneCell'] using hq1) (by decide) (by omega) (by simp; omega) ?_
        intro g5 gc5 w5 hown5 hgr5 hwh5
        have HK5 := hid ((HK.out.alloc (.cells (txF (⟨qn, qm, qc, qw⟩, qv)).toArray 61)).grown_own (ownK_kept HO.out ((Kept.refl [] wr).alloc _) (fun _ _ => List.not_mem_nil)) hgr5 (Nat.le_refl _))
        have HO5 := hid hown5
        refine hKK _ _ ?_
        clear hown5 hgr5 hwh5 e0 e1 e2 e3 d0 d1 y0 y1
        go_wp2
        go_roundg (L.length - (i + 1))
        case measure => omega
        case rel => exact ⟨i + 1, M ++ [((⟨qn, qm, qc, qw⟩ : Txp), qv)], by first | rfl | go_num, by omega, Nat.le_refl _, by show World.ownsRow _ _ _ _ _ _ _; rw [List.length_append, List.flatMap_append]; simpa using HO5.out, HM2.out, HK5.out⟩
    · obtain rfl : i = L.length := by omega
      have hltz : ¬ (L.length : Int) < (L.length : Int) := by omega
      have hM := HM.out
      rw [List.take_length] at hM
      obtain ⟨h1, h2⟩ := HDD.out.gone HK.out HO.out hM
      have HF1 := hid h1
      have HF2 := hid h2
      clear h1 h2 hM HO
      go_wp2
      go_returns
      exact ⟨rfl, by simpa using HF1.out, HF2.out⟩
--@@ end
end Go.Proofs.YtpcpeoejcnndhaaGreat
