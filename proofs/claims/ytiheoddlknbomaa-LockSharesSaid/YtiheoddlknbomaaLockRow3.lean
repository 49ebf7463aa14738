/- A key's row: a wish granted. -/
import Derived.Test.YtiheoddlknbomaaLockRow2
import Derived.Deep.RegionLaw
import Derived.Deep.AppendLies
set_option linter.all false
namespace Go.Proofs.Ytiheoddlknbomaa
open Go.RowKit Go.Shelf Go.Lib Go.Sort Go.Proofs
set_option linter.unusedVariables false
set_option linter.unusedSimpArgs false

theorem two_cells {w : World} {B : Nat} {t : TypeId} {x y : Value} (hb : w.heap[B]? = some (.cells #[x, y] t (0, 0))) :
    w.cell? ⟨B, 0, none⟩ = some x ∧ w.cell? ⟨B, 1, none⟩ = some y ∧ w.frozen? ⟨B, 0, none⟩ = false ∧ w.frozen? ⟨B, 1, none⟩ = false := by
  refine ⟨?_, ?_, ?_, ?_⟩ <;> simp [World.cell?, World.frozen?, hb]
theorem set1 {w : World} {B : Nat} {t : TypeId} {fr : Nat × Nat} {x y : Value} (hb : w.heap[B]? = some (.cells #[x, y] t fr)) (x' : Value) :
    (w.setCell ⟨B, 0, none⟩ x').heap[B]? = some (.cells #[x', y] t fr) := by
  simp [World.setCell, Array.getElem?_modify, hb]
theorem setq {w : World} {B : Nat} {t : TypeId} {fr : Nat × Nat} {x y : Value} (hb : w.heap[B]? = some (.cells #[x, y] t fr)) (y' : Value) :
    (w.setCell ⟨B, 1, none⟩ y').heap[B]? = some (.cells #[x, y'] t fr) := by
  simp [World.setCell, Array.getElem?_modify, hb]
theorem flat_setEx : ∀ (l : List Wi) (i : Nat), i < l.length → (l.flatMap Wi.f).set (i * 4 + 1) (.bool true) = (l.modify i setEx).flatMap Wi.f
  | x :: l, 0, _ => by
    obtain ⟨x1, x2, x3, x4⟩ := x
    simp [Wi.f, setEx]
  | x :: l, i + 1, h => by
    have ih := flat_setEx l i (by simpa using h)
    simp only [List.flatMap_cons, List.modify_succ_cons]
    rw [List.set_append, if_neg (by rw [wf_len]; omega), wf_len, show (i + 1) * 4 + 1 - 4 = i * 4 + 1 by omega, ih]
theorem own_kept {S : List Nat} {w w' : World} {base n size : Nat} {e : TypeId} {v : Value} {xs : List Value} (h : w.ownsRow base e size v n xs) (hk : Kept S w w') (hS : ∀ x, v.ownBlock = some x → x ∉ S) : w'.ownsRow base e size v n xs := by
  refine ⟨h.1, ?_⟩
  rcases h.2 with hn | ⟨g, cap, cur, hv', hb, hg, rest⟩
  · exact .inl hn
  · refine .inr ⟨g, cap, cur, hv', hb, ?_, rest⟩
    rw [hk.block g (Array.getElem?_eq_some_iff.1 hg).1 (hS g (by rw [hv']; rfl))]
    exact hg
theorem wish_cells {w : World} {l : List Wi} {b off k : Nat} (h : ∀ j u, (l.flatMap Wi.f)[j]? = some u → w.cell? ⟨b, off + j, none⟩ = some u) (hk : k < l.length) :
    w.cell? ⟨b, off + k * 4, none⟩ = some (.int .i64 l[k].tx) ∧ w.cell? ⟨b, off + k * 4 + 1, none⟩ = some (.bool l[k].ex) ∧ w.cell? ⟨b, off + k * 4 + 2, none⟩ = some (.int .i64 l[k].since) ∧ w.cell? ⟨b, off + k * 4 + 3, none⟩ = some (.bool l[k].ri) := by
  have key : ∀ j u, j < 4 → (l[k].f)[j]? = some u → w.cell? ⟨b, off + (k * 4 + j), none⟩ = some u := fun j u hj hu =>
    h _ u (by rw [flatMap_get Wi.f (c := 4) (fun _ => rfl) l k j l[k] (by simp [hk]) hj]; exact hu)
  exact ⟨key 0 _ (by omega) rfl, key 1 _ (by omega) rfl, key 2 _ (by omega) rfl, key 3 _ (by omega) rfl⟩
section
variable {P : Program} {w : World} {o : Oper} {a : Act} {K : Act → World → Prop} {Q : Exit → Act → World → Prop}
theorem wp_append_ow (s x : Operand) (t : TypeId)
    (ho : o.op = .call { callee := .builtin .append, args := #[s, x], argTypes := #[t, t] })
    (e : TypeId) (z : Value) (size bytes : Nat) (ht : P.underlying t = some (.slice e)) (hi : (P.info? e).map (fun i => (i.zero, i.size, i.bytes)) = some (some z, size, bytes))
    (hzs : z.cells.size = size) (hsz : 0 < size) (hby : 0 < bytes) (base : Nat)
    (v : Value) (n : Nat) (xs : List Value) (hs : a.eval s = v) (hown : w.ownsRow base e size v n xs)
    (ad : Addr) (m c : Nat) (news : List Value) (hx : a.eval x = .slice (some ad) m c) (hl : news.length = m * size) (hnews : ∀ j u, news[j]? = some u → w.cell? (ad.add j) = some u) (h1 : ∀ u ∈ news, u.oneCell' = true) (hm : 0 < m)
    (hbytes : (n + m) * bytes ≤ 140737488355328) (hbase : base ≤ w.heap.size)
    (h : ∀ g cap w', w'.ownsRow base e size (.slice (some ⟨g, 0, none⟩) (n + m) cap) (n + m) (xs ++ news) → w.grownBy w' v.ownBlock → (v.ownBlock = some g ∨ g = w.heap.size) → K (a.put o.dst (.slice (some ⟨g, 0, none⟩) (n + m) cap)) w') : o.wp P a w K Q := by
  obtain ⟨i, hi, hz0, hz1, hz2⟩ := info_parts hi
  have h63 : n + m ≤ maxLen := by
    have := Nat.le_mul_of_pos_right (n + m) hby
    unfold maxLen; omega
  exact wp_append_lies w s x t ho base e i z size bytes ht hi hz0 hz1 hz2 hzs hsz v n xs hs hown ad m c news hx hl hnews h1 hm h63 hbytes hbase w.heap.size rfl fun g cap w' g1 g2 g3 _ => h g cap w' g1 g2 g3
end
--@@ (*lock.row).grant
/-- what stands behind a wish's append -/
theorem grant_end {w w1 w2 : World} {P g2 c2 : Nat} {hv qv : Value} {r : Ro} {x : Wi} (HR : RowIs w1 P hv qv r) (hPw : P < w1.heap.size) (hK1 : Kept (P :: hv.ownBlock.toList) w w1)
    (hown2 : w2.ownsRow 0 59 4 (.slice (some ⟨g2, 0, none⟩) (r.h.length + 1) c2) (r.h.length + 1) (r.h.flatMap Wi.f ++ x.f)) (hk2 : Kept hv.ownBlock.toList w1 w2) (hb2 : w2.heap[P]? = some (.cells #[hv, qv] 61 (0, 0)))
    (hg2 : g2 ∈ hv.ownBlock.toList ∨ w1.heap.size ≤ g2) (hs : w.heap.size ≤ w1.heap.size) :
    (Ending.returned (.tuple #[]) : Ending) = .returned (.tuple #[]) ∧ ∃ hv', RowIs (w2.setCell ⟨P, 0, none⟩ (.slice (some ⟨g2, 0, none⟩) (r.h.length + 1) c2)) P hv' qv ⟨r.h ++ [x], r.q⟩ ∧ (∀ b ∈ rowBs P hv' qv, b ∈ rowBs P hv qv ∨ w.heap.size ≤ b) ∧ Kept (P :: hv.ownBlock.toList) w (w2.setCell ⟨P, 0, none⟩ (.slice (some ⟨g2, 0, none⟩) (r.h.length + 1) c2)) := by
  have hnd := HR.nd
  simp only [rowBs, List.nodup_cons, List.mem_append, not_or, List.nodup_append] at hnd
  have hgP : g2 ≠ P := fun e => by
    subst e
    rcases hg2 with h | h
    · exact hnd.1.1 h
    · omega
  have hgq : g2 ∉ qv.ownBlock.toList := fun hq => by
    rcases hg2 with h | h
    · exact hnd.2.2.2 g2 h g2 hq rfl
    · have := HR.q.lt (by simpa using hq); omega
  refine ⟨rfl, _, ⟨set1 hb2 _, ?_, ?_, ?_⟩, ?_, ?_⟩
  · show World.ownsRow _ _ _ _ _ _ _
    have := own_kept hown2 ((Kept.refl [P] w2).setCell (p := ⟨P, 0, none⟩) (.inl (by simp)) (.slice (some ⟨g2, 0, none⟩) (r.h.length + 1) c2)) (fun y hy => by cases hy; simpa using hgP)
    simpa using this
  · refine WRow.kept (HR.q.kept hk2 (fun y hy hx => hnd.2.2.2 y hx y (by simpa using hy) rfl)) ((Kept.refl [P] w2).setCell (p := ⟨P, 0, none⟩) (.inl (by simp)) _) (fun y hy hx => ?_)
    simp at hx
    subst hx
    exact hnd.1.2 (by simpa using hy)
  · simp only [rowBs, List.nodup_cons, List.mem_append, not_or, List.nodup_append, Value.ownBlock, Option.toList_some, List.mem_singleton]
    exact ⟨⟨fun e => hgP e.symm, hnd.1.2⟩, by simp, hnd.2.2.1, fun a ha b hb e => by subst ha; subst e; exact hgq hb⟩
  · intro b hb
    simp only [rowBs, Value.ownBlock, Option.toList_some, List.mem_cons, List.mem_append, List.not_mem_nil, or_false] at hb ⊢
    rcases hb with rfl | rfl | hb
    · exact .inl (.inl rfl)
    · rcases hg2 with h | h
      · exact .inl (.inr (.inl h))
      · exact .inr (by omega)
    · exact .inl (.inr (.inr hb))
  · refine Kept.setCell (hK1.trans hk2 (fun y hy => .inl (List.mem_cons_of_mem _ hy))) (.inl (by simp)) _
theorem wishInfo : (Try.prog.info? 59).map (fun i => (i.zero, i.size, i.bytes)) = some (some (.agg #[.int .i64 0, .bool false, .int .i64 0, .bool false]), 4, 32) := by kernel_rfl
set_option maxHeartbeats 4000000 in
set_option maxRecDepth 100000 in
theorem grant_any (P : Nat) (hv qv : Value) (r : Ro) (x : Wi) (w : World) (H : RowIs w P hv qv r) (hl : r.h.length < 1000000000) :
    Calls Try.prog 36 #[.pointer (some ⟨P, 0, none⟩), x.v] w fun e w' => e = .returned (.tuple #[]) ∧ ∃ hv', RowIs w' P hv' qv ⟨grantR r.h x, r.q⟩ ∧ (∀ b ∈ rowBs P hv' qv, b ∈ rowBs P hv qv ∨ w.heap.size ≤ b) ∧ Kept (P :: hv.ownBlock.toList) w w' := by
  have hP := H.lt P (by simp [rowBs])
  have hne : w.heap.size ≠ P := by omega
  have HF := hid wishInfo
  have hlts := H.lt
  have HLT := hid hlts
  have hxb : ∀ y ∈ rowBs P hv qv, y ≠ w.heap.size := fun y hy e => by have := hlts y hy; omega
  have HXB := hid hxb
  clear hlts hxb
  have H1 := hid (H.kept ((Kept.refl [] w).alloc (.cells x.f.toArray 59)) (fun _ _ => by simp))
  have HH := hid (held_any P hv qv r x.tx (w.alloc (.cells x.f.toArray 59)) H1.out (by omega))
  have HX := hid (fun W (hk : Kept [] (w.alloc (.cells x.f.toArray 59)) W) j u h => hk.cell (new_cell w x.f 59 j u h) (by simp))
  have hgr : grantR r.h x = match heldAt r.h x.tx with
    | some i => r.h.modify i setEx
    | none => r.h ++ [x] := rfl
  have hhi : heldI r.h x.tx = match heldAt r.h x.tx with
    | none => -1
    | some i => (i : Int) := rfl
  cases hh : heldAt r.h x.tx with
  | some i =>
    rw [hh] at hgr hhi
    obtain ⟨hi, _, _⟩ := heldAt_some hh
    rw [hgr]
    rw [hhi] at HH
    clear hgr hhi hh
    rcases H.h.2 with ⟨_, hn⟩ | ⟨g, cap, cur, rfl, _⟩
    · omega
    have HG := hid (fun W (hk : Kept [] (w.alloc (.cells x.f.toArray 59)) W) => H1.out.kept hk (fun _ _ => by simp))
    have hgP : g ≠ P := fun e => by have := H.nd; subst e; simp [rowBs, Value.ownBlock] at this
    have hgq : g ∉ qv.ownBlock.toList := fun hx => by
      have := H.nd
      simp only [rowBs, Value.ownBlock, Option.toList_some, List.cons_append, List.nil_append, List.nodup_cons] at this
      exact this.2.1 hx
    have hgs : g < w.heap.size := HLT.out g (by simp [rowBs, Value.ownBlock])
    have HGQ := hid hgq
    clear H H1 hgq
    have hiz : (i : Int) < (r.h.length : Int) := by omega
    obtain ⟨x1, x2, x3, x4⟩ := x
    simp only [Wi.v]
    simp only [Wi.f] at HH HX HG
    go_enter Try.func36, Try.ntmps36
    go_wp2_with (first
      | (go_at_call 27; refine HH.out.mono ?_; clear HH; rintro e w1 ⟨rfl, hk1⟩; have HR := hid (HG.out w1 hk1); obtain ⟨c0, c1, f0, f1⟩ := HR.out.c0; have hcell := wish_cells (fun j u hj => by have := HR.out.h.cells (g := g) rfl j u hj; rw [Addr.add_lit] at this; exact this) hi; simp only [Nat.zero_add] at hcell; obtain ⟨d0, d1, d2, d3⟩ := hcell; have hfz : w1.frozen? ⟨g, i * 4 + 1, none⟩ = false := (by obtain ⟨g', cap', cur', hv', _, hb', _⟩ := HR.out.h.2.resolve_left (fun h => by cases h.1); cases hv'; simp [World.frozen?, hb']); have HK1 := hid (Kept.trans ((Kept.refl (P :: (Value.slice (some ⟨g, 0, none⟩) r.h.length cap).ownBlock.toList) w).alloc _) hk1 (fun x hx => by cases hx)); clear hk1))
    go_returns
    refine ⟨rfl, _, ⟨?_, ?_, ?_, ?_⟩, fun b hb => .inl hb, HK1.out.setCell (.inl (by simp [Value.ownBlock])) _⟩
    · rw [← HR.out.blk]
      exact Below.heap_setCell _ _ _ _ (by exact fun e => hgP e.symm)
    · show World.ownsRow _ _ _ _ _ _ _
      rw [List.length_modify, ← flat_setEx _ _ hi]
      exact ownsRow_set HR.out.h _ _ (by rw [wflat_len]; omega)
    · exact HR.out.q.kept ((Kept.refl [g] w1).setCell (.inl (by simp)) _) (fun y hy => by
        have := HGQ.out
        rw [hy] at this
        simp at this
        simp
        exact fun e => this e.symm)
    · exact HR.out.nd
  | none =>
    rw [hh] at hgr hhi
    rw [hgr]
    rw [hhi] at HH
    clear hgr hhi hh
    have HG := hid (fun W (hk : Kept [] (w.alloc (.cells x.f.toArray 59)) W) => H1.out.kept hk (fun _ _ => by simp))
    obtain ⟨ha, hc, rfl⟩ := ownsRow_slice H.h
    clear H H1
    obtain ⟨x1, x2, x3, x4⟩ := x
    simp only [Wi.v]
    simp only [Wi.f] at HH HX HG
    go_enter Try.func36, Try.ntmps36
    go_wp2_with (first
      | (go_at_call 27; refine HH.out.mono ?_; clear HH; rintro e w1 ⟨rfl, hk1⟩; have HR := hid (HG.out w1 hk1); obtain ⟨c0, c1, f0, f1⟩ := HR.out.c0; have z0 := HX.out w1 hk1 0 _ rfl; have z1 := HX.out w1 hk1 1 _ rfl; have z2 := HX.out w1 hk1 2 _ rfl; have z3 := HX.out w1 hk1 3 _ rfl; have HK1 := hid (Kept.trans ((Kept.refl (P :: (Value.slice ha r.h.length hc).ownBlock.toList) w).alloc _) hk1 (fun x hx => by cases hx)); have hs1 := hk1.size; clear hk1))
    have hPw : P < w1.heap.size := by simp at hs1; omega
    have HPn := hid (show P ∉ (Value.slice ha r.h.length hc).ownBlock.toList from fun hx => by
      have := HR.out.nd
      simp only [rowBs, List.nodup_cons, List.mem_append] at this
      exact this.1 (.inl hx))
    go_wp2_with fail
    go_region_law ((rw [if_pos (by rfl)]; refine wp_append_ow (.tmp 22) (.tmp 24) 56 rfl 59 (.agg #[.int .i64 0, .bool false, .int .i64 0, .bool false]) 4 32 Try.underlying56 HF.out rfl (by decide) (by decide) 0 (.slice ha r.h.length hc) r.h.length (r.h.flatMap Wi.f) rfl (own_kept HR.out.h (((Kept.refl [] w1).drew).alloc (.cells (Wi.f ⟨x1, x2, x3, x4⟩).toArray 59)) (fun _ _ => List.not_mem_nil)) ⟨w1.heap.size, 0, none⟩ 1 1 (Wi.f ⟨x1, x2, x3, x4⟩) rfl rfl (fun j u h => cells_new w1.drew (Wi.f ⟨x1, x2, x3, x4⟩) 59 j u h) (wf_one _) (by decide) (by omega) (Nat.zero_le _) ?_; intro g2 c2 w2 hown2 hgr2 hwh2; have hk2 : Kept (Value.slice ha r.h.length hc).ownBlock.toList w1 w2 := Kept.trans (((Kept.refl _ w1).drew).alloc _) (Kept.of_grown hgr2 _ (fun k hk => by simpa using hk)) (fun x hx => .inl hx); have hPn : P ∉ (Value.slice ha r.h.length hc).ownBlock.toList := HPn.out; have hb2 := (hk2.block P hPw hPn).trans HR.out.blk; obtain ⟨c0', c1', f0', f1'⟩ := two_cells hb2))
    all_goals go_returns
    all_goals
      have hg2 : g2 ∈ (Value.slice ha r.h.length hc).ownBlock.toList ∨ w1.heap.size ≤ g2 := by
        rcases hwh2 with h | h
        · exact .inl (by simpa using h)
        · exact .inr (by rw [h]; simp)
      exact grant_end HR.out hPw HK1.out hown2 hk2 hb2 hg2 (by simp at hs1; omega)
--@@ end
end Go.Proofs.Ytiheoddlknbomaa
