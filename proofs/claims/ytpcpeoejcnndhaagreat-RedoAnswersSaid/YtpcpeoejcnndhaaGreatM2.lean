/- Ranging over a map that the loop does not write: what is still to come, as a list of pairs. No program text. -/
import Derived.Test.YtpcpeoejcnndhaaGreatM1
import Derived.Maps.RangeWalk
import Derived.Deep.AppendLies
import Derived.Test.YtpcpeoejcnndhaaGreatIter
import Derived.StillTail
import Derived.Deep.RegionHeld3
set_option linter.all false
namespace Go.Proofs.YtpcpeoejcnndhaaGreat
open Go.RowKit
theorem filter_one {α : Type} (f : α → Nat) : ∀ (L : List α) (j : Nat) (x : α), L.Pairwise (fun a b => f a ≠ f b) → L[j]? = some x → L.filter (fun y => !(f y == f x)) = L.eraseIdx j
  | [], _, _, _, h => by simp at h
  | a :: L, 0, x, hp, h => by
    simp at h; subst h
    rw [List.pairwise_cons] at hp
    simp only [List.filter_cons, beq_self_eq_true, Bool.not_true, Bool.false_eq_true, if_false, List.eraseIdx_zero, List.tail_cons]
    rw [List.filter_eq_self]
    intro y hy
    have := hp.1 y hy
    simp [Ne.symm this]
  | a :: L, j + 1, x, hp, h => by
    rw [List.pairwise_cons] at hp
    have hx : L[j]? = some x := by simpa using h
    have hm : x ∈ L := List.mem_iff_getElem?.2 ⟨j, hx⟩
    have := hp.1 x hm
    simp only [List.filter_cons, List.eraseIdx_cons_succ]
    rw [if_pos (by simp [this]), filter_one f L j x hp.2 hx]
theorem perm_pick {α : Type} : ∀ (l : List α) (j : Nat) (x : α), l[j]? = some x → l.Perm (x :: l.eraseIdx j)
  | [], _, _, h => by simp at h
  | a :: l, 0, x, h => by simp at h; subst h; simp
  | a :: l, j + 1, x, h => by
    have := perm_pick l j x (by simpa using h)
    simp only [List.eraseIdx_cons_succ]
    exact (this.cons a).trans (List.Perm.swap x a _)
structure RangeIs {α : Type} (w : World) (b r : Nat) (ek : α → Value) (todo : List (α × Value)) : Prop where
  mk' ::
  ex : ∃ es clock since seen last, w.heap[b]? = some (.map es clock) ∧ es.toList.Pairwise (fun x y => x.born ≠ y.born) ∧ (∀ e ∈ es.toList, e.born < since) ∧ since ≤ last ∧ since ≤ clock ∧
    w.heap[r]? = some (.mapIter (some b) since seen last) ∧ (leftOf es seen).toList.map (fun e => (e.key, e.val)) = todo.map (fun p => (ek p.1, p.2))
section
variable {α : Type} {P : Program} {w : World} {b r : Nat} {ek : α → Value} {todo : List (α × Value)}
theorem RangeIs.lt (h : RangeIs w b r ek todo) : b < w.heap.size ∧ r < w.heap.size ∧ b ≠ r := by
  obtain ⟨es, clock, since, seen, last, h1, _, _, _, _, h2, _⟩ := h.ex
  refine ⟨(Array.getElem?_eq_some_iff.1 h1).1, (Array.getElem?_eq_some_iff.1 h2).1, ?_⟩
  rintro rfl
  rw [h1] at h2; cases h2
theorem RangeIs.kept {w' : World} {S : List Nat} (h : RangeIs w b r ek todo) (hk : Kept S w w') (hb : b ∉ S) (hr : r ∉ S) : RangeIs w' b r ek todo := by
  have hl := h.lt
  obtain ⟨es, clock, since, seen, last, h1, h2, h3, h4, h5, h6, h7⟩ := h.ex
  exact ⟨es, clock, since, seen, last, (hk.block b hl.1 hb).trans h1, h2, h3, h4, h5, (hk.block r hl.2.1 hr).trans h6, h7⟩
theorem MapIs.run_range {l : List (α × Value)} (h : MapIs w b ek l) {t kt et : TypeId} (ht : P.underlying t = some (.map kt et)) :
    ∃ w', (Instr.range t (.map (some b))).run P w = .ok (.pointer (some ⟨w.heap.size, 0, none⟩)) w' ∧ RangeIs w' b w.heap.size ek l ∧ Kept [] w w' ∧ w'.heap.size = w.heap.size + 1 := by
  have hlt := h.lt
  obtain ⟨es, clock, hb, he, hp, hc⟩ := h.ex
  refine ⟨_, run_range_map w t kt et b es clock ht hb, ⟨es, clock, clock, #[], clock, ?_, hp, hc, Nat.le_refl _, Nat.le_refl _, heap_alloc_new w _, ?_⟩, (Kept.refl [] w).alloc _, by simp⟩
  · rw [heap_alloc_old w _ hlt, hb]
  · have : (leftOf es #[]).toList = es.toList := by simp [leftOf, List.filter_eq_self]
    rw [this]; exact he
theorem RangeIs.run_next (h : RangeIs w b r ek todo) (ty : TypeId) :
    (todo = [] ∧ (Instr.next (.pointer (some ⟨r, 0, none⟩)) false ty).run P w = .ok (.tuple #[.bool false]) w) ∨
    ∃ x v todo' w1, todo.Perm ((x, v) :: todo') ∧ (Instr.next (.pointer (some ⟨r, 0, none⟩)) false ty).run P w = .ok (.tuple #[.bool true, ek x, v]) w1 ∧ RangeIs w1 b r ek todo' ∧ Kept [r] w w1 ∧ w1.heap.size = w.heap.size ∧
      ∀ w', w'.heap[r]? = w1.heap[r]? → w'.heap[b]? = w1.heap[b]? → (Instr.entry (.pointer (some ⟨r, 0, none⟩))).run P w' = .ok (.tuple #[ek x, v]) w' := by
  have hlt := h.lt
  obtain ⟨es, clock, since, seen, last, hb, hp, hold, hsc, hcl, hr, hleft⟩ := h.ex
  simp only [Instr.next, getObj, Sem.run_bind, Sem.run, hr, hb, Result.andThen, next_test_false seen es since last hold hsc, Bool.false_eq_true, if_false]
  have hL : leftOf es seen = Array.filter (fun e => !seen.contains e.born) es := rfl
  have hsub : ∀ x ∈ (leftOf es seen).toList, x ∈ es.toList := fun x hx => by rw [hL] at hx; simp at hx ⊢; exact hx.1
  have hmem : ∀ x ∈ (leftOf es seen).toList, x.born < since := fun x hx => hold x (hsub x hx)
  have hpL : (leftOf es seen).toList.Pairwise (fun x y => x.born ≠ y.born) := by
    rw [hL, Array.toList_filter]; exact hp.sublist List.filter_sublist
  have hnew : ∀ e : MapEntry, (leftOf es (seen.push e.born)).toList = (leftOf es seen).toList.filter (fun y => !(y.born == e.born)) := fun e => by
    rw [hL]
    simp only [leftOf, Array.toList_filter, List.filter_filter]
    refine List.filter_congr fun x _ => ?_
    rw [Bool.eq_iff_iff]
    simp
    constructor
    · rintro ⟨h1, h2⟩; exact ⟨h2, h1⟩
    · rintro ⟨h1, h2⟩; exact ⟨h2, h1⟩
  rw [← hL]
  generalize hLL : leftOf es seen = L at hmem hpL hsub hleft hnew
  have e1 : L.filter (fun x => decide (x.born < since)) = L := Array.filter_eq_self.2 (fun x hx => by simpa using hmem x (by simpa using hx))
  have e2 : L.filter (fun x => decide (x.born ≥ since)) = #[] := by
    rw [Array.filter_eq_empty_iff]
    intro x hx
    have := hmem x (by simpa using hx)
    simp
    omega
  simp only [e1, e2, Array.append_empty]
  have hlen : L.size = todo.length := by have := congrArg List.length hleft; simpa using this
  by_cases h0 : L.size = 0
  · left
    have : L = #[] := Array.eq_empty_of_size_eq_zero h0
    subst this
    refine ⟨List.eq_nil_of_length_eq_zero (by rw [← hlen]; exact h0), ?_⟩
    simp [choose, Sem.run, Question.forced]
  · right
    have hne : L.isEmpty = false := by simp [Array.isEmpty, h0]
    simp only [hne, Bool.false_eq_true, if_false, Array.empty_append, Array.size_map]
    have hch : ∃ (j : Nat) (w1 : World), j < L.size ∧ (w1 = w ∨ w1 = w.drew) ∧ (choose (Question.mapNext L.size)).run P w = .ok j w1 := by
      by_cases hf : L.size ≤ 1
      · exact ⟨0, w, by omega, .inl rfl, by simp [choose, Sem.run, Question.forced, hf]⟩
      · exact ⟨_, w.drew, Nat.mod_lt _ (by omega), .inr rfl, by
          simp only [choose, Sem.run, Question.forced, decide_eq_true_eq, hf, if_false, Question.cut]
          rfl⟩
    obtain ⟨j, w1, hj, hal, hrun⟩ := hch
    have hjt : j < todo.length := by omega
    have hkv : (L[j].key, L[j].val) = (ek todo[j].1, todo[j].2) := by
      have := congrArg (fun m => m[j]?) hleft
      simpa [hj, hjt] using this
    have hin : L[j] ∈ L.toList := by simp
    have hLj : L.toList[j]? = some L[j] := by simp [hj]
    have hwh : w1.heap = w.heap := by rcases hal with rfl | rfl <;> rfl
    have hw1k : Kept [] w w1 := by rcases hal with rfl | rfl; exact Kept.refl _ _; exact (Kept.refl _ _).drew
    refine ⟨todo[j].1, todo[j].2, todo.eraseIdx j, { w1 with heap := w1.heap.setIfInBounds r (.mapIter (some b) since (seen.push L[j].born) clock) }, ?_, ?_, ⟨es, clock, since, seen.push L[j].born, clock, ?_, hp, hold, hcl, hcl, ?_, ?_⟩, ?_, ?_, ?_⟩
    · exact perm_pick todo j todo[j] (by simp [hjt])
    · have hr1 : w1.heap[r]? = some (.mapIter (some b) since seen last) := by rw [hwh, hr]
      have hset : ∀ o', (setObj r o').run P w1 = .ok () { w1 with heap := w1.heap.setIfInBounds r o' } := fun o' => by
        simp [setObj, Sem.run, hr1]
      simp only [hrun, Array.getElem?_map, Array.getElem?_eq_getElem hj, Option.map_some, Sem.run_bind, hset, Result.andThen]
      have k1 : L[j].key = ek todo[j].1 := by have := congrArg Prod.fst hkv; exact this
      have k2 : L[j].val = todo[j].2 := by have := congrArg Prod.snd hkv; exact this
      rw [← k1, ← k2]
      rfl
    · show (w1.heap.setIfInBounds r _)[b]? = _
      rw [Array.getElem?_setIfInBounds, if_neg (Ne.symm hlt.2.2), hwh, hb]
    · show (w1.heap.setIfInBounds r _)[r]? = _
      rw [Array.getElem?_setIfInBounds, if_pos rfl, if_pos (by rw [hwh]; exact hlt.2.1)]
    · rw [hnew, filter_one (·.born) L.toList j L[j] hpL hLj, map_eraseIdx', hleft, map_eraseIdx']
    · exact (hw1k.mono (by simp)).trans (T := [r]) (kept_set w1 r _) (by simp)
    · simp [hwh]
    · intro w' h1 h2
      have h1' : w'.heap[r]? = some (.mapIter (some b) since (seen.push L[j].born) clock) := by
        rw [h1]
        show (w1.heap.setIfInBounds r _)[r]? = _
        rw [Array.getElem?_setIfInBounds, if_pos rfl, if_pos (by rw [hwh]; exact hlt.2.1)]
      have h2' : w'.heap[b]? = some (.map es clock) := by
        rw [h2]
        show (w1.heap.setIfInBounds r _)[b]? = _
        rw [Array.getElem?_setIfInBounds, if_neg (Ne.symm hlt.2.2), hwh, hb]
      have hf : es.find? (·.born == L[j].born) = some L[j] := by rw [← Array.find?_toList]; exact find_born L[j] es.toList (List.pairwise_map.2 hp) (hsub _ hin)
      have k1 : L[j].key = ek todo[j].1 := by have := congrArg Prod.fst hkv; exact this
      have k2 : L[j].val = todo[j].2 := by have := congrArg Prod.snd hkv; exact this
      simp only [Instr.entry, getObj, Sem.run_bind, Sem.run, h1', h2', Result.andThen, Array.back?_push, bne_self_eq_false, Bool.false_eq_true, if_false, hf]
      rw [← k1, ← k2]
      rfl
theorem RangeIs.left_eq (h : RangeIs w b r ek todo) : w.rangeLeft b r = todo.length := by
  obtain ⟨es, clock, since, seen, last, hb, hp, hold, hsc, hcl, hr, hleft⟩ := h.ex
  have hlen : (leftOf es seen).size = todo.length := by have := congrArg List.length hleft; simpa using this
  simp [World.rangeLeft, hb, hr, hlen]
theorem wpList_range_is {l : List (α × Value)} {ops : Array Oper} {rest : List Oper} {o : Oper} {a : Act} {Q : Exit → Act → World → Prop}
    (hg : o.guard = none) (m : Operand) (t : TypeId) (hop : o.op = Op.range t m) (kt et : TypeId) (ht : P.underlying t = some (.map kt et))
    (hm : a.eval m = .map (some b)) (hM : MapIs w b ek l)
    (hK : ∀ w', RangeIs w' b w.heap.size ek l → Kept [] w w' → w'.heap.size = w.heap.size + 1 → wpList P ops Q rest (a.put o.dst (.pointer (some ⟨w.heap.size, 0, none⟩))) w') :
    wpList P ops Q (o :: rest) a w := by
  refine wpList_plain hg fun K' hK' => ?_
  obtain ⟨w', hrun, r1, r2, r3⟩ := hM.run_range (P := P) ht
  unfold Oper.wp
  simp [execOp, hop, hm, hrun, Result.andThen]
  exact hK' _ _ (hK w' r1 r2 r3)
theorem wpList_next_is {ops : Array Oper} {rest : List Oper} {o : Oper} {a : Act} {Q : Exit → Act → World → Prop}
    (hg : o.guard = none) (it : Operand) (hop : o.op = Op.next it false) (hit : a.eval it = .pointer (some ⟨r, 0, none⟩)) (h : RangeIs w b r ek todo)
    (hDone : todo = [] → wpList P ops Q rest (a.put o.dst (.tuple #[.bool false])) w)
    (hMore : ∀ x v todo' w', todo.Perm ((x, v) :: todo') → RangeIs w' b r ek todo' → Kept [r] w w' → w'.heap.size = w.heap.size →
      (Instr.entry (.pointer (some ⟨r, 0, none⟩))).run P w' = .ok (.tuple #[ek x, v]) w' → wpList P ops Q rest (a.put o.dst (.tuple #[.bool true, ek x, v])) w') :
    wpList P ops Q (o :: rest) a w := by
  refine wpList_plain hg fun K' hK' => ?_
  unfold Oper.wp
  rcases h.run_next (P := P) o.type with ⟨h0, hrun⟩ | ⟨x, v, todo', w', hp, hrun, hR, hk, hs, hen⟩
  · simp [execOp, hop, hit, hrun, Result.andThen]
    exact hK' _ _ (hDone h0)
  · simp [execOp, hop, hit, hrun, Result.andThen]
    exact hK' _ _ (hMore x v todo' w' hp hR hk hs (hen w' rfl rfl))
end
def Rc.v (r : Rc) : Value := .agg #[.int .i64 r.kind, .int .i64 r.tx, .int .u16 (r.mask : Int), .int .u8 (r.key.a.toNat : Int), .int .u8 (r.key.b.toNat : Int), .int .u8 (r.key.c.toNat : Int), .int .u8 (r.key.d.toNat : Int), .bool r.old.there, .int .i64 r.old.n, .bool r.new.there, .int .i64 r.new.n]
theorem rec_cells {w : World} {l : List Rc} {b off k : Nat} (h : ∀ j u, (l.flatMap Rc.f)[j]? = some u → w.cell? ⟨b, off + j, none⟩ = some u) (hk : k < l.length) :
    w.cell? ⟨b, off + k * 11, none⟩ = some (.int .i64 l[k].kind) ∧ w.cell? ⟨b, off + k * 11 + 1, none⟩ = some (.int .i64 l[k].tx) ∧ w.cell? ⟨b, off + k * 11 + 2, none⟩ = some (.int .u16 (l[k].mask : Int)) ∧ w.cell? ⟨b, off + k * 11 + 3, none⟩ = some (.int .u8 (l[k].key.a.toNat : Int)) ∧ w.cell? ⟨b, off + k * 11 + 4, none⟩ = some (.int .u8 (l[k].key.b.toNat : Int)) ∧ w.cell? ⟨b, off + k * 11 + 5, none⟩ = some (.int .u8 (l[k].key.c.toNat : Int)) ∧ w.cell? ⟨b, off + k * 11 + 6, none⟩ = some (.int .u8 (l[k].key.d.toNat : Int)) ∧ w.cell? ⟨b, off + k * 11 + 7, none⟩ = some (.bool l[k].old.there) ∧ w.cell? ⟨b, off + k * 11 + 8, none⟩ = some (.int .i64 l[k].old.n) ∧ w.cell? ⟨b, off + k * 11 + 9, none⟩ = some (.bool l[k].new.there) ∧ w.cell? ⟨b, off + k * 11 + 10, none⟩ = some (.int .i64 l[k].new.n) := by
  have key : ∀ j u, j < 11 → (l[k].f)[j]? = some u → w.cell? ⟨b, off + (k * 11 + j), none⟩ = some u := fun j u hj hu =>
    h _ u (by rw [flatMap_get Rc.f (c := 11) (fun _ => rfl) l k j l[k] (by simp [hk]) hj]; exact hu)
  exact ⟨key 0 _ (by omega) rfl, key 1 _ (by omega) rfl, key 2 _ (by omega) rfl, key 3 _ (by omega) rfl, key 4 _ (by omega) rfl, key 5 _ (by omega) rfl, key 6 _ (by omega) rfl, key 7 _ (by omega) rfl, key 8 _ (by omega) rfl, key 9 _ (by omega) rfl, key 10 _ (by omega) rfl⟩
--@@ api.Rec
set_option maxHeartbeats 2000000 in
theorem eq_rec (w : World) (d : Nat) (x y : Rc) : (Op.equalIn (d + 3) 55 x.v y.v).run Tryz.prog w = .ok (decide (x = y)) w := by
  have hS : Tryz.prog.underlying 55 = some (.struct (Tryz.prog.fieldsOf 55)) := by kernel_rfl
  have hp : Tryz.prog.stoodInHeld 55 = false := by kernel_rfl
  obtain ⟨a, b, c, k, ⟨o1, o2⟩, ⟨n1, n2⟩⟩ := x
  obtain ⟨a', b', c', k', ⟨o1', o2'⟩, ⟨n1', n2'⟩⟩ := y
  simp only [Rc.v]
  rw [run_equalIn_agg w (d + 2) _ _ _ hS hp]
  simp only [Program.fieldsOf, Tryz.underlying55, Op.eqFields]
  have e1 := fun w d => eq_key w d k k'
  simp only [K4.v] at e1
  generalize hk : decide (k = k') = rk at e1
  have hr : decide ((⟨a, b, c, k, ⟨o1, o2⟩, ⟨n1, n2⟩⟩ : Rc) = ⟨a', b', c', k', ⟨o1', o2'⟩, ⟨n1', n2'⟩⟩) = (decide (a = a') && (decide (b = b') && (decide (c = c') && (rk && ((decide (o1 = o1') && decide (o2 = o2')) && (decide (n1 = n1') && decide (n2 = n2'))))))) := by
    subst hk
    rw [Bool.eq_iff_iff]
    simp [Rc.mk.injEq, V.mk.injEq, and_assoc]
  rw [hr]
  clear hr hk
  cases rk
  · go_simp
  · go_simp
    by_cases h1 : a = a' <;> by_cases h2 : b = b' <;> by_cases h3 : c = c' <;> by_cases h4 : o1 = o1' <;> by_cases h5 : o2 = o2' <;> by_cases h6 : n1 = n1' <;> by_cases h7 : n2 = n2' <;> simp [h1, h2, h3, h4, h5, h6, h7] <;> omega
theorem eqR (w : World) (x y : Rc) : (binOp .eql 55 x.v y.v).run Tryz.prog w = .ok (.bool (decide (x = y))) w := by
  rw [Rc.v, Rc.v, run_eql_struct, ← Rc.v, ← Rc.v, show (10000 : Nat) = 9997 + 3 from rfl, eq_rec]; rfl
theorem neR (w : World) (x y : Rc) : (binOp .neq 55 x.v y.v).run Tryz.prog w = .ok (.bool (!decide (x = y))) w := by
  rw [Rc.v, Rc.v, run_neq_struct, ← Rc.v, ← Rc.v, show (10000 : Nat) = 9997 + 3 from rfl, eq_rec]; rfl
--@@ end
section
variable {P : Program} {w : World} {o : Oper} {a : Act} {K : Act → World → Prop} {Q : Exit → Act → World → Prop}
theorem wp_append_ow (s x : Operand) (t : TypeId)
    (ho : o.op = .call { callee := .builtin .append, args := #[s, x], argTypes := #[t, t] })
    (e : TypeId) (z : Value) (size bytes : Nat) (ht : P.underlying t = some (.slice e)) (hi : (P.info? e).map (fun i => (i.zero, i.size, i.bytes)) = some (some z, size, bytes))
    (hzs : z.cells.size = size) (hsz : 0 < size) (hby : 0 < bytes) (base : Nat)
    (v : Value) (n : Nat) (xs : List Value) (hs : a.eval s = v) (hown : w.ownsRow base e size v n xs)
    (ad : Addr) (m c : Nat) (news : List Value) (hx : a.eval x = .slice (some ad) m c) (hl : news.length = m * size) (hnews : ∀ j u, news[j]? = some u → w.cell? (ad.add j) = some u) (h1 : ∀ u ∈ news, u.oneCell' = true) (hm : 0 < m)
    (hbytes : (n + m) * bytes ≤ 140737488355328) (hbase : base ≤ w.heap.size)
    (h : ∀ g cap w', w'.ownsRow base e size (.slice (some ⟨g, 0, none⟩) (n + m) cap) (n + m) (xs ++ news) → w.grownBy w' v.ownBlock → (v.ownBlock = some g ∨ g = w.heap.size) → K (a.put o.dst (.slice (some ⟨g, 0, none⟩) (n + m) cap)) w') : o.wp P a w K Q := by
  obtain ⟨i, hi, hz0, hz1, hz2⟩ := info_parts hi
  have h63 : n + m ≤ maxLen := by
    have := Nat.le_mul_of_pos_right (n + m) hby
    unfold maxLen; omega
  exact wp_append_lies w s x t ho base e i z size bytes ht hi hz0 hz1 hz2 hzs hsz v n xs hs hown ad m c news hx hl hnews h1 hm h63 hbytes hbase w.heap.size rfl fun g cap w' g1 g2 g3 _ => h g cap w' g1 g2 g3
end
end Go.Proofs.YtpcpeoejcnndhaaGreat
namespace Go.Proofs.YtpcpeoejcnndhaaGreat
open Go.RowKit Go.Maps
open Go.WideElems (rd rg)
abbrev anyR : Value → Option (DataW Unit × List MemPlace) := fun _ => some (.nil, [])
theorem MapIs.owns {P : Program} {k : TypeId} {w : World} {b : Nat} {l : List (Int × Value)} (h : MapIs w b (Value.int .i64) l) (hk : P.underlying k = some (.int .i64))
    (hn : (l.map (·.1)).Nodup) (hw : ∀ p, p ∈ l → (Lit.int .i64 p.1).wf = true) (hs : l.length ≤ maxLen) :
    ∃ D : DataW Unit, w.ownsMap P k anyR b l.length D ∧ (intKeys D).Perm (l.map (·.1)) ∧ Maps.size D = l.length := by
  obtain ⟨es, clock, hb, he, hp, hc⟩ := h.ex
  have hl : es.size = l.length := by have := congrArg List.length he; simpa using this
  have hkeys : es.toList.map (·.key) = (l.map (·.1)).map (Value.int .i64) := by
    have := congrArg (List.map (·.1)) he
    simpa [List.map_map, Function.comp_def] using this
  have hrg : es.toList.map (rg P k anyR) = l.map fun p => (Lit.int .i64 p.1, DataW.nil) := by
    refine List.ext_getElem? fun i => ?_
    have hi := congrArg (fun m => m[i]?) he
    simp only [List.getElem?_map] at hi ⊢
    cases h1 : es.toList[i]? with
    | none =>
      rw [h1] at hi
      cases h2 : l[i]? with
      | none => rfl
      | some p => rw [h2] at hi; simp at hi
    | some e =>
      rw [h1] at hi
      cases h2 : l[i]? with
      | none => rw [h2] at hi; simp at hi
      | some p =>
        rw [h2] at hi
        simp at hi
        have hwp := hw p (List.mem_iff_getElem?.2 ⟨i, h2⟩)
        simp [rg, rd, hi.1, keyOf_int_mk hk hwp]
  refine ⟨.map ((es.toList.map (rg P k anyR)).foldr DataW.insert []), ⟨es, clock, hb, ⟨by omega, ⟨hc, ?_, ?_⟩, ?_⟩, by omega, rfl⟩, ?_, ?_⟩
  · exact List.pairwise_map.2 hp
  · rw [hkeys]
    exact List.pairwise_map.2 (hn.imp fun hne e => hne (by cases e; rfl))
  · intro e hm
    obtain ⟨i, hi⟩ := List.mem_iff_getElem?.1 hm
    have hi' := congrArg (fun m => m[i]?) he
    simp only [List.getElem?_map, hi] at hi'
    cases h2 : l[i]? with
    | none => rw [h2] at hi'; simp at hi'
    | some p =>
      rw [h2] at hi'
      simp at hi'
      have hwp := hw p (List.mem_iff_getElem?.2 ⟨i, h2⟩)
      exact ⟨_, by simp [rd, hi'.1, keyOf_int_mk hk hwp]; rfl⟩
  · have h2 := (WideShapes.sorted_perm (es.toList.map (rg P k anyR))).map fun p => _root_.Go.intOf p.1
    simp only [intKeys]
    refine h2.trans ?_
    rw [hrg]
    simp [List.map_map, Function.comp_def, _root_.Go.intOf]
  · simp [Maps.size, length_sorted, hl]
end Go.Proofs.YtpcpeoejcnndhaaGreat
namespace Go.Proofs.YtpcpeoejcnndhaaGreat
open Go.RowKit
theorem two_kept {w w' : World} {t : TypeId} {x y : Value} (hk : Kept [] (w.alloc (.cells #[x, y] t)) w') : w'.heap[w.heap.size]? = some (.cells #[x, y] t (0, 0)) :=
  (hk.block w.heap.size (by simp) (by simp)).trans (heap_alloc_new w _)
theorem cell2 {w : World} {B : Nat} {t : TypeId} {x y : Value} (hb : w.heap[B]? = some (.cells #[x, y] t (0, 0))) :
    w.cell? ⟨B, 0, none⟩ = some x ∧ w.cell? ⟨B, 1, none⟩ = some y ∧ w.frozen? ⟨B, 0, none⟩ = false ∧ w.frozen? ⟨B, 1, none⟩ = false := by
  refine ⟨?_, ?_, ?_, ?_⟩ <;> simp [World.cell?, World.frozen?, hb]
theorem set2 {w : World} {B : Nat} {t : TypeId} {fr : Nat × Nat} {x y : Value} (hb : w.heap[B]? = some (.cells #[x, y] t fr)) (x' y' : Value) :
    ((w.setCell ⟨B, 0, none⟩ x').setCell ⟨B, 1, none⟩ y').heap[B]? = some (.cells #[x', y'] t fr) := by
  simp [World.setCell, Array.getElem?_modify, hb]
def RowAt (ops : Array Oper) (R : Nat → Value → World → Prop) (j : Nat) (a : Act) (w : World) : Prop :=
  ∀ o t, ops[j]? = some o → o.dst = some t → ∃ v, a.tmps[t]? = some v ∧ R j v w
structure OldR (ops : Array Oper) (a0 a : Act) : Prop where
  tz : a.tmps.size = a0.tmps.size
  df : a.defers = a0.defers
  old : ∀ t, (∀ (i : Nat) (o : Oper), ops[i]? = some o → o.dst ≠ some t) → a.tmps[t]? = a0.tmps[t]?
structure InvR (ops : Array Oper) (a0 : Act) (R : Nat → Value → World → Prop) (C : World → Prop) (listed : Array Bool) (a : Act) (w : World) : Prop where
  c : C w
  sz : listed.size = ops.size
  old : OldR ops a0 a
  row : ∀ i, listed.getD i false = true → RowAt ops R i a w
def StepR (P : Program) (ops : Array Oper) (Q : Exit → Act → World → Prop) (a0 : Act) (R : Nat → Value → World → Prop) (C : World → Prop) (G : World → World → Prop) (k : Nat) (o : Oper) : Prop :=
  ∀ (a : Act) (w : World), C w → OldR ops a0 a → (∀ e ∈ o.after, Region.binds .any e = true → RowAt ops R e.on a w) →
    if Region.wanted o (yielded ops a.tmps) then o.wp P a w (fun a' w' => ∃ v, a' = a.put o.dst v ∧ R k v w' ∧ C w' ∧ G w w') Q else R k undef w
theorem countP_lt {p q : Nat → Bool} (hpq : ∀ x, q x = true → p x = true) {i : Nat} (hpi : p i = true) (hqi : q i = false) : ∀ {l : List Nat}, i ∈ l → l.countP q < l.countP p
  | x :: l, hi => by
    have hle : l.countP q ≤ l.countP p := by
      clear hi
      induction l with
      | nil => simp
      | cons y l ih =>
        rw [List.countP_cons, List.countP_cons]
        by_cases hy : q y = true
        · simp [hy, hpq y hy, ih]
        · simp [hy]; split <;> omega
    rw [List.countP_cons, List.countP_cons]
    rcases List.mem_cons.1 hi with rfl | hi
    · rw [hpi, hqi]; simp; omega
    · have ih := countP_lt hpq hpi hqi hi
      by_cases hx : q x = true
      · simp [hx, hpq x hx]; omega
      · simp [hx]; split <;> omega
def unl (ops : Array Oper) (listed : Array Bool) : Nat := (List.range ops.size).countP fun i => !listed.getD i true
def acyB (ops : Array Oper) : Bool := (List.range ops.size).all fun i => ((ops[i]?).map fun o => o.after.all fun e => !Region.binds .any e || decide (e.on < i)).getD true
def apartB : List Oper → Bool
  | [] => true
  | x :: l => (match x.dst with
    | none => true
    | some t => l.all fun y => match y.dst with
      | none => true
      | some u => !(Nat.beq t u)) && apartB l
theorem apartB_spec : ∀ {l : List Oper}, apartB l = true → l.Pairwise fun x y => x.dst = none ∨ x.dst ≠ y.dst
  | [], _ => List.Pairwise.nil
  | x :: l, h => by
    unfold apartB at h
    rw [Bool.and_eq_true] at h
    refine List.Pairwise.cons (fun y hy => ?_) (apartB_spec h.2)
    have h1 := h.1
    cases hx : x.dst with
    | none => exact .inl rfl
    | some t =>
      rw [hx] at h1
      have h2 := List.all_eq_true.1 h1 y hy
      refine .inr fun e => ?_
      rw [← e] at h2
      simp at h2
def dstB (ops : Array Oper) (n : Nat) : Bool := ops.toList.all (fun o => match o.dst with
  | none => true
  | some t => Nat.blt t n) && apartB ops.toList
section
variable {P : Program} {ops : Array Oper} {Q : Exit → Act → World → Prop} {a0 : Act} {R : Nat → Value → World → Prop} {C : World → Prop} {G : World → World → Prop}
theorem acyB_spec (h : acyB ops = true) : ∀ i o e, ops[i]? = some o → e ∈ o.after → Region.binds .any e = true → e.on < i := fun i o e ho he hb => by
  unfold acyB at h
  have hi : i < ops.size := (Array.getElem?_eq_some_iff.1 ho).1
  have := List.all_eq_true.1 h i (List.mem_range.2 hi)
  rw [ho] at this
  simp only [Option.map_some, Option.getD_some] at this
  have h2 := Array.all_eq_true_iff_forall_mem.1 this e he
  simpa [hb] using h2
theorem dstB_lt {n : Nat} (h : dstB ops n = true) {i t : Nat} {o : Oper} (ho : ops[i]? = some o) (ht : o.dst = some t) : t < n := by
  unfold dstB at h
  rw [Bool.and_eq_true] at h
  have hm : o ∈ ops.toList := by
    have := Array.mem_of_getElem? ho
    simpa using this
  have := List.all_eq_true.1 h.1 o hm
  rw [ht] at this
  have h2 : Nat.blt t n = true := by simpa using this
  rw [Nat.blt_eq] at h2
  exact h2
theorem dstB_ne {n : Nat} (h : dstB ops n = true) {i j t : Nat} {o o' : Oper} (ho : ops[i]? = some o) (ho' : ops[j]? = some o') (ht : o.dst = some t) (ht' : o'.dst = some t) : i = j := by
  unfold dstB at h
  rw [Bool.and_eq_true] at h
  have hp := apartB_spec h.2
  rw [List.pairwise_iff_getElem] at hp
  obtain ⟨hi, hio⟩ := Array.getElem?_eq_some_iff.1 ho
  obtain ⟨hj, hjo⟩ := Array.getElem?_eq_some_iff.1 ho'
  rcases Nat.lt_trichotomy i j with hlt | heq | hgt
  · have := hp i j (by simpa using hi) (by simpa using hj) hlt
    simp only [Array.getElem_toList, hio, hjo, ht, ht'] at this
    rcases this with h1 | h1
    · cases h1
    · exact absurd rfl h1
  · exact heq
  · have := hp j i (by simpa using hj) (by simpa using hi) hgt
    simp only [Array.getElem_toList, hio, hjo, ht, ht'] at this
    rcases this with h1 | h1
    · cases h1
    · exact absurd rfl h1
theorem unl_zero {listed : Array Bool} (hs : listed.size = ops.size) (h : unl ops listed = 0) : ∀ i, i < ops.size → listed.getD i false = true := fun i hi => by
  unfold unl at h
  rw [List.countP_eq_zero] at h
  have := h i (List.mem_range.2 hi)
  have hi' : i < listed.size := by omega
  simp [hi'] at this ⊢
  exact this
theorem all_listed {listed : Array Bool} (hs : listed.size = ops.size) (hacy : acyB ops = true) (hr : Region.ready .any ops listed = []) : ∀ i, i < ops.size → listed.getD i false = true := fun i => by
  induction i using Nat.strongRecOn with
  | ind i ih =>
    intro hi
    have hi' : i < listed.size := by omega
    cases hl : listed[i] with
    | true => simp [hi', hl]
    | false =>
      have : i ∈ Region.ready .any ops listed := by
        rw [mem_ready]
        refine ⟨by simp [hi', hl], ops[i], by simp [hi], fun e he hb => ?_⟩
        have hlt := acyB_spec hacy i ops[i] e (by simp [hi]) he hb
        exact ih _ hlt (by omega)
      rw [hr] at this
      cases this
theorem wpAny_rows (hG : ∀ j v w w', G w w' → R j v w → R j v w') (hacy : acyB ops = true) (hdst : dstB ops a0.tmps.size = true)
    (hstep : ∀ k o, ops[k]? = some o → StepR P ops Q a0 R C G k o) (hrefl : ∀ w, G w w)
    (hfin : ∀ a w, C w → OldR ops a0 a → (∀ i, RowAt ops R i a w) → Q .normal a w) :
    ∀ (fuel : Nat) (listed : Array Bool) (a : Act) (w : World), unl ops listed ≤ fuel → InvR ops a0 R C listed a w → wpAny P .any ops Q fuel listed a w := by
  have fin : ∀ (listed : Array Bool) (a : Act) (w : World), InvR ops a0 R C listed a w → (∀ i, i < ops.size → listed.getD i false = true) → Q .normal a w := fun listed a w H h =>
    hfin a w H.c H.old fun i => by
      by_cases hi : i < ops.size
      · exact H.row i (h i hi)
      · intro o t ho
        exact absurd (Array.getElem?_eq_some_iff.1 ho).1 hi
  intro fuel
  induction fuel with
  | zero =>
    intro listed a w hu H
    have hall := unl_zero H.sz (Nat.le_zero.1 hu)
    refine ⟨?_, fin listed a w H hall⟩
    cases hr : Region.ready .any ops listed with
    | nil => rfl
    | cons x xs =>
      have hx : x ∈ Region.ready .any ops listed := by rw [hr]; simp
      obtain ⟨h1, o, ho, _⟩ := mem_ready.1 hx
      have hlt := (Array.getElem?_eq_some_iff.1 ho).1
      have := hall x hlt
      have hx' : x < listed.size := by rw [H.sz]; exact hlt
      simp [hx'] at h1 this
      rw [h1] at this; cases this
  | succ fuel ih =>
    intro listed a w hu H
    refine ⟨fun hr => fin listed a w H (all_listed H.sz hacy hr), fun i hi => ?_⟩
    obtain ⟨hun, o, ho, hdep⟩ := mem_ready.1 hi
    have hlt := (Array.getElem?_eq_some_iff.1 ho).1
    have hi' : i < listed.size := by rw [H.sz]; exact hlt
    have hli : listed[i] = false := by simpa [hi'] using hun
    have next : ∀ (v : Value) (w' : World), R i v w' → C w' → G w w' → wpAny P .any ops Q fuel (listed.setIfInBounds i true) (a.put o.dst v) w' := fun v w' hR hC hg => by
      refine ih _ _ _ ?_ ⟨hC, by simpa using H.sz, ⟨?_, ?_, fun t ht => ?_⟩, fun j hj o' t' ho' ht' => ?_⟩
      · have := countP_lt (p := fun k => !listed.getD k true) (q := fun k => !(listed.setIfInBounds i true).getD k true) (fun x hx => by
          by_cases hxi : x = i
          · subst hxi; simp [hi'] at hx
          · by_cases hxs : x < listed.size
            · simp [hxs, Array.getElem_setIfInBounds, Ne.symm hxi] at hx ⊢; exact hx
            · simp [hxs] at hx) (i := i) (by simp [hi', hli]) (by simp [hi']) (List.mem_range.2 hlt)
        unfold unl at hu ⊢
        omega
      · rw [← H.old.tz]; unfold Act.put; split <;> simp
      · rw [← H.old.df]; unfold Act.put; split <;> rfl
      · rw [← H.old.old t ht]
        unfold Act.put
        split
        · rename_i d hd
          have : d ≠ t := fun e => ht i o ho (by rw [hd, e])
          simp [Array.getElem?_setIfInBounds, this]
        · rfl
      · by_cases hji : j = i
        · subst hji
          rw [ho] at ho'
          cases ho'
          have htl := dstB_lt hdst ho ht'
          rw [← H.old.tz] at htl
          refine ⟨v, ?_, hR⟩
          unfold Act.put
          rw [ht']
          simp [htl]
        · have hj' : listed.getD j false = true := by
            by_cases hjs : j < listed.size
            · simp [hjs, Array.getElem_setIfInBounds, Ne.symm hji] at hj ⊢; exact hj
            · simp [hjs] at hj
          obtain ⟨u, hu1, hu2⟩ := H.row j hj' o' t' ho' ht'
          refine ⟨u, ?_, hG j u w w' hg hu2⟩
          rw [← hu1]
          unfold Act.put
          split
          · rename_i d hd
            have : d ≠ t' := fun e => hji (dstB_ne hdst ho' ho ht' (by rw [hd, e]))
            simp [Array.getElem?_setIfInBounds, this]
          · rfl
    have hs := hstep i o ho a w H.c H.old (fun e he hb => H.row _ (hdep e he hb))
    unfold wpOp
    simp only [ho]
    split
    · rename_i hw
      rw [if_pos hw] at hs
      refine .inl (Oper.wp_mono (fun a' w' h => ?_) hs)
      obtain ⟨v, rfl, h1, h2, h3⟩ := h
      exact next v w' h1 h2 h3
    · rename_i hw
      rw [if_neg hw] at hs
      exact next undef w hs H.c (hrefl w)
theorem eval_of {a : Act} {t : Tmp} {v : Value} (h : a.tmps[t]? = some v) : a.eval (.tmp t) = v := by
  show a.tmps.getD t undef = v
  rw [Array.getD_eq_getD_getElem?, h]; rfl
theorem wanted_none {o : Oper} {y : Nat → Option Bool} (h : o.guard = none) : Region.wanted o y = true := by unfold Region.wanted; rw [h]
theorem wanted_some {o : Oper} {y : Nat → Option Bool} {j : Nat} {b : Bool} (h : o.guard = some (j, b)) (hy : y j = some b) : Region.wanted o y = true := by unfold Region.wanted; rw [h]; simp [hy]
theorem yielded_of {ops : Array Oper} {a : Act} {j t : Nat} {o : Oper} {b : Bool} (ho : ops[j]? = some o) (ht : o.dst = some t) (he : a.tmps[t]? = some (.bool b)) : yielded ops a.tmps j = some b := by
  unfold yielded
  rw [ho]
  simp only [Option.bind_some, ht, he]
def notDst (ops : List Oper) (t : Nat) : Bool := ops.all fun o => match o.dst with
  | none => true
  | some u => !(Nat.beq u t)
theorem OldR.at {l : List Oper} {a0 a : Act} (H : OldR l.toArray a0 a) {t : Nat} {v : Value} (hn : notDst l t = true) (h0 : a0.tmps[t]? = some v) : a.tmps[t]? = some v := by
  rw [H.old t fun i o ho e => ?_, h0]
  have hm : o ∈ l := by
    have := Array.mem_of_getElem? ho
    simpa using this
  have := List.all_eq_true.1 hn o hm
  rw [e] at this
  simp at this
theorem pure_step {P : Program} {o : Oper} {a : Act} {w : World} {R : Value → World → Prop} {C : World → Prop} {G : World → World → Prop} {Q : Exit → Act → World → Prop} (v : Value) (hR : R v w) (hC : C w) (hg : G w w)
    (h : o.wp P a w (fun a' w' => a' = a.put o.dst v ∧ w' = w) Q) : o.wp P a w (fun a' w' => ∃ v, a' = a.put o.dst v ∧ R v w' ∧ C w' ∧ G w w') Q :=
  Oper.wp_mono (fun a' w' ⟨h1, h2⟩ => by subst h2; exact ⟨v, h1, hR, hC, hg⟩) h
def AllFrom (p : Nat → Oper → Prop) : Nat → List Oper → Prop
  | _, [] => True
  | k, o :: l => p k o ∧ AllFrom p (k + 1) l
theorem AllFrom.cons {p : Nat → Oper → Prop} {k : Nat} {o : Oper} {l : List Oper} (h1 : p k o) (h2 : AllFrom p (k + 1) l) : AllFrom p k (o :: l) := ⟨h1, h2⟩
theorem AllFrom.get {p : Nat → Oper → Prop} : ∀ {l : List Oper} {k : Nat}, AllFrom p k l → ∀ i o, l[i]? = some o → p (k + i) o
  | [], k, _, i, o, h => by simp at h
  | x :: l, k, H, 0, o, h => by simp at h; subst h; exact H.1
  | x :: l, k, H, i + 1, o, h => by
    have := AllFrom.get H.2 i o (by simpa using h)
    rwa [show k + 1 + i = k + (i + 1) by omega] at this
theorem wp_region_rows {id : Nat} {l : List Oper} {a : Act} {w : World} (R : Nat → Value → World → Prop) (C : World → Prop) (G : World → World → Prop) (hm : P.follows .mixedOrders = true)
    (hG : ∀ j v w w', G w w' → R j v w → R j v w') (hrefl : ∀ w, G w w) (hacy : acyB l.toArray = true) (hdst : dstB l.toArray a.tmps.size = true) (hC : C w.drew)
    (hstep : AllFrom (StepR P l.toArray Q a R C G) 0 l) (hfin : ∀ a' w', C w' → OldR l.toArray a a' → (∀ i, RowAt l.toArray R i a' w') → Q .normal a' w') : (Code.region id l.toArray true).wp P Q a w := by
  refine wp_region_any hm ?_
  refine wpAny_rows (a0 := a) (R := R) (C := C) (G := G) hG hacy hdst (fun k o ho => by have := hstep.get k o (by simpa using ho); simpa using this) hrefl hfin _ _ _ _ ?_ ⟨hC, by simp, ⟨rfl, rfl, fun _ _ => rfl⟩, fun i hi => ?_⟩
  · unfold unl
    have := List.countP_le_length (p := fun i => !(Array.replicate l.toArray.size false).getD i true) (l := List.range l.toArray.size)
    simpa using this
  · by_cases h : i < l.toArray.size
    · simp at h; simp [h] at hi
    · simp at h; simp [Nat.not_lt.2 h] at hi
end
theorem wpAny_more {P : Program} {md : Region.Mode} {ops : Array Oper} {Q : Exit → Act → World → Prop} : ∀ (f : Nat) (listed : Array Bool) (a : Act) (w : World), wpAny P md ops Q f listed a w → wpAny P md ops Q (f + 1) listed a w
  | 0, listed, a, w, h => ⟨fun _ => h.2, fun i hi => by rw [h.1] at hi; cases hi⟩
  | f + 1, listed, a, w, h => ⟨h.1, fun i hi => wpOp_mono (fun a' w' h' => wpAny_more f _ a' w' h') (h.2 i hi)⟩
theorem wpAny_fuel {P : Program} {md : Region.Mode} {ops : Array Oper} {Q : Exit → Act → World → Prop} {f g : Nat} (hfg : f ≤ g) {listed : Array Bool} {a : Act} {w : World} (h : wpAny P md ops Q f listed a w) : wpAny P md ops Q g listed a w := by
  obtain ⟨d, rfl⟩ : ∃ d, g = f + d := ⟨g - f, by omega⟩
  clear hfg
  induction d with
  | zero => exact h
  | succ d ih => exact wpAny_more _ _ _ _ ih
def headA (n m : Nat) : Array Bool := (List.replicate n true ++ List.replicate (m - n) false).toArray
theorem headA_eq {n m : Nat} (hn : n ≤ m) {listed : Array Bool} (hs : listed.size = m) (h1 : ∀ i, i < n → listed.getD i false = true) (h2 : ∀ t, n ≤ t → t < m → listed.getD t true = false) : listed = headA n m := by
  apply Array.ext
  · simp [headA, hs]; omega
  · intro i hi hi2
    by_cases hin : i < n
    · have := h1 i hin
      simp [hi] at this
      simp [headA, List.getElem_append, hin, this]
    · have := h2 i (by omega) (by omega)
      simp [hi] at this
      simp [headA, List.getElem_append, hin, this]
def unlH (n : Nat) (listed : Array Bool) : Nat := (List.range n).countP fun i => !listed.getD i true
theorem wpAny_rows_tail {P : Program} {l : List Oper} {Q : Exit → Act → World → Prop} {a0 : Act} {R : Nat → Value → World → Prop} {C : World → Prop} {G : World → World → Prop} (n : Nat) (hn : n < l.toArray.size)
    (hsk : Region.sinkB .any l.toArray n = true) (hch : Region.chainB .any l.toArray n = true) (hsq : Region.seqB .any l.toArray (l.drop n).length n (headA n l.toArray.size) = true)
    (hG : ∀ j v w w', G w w' → R j v w → R j v w') (hacy : acyB l.toArray = true) (hdst : dstB l.toArray a0.tmps.size = true)
    (hstep : ∀ k o, k < n → l.toArray[k]? = some o → StepR P l.toArray Q a0 R C G k o) (hrefl : ∀ w, G w w)
    (hfin : ∀ a w, C w → OldR l.toArray a0 a → (∀ i, i < n → RowAt l.toArray R i a w) → wpList P l.toArray Q (l.drop n) a w) :
    ∀ (fuel : Nat) (listed : Array Bool) (a : Act) (w : World), unlH n listed + (l.drop n).length ≤ fuel → InvR l.toArray a0 R C listed a w → HeadInv .any l.toArray n listed → wpAny P .any l.toArray Q fuel listed a w := by
  intro fuel
  induction fuel with
  | zero =>
    intro listed a w hu H I
    have : 0 < (l.drop n).length := by simp at hn ⊢; omega
    omega
  | succ fuel ih =>
    intro listed a w hu H I
    by_cases hall : ∀ i, i < n → listed.getD i false = true
    · have he : listed = headA n l.toArray.size := headA_eq (by omega) H.sz hall I.tail
      refine wpAny_fuel (f := (l.drop n).length) (by omega) ?_
      refine wpAny_of_seq (l.drop n) n listed a w (fun j => by simp [List.getElem?_drop]) (by rw [he]; exact hsq) ?_
      exact hfin a w H.c H.old fun i hi => H.row i (hall i hi)
    · obtain ⟨i0, hi0⟩ := Classical.not_forall.1 hall
      obtain ⟨hi0n, hi0l⟩ := Classical.not_imp.1 hi0
      have hun0 : listed.getD i0 true = false := getD_in (by rw [H.sz]; omega) (by simpa using hi0l)
      have hwait := tail_waits hsk hch hn I _ i0 rfl hi0n hun0
      refine ⟨fun hr => absurd (all_listed H.sz hacy hr i0 (by omega)) hi0l, fun i hi => ?_⟩
      have hin : i < n := by
        rcases Nat.lt_or_ge i n with h | h
        · exact h
        · exact absurd hi (hwait i h)
      obtain ⟨hun, o, ho, hdep⟩ := mem_ready.1 hi
      have hlt := (Array.getElem?_eq_some_iff.1 ho).1
      have hi' : i < listed.size := by rw [H.sz]; exact hlt
      have hli : listed[i] = false := by simpa [hi'] using hun
      have next : ∀ (v : Value) (w' : World), R i v w' → C w' → G w w' → wpAny P .any l.toArray Q fuel (listed.setIfInBounds i true) (a.put o.dst v) w' := fun v w' hR hC hg => by
        refine ih _ _ _ ?_ ⟨hC, by simpa using H.sz, ⟨?_, ?_, fun t ht => ?_⟩, fun j hj o' t' ho' ht' => ?_⟩ (I.set hi hin)
        · have := countP_lt (p := fun k => !listed.getD k true) (q := fun k => !(listed.setIfInBounds i true).getD k true) (fun x hx => by
            by_cases hxi : x = i
            · subst hxi; simp [hi'] at hx
            · by_cases hxs : x < listed.size
              · simp [hxs, Array.getElem_setIfInBounds, Ne.symm hxi] at hx ⊢; exact hx
              · simp [hxs] at hx) (i := i) (by simp [hi', hli]) (by simp [hi']) (List.mem_range.2 hin)
          unfold unlH at hu ⊢
          omega
        · rw [← H.old.tz]; unfold Act.put; split <;> simp
        · rw [← H.old.df]; unfold Act.put; split <;> rfl
        · rw [← H.old.old t ht]
          unfold Act.put
          split
          · rename_i d hd
            have : d ≠ t := fun e => ht i o ho (by rw [hd, e])
            simp [Array.getElem?_setIfInBounds, this]
          · rfl
        · by_cases hji : j = i
          · subst hji
            rw [ho] at ho'
            cases ho'
            have htl := dstB_lt hdst ho ht'
            rw [← H.old.tz] at htl
            refine ⟨v, ?_, hR⟩
            unfold Act.put
            rw [ht']
            simp [htl]
          · have hj' : listed.getD j false = true := by
              by_cases hjs : j < listed.size
              · simp [hjs, Array.getElem_setIfInBounds, Ne.symm hji] at hj ⊢; exact hj
              · simp [hjs] at hj
            obtain ⟨u, hu1, hu2⟩ := H.row j hj' o' t' ho' ht'
            refine ⟨u, ?_, hG j u w w' hg hu2⟩
            rw [← hu1]
            unfold Act.put
            split
            · rename_i d hd
              have : d ≠ t' := fun e => hji (dstB_ne hdst ho' ho ht' (by rw [hd, e]))
              simp [Array.getElem?_setIfInBounds, this]
            · rfl
      have hs := hstep i o hin ho a w H.c H.old (fun e he hb => H.row _ (hdep e he hb))
      unfold wpOp
      simp only [ho]
      split
      · rename_i hw
        rw [if_pos hw] at hs
        refine .inl (Oper.wp_mono (fun a' w' h => ?_) hs)
        obtain ⟨v, rfl, h1, h2, h3⟩ := h
        exact next v w' h1 h2 h3
      · rename_i hw
        rw [if_neg hw] at hs
        exact next undef w hs H.c (hrefl w)
def AllUpto (p : Nat → Oper → Prop) : Nat → Nat → List Oper → Prop
  | 0, _, _ => True
  | _, _, [] => True
  | n + 1, k, o :: l => p k o ∧ AllUpto p n (k + 1) l
theorem AllUpto.cons {p : Nat → Oper → Prop} {n k : Nat} {o : Oper} {l : List Oper} (h1 : p k o) (h2 : AllUpto p n (k + 1) l) : AllUpto p (n + 1) k (o :: l) := ⟨h1, h2⟩
theorem AllUpto.nil {p : Nat → Oper → Prop} {k : Nat} {l : List Oper} : AllUpto p 0 k l := by unfold AllUpto; trivial
theorem AllUpto.get {p : Nat → Oper → Prop} : ∀ {n : Nat} {l : List Oper} {k : Nat}, AllUpto p n k l → ∀ i o, i < n → l[i]? = some o → p (k + i) o
  | 0, l, k, _, i, o, hi, h => absurd hi (Nat.not_lt_zero _)
  | n + 1, [], k, _, i, o, _, h => by simp at h
  | n + 1, x :: l, k, H, 0, o, _, h => by simp at h; subst h; exact H.1
  | n + 1, x :: l, k, H, i + 1, o, hi, h => by
    have := AllUpto.get H.2 i o (by omega) (by simpa using h)
    rwa [show k + 1 + i = k + (i + 1) by omega] at this
theorem wp_region_rows_tail {P : Program} {Q : Exit → Act → World → Prop} {id : Nat} {l : List Oper} {a : Act} {w : World} (n : Nat) (R : Nat → Value → World → Prop) (C : World → Prop) (G : World → World → Prop) (hm : P.follows .mixedOrders = true)
    (hG : ∀ j v w w', G w w' → R j v w → R j v w') (hrefl : ∀ w, G w w) (hacy : acyB l.toArray = true) (hdst : dstB l.toArray a.tmps.size = true)
    (hn : Nat.blt n l.length = true) (hsk : Region.sinkB .any l.toArray n = true) (hch : Region.chainB .any l.toArray n = true) (hsq : Region.seqB .any l.toArray (l.drop n).length n (headA n l.toArray.size) = true) (hC : C w.drew)
    (hstep : AllUpto (StepR P l.toArray Q a R C G) n 0 l) (hfin : ∀ a' w', C w' → OldR l.toArray a a' → (∀ i, i < n → RowAt l.toArray R i a' w') → wpList P l.toArray Q (l.drop n) a' w') : (Code.region id l.toArray true).wp P Q a w := by
  have hn' : n < l.toArray.size := by rw [Nat.blt_eq] at hn; simpa using hn
  refine wp_region_any hm ?_
  refine wpAny_rows_tail (a0 := a) (R := R) (C := C) (G := G) n hn' hsk hch hsq hG hacy hdst (fun k o hk ho => by have := hstep.get k o hk (by simpa using ho); simpa using this) hrefl hfin _ _ _ _ ?_ ⟨hC, by simp, ⟨rfl, rfl, fun _ _ => rfl⟩, fun i hi => ?_⟩ ⟨by simp, fun j oj _ hl => (by rw [getD_replicate_false] at hl; cases hl), fun t _ ht => getD_in (by simpa using ht) (getD_replicate_false _ _)⟩
  · unfold unlH
    have := List.countP_le_length (p := fun i => !(Array.replicate l.toArray.size false).getD i true) (l := List.range n)
    simp at this ⊢
    simp at hn'
    omega
  · by_cases h : i < l.toArray.size
    · simp at h; simp [h] at hi
    · simp at h; simp [Nat.not_lt.2 h] at hi
def merge (us : Nat → Value) : List Bool → Nat → List Value → List Value
  | [], _, l => l
  | _ :: _, _, [] => []
  | true :: m, i, _ :: l => us i :: merge us m (i + 1) l
  | false :: m, i, x :: l => x :: merge us m (i + 1) l
theorem merge_len (us : Nat → Value) : ∀ (m : List Bool) (i : Nat) (l : List Value), (merge us m i l).length = l.length
  | [], _, l => by unfold merge; rfl
  | _ :: _, _, [] => by unfold merge; rfl
  | true :: m, i, _ :: l => by unfold merge; simp [merge_len us m (i + 1) l]
  | false :: m, i, x :: l => by unfold merge; simp [merge_len us m (i + 1) l]
theorem merge_get (us : Nat → Value) : ∀ (m : List Bool) (i : Nat) (l : List Value) (j : Nat), j < l.length → (merge us m i l)[j]? = if m[j]? = some true then some (us (i + j)) else l[j]?
  | [], _, l, j, _ => by unfold merge; simp
  | _ :: _, _, [], j, hj => by simp at hj
  | true :: m, i, _ :: l, 0, _ => by unfold merge; simp
  | false :: m, i, x :: l, 0, _ => by unfold merge; simp
  | true :: m, i, _ :: l, j + 1, hj => by
    unfold merge
    have := merge_get us m (i + 1) l j (by simpa using hj)
    simp only [List.getElem?_cons_succ, this, show i + 1 + j = i + (j + 1) by omega]
  | false :: m, i, x :: l, j + 1, hj => by
    unfold merge
    have := merge_get us m (i + 1) l j (by simpa using hj)
    simp only [List.getElem?_cons_succ, this, show i + 1 + j = i + (j + 1) by omega]
def maskB (m : List Bool) (l : List Oper) : Bool := l.all fun o => match o.dst with
  | none => true
  | some t => m.getD t false
theorem OldR.lit {l : List Oper} {a0 a : Act} {L : List Value} {d : _} (H : OldR l.toArray a0 a) (h0 : a0 = ⟨L.toArray, d⟩) (m : List Bool) (hm : maskB m l = true) :
    ∃ us : Nat → Value, (∀ i v, m.getD i false = true → a.tmps[i]? = some v → us i = v) ∧ a = ⟨(merge us m 0 L).toArray, d⟩ := by
  subst h0
  refine ⟨fun i => a.tmps.getD i undef, fun i v _ hv => by dsimp only; rw [Array.getD_eq_getD_getElem?, hv]; rfl, ?_⟩
  obtain ⟨T, dd⟩ := a
  have hd := H.df
  have hz := H.tz
  dsimp only at hd hz
  subst hd
  have hz' : T.size = L.length := by simpa using hz
  suffices hT : T = (merge (fun i => T.getD i undef) m 0 L).toArray by exact congrArg (fun x => (⟨x, dd⟩ : Act)) hT
  refine Array.ext_getElem? fun j => ?_
  by_cases hj : j < L.length
  · have h1 := merge_get (fun i => T.getD i undef) m 0 L j hj
    rw [show (merge (fun i => T.getD i undef) m 0 L).toArray[j]? = (merge (fun i => T.getD i undef) m 0 L)[j]? by simp, h1]
    by_cases hmj : m[j]? = some true
    · rw [if_pos hmj, Nat.zero_add, Array.getD_eq_getD_getElem?]
      have : j < T.size := by omega
      simp [this]
    · rw [if_neg hmj]
      have := H.old j fun i o ho e => by
        have hmem : o ∈ l := by
          have := Array.mem_of_getElem? ho
          simpa using this
        have h2 := List.all_eq_true.1 hm o hmem
        rw [e] at h2
        apply hmj
        dsimp only at h2
        rw [List.getD_eq_getElem?_getD] at h2
        cases hg : m[j]? with
        | none => rw [hg] at h2; cases h2
        | some b => rw [hg] at h2; cases b <;> simp_all
      simpa using this
  · rw [Array.getElem?_eq_none (by omega), Array.getElem?_eq_none (by simp [merge_len]; omega)]
inductive Yield where
  | eq (v : Value)
  | is (p : Value → World → Prop) (hp : ∀ v w w', Kept [] w w' → p v w → p v w')
def Yield.den : Yield → Value → World → Prop
  | .eq u, v, _ => v = u
  | .is p _, v, w => p v w
def yieldDen (l : List Yield) (k : Nat) (v : Value) (w : World) : Prop := match l[k]? with
  | some p => p.den v w
  | none => True
theorem yieldDen_kept (l : List Yield) (k : Nat) (v : Value) (w w' : World) (hk : Kept [] w w') (h : yieldDen l k v w) : yieldDen l k v w' := by
  unfold yieldDen at h ⊢
  cases hl : l[k]? with
  | none => trivial
  | some p =>
    rw [hl] at h
    dsimp only at h ⊢
    cases p with
    | eq u => exact h
    | is p hp => exact hp v w w' hk h
def PrN (lo : Nat) (l : List Pr) (v : Value) (w : World) : Prop := (∃ pa pc, v = .slice pa l.length pc) ∧ PrAt w v l ∧ ∀ a n c, v = .slice (some a) n c → 0 < n → lo ≤ a.block
theorem PrN.kept {lo : Nat} {l : List Pr} {v : Value} {w w' : World} (hk : Kept [] w w') (h : PrN lo l v w) : PrN lo l v w' := ⟨h.1, h.2.1.kept hk, h.2.2⟩
def AggN (lo : Nat) (x : Txp) (v : Value) (w : World) : Prop := ∃ pa pc, v = .agg #[.int .i64 x.n, .int .u16 (x.mask : Int), .bool x.com, .slice pa x.ws.length pc] ∧ PrN lo x.ws (.slice pa x.ws.length pc) w
theorem AggN.kept {lo : Nat} {x : Txp} {v : Value} {w w' : World} (hk : Kept [] w w') (h : AggN lo x v w) : AggN lo x v w' := by
  obtain ⟨pa, pc, h1, h2⟩ := h
  exact ⟨pa, pc, h1, h2.kept hk⟩
def RowN (lo : Nat) (x : Txp) (v : Value) (w : World) : Prop := ∃ g pa pc, v = .slice (some ⟨g, 0, none⟩) 1 1 ∧ PrN lo x.ws (.slice pa x.ws.length pc) w ∧ ∀ j u, (txF (x, .slice pa x.ws.length pc))[j]? = some u → w.cell? ((⟨g, 0, none⟩ : Addr).add j) = some u
theorem RowN.kept {lo : Nat} {x : Txp} {v : Value} {w w' : World} (hk : Kept [] w w') (h : RowN lo x v w) : RowN lo x v w' := by
  obtain ⟨g, pa, pc, h1, h2, h3⟩ := h
  refine ⟨g, pa, pc, h1, h2.kept hk, fun j u hu => ?_⟩
  have := h3 j u hu
  have e : (⟨g, 0, none⟩ : Addr).add j = ⟨g, j, none⟩ := by unfold Addr.add; split <;> simp_all
  rw [e] at this ⊢
  exact hk.cell this (by simp)
end Go.Proofs.YtpcpeoejcnndhaaGreat
namespace Go.Proofs.YtpcpeoejcnndhaaGreat
open Go.RowKit Go.Proofs
theorem run_append_nil_any {P : Program} {w : World} {size : Nat} (base : Nat) (t ty e : TypeId) (i : TypeInfo) (ht : P.underlying t = some (.slice e)) (hi : P.info? e = some i)
    (v : Value) (n c : Nat) (xs : List Value) (hown : w.ownsRow base e size v n xs) :
    (Builtin.append_ #[t, t] ty #[v, .slice none 0 c]).run P w = .ok v w := by
  rcases hown.2 with ⟨rfl, rfl⟩ | ⟨g, cap, cur, rfl, _, _, hnc, _⟩
  · simp [Builtin.append_, run_underlying ht, sizeOf, typeInfo, hi, Builtin.lenOf, Builtin.firstCells]
  · simp [Builtin.append_, run_underlying ht, sizeOf, typeInfo, hi, Builtin.lenOf, Builtin.firstCells, hnc, storeCells]
section
variable {P : Program} {w : World} {o : Oper} {a : Act} {K : Act → World → Prop} {Q : Exit → Act → World → Prop}
theorem wp_append_sl (s x : Operand) (t : TypeId)
    (ho : o.op = .call { callee := .builtin .append, args := #[s, x], argTypes := #[t, t] })
    (e : TypeId) (z : Value) (size bytes : Nat) (ht : P.underlying t = some (.slice e)) (hi : (P.info? e).map (fun i => (i.zero, i.size, i.bytes)) = some (some z, size, bytes))
    (hzs : z.cells.size = size) (hsz : 0 < size) (hby : 0 < bytes) (base : Nat)
    (v : Value) (n : Nat) (xs : List Value) (hs : a.eval s = v) (hown : w.ownsRow base e size v n xs)
    (vx : Value) (m : Nat) (news : List Value) (hx : a.eval x = vx) (hp : SlAt w vx size m news) (h1 : ∀ u ∈ news, u.oneCell' = true)
    (hbytes : (n + m) * bytes ≤ 140737488355328) (hbase : base ≤ w.heap.size)
    (h : ∀ v' w', w'.ownsRow base e size v' (n + m) (xs ++ news) → w.grownBy w' v.ownBlock → (v ≠ .slice none 0 0 → v' ≠ .slice none 0 0) → K (a.put o.dst v') w') : o.wp P a w K Q := by
  obtain ⟨ax, c, rfl, hm, hl, h3⟩ := hp.ex
  cases ax with
  | none =>
    have hm0 : m = 0 := by
      rcases Nat.eq_zero_or_pos m with h0 | h0
      · exact h0
      · obtain ⟨b, off, e, _⟩ := h3 h0; cases e
    subst hm0
    have hn0 : news = [] := List.eq_nil_of_length_eq_zero (by simpa using hl)
    subst hn0
    obtain ⟨i, hi, hz0, hz1, hz2⟩ := info_parts hi
    have hr := run_append_nil_any (P := P) (w := w) base t o.type e i ht hi v n c xs hown
    unfold Oper.wp execOp
    simp only [ho, resolve, invoke, builtin, Sem.run_bind, Sem.run_pure, Result.andThen_ok, List.map_toArray, List.map_cons, List.map_nil, hs, hx, hr]
    exact h v w (by simpa using hown) (World.grownBy.refl _ _) id
  | some ad =>
    refine wp_append_is s x t ho e z size bytes ht hi hzs hsz hby base v n xs hs hown ad m c news hx hl ?_ h1 hbytes hbase (fun v' w' g1 g2 g3 => h v' w' g1 g2 (fun hne e => hne (g3.1 e).1))
    intro j u hj
    have hpos : 0 < m := by
      rcases Nat.eq_zero_or_pos m with h0 | h0
      · subst h0
        have : news = [] := List.eq_nil_of_length_eq_zero (by simpa using hl)
        subst this
        simp at hj
      · exact h0
    obtain ⟨b, off, e, _, hcs⟩ := h3 hpos
    cases e
    rw [Addr.add_lit]
    exact hcs j u hj
theorem wpList_append_sl {ops : Array Oper} {rest : List Oper} {Q : Exit → Act → World → Prop} (hgd : o.guard = none) (s x : Operand) (t : TypeId)
    (ho : o.op = .call { callee := .builtin .append, args := #[s, x], argTypes := #[t, t] })
    (e : TypeId) (z : Value) (size bytes : Nat) (ht : P.underlying t = some (.slice e)) (hi : (P.info? e).map (fun i => (i.zero, i.size, i.bytes)) = some (some z, size, bytes))
    (hzs : z.cells.size = size) (hsz : 0 < size) (hby : 0 < bytes) (base : Nat)
    (v : Value) (n : Nat) (xs : List Value) (hs : a.eval s = v) (hown : w.ownsRow base e size v n xs)
    (vx : Value) (m : Nat) (news : List Value) (hx : a.eval x = vx) (hp : SlAt w vx size m news) (h1 : ∀ u ∈ news, u.oneCell' = true)
    (hbytes : (n + m) * bytes ≤ 140737488355328) (hbase : base ≤ w.heap.size)
    (h : ∀ v' w', w'.ownsRow base e size v' (n + m) (xs ++ news) → w.grownBy w' v.ownBlock → (v ≠ .slice none 0 0 → v' ≠ .slice none 0 0) → wpList P ops Q rest (a.put o.dst v') w') : wpList P ops Q (o :: rest) a w :=
  wpList_plain hgd fun _ hK => wp_append_sl s x t ho e z size bytes ht hi hzs hsz hby base v n xs hs hown vx m news hx hp h1 hbytes hbase fun v' w' h2 h3 h4 => hK _ _ (h v' w' h2 h3 h4)
end
theorem SlAt.new (w : World) (l : List Value) (t : TypeId) (size n : Nat) (hm : n ≤ maxLen) (hl : l.length = n * size) : SlAt (w.alloc (.cells l.toArray t)) (.slice (some ⟨w.heap.size, 0, none⟩) n n) size n l :=
  SlAt.of_own (ownsRow_new w l t size n 0 (by omega) hm hl)
theorem rcF_one (l : List Rc) : ∀ u ∈ l.flatMap Rc.f, u.oneCell' = true := fun u hu => by
  obtain ⟨r, _, hr⟩ := List.mem_flatMap.1 hu
  simp only [Rc.f, List.mem_cons, List.not_mem_nil, or_false] at hr
  rcases hr with rfl | rfl | rfl | rfl | rfl | rfl | rfl | rfl | rfl | rfl | rfl <;> rfl
theorem rcF_one1 (r : Rc) : ∀ u ∈ r.f, u.oneCell' = true := fun u hu => rcF_one [r] u (by simpa using hu)
--@@ []api.Rec
theorem recInfoR : (Tryz.prog.info? 55).map (fun i => (i.zero, i.size, i.bytes)) = some (some (.agg #[.int .i64 0, .int .i64 0, .int .u16 0, .int .u8 0, .int .u8 0, .int .u8 0, .int .u8 0, .bool false, .int .i64 0, .bool false, .int .i64 0]), 11, 56) := by kernel_rfl
section
variable {w : World} {o : Oper} {a : Act} {K : Act → World → Prop} {Q : Exit → Act → World → Prop}
theorem wp_append_rc (s x : Operand)
    (ho : o.op = .call { callee := .builtin .append, args := #[s, x], argTypes := #[22, 22] })
    (base : Nat) (v : Value) (xs : List Rc) (hs : a.eval s = v) (hown : w.ownsRow base 55 11 v xs.length (xs.flatMap Rc.f))
    (vx : Value) (ns : List Rc) (hx : a.eval x = vx) (hp : SlAt w vx 11 ns.length (ns.flatMap Rc.f))
    (hlen : xs.length + ns.length ≤ 1000000) (hbase : base ≤ w.heap.size)
    (h : ∀ v' w', w'.ownsRow base 55 11 v' (xs ++ ns).length ((xs ++ ns).flatMap Rc.f) → w.grownBy w' v.ownBlock → (v ≠ .slice none 0 0 → v' ≠ .slice none 0 0) → K (a.put o.dst v') w') : o.wp Tryz.prog a w K Q :=
  wp_append_sl s x 22 ho 55 _ 11 56 Tryz.underlying22 recInfoR rfl (by decide) (by decide) base v xs.length _ hs hown vx ns.length _ hx hp (rcF_one ns) (by omega) hbase fun v' w' h1 h2 h3 => h v' w' (by rw [List.flatMap_append, List.length_append]; exact h1) h2 h3
theorem wpList_append_rc {ops : Array Oper} {rest : List Oper} (hgd : o.guard = none) (s x : Operand)
    (ho : o.op = .call { callee := .builtin .append, args := #[s, x], argTypes := #[22, 22] })
    (base : Nat) (v : Value) (xs : List Rc) (hs : a.eval s = v) (hown : w.ownsRow base 55 11 v xs.length (xs.flatMap Rc.f))
    (vx : Value) (ns : List Rc) (hx : a.eval x = vx) (hp : SlAt w vx 11 ns.length (ns.flatMap Rc.f))
    (hlen : xs.length + ns.length ≤ 1000000) (hbase : base ≤ w.heap.size)
    (h : ∀ v' w', w'.ownsRow base 55 11 v' (xs ++ ns).length ((xs ++ ns).flatMap Rc.f) → w.grownBy w' v.ownBlock → (v ≠ .slice none 0 0 → v' ≠ .slice none 0 0) → wpList Tryz.prog ops Q rest (a.put o.dst v') w') : wpList Tryz.prog ops Q (o :: rest) a w :=
  wpList_plain hgd fun _ hK => wp_append_rc s x ho base v xs hs hown vx ns hx hp hlen hbase fun v' w' h2 h3 h4 => hK _ _ (h v' w' h2 h3 h4)
theorem SlAt.rec1 (w : World) (r : Rc) : SlAt (w.alloc (.cells r.f.toArray 55)) (.slice (some ⟨w.heap.size, 0, none⟩) 1 1) 11 [r].length ([r].flatMap Rc.f) := by
  have := SlAt.new w r.f 55 11 1 (by decide) rfl
  simpa using this
theorem recs_made0 (w : World) (base : Nat) (hb : base ≤ w.heap.size) : (w.alloc (.cells #[] 55)).ownsRow base 55 11 (.slice (some ⟨w.heap.size, 0, none⟩) 0 0) ([] : List Rc).length (([] : List Rc).flatMap Rc.f) := ownsRow_made0 w 55 11 base hb
end
--@@ end
theorem replay_right (l : List Rc) : (replayP l).right = decide ((replayP l).base.length ≤ 64) := out_right (play_ok PlOk.zero l)
theorem law_twice (l : List Rc) (h : (replayP l).right = true) : replayP (recsS (replayP l)) = replayP l := law_back (StOk.of h) p0
theorem law_behind (l : List Rc) {s : Stp} (h : s.right = true) : replayP (recsS s) = s ∧ replayP (l ++ recsS s) = s ∧ replayP (recsS s ++ [Rc.zero]) = s := by
  refine ⟨law_back (StOk.of h) p0, ?_, ?_⟩
  · unfold replayP; rw [play_app]; exact law_back (StOk.of h) _
  · unfold replayP; rw [play_app]
    have : playP (playP p0 (recsS s)) [Rc.zero] = playP p0 (recsS s) := rfl
    rw [this]
    exact law_back (StOk.of h) p0
theorem del_keys {β : Type} (tx : Int) : ∀ (ws : List (Int × β)), (ws.map (·.1)).Nodup → (adel tx ws).map (·.1) = (ws.map (·.1)).filter fun n => decide (n ≠ tx)
  | [], _ => rfl
  | p :: l, h => by
    rw [List.map_cons, List.nodup_cons] at h
    by_cases e : p.1 = tx
    · simp only [adel, if_pos e, List.map_cons]
      rw [List.filter_cons_of_neg (by simp [e])]
      symm
      rw [List.filter_eq_self]
      intro n hn
      refine decide_eq_true fun e' => h.1 ?_
      rw [e, ← e']; exact hn
    · simp only [adel, if_neg e, List.map_cons]
      rw [List.filter_cons_of_pos (by simpa using e), del_keys tx l h.2]
theorem getW_del (ws : List (Int × Wk)) (hn : (ws.map (·.1)).Nodup) (tx n : Int) : getW (adel tx ws) n = if tx = n then Wk.none else getW ws n := by
  unfold getW
  rw [tget_del _ _ _ hn]
  split <;> rfl
theorem txOf_n {ws : List (Int × Wk)} {n : Int} {x : Txp} (h : txOf ws n = some x) : x.n = n := by
  unfold txOf at h
  split at h
  · injection h with h; rw [← h]
  · cases h
theorem filterMap_del (ws : List (Int × Wk)) (hn : (ws.map (·.1)).Nodup) (tx : Int) : ∀ L : List Int, (L.filter fun n => decide (n ≠ tx)).filterMap (txOf (adel tx ws)) = (L.filterMap (txOf ws)).filter fun x => decide (x.n ≠ tx)
  | [] => rfl
  | n :: L => by
    have ih := filterMap_del ws hn tx L
    by_cases e : n = tx
    · rw [List.filter_cons_of_neg (by simp [e]), ih]
      cases hx : txOf ws n with
      | none => rw [List.filterMap_cons_none hx]
      | some x =>
        rw [List.filterMap_cons_some hx, List.filter_cons_of_neg]
        have := txOf_n hx
        simp [this, e]
    · have hg : txOf (adel tx ws) n = txOf ws n := by
        unfold txOf
        rw [getW_del ws hn, if_neg (Ne.symm e)]
      rw [List.filter_cons_of_pos (by simpa using e)]
      cases hx : txOf ws n with
      | none => rw [List.filterMap_cons_none (hg.trans hx), List.filterMap_cons_none hx, ih]
      | some x =>
        rw [List.filterMap_cons_some (hg.trans hx), List.filterMap_cons_some hx, ih, List.filter_cons_of_pos]
        have := txOf_n hx
        simp [this, e]
theorem out_del (b b' : List Pr) (ws : List (Int × Wk)) (hn : (ws.map (·.1)).Nodup) (tx l l' : Int) (t t' : List Pr) : (outP ⟨b, adel tx ws, l, t⟩).txs = (outP ⟨b', ws, l', t'⟩).txs.filter fun x => decide (x.n ≠ tx) := by
  have hk : srtI ((adel tx ws).map (·.1)) = (srtI (ws.map (·.1))).filter fun n => decide (n ≠ tx) := by
    refine lt_ext (srtI_srt (tdel_nodup _ _ hn)) ((srtI_srt hn).filter _) ?_
    refine (srtI_perm _).trans ?_
    rw [del_keys tx ws hn]
    exact ((srtI_perm _).symm).filter _
  show (srtI ((adel tx ws).map (·.1))).filterMap (txOf (adel tx ws)) = _
  rw [hk, filterMap_del ws hn]
  rfl
theorem law_ends (l : List Rc) (tx : Int) (ht : 1 ≤ tx ∧ tx ≤ 1048576) (c : Int) (hc : c = 5 ∨ c = 6) :
    replayP (l ++ [⟨c, tx, 0, ⟨0, 0, 0, 0⟩, V.zero, V.zero⟩]) = ⟨(replayP l).base, (replayP l).txs.filter fun x => decide (x.n ≠ tx)⟩ := by
  have hr : ∀ r ∈ [(⟨c, tx, 0, ⟨0, 0, 0, 0⟩, V.zero, V.zero⟩ : Rc)], r.right = true := fun r hr => by
    rw [List.mem_singleton] at hr; subst hr
    exact rec_plain c tx (by omega) ht
  have hok := play_ok PlOk.zero l
  unfold replayP
  rw [play_app, play_all _ hr]
  have h1 : ∀ q : Pl, oneP q ⟨c, tx, 0, ⟨0, 0, 0, 0⟩, V.zero, V.zero⟩ = ⟨q.base, adel tx q.works, -1, q.taken⟩ := fun q => by
    unfold oneP
    rw [if_neg (by show ¬ c = 8; omega), if_neg (by show ¬ c = 7; omega), if_neg (by show ¬ c = 1; omega), if_neg (by show ¬ c = 2; omega), if_neg (by show ¬ c = 4; omega), if_pos hc]
  rw [List.foldl_cons, List.foldl_nil, h1]
  have h2 := out_del (playP p0 l).base (playP p0 l).base (playP p0 l).works hok.kn tx (-1) (playP p0 l).left (playP p0 l).taken (playP p0 l).taken
  show (⟨_, (outP ⟨(playP p0 l).base, adel tx (playP p0 l).works, -1, (playP p0 l).taken⟩).txs⟩ : Stp) = _
  rw [h2]
  rfl
def endR (tx : Int) : Rc := ⟨6, tx, 0, ⟨0, 0, 0, 0⟩, V.zero, V.zero⟩
def writesR (tx : Int) (l : List Pr) : List Rc := l.map fun p => ⟨1, tx, 0, p.key, V.zero, p.val⟩
def yesR (tx : Int) (m : Nat) : Rc := ⟨2, tx, m, ⟨0, 0, 0, 0⟩, V.zero, V.zero⟩
def comR (tx : Int) : Rc := ⟨4, tx, 0, ⟨0, 0, 0, 0⟩, V.zero, V.zero⟩
theorem law_commits (l : List Rc) (tx : Int) (ht : 1 ≤ tx ∧ tx ≤ 1048576) (m : Nat) (hm : m ≠ 0) (ps : List Pr) (hp : ∀ p ∈ ps, p.val.right = true) :
    (replayP (l ++ (endR tx :: (writesR tx ps ++ [yesR tx m])))).base = (replayP l).base ∧ (replayP (l ++ (endR tx :: (writesR tx ps ++ [yesR tx m, comR tx])))).base = sortP ((replayP l).base ++ ps) := by
  have hok := play_ok PlOk.zero l
  have hr1 : (endR tx).right = true := rec_plain 6 tx (by omega) ht
  have hr2 : ∀ r ∈ writesR tx ps, r.right = true := fun r hr => by
    obtain ⟨p, hp', rfl⟩ := List.mem_map.1 hr
    exact rec_write _ _ _ _ ht rfl (hp p hp')
  have hr3 : (yesR tx m).right = true := rec_yes tx m ht hm
  have hr4 : (comR tx).right = true := rec_plain 4 tx (by omega) ht
  have key : ∀ rest : List Rc, (∀ r ∈ rest, r.right = true) → playP p0 (l ++ (endR tx :: (writesR tx ps ++ yesR tx m :: rest))) = rest.foldl oneP ⟨(playP p0 l).base, aput tx ⟨m, false, foldA ps []⟩ (adel tx (playP p0 l).works), -1, (playP p0 l).taken⟩ := fun rest hrest => by
    rw [play_app, play_all _ (fun r hr => by
      rcases List.mem_cons.1 hr with rfl | hr
      · exact hr1
      · rcases List.mem_append.1 hr with hr | hr
        · exact hr2 r hr
        · rcases List.mem_cons.1 hr with rfl | hr
          · exact hr3
          · exact hrest r hr)]
    rw [List.foldl_cons, List.foldl_append, List.foldl_cons]
    have h1 : oneP (playP p0 l) (endR tx) = ⟨(playP p0 l).base, adel tx (playP p0 l).works, -1, (playP p0 l).taken⟩ := rfl
    have hg : getW (adel tx (playP p0 l).works) tx = ⟨0, false, []⟩ := by rw [getW_del _ hok.kn, if_pos rfl]; rfl
    rw [h1]
    congr 1
    cases ps with
    | nil =>
      show oneP ⟨_, adel tx (playP p0 l).works, -1, _⟩ (yesR tx m) = _
      unfold yesR
      rw [one_yes _ _ _ tx m [] hg]; rfl
    | cons p ps =>
      unfold writesR yesR
      rw [fold_writes _ _ tx (p :: ps) [] _ (fun _ => V.zero) (by simp) hg, one_yes _ _ _ tx m _ (getW_put _ _ _), tput_put]
  constructor
  · unfold replayP
    rw [key [] (fun r hr => by cases hr)]
    rfl
  · unfold replayP
    rw [key [comR tx] (fun r hr => by rw [List.mem_singleton] at hr; subst hr; exact hr4), List.foldl_cons, List.foldl_nil]
    unfold comR
    rw [one_commit _ _ _ tx m _ hm (getW_put _ _ _)]
    show sortP ((playP p0 l).base ++ keysP ((foldA ps []).map toPr)) = _
    rw [keysP_foldA, sortP_keys]
    rfl
theorem getW_put_ne (ws : List (Int × Wk)) {n k : Int} (w : Wk) (h : ¬ k = n) : getW (aput k w ws) n = getW ws n := by unfold getW; rw [tget_put, if_neg h]
theorem one_com {p : Pl} {r : Rc} {d : Int} (hn : (p.works.map (·.1)).Nodup) (hk : r.kind ≠ 7 ∧ r.kind ≠ 8) (hd : r.tx = d → r.kind ≠ 5 ∧ r.kind ≠ 6) (h : (getW p.works d).com = true) : (getW (oneP p r).works d).com = true := by
  unfold oneP
  rw [if_neg hk.2, if_neg hk.1]
  have put : ∀ w : Wk, (r.tx = d → w.com = true) → (getW (aput r.tx w p.works) d).com = true := fun w hw => by
    by_cases e : r.tx = d
    · rw [e, getW_put]; exact hw e
    · rw [getW_put_ne _ _ e]; exact h
  split
  · refine put _ fun e => ?_
    unfold writeW
    split
    · rw [e]; exact h
    · rw [e]; exact h
  · split
    · refine put _ fun e => ?_
      unfold yesW
      split
      · rw [e]; exact h
      · rw [e]; exact h
    · split
      · refine put _ fun e => ?_
        unfold commitW
        split
        · rw [e]; exact h
        · rfl
      · split
        · rename_i hc
          show (getW (adel r.tx p.works) d).com = true
          rw [getW_del _ hn, if_neg (fun e => by have := hd e; omega)]
          exact h
        · exact h
theorem one_nodup {p : Pl} (r : Rc) (hn : (p.works.map (·.1)).Nodup) : ((oneP p r).works.map (·.1)).Nodup := by
  have hw : ∀ q : Pl, (q.works.map (·.1)).Nodup → ((wholeP q).works.map (·.1)).Nodup := fun q hq => by
    unfold wholeP
    split
    · exact List.nodup_nil
    · exact hq
  unfold oneP
  split
  · exact hw _ hn
  · split
    · split
      · exact hw _ hn
      · exact hn
    · split
      · exact tput_nodup _ _ _ hn
      · split
        · exact tput_nodup _ _ _ hn
        · split
          · exact tput_nodup _ _ _ hn
          · split
            · exact tdel_nodup _ _ hn
            · exact hn
theorem fold_com {d : Int} : ∀ (l : List Rc) {p : Pl}, (p.works.map (·.1)).Nodup → (∀ r ∈ l, (r.kind ≠ 7 ∧ r.kind ≠ 8) ∧ (r.tx = d → r.kind ≠ 5 ∧ r.kind ≠ 6)) → (getW p.works d).com = true → (getW (l.foldl oneP p).works d).com = true
  | [], p, _, _, h => h
  | r :: l, p, hn, hl, h => fold_com l (one_nodup r hn) (fun x hx => hl x (List.mem_cons_of_mem _ hx)) (one_com hn (hl r List.mem_cons_self).1 (hl r List.mem_cons_self).2 h)
structure Sim (d : Int) (p p' : Pl) : Prop where
  b : p.base = p'.base
  n : (p.works.map (·.1)).Nodup
  n' : (p'.works.map (·.1)).Nodup
  w : ∀ n, n ≠ d → getW p.works n = getW p'.works n
theorem Sim.other {d : Int} {p p' : Pl} (H : Sim d p p') {r : Rc} (hk : r.kind ≠ 7 ∧ r.kind ≠ 8) (hd : r.tx ≠ d) : Sim d (oneP p r) (oneP p' r) := by
  have hg := H.w r.tx hd
  have put : ∀ w : Wk, ∀ n, n ≠ d → getW (aput r.tx w p.works) n = getW (aput r.tx w p'.works) n := fun w n hn => by
    by_cases e : r.tx = n
    · rw [e, getW_put, getW_put]
    · rw [getW_put_ne _ _ e, getW_put_ne _ _ e]; exact H.w n hn
  refine ⟨?_, one_nodup r H.n, one_nodup r H.n', ?_⟩
  · unfold oneP
    rw [if_neg hk.2, if_neg hk.1, if_neg hk.2, if_neg hk.1]
    split
    · exact H.b
    · split
      · exact H.b
      · split
        · dsimp only; rw [hg, H.b]
        · split <;> exact H.b
  · intro n hn
    unfold oneP
    rw [if_neg hk.2, if_neg hk.1, if_neg hk.2, if_neg hk.1]
    split
    · dsimp only; rw [hg]; exact put _ n hn
    · split
      · dsimp only; rw [hg]; exact put _ n hn
      · split
        · dsimp only; rw [hg, H.b]; exact put _ n hn
        · split
          · dsimp only; rw [getW_del _ H.n, getW_del _ H.n']
            split
            · rfl
            · exact H.w n hn
          · exact H.w n hn
theorem Sim.own {d : Int} {p p' : Pl} (H : Sim d p p') {r : Rc} (hk : r.kind ≠ 7 ∧ r.kind ≠ 8) (hd : r.tx = d) (he : r.kind ≠ 5 ∧ r.kind ≠ 6) (hc : (getW (oneP p r).works d).com = false) : Sim d (oneP p r) p' := by
  have put : ∀ w : Wk, ∀ n, n ≠ d → getW (aput r.tx w p.works) n = getW p'.works n := fun w n hn => by
    rw [getW_put_ne _ _ (by rw [hd]; exact Ne.symm hn)]; exact H.w n hn
  refine ⟨?_, one_nodup r H.n, H.n', ?_⟩
  · revert hc
    unfold oneP
    rw [if_neg hk.2, if_neg hk.1]
    split
    · exact fun _ => H.b
    · split
      · exact fun _ => H.b
      · split
        · intro hc
          dsimp only at hc ⊢
          rw [hd, getW_put] at hc
          rw [hd]
          unfold commitW at hc ⊢
          split
          · exact H.b
          · rename_i h
            rw [if_neg h] at hc
            cases hc
        · split <;> exact fun _ => H.b
  · intro n hn
    unfold oneP
    rw [if_neg hk.2, if_neg hk.1]
    split
    · exact put _ n hn
    · split
      · exact put _ n hn
      · split
        · exact put _ n hn
        · split
          · rename_i h; omega
          · exact H.w n hn
theorem sim_fold {d : Int} : ∀ (l : List Rc) {p p' : Pl}, Sim d p p' → (∀ r ∈ l, (r.kind ≠ 7 ∧ r.kind ≠ 8) ∧ (r.tx = d → r.kind ≠ 5 ∧ r.kind ≠ 6)) → (getW (l.foldl oneP p).works d).com = false → Sim d (l.foldl oneP p) ((l.filter fun r => decide (r.tx ≠ d)).foldl oneP p')
  | [], p, p', H, _, _ => H
  | r :: l, p, p', H, hl, hc => by
    have hr := hl r List.mem_cons_self
    have hl' : ∀ x ∈ l, (x.kind ≠ 7 ∧ x.kind ≠ 8) ∧ (x.tx = d → x.kind ≠ 5 ∧ x.kind ≠ 6) := fun x hx => hl x (List.mem_cons_of_mem _ hx)
    rw [List.foldl_cons] at hc ⊢
    by_cases e : r.tx = d
    · rw [List.filter_cons_of_neg (by simp [e])]
      refine sim_fold l (H.own hr.1 e (hr.2 e) ?_) hl' hc
      cases hcc : (getW (oneP p r).works d).com with
      | false => rfl
      | true => rw [fold_com l (one_nodup r H.n) hl' hcc] at hc; cases hc
    · rw [List.filter_cons_of_pos (by simpa using e), List.foldl_cons]
      exact sim_fold l (H.other hr.1 e) hl' hc
theorem law_doubt (l : List Rc) (d : Int) (hk : ∀ r ∈ l, r.kind ≠ 8 ∧ r.kind ≠ 7) (he : ∀ r ∈ l, r.tx = d → r.kind ≠ 5 ∧ r.kind ≠ 6) (hd : d ∈ numbersS (replayP l) false) :
    (replayP (l.filter fun r => decide (r.tx ≠ d))).base = (replayP l).base := by
  have hok := play_ok PlOk.zero l
  have hc : (getW (playP p0 l).works d).com = false := by
    unfold numbersS at hd
    obtain ⟨x, hx, rfl⟩ := List.mem_map.1 hd
    rw [List.mem_filter] at hx
    obtain ⟨h1, h2⟩ := hx
    have h1' : x ∈ (srtI ((playP p0 l).works.map (·.1))).filterMap (txOf (playP p0 l).works) := h1
    obtain ⟨n, _, hn⟩ := List.mem_filterMap.1 h1'
    have hnn := txOf_n hn
    rw [hnn]
    unfold txOf at hn
    split at hn
    · injection hn with hn
      rw [← hn] at h2
      simpa using h2
    · cases hn
  have hs : Sim d p0 p0 := ⟨rfl, List.nodup_nil, List.nodup_nil, fun _ _ => rfl⟩
  have := sim_fold (l.filter Rc.right) hs (fun r hr => ⟨⟨(hk r (List.mem_filter.1 hr).1).2, (hk r (List.mem_filter.1 hr).1).1⟩, he r (List.mem_filter.1 hr).1⟩) hc
  unfold replayP playP
  rw [List.filter_filter]
  have hf : l.filter (fun a => Rc.right a && decide (a.tx ≠ d)) = (l.filter Rc.right).filter fun r => decide (r.tx ≠ d) := by
    rw [List.filter_filter]
    refine List.filter_congr fun x _ => ?_
    exact Bool.and_comm _ _
  rw [hf]
  exact this.b.symm
theorem filter_one_of {L : List Int} (h : L.Nodup) (tx : Int) : (L.filter fun n => decide (n = tx)) = if tx ∈ L then [tx] else [] := by
  induction L with
  | nil => rfl
  | cons n L ih =>
    rw [List.nodup_cons] at h
    by_cases e : n = tx
    · subst e
      rw [List.filter_cons_of_pos (by simp), ih h.2, if_neg h.1, if_pos List.mem_cons_self]
    · rw [List.filter_cons_of_neg (by simpa using e), ih h.2]
      have : (tx ∈ n :: L) ↔ tx ∈ L := by simp [Ne.symm e]
      by_cases hm : tx ∈ L
      · rw [if_pos hm, if_pos (this.2 hm)]
      · rw [if_neg hm, if_neg (fun hx => hm (this.1 hx))]
theorem filterMap_at (ws : List (Int × Wk)) (tx : Int) : ∀ L : List Int, (L.filterMap (txOf ws)).filter (fun x => decide (x.n = tx)) = (L.filter fun n => decide (n = tx)).filterMap (txOf ws)
  | [] => rfl
  | n :: L => by
    have ih := filterMap_at ws tx L
    cases hx : txOf ws n with
    | none =>
      rw [List.filterMap_cons_none hx, ih]
      by_cases e : n = tx
      · rw [List.filter_cons_of_pos (by simpa using e), List.filterMap_cons_none hx]
      · rw [List.filter_cons_of_neg (by simpa using e)]
    | some x =>
      have hn := txOf_n hx
      rw [List.filterMap_cons_some hx]
      by_cases e : n = tx
      · rw [List.filter_cons_of_pos (by simp [hn, e]), List.filter_cons_of_pos (by simpa using e), List.filterMap_cons_some hx, ih]
      · rw [List.filter_cons_of_neg (by simp [hn, e]), List.filter_cons_of_neg (by simpa using e), ih]
theorem out_at {p : Pl} (hn : (p.works.map (·.1)).Nodup) (tx : Int) : (outP p).txs.filter (fun x => decide (x.n = tx)) = (txOf p.works tx).toList := by
  show ((srtI (p.works.map (·.1))).filterMap (txOf p.works)).filter _ = _
  rw [filterMap_at, filter_one_of ((srtI_srt hn).imp fun h => by omega)]
  split
  · cases hx : txOf p.works tx with
    | none => rw [List.filterMap_cons_none hx]; rfl
    | some x => rw [List.filterMap_cons_some hx]; rfl
  · rename_i hm
    rw [(srtI_perm _).mem_iff] at hm
    have hg : txOf p.works tx = none := by
      unfold txOf getW
      rw [tget_none.2 hm]
      rfl
    rw [hg]; rfl
structure Own (tx : Int) (p p' : Pl) : Prop where
  n : (p.works.map (·.1)).Nodup
  n' : (p'.works.map (·.1)).Nodup
  w : getW p.works tx = getW p'.works tx
  o : ∀ q ∈ p'.works, q.1 = tx
theorem Own.other {tx : Int} {p p' : Pl} (H : Own tx p p') {r : Rc} (hk : r.kind ≠ 7 ∧ r.kind ≠ 8) (hd : r.tx ≠ tx) : Own tx (oneP p r) p' := by
  refine ⟨one_nodup r H.n, H.n', ?_, H.o⟩
  unfold oneP
  rw [if_neg hk.2, if_neg hk.1]
  split
  · dsimp only; rw [getW_put_ne _ _ hd]; exact H.w
  · split
    · dsimp only; rw [getW_put_ne _ _ hd]; exact H.w
    · split
      · dsimp only; rw [getW_put_ne _ _ hd]; exact H.w
      · split
        · dsimp only; rw [getW_del _ H.n, if_neg hd]; exact H.w
        · exact H.w
theorem commitW_snd (b b' : List Pr) (w : Wk) : (commitW b w).2 = (commitW b' w).2 := by
  unfold commitW
  split <;> rfl
theorem Own.own {tx : Int} {p p' : Pl} (H : Own tx p p') {r : Rc} (hk : r.kind ≠ 7 ∧ r.kind ≠ 8) (hd : r.tx = tx) : Own tx (oneP p r) (oneP p' r) := by
  have hput : ∀ w : Wk, ∀ q ∈ aput r.tx w p'.works, q.1 = tx := fun w q hq => by
    rcases tput_mem hq with rfl | hq
    · exact hd
    · exact H.o q hq
  refine ⟨one_nodup r H.n, one_nodup r H.n', ?_, ?_⟩
  · unfold oneP
    rw [if_neg hk.2, if_neg hk.1, if_neg hk.2, if_neg hk.1]
    split
    · dsimp only; rw [hd, getW_put, getW_put, H.w]
    · split
      · dsimp only; rw [hd, getW_put, getW_put, H.w]
      · split
        · dsimp only; rw [hd, getW_put, getW_put, H.w]; exact commitW_snd _ _ _
        · split
          · dsimp only; rw [hd, getW_del _ H.n, getW_del _ H.n', if_pos rfl, if_pos rfl]
          · exact H.w
  · unfold oneP
    rw [if_neg hk.2, if_neg hk.1]
    split
    · exact hput _
    · split
      · exact hput _
      · split
        · exact hput _
        · split
          · exact fun q hq => H.o q ((tdel_sub _ _).subset hq)
          · exact H.o
theorem own_fold {tx : Int} : ∀ (l : List Rc) {p p' : Pl}, Own tx p p' → (∀ r ∈ l, r.kind ≠ 7 ∧ r.kind ≠ 8) → Own tx (l.foldl oneP p) ((l.filter fun r => decide (r.tx = tx)).foldl oneP p')
  | [], p, p', H, _ => H
  | r :: l, p, p', H, hl => by
    have hl' : ∀ x ∈ l, x.kind ≠ 7 ∧ x.kind ≠ 8 := fun x hx => hl x (List.mem_cons_of_mem _ hx)
    rw [List.foldl_cons]
    by_cases e : r.tx = tx
    · rw [List.filter_cons_of_pos (by simpa using e), List.foldl_cons]
      exact own_fold l (H.own (hl r List.mem_cons_self) e) hl'
    · rw [List.filter_cons_of_neg (by simpa using e)]
      exact own_fold l (H.other (hl r List.mem_cons_self) e) hl'
theorem law_rests (l : List Rc) (tx : Int) (hk : ∀ r ∈ l, r.kind ≠ 8 ∧ r.kind ≠ 7) :
    (replayP l).txs.filter (fun x => decide (x.n = tx)) = (replayP (l.filter fun r => decide (r.tx = tx))).txs := by
  have hs : Own tx p0 p0 := ⟨List.nodup_nil, List.nodup_nil, rfl, fun q hq => by cases hq⟩
  have H := own_fold (l.filter Rc.right) hs (fun r hr => ⟨(hk r (List.mem_filter.1 hr).1).2, (hk r (List.mem_filter.1 hr).1).1⟩)
  have hf : playP p0 (l.filter fun r => decide (r.tx = tx)) = ((l.filter Rc.right).filter fun r => decide (r.tx = tx)).foldl oneP p0 := by
    unfold playP
    rw [List.filter_filter, List.filter_filter]
    congr 1
    exact List.filter_congr fun x _ => Bool.and_comm _ _
  unfold replayP
  rw [hf]
  have h1 := out_at H.n tx
  have h2 := out_at H.n' tx
  have h3 : ∀ x ∈ (outP (((l.filter Rc.right).filter fun r => decide (r.tx = tx)).foldl oneP p0)).txs, x.n = tx := fun x hx => by
    obtain ⟨n, hn, hx'⟩ := List.mem_filterMap.1 hx
    rw [(srtI_perm _).mem_iff] at hn
    obtain ⟨q, hq, rfl⟩ := List.mem_map.1 hn
    rw [txOf_n hx']
    exact H.o q hq
  rw [List.filter_eq_self.2 (fun x hx => decide_eq_true (h3 x hx))] at h2
  rw [h2]
  refine h1.trans ?_
  unfold txOf
  rw [H.w]
end Go.Proofs.YtpcpeoejcnndhaaGreat
namespace Go.Proofs.YtpcpeoejcnndhaaGreat
open Go.RowKit Go.ChangeShapes Go.WideShapes
namespace K4
def ok (k : K4) : Prop := True
def ps : List (Value → Prop) := [IsI .u8, IsI .u8, IsI .u8, IsI .u8]
theorem len (k : K4) : k.f.length = ps.length := rfl
theorem pos : 0 < ps.length := by decide
theorem dec (cs : List Value) (h : All2 ps cs) : ∃ k : K4, cs = k.f ∧ k.ok := by
  obtain ⟨_, _, rfl, ⟨a, rfl, ha⟩, h1⟩ := All2.cons h
  obtain ⟨_, _, rfl, ⟨b, rfl, hb⟩, h2⟩ := All2.cons h1
  obtain ⟨_, _, rfl, ⟨c, rfl, hc⟩, h3⟩ := All2.cons h2
  obtain ⟨_, _, rfl, ⟨d, rfl, hd⟩, h4⟩ := All2.cons h3
  obtain rfl := All2.nil h4
  obtain ⟨a', rfl⟩ := u8_of ha
  obtain ⟨b', rfl⟩ := u8_of hb
  obtain ⟨c', rfl⟩ := u8_of hc
  obtain ⟨d', rfl⟩ := u8_of hd
  exact ⟨⟨a', b', c', d'⟩, rfl, trivial⟩
--@@ key flat
theorem flat : Flat Tryz.prog 49 ps :=
  Flat.array (P := Tryz.prog) (t := 49) (n := 4) Tryz.underlying49 (by kernel_rfl) (Flat.int Tryz.underlying5 (by kernel_rfl))
--@@ key end
end K4
namespace V
def ps : List (Value → Prop) := [IsB, IsI .i64]
--@@ val flat
theorem flat : Flat Tryz.prog 51 ps := by
  have h := Flat.struct (P := Tryz.prog) (t := 51) (pss := [[IsB], [IsI .i64]]) Tryz.underlying51 (by kernel_rfl)
    ⟨rfl, Flat.bool Tryz.underlying4 (by kernel_rfl), rfl, Flat.int Tryz.underlying3 (by kernel_rfl), trivial⟩
  exact h
--@@ val end
end V
namespace Pr
def ok (p : Pr) : Prop := True
def ps : List (Value → Prop) := [IsI .u8, IsI .u8, IsI .u8, IsI .u8, IsB, IsI .i64]
theorem len (p : Pr) : p.f.length = ps.length := rfl
theorem pos : 0 < ps.length := by decide
theorem dec (cs : List Value) (h : All2 ps cs) : ∃ p : Pr, cs = p.f ∧ p.ok := by
  obtain ⟨_, _, rfl, ⟨a, rfl, ha⟩, h1⟩ := All2.cons h
  obtain ⟨_, _, rfl, ⟨b, rfl, hb⟩, h2⟩ := All2.cons h1
  obtain ⟨_, _, rfl, ⟨c, rfl, hc⟩, h3⟩ := All2.cons h2
  obtain ⟨_, _, rfl, ⟨d, rfl, hd⟩, h4⟩ := All2.cons h3
  obtain ⟨_, _, rfl, ⟨t, rfl⟩, h5⟩ := All2.cons h4
  obtain ⟨_, _, rfl, ⟨n, rfl, hn⟩, h6⟩ := All2.cons h5
  obtain rfl := All2.nil h6
  obtain ⟨a', rfl⟩ := u8_of ha
  obtain ⟨b', rfl⟩ := u8_of hb
  obtain ⟨c', rfl⟩ := u8_of hc
  obtain ⟨d', rfl⟩ := u8_of hd
  exact ⟨⟨⟨a', b', c', d'⟩, ⟨t, n⟩⟩, rfl, trivial⟩
--@@ pair flat
theorem flat : Flat Tryz.prog 64 ps := by
  have h := Flat.struct (P := Tryz.prog) (t := 64) (pss := [K4.ps, V.ps]) Tryz.underlying64 (by kernel_rfl)
    ⟨rfl, K4.flat, rfl, V.flat, trivial⟩
  exact h
--@@ pair end
end Pr
end Go.Proofs.YtpcpeoejcnndhaaGreat
namespace Go.Proofs.YtpcpeoejcnndhaaGreat
open Go.RowKit Go.ChangeShapes Go.WideShapes
namespace Rc
def ok (r : Rc) : Prop := r.mask ≤ 65535
def ps : List (Value → Prop) := [IsI .i64, IsI .i64, IsI .u16, IsI .u8, IsI .u8, IsI .u8, IsI .u8, IsB, IsI .i64, IsB, IsI .i64]
theorem len (r : Rc) : r.f.length = ps.length := rfl
theorem pos : 0 < ps.length := by decide
theorem dec (cs : List Value) (h : All2 ps cs) : ∃ r : Rc, cs = r.f ∧ r.ok := by
  obtain ⟨_, _, rfl, ⟨kd, rfl, _⟩, h1⟩ := All2.cons h
  obtain ⟨_, _, rfl, ⟨tx, rfl, _⟩, h2⟩ := All2.cons h1
  obtain ⟨_, _, rfl, ⟨m, rfl, hm⟩, h3⟩ := All2.cons h2
  obtain ⟨_, _, rfl, ⟨a, rfl, ha⟩, h4⟩ := All2.cons h3
  obtain ⟨_, _, rfl, ⟨b, rfl, hb⟩, h5⟩ := All2.cons h4
  obtain ⟨_, _, rfl, ⟨c, rfl, hc⟩, h6⟩ := All2.cons h5
  obtain ⟨_, _, rfl, ⟨d, rfl, hd⟩, h7⟩ := All2.cons h6
  obtain ⟨_, _, rfl, ⟨ot, rfl⟩, h8⟩ := All2.cons h7
  obtain ⟨_, _, rfl, ⟨on, rfl, _⟩, h9⟩ := All2.cons h8
  obtain ⟨_, _, rfl, ⟨nt, rfl⟩, h10⟩ := All2.cons h9
  obtain ⟨_, _, rfl, ⟨nn, rfl, _⟩, h11⟩ := All2.cons h10
  obtain rfl := All2.nil h11
  obtain ⟨a', rfl⟩ := u8_of ha
  obtain ⟨b', rfl⟩ := u8_of hb
  obtain ⟨c', rfl⟩ := u8_of hc
  obtain ⟨d', rfl⟩ := u8_of hd
  have hlo : (0 : Int) ≤ m := hm.1
  have hhi : m ≤ (65535 : Int) := hm.2
  obtain ⟨m', rfl⟩ : ∃ k : Nat, m = (k : Int) := ⟨m.toNat, by omega⟩
  exact ⟨⟨kd, tx, m', ⟨a', b', c', d'⟩, ⟨ot, on⟩, ⟨nt, nn⟩⟩, rfl, by show m' ≤ 65535; omega⟩
--@@ rec flat
theorem flat : Flat Tryz.prog 55 ps := by
  have h := Flat.struct (P := Tryz.prog) (t := 55) (pss := [[IsI .i64], [IsI .i64], [IsI .u16], K4.ps, V.ps, V.ps]) Tryz.underlying55 (by kernel_rfl)
    ⟨rfl, Flat.int Tryz.underlying3 (by kernel_rfl), rfl, Flat.int Tryz.underlying3 (by kernel_rfl), rfl, Flat.int Tryz.underlying53 (by kernel_rfl), rfl, K4.flat, rfl, V.flat, rfl, V.flat, trivial⟩
  exact h
--@@ rec end
end Rc
end Go.Proofs.YtpcpeoejcnndhaaGreat
namespace Go.Proofs.YtpcpeoejcnndhaaGreat
open Go.RowKit Go.ChangeShapes Go.WideShapes Go.ChangeAt
structure RTxs (w : World) (v : Value) (l : List Txp) : Prop where
  ex : ∃ L : List (Txp × Value), L.map (·.1) = l ∧ SlAt w v 4 L.length (L.flatMap txF) ∧ ∀ q ∈ L, SlAt w q.2 6 q.1.ws.length (q.1.ws.flatMap Pr.f)
theorem RTxs.kept {w w' : World} {v : Value} {l : List Txp} (h : RTxs w v l) (hk : Kept [] w w') : RTxs w' v l := by
  obtain ⟨L, h1, h2, h3⟩ := h.ex
  exact ⟨L, h1, h2.kept hk, fun q hq => (h3 q hq).kept hk⟩
structure RSt (w : World) (bv tv : Value) (s : Stp) : Prop where
  base : SlAt w bv 6 s.base.length (s.base.flatMap Pr.f)
  txs : RTxs w tv s.txs
theorem RSt.kept {w w' : World} {bv tv : Value} {s : Stp} (h : RSt w bv tv s) (hk : Kept [] w w') : RSt w' bv tv s := ⟨h.base.kept hk, h.txs.kept hk⟩
theorem TxsAt.r {w : World} {v : Value} {l : List Txp} (h : TxsAt w v l) : RTxs w v l := by
  obtain ⟨L, h1, h2, h3⟩ := h.ex
  exact ⟨L, h1, h2, fun q hq => (h3 q hq).at'⟩
theorem StAt.r {w : World} {bv tv : Value} {s : Stp} (h : StAt w bv tv s) : RSt w bv tv s := ⟨h.base.at', h.txs.r⟩
section
variable {P : Program} {H : Type} {enc : TypeId × Value → H} {W : World} {base : Nat} {spare : Nat → Bool} {held : Bool}
theorem weights_all {e : TypeId} {B : Nat} : ∀ {l : List (DataW H)}, (∀ k ∈ DataW.weightsAll P e l, k ≤ B) → ∀ d ∈ l, ∀ k ∈ d.weights P e, k ≤ B
  | x :: l, h, d, hd, k, hk => by
    unfold DataW.weightsAll at h
    rcases List.mem_cons.1 hd with rfl | hd
    · exact h k (List.mem_append_left _ hk)
    · exact weights_all (fun k hk => h k (List.mem_append_right _ hk)) d hd k hk
theorem weights_slice {t e : TypeId} {B : Nat} {elems spare : List (DataW H)} (ht : P.underlying t = some (.slice e)) (h : ∀ k ∈ (DataW.slice elems spare).weights P t, k ≤ B) : elems.length * P.bytesOf e ≤ B ∧ ∀ d ∈ elems, ∀ k ∈ d.weights P e, k ≤ B := by
  unfold DataW.weights at h
  rw [ht] at h
  refine ⟨Nat.le_trans (Nat.mul_le_mul_right _ (Nat.le_add_right _ _)) (h _ (List.mem_cons_self ..)), weights_all fun k hk => h k (List.mem_cons_of_mem _ (List.mem_append_left _ hk))⟩
theorem trod_rows {α : Type} {t e : TypeId} {fuel : Nat} {cs : List Value} {x : DataW H × List MemPlace} (ht : P.underlying t = some (.slice e)) (c : Nat) (hc : P.cellsOf e = c) (hpos : 0 < c) (f : α → List Value) (ok : α → Prop) (hlen : ∀ x, (f x).length = c)
    (B : Nat) (hdec : ∀ n cs' y, DataW.trod enc P W base spare held n e cs' = some y → (∀ k ∈ y.1.weights P e, k ≤ B) → ∃ x, cs' = f x ∧ ok x) (h : DataW.trod enc P W base spare held fuel t cs = some x) (hw : ∀ k ∈ x.1.weights P t, k ≤ B) :
    ∃ v, cs = [v] ∧ ∃ l : List α, SlAt W v c l.length (l.flatMap f) ∧ (∀ x ∈ l, ok x) ∧ l.length * P.bytesOf e ≤ B := by
  rcases Go.Deep.open_slice ht h with ⟨hcs, _⟩ | ⟨a, len, cap, m, n, D, Pl, hcs, hb, hl, hm, hmm, hx, hall⟩
  · exact ⟨_, hcs, [], ⟨none, 0, rfl, by simp, by simp, by simp⟩, by simp, by simp⟩
  · have hlm : len ≤ m := by rw [hmm]; split <;> omega
    rw [hx] at hw
    obtain ⟨hw1, hw2⟩ := weights_slice ht hw
    rw [List.length_map, List.length_range] at hw1
    obtain ⟨l, hl1, hl2⟩ := list_choose (n := len) (R := fun i x => ok x ∧ ∀ j u, (f x)[j]? = some u → W.cell? ((a.add (i * c)).add j) = some u) (fun i hi => by
      obtain ⟨cs', h1, h2⟩ := hall i (by omega)
      obtain ⟨x, rfl, hok⟩ := hdec _ cs' _ h2 (hw2 _ (List.mem_map.2 ⟨i, List.mem_range.2 hi, rfl⟩))
      refine ⟨x, hok, fun j u hj => ?_⟩
      rw [hc] at h1
      obtain ⟨_, hl', hc'⟩ := World.cells?_some h1
      have hjl := (List.getElem?_eq_some_iff.1 hj).1
      rw [hlen] at hjl
      rw [hc' j hjl]; exact hj)
    have key : ∀ i x j u, l[i]? = some x → (f x)[j]? = some u → W.cell? ((a.add (i * c)).add j) = some u := fun i x j u hi hj => (hl2 i x hi).2 j u hj
    refine ⟨_, hcs, l, ⟨some a, cap, by rw [hl1], by unfold maxLen at hm; omega, flatMap_len f hlen l, fun hpos' => ?_⟩, fun x hx => ?_, by rw [hl1]; exact hw1⟩
    · obtain ⟨b, off, sp⟩ := a
      have h0 : ∃ x, l[0]? = some x := ⟨l[0], by simp [hpos']⟩
      obtain ⟨x0, hx0⟩ := h0
      have hlt0 : 0 < (f x0).length := by rw [hlen]; exact hpos
      have c0 := key 0 x0 0 (f x0)[0] hx0 (by simp [hlt0])
      have hsp : sp = none := by
        cases sp with
        | none => rfl
        | some s =>
          simp [World.cell?, Addr.add] at c0
          split at c0 <;> simp_all
      subst hsp
      have hadd : ∀ o j, (⟨b, o, none⟩ : Addr).add j = ⟨b, o + j, none⟩ := fun o j => by unfold Addr.add; split <;> simp_all
      refine ⟨b, off, rfl, ?_, fun j u hj => ?_⟩
      · rw [hadd, hadd] at c0
        exact World.block_lt_of_cell? W _ c0
      · have hjl : j < l.length * c := by
          have := (List.getElem?_eq_some_iff.1 hj).1
          rwa [flatMap_len f hlen] at this
        have hq : j / c < l.length := Nat.div_lt_of_lt_mul (by rw [Nat.mul_comm]; exact hjl)
        have hr : j % c < c := Nat.mod_lt _ hpos
        have hj' : j / c * c + j % c = j := by rw [Nat.mul_comm]; exact Nat.div_add_mod _ _
        have e := flatMap_get f hlen l (j / c) (j % c) l[j / c] (by simp [hq]) hr
        rw [hj', hj] at e
        have := key (j / c) l[j / c] (j % c) u (by simp [hq]) e.symm
        rw [hadd, hadd, Nat.add_assoc, hj'] at this
        exact this
    · obtain ⟨i, hi⟩ := List.mem_iff_getElem?.1 hx
      exact (hl2 i x hi).1
theorem trod_flats {α : Type} {t e : TypeId} {fuel : Nat} {cs : List Value} {x : DataW H × List MemPlace} {ps : List (Value → Prop)} (ht : P.underlying t = some (.slice e)) (hf : Flat P e ps) (hpos : 0 < ps.length) (f : α → List Value) (ok : α → Prop)
    (hdec : ∀ cs, All2 ps cs → ∃ x, cs = f x ∧ ok x) (hlen : ∀ x, (f x).length = ps.length) (B : Nat) (h : DataW.trod enc P W base spare held fuel t cs = some x) (hw : ∀ k ∈ x.1.weights P t, k ≤ B) :
    ∃ v, cs = [v] ∧ ∃ l : List α, SlAt W v ps.length l.length (l.flatMap f) ∧ (∀ x ∈ l, ok x) ∧ l.length * P.bytesOf e ≤ B :=
  trod_rows ht ps.length hf.1 hpos f ok hlen B (fun n cs' y h' _ => hdec cs' (hf.2 _ _ _ _ _ _ _ _ _ h')) h hw
end
--@@ concordatref11
def okTx (W : World) (q : Txp × Value) : Prop := SlAt W q.2 6 q.1.ws.length (q.1.ws.flatMap Pr.f) ∧ q.1.mask ≤ 65535 ∧ q.1.ws.length * 24 ≤ reachBytes
theorem list4 {α : Type} {cs : List α} (h : cs.length = 4) : ∃ c0 c1 c2 c3, cs = [c0, c1, c2, c3] := by
  match cs, h with
  | [c0, c1, c2, c3], _ => exact ⟨c0, c1, c2, c3, rfl⟩
theorem txF_len (q : Txp × Value) : (txF q).length = 4 := rfl
set_option maxRecDepth 100000 in
theorem open_tx {H : Type} {enc : TypeId × Value → H} {W : World} {base : Nat} {spare : Nat → Bool} {held : Bool} (n : Nat) (cs : List Value) (y : DataW H × List MemPlace) (h : DataW.trod enc Tryz.prog W base spare held n 61 cs = some y) (hw : ∀ k ∈ y.1.weights Tryz.prog 61, k ≤ reachBytes) :
    ∃ q, cs = txF q ∧ okTx W q := by
  obtain ⟨y0, y1, y2, y3, m, hy, hl, h0, h1, h2, h3⟩ := Go.Joins.trod_struct4 Tryz.underlying61 h
  have hw3 : ∀ k ∈ y3.1.weights Tryz.prog 23, k ≤ reachBytes := fun k hk => hw k (by
    rw [hy]
    unfold DataW.weights
    rw [Tryz.underlying61]
    exact List.mem_append_right _ (List.mem_append_right _ (List.mem_append_right _ (List.mem_append_left _ hk))))
  have hby : Tryz.prog.bytesOf 64 = 24 := by kernel_rfl
  have hc : Tryz.prog.cellsOf 61 = 4 := by kernel_rfl
  rw [hc] at hl
  obtain ⟨c0, c1, c2, c3, rfl⟩ := list4 hl
  · skip
    have k1 : Tryz.prog.cellsOf 3 = 1 := by kernel_rfl
    have k2 : Tryz.prog.cellsOf 53 = 1 := by kernel_rfl
    have k3 : Tryz.prog.cellsOf 4 = 1 := by kernel_rfl
    have k4 : Tryz.prog.cellsOf 23 = 1 := by kernel_rfl
    have a0 := (Flat.int (k := .i64) Tryz.underlying3 k1).2 _ _ _ _ _ _ _ _ _ h0
    have a1 := (Flat.int (k := .u16) Tryz.underlying53 k2).2 _ _ _ _ _ _ _ _ _ h1
    have a2 := (Flat.bool Tryz.underlying4 k3).2 _ _ _ _ _ _ _ _ _ h2
    obtain ⟨v, hv, l, hsl, hok, hll⟩ := trod_flats Tryz.underlying23 Pr.flat Pr.pos Pr.f Pr.ok Pr.dec Pr.len _ h3 hw3
    rw [hby] at hll
    simp only [k1, k2, k3, k4, List.drop_succ_cons, List.drop_zero, List.take_succ_cons, List.take_zero] at a0 a1 a2 hv
    obtain ⟨_, _, e0, ⟨n, rfl, _⟩, f0⟩ := All2.cons a0
    cases e0
    obtain ⟨_, _, e1, ⟨mk, rfl, hm⟩, f1⟩ := All2.cons a1
    cases e1
    obtain ⟨_, _, e2, ⟨b, rfl⟩, f2⟩ := All2.cons a2
    cases e2
    obtain rfl : c3 = v := by simpa using hv
    have hlo : (0 : Int) ≤ mk := hm.1
    have hhi : mk ≤ (65535 : Int) := hm.2
    obtain ⟨mk', rfl⟩ : ∃ k : Nat, mk = (k : Int) := ⟨mk.toNat, by omega⟩
    exact ⟨(⟨n, mk', b, l⟩, c3), rfl, hsl, by show mk' ≤ 65535; omega, hll⟩
set_option maxRecDepth 100000 in
theorem open_st {H : Type} {enc : TypeId × Value → H} {w W : World} {base b0 : Nat} {spare : Nat → Bool} {held : Bool} {r : Reach} {v : Value} {d : DataW H} {p : List MemPlace}
    (hv : Value.okWide Tryz.prog w r b0 26 v) (hw : ∀ k ∈ d.weights Tryz.prog 26, k ≤ reachBytes) (h : DataW.Trod enc Tryz.prog W base spare held 26 v d p) : ∃ bv tv s, v = .agg #[bv, tv] ∧ RSt W bv tv s ∧ ∀ x ∈ s.txs, x.mask ≤ 65535 ∧ x.ws.length * 24 ≤ reachBytes := by
  obtain ⟨fuel, hf'⟩ := h
  obtain ⟨y0, y1, m, hy, hl, h0, h1⟩ := Go.ChangeShapes.trod_struct2 Tryz.underlying26 hf'
  have hd := congrArg Prod.fst hy
  dsimp only at hd
  rw [hd] at hw
  unfold DataW.weights at hw
  rw [Tryz.underlying26] at hw
  have hw0 : ∀ k ∈ y0.1.weights Tryz.prog 23, k ≤ reachBytes := fun k hk => hw k (List.mem_append_left _ hk)
  have hw1 : ∀ k ∈ y1.1.weights Tryz.prog 24, k ≤ reachBytes := fun k hk => hw k (List.mem_append_right _ (List.mem_append_left _ hk))
  unfold Value.okWide at hv
  rw [Tryz.underlying26] at hv
  obtain ⟨cs, rfl, hsz, _⟩ := hv
  have hc : Tryz.prog.cellsOf 26 = 2 := by kernel_rfl
  rw [hc] at hsz
  obtain ⟨c0, c1, rfl⟩ := Go.Joins.array2 hsz
  have k1 : Tryz.prog.cellsOf 23 = 1 := by kernel_rfl
  have k2 : Tryz.prog.cellsOf 24 = 1 := by kernel_rfl
  obtain ⟨bv, hbv, l, hsl, _⟩ := trod_flats Tryz.underlying23 Pr.flat Pr.pos Pr.f Pr.ok Pr.dec Pr.len _ h0 hw0
  obtain ⟨tv, htv, L, hL, hok, _⟩ := trod_rows Tryz.underlying24 4 (by kernel_rfl) (by decide) txF (okTx W) txF_len _ open_tx h1 hw1
  simp only [k1, k2, Value.cells, List.drop_succ_cons, List.drop_zero, List.take_succ_cons, List.take_zero] at hbv htv
  obtain rfl : c0 = bv := by simpa using hbv
  obtain rfl : c1 = tv := by simpa using htv
  exact ⟨_, _, ⟨l, L.map (·.1)⟩, rfl, ⟨hsl, ⟨L, rfl, hL, fun q hq => (hok q hq).1⟩⟩, fun x hx => by obtain ⟨q, hq, rfl⟩ := List.mem_map.1 hx; exact (hok q hq).2⟩
--@@ end
end Go.Proofs.YtpcpeoejcnndhaaGreat
namespace Go.Proofs.YtpcpeoejcnndhaaGreat
open Go.RowKit Go.Shelf Go.Lib Go.Sort Go.Proofs
def wsN (l : List Txp) : Nat := (l.map fun x => x.ws.length).sum
def greatS (s : Stp) : Bool := decide (100 < s.base.length) || (decide (30 < s.txs.length) || decide (200 < wsN s.txs))
theorem wsN_take (l : List Txp) (k : Nat) (h : k < l.length) : wsN (l.take (k + 1)) = wsN (l.take k) + l[k].ws.length := by
  unfold wsN
  rw [List.take_succ_eq_append_getElem h, List.map_append, List.sum_append]
  simp
theorem wsN_le : ∀ (l : List Txp) (k : Nat), wsN (l.take k) ≤ wsN l
  | [], k => by simp
  | x :: l, 0 => by simp [wsN]
  | x :: l, k + 1 => by
    have := wsN_le l k
    simp only [wsN, List.take_succ_cons, List.map_cons, List.sum_cons] at this ⊢
    omega
theorem wsN_mem {l : List Txp} {x : Txp} (h : x ∈ l) : x.ws.length ≤ wsN l := by
  induction l with
  | nil => cases h
  | cons y l ih =>
    simp only [wsN, List.map_cons, List.sum_cons] at ih ⊢
    rcases List.mem_cons.1 h with rfl | h
    · omega
    · have := ih h; omega
theorem greatS_false {s : Stp} (h : greatS s = false) : s.base.length ≤ 100 ∧ s.txs.length ≤ 30 ∧ ∀ x ∈ s.txs, x.ws.length ≤ 200 := by
  simp only [greatS, Bool.or_eq_false_iff, decide_eq_false_iff_not, Nat.not_lt] at h
  exact ⟨h.1, h.2.1, fun x hx => Nat.le_trans (wsN_mem hx) h.2.2⟩
--@@ concordatlaw11.great
set_option maxHeartbeats 4000000 in
set_option maxRecDepth 100000 in
theorem great_any (bv tv : Value) (s : Stp) (w : World) (h : RSt w bv tv s) (hx : ∀ x ∈ s.txs, x.ws.length * 24 ≤ reachBytes) :
    Calls Tryz.prog 5 #[.agg #[bv, tv]] w fun e w' => e = .returned (.bool (greatS s)) ∧ Kept [] w w' := by
  obtain ⟨base, txs⟩ := s
  obtain ⟨L, hL, hS, hP⟩ := h.txs.ex
  obtain ⟨ba, bc, rfl, hbm, _, _⟩ := h.base.ex
  obtain ⟨ta, tc, rfl, htm, _, htc⟩ := hS.ex
  have HTC := hid htc
  dsimp only at hL hx hbm
  have hll : txs.length = L.length := by rw [← hL, List.length_map]
  have HX := hid (fun x (hx' : x ∈ txs) => show x.ws.length ≤ 10000000000000 from by have := hx x hx'; unfold reachBytes at this; omega)
  have HL := hid hL
  have HPV := hid (fun q (hq : q ∈ L) => show ∃ a c, q.2 = .slice a q.1.ws.length c from by obtain ⟨a, c, e, _⟩ := (hP q hq).ex; exact ⟨a, c, e⟩)
  clear h hS hP htc hL hx
  unfold greatS
  dsimp only
  by_cases hb : 100 < base.length
  · have hbz : (100 : Int) < (base.length : Int) := by omega
    rw [decide_eq_true hb, Bool.true_or]
    clear hb hll
    go_enter Tryz.func5, Tryz.ntmps5
    go_wp2
    go_ret
    exact ⟨rfl, (Kept.refl _ _).alloc _⟩
  have hbz : (base.length : Int) ≤ 100 := by omega
  rw [decide_eq_false hb, Bool.false_or]
  by_cases ht : 30 < L.length
  · have htz : (30 : Int) < (L.length : Int) := by omega
    rw [decide_eq_true (show 30 < txs.length by omega), Bool.true_or]
    clear hb ht hll
    go_enter Tryz.func5, Tryz.ntmps5
    go_wp2
    go_ret
    exact ⟨rfl, (Kept.refl _ _).alloc _⟩
  have htz : (L.length : Int) ≤ 30 := by omega
  rw [decide_eq_false (show ¬ 30 < txs.length by omega), Bool.false_or]
  have HLL := hid hll
  have nc := new_cell w [.slice ba base.length bc, .slice ta L.length tc] 26
  have g0 := nc 0 _ rfl
  have g1 := nc 1 _ rfl
  clear hb ht hll nc
  obtain ⟨T, hT⟩ : ∃ T, T = wsN txs := ⟨_, rfl⟩
  have HT := hid hT
  rw [← hT]
  clear hT
  go_enter Tryz.func5, Tryz.ntmps5
  go_wp2_with fail
  go_loopg [3, 4] L.length (fun kx s3 s4 wr => ∃ k : Nat, s4 = .int .i64 k ∧ k ≤ L.length ∧ L.length - k ≤ kx ∧ s3 = .int .i64 (wsN (txs.take k) : Int) ∧ wsN (txs.take k) ≤ 200 ∧ wr = w.alloc (.cells #[.slice ba base.length bc, .slice ta L.length tc] 26))
  case atStart => exact ⟨0, by first | rfl | go_num, by omega, by omega, by first | rfl | go_num, by simp [wsN], rfl⟩
  case round =>
    obtain ⟨k, rfl, hk, hkx, rfl, h200, rfl⟩ := hrel
    by_cases hlt : k < L.length
    · have hltz : (k : Int) < (L.length : Int) := by omega
      obtain ⟨b, off, rfl, _, d1⟩ := HTC.out (by omega)
      obtain ⟨e0, e1, e2, e3⟩ := tx_cells (fun j u hu => ((Kept.refl [] w).alloc (.cells #[.slice ba base.length bc, .slice (some ⟨b, off, none⟩) L.length tc] 26)).cell (d1 j u hu) (by simp)) hlt
      have hll := HLL.out
      have hlt' : k < txs.length := by omega
      have hq1 : txs[k] = L[k].1 := by simp [← HL.out]
      have HN := hid (show wsN (txs.take (k + 1)) = wsN (txs.take k) + L[k].1.ws.length by rw [wsN_take txs k hlt', hq1])
      have hxk := HX.out txs[k] (List.getElem_mem hlt')
      rw [hq1] at hxk
      have hle := wsN_le txs (k + 1)
      have HLE := hid hle
      obtain ⟨qa, qc, hqv⟩ := HPV.out _ (List.getElem_mem hlt)
      clear d1 hll hlt' hq1 e0 e1 e2 hle
      generalize L[k] = q at *
      obtain ⟨⟨n, mask, com, ws⟩, qv⟩ := q
      dsimp only at e3 hqv HN hxk
      subst hqv
      generalize wsN (txs.take k) = u at *
      by_cases h2 : 200 < u + ws.length
      · have h2z : (200 : Int) < (u : Int) + (ws.length : Int) := by omega
        have hT : decide (200 < T) = true := by
          have h1 := HN.out
          have h3 := HLE.out
          have h4 := HT.out
          exact decide_eq_true (by omega)
        have HTT := hid hT
        clear h2 hT HN HLE
        go_wp2
        go_ret
        exact ⟨by rw [HTT.out]; rfl, (Kept.refl _ _).alloc _⟩
      · have h2z : (u : Int) + (ws.length : Int) ≤ 200 := by omega
        clear h2
        go_wp2
        go_roundg (L.length - (k + 1))
        case measure => omega
        case rel => exact ⟨k + 1, by first | rfl | go_num, by omega, Nat.le_refl _, by rw [HN.out]; go_num, by rw [HN.out]; omega, rfl⟩
    · obtain rfl : k = L.length := by omega
      have hltz : ¬ (L.length : Int) < (L.length : Int) := by omega
      have hT : decide (200 < T) = false := by
        have h1 := HT.out
        have h2 := HLL.out
        rw [← h2, List.take_length] at h200
        exact decide_eq_false (by omega)
      have HTT := hid hT
      clear hT h200
      go_wp2
      go_ret
      exact ⟨by rw [HTT.out]; rfl, (Kept.refl _ _).alloc _⟩
--@@ end
def Txp.new (n : Int) : Txp := ⟨n, 0, false, []⟩
def rPut (n : Int) (f : Txp → Txp) : List Txp → List Txp
  | [] => [f (Txp.new n)]
  | x :: l => if x.n = n then f x :: l else x :: rPut n f l
def rGet (n : Int) : List Txp → Txp
  | [] => Txp.new n
  | x :: l => if x.n = n then x else rGet n l
def rowOf (q : Int × Wk) : Txp := ⟨q.1, q.2.mask, q.2.com, keysP (q.2.ws.map toPr)⟩
def rWrite (r : Rc) (x : Txp) : Txp := if x.mask = 0 then ⟨x.n, x.mask, x.com, keysP (x.ws ++ [⟨r.key, r.new⟩])⟩ else x
def rYes (m : Nat) (x : Txp) : Txp := if x.mask = 0 then ⟨x.n, m, x.com, x.ws⟩ else x
def rCom (x : Txp) : Txp := if x.mask = 0 ∨ x.com = true then x else ⟨x.n, x.mask, true, []⟩
def rBase (b : List Pr) (x : Txp) : List Pr := if x.mask = 0 ∨ x.com = true then b else sortP (b ++ x.ws)
def rOne (s : Stp) (r : Rc) : Stp :=
  if r.kind = 1 then ⟨s.base, rPut r.tx (rWrite r) s.txs⟩
  else if r.kind = 2 then ⟨s.base, rPut r.tx (rYes r.mask) s.txs⟩
  else if r.kind = 4 then ⟨rBase s.base (rGet r.tx s.txs), rPut r.tx rCom s.txs⟩
  else if r.kind = 5 ∨ r.kind = 6 then ⟨s.base, s.txs.filter fun x => decide (x.n ≠ r.tx)⟩
  else s
def rCheck : Nat → List Rc → Option (List Pr)
  | 0, _ => some []
  | _ + 1, [] => none
  | n + 1, r :: l => if r.kind = 7 then (rCheck n l).map (⟨r.key, r.new⟩ :: ·) else none
def rStart (s : Stp) (n : Nat) (l : List Rc) : Stp :=
  match rCheck n l with
  | some b => ⟨sortP b, []⟩
  | none => s
def rPlay : Stp → List Rc → Stp
  | s, [] => s
  | s, r :: l => if r.kind = 8 then rPlay (rStart s r.mask l) l else rPlay (rOne s r) l
def rTx (txs : List Txp) (n : Int) : Option Txp := if (rGet n txs).mask ≠ 0 then some (rGet n txs) else none
def rOut (s : Stp) : Stp := ⟨s.base, (srtI (s.txs.map (·.n))).filterMap (rTx s.txs)⟩
def rReplay (l : List Rc) : Stp := rOut (rPlay ⟨[], []⟩ (l.filter Rc.right))
theorem getW_cons (q : Int × Wk) (ws : List (Int × Wk)) (n : Int) : getW (q :: ws) n = if q.1 = n then q.2 else getW ws n := by
  unfold getW
  simp only [aget]
  split <;> rfl
theorem rPut_map (n : Int) (f : Txp → Txp) (w' : Wk) : ∀ ws : List (Int × Wk), f (rowOf (n, getW ws n)) = rowOf (n, w') → rPut n f (ws.map rowOf) = (aput n w' ws).map rowOf
  | [], h => by
    show [f (Txp.new n)] = [rowOf (n, w')]
    rw [← h]; rfl
  | q :: ws, h => by
    rw [getW_cons] at h
    by_cases e : q.1 = n
    · rw [if_pos e] at h
      have hq : (n, q.2) = q := by rw [← e]
      rw [hq] at h
      simp only [List.map_cons, rPut, aput, if_pos e]
      rw [if_pos (show (rowOf q).n = n from e), h]
    · rw [if_neg e] at h
      simp only [List.map_cons, rPut, aput, if_neg e]
      rw [if_neg (show ¬ (rowOf q).n = n from e), rPut_map n f w' ws h]
theorem rGet_map (n : Int) : ∀ ws : List (Int × Wk), rGet n (ws.map rowOf) = rowOf (n, getW ws n)
  | [] => rfl
  | q :: ws => by
    rw [getW_cons]
    simp only [List.map_cons, rGet]
    by_cases e : q.1 = n
    · rw [if_pos (show (rowOf q).n = n from e), if_pos e]
      show rowOf q = rowOf (n, q.2)
      rw [← e]
    · rw [if_neg (show ¬ (rowOf q).n = n from e), if_neg e, rGet_map n ws]
theorem del_map (n : Int) : ∀ ws : List (Int × Wk), (ws.map (·.1)).Nodup → (adel n ws).map rowOf = (ws.map rowOf).filter fun x => decide (x.n ≠ n)
  | [], _ => rfl
  | q :: ws, h => by
    rw [List.map_cons, List.nodup_cons] at h
    by_cases e : q.1 = n
    · simp only [adel, if_pos e, List.map_cons]
      rw [List.filter_cons_of_neg (by simp [rowOf, e])]
      symm
      rw [List.filter_eq_self]
      intro x hx
      obtain ⟨q', hq', rfl⟩ := List.mem_map.1 hx
      refine decide_eq_true fun e' => h.1 ?_
      rw [e, ← e']
      exact List.mem_map.2 ⟨q', hq', rfl⟩
    · simp only [adel, if_neg e, List.map_cons]
      rw [List.filter_cons_of_pos (p := fun x : Txp => decide (x.n ≠ n)) (a := rowOf q) (decide_eq_true e), del_map n ws h.2]
theorem keys_put (ws : List (K4 × V)) (hn : (ws.map (·.1)).Nodup) (k : K4) (v : V) : keysP (keysP (ws.map toPr) ++ [⟨k, v⟩]) = keysP ((aput k v ws).map toPr) := by
  refine srt_ext (keysP_srt _) (keysP_srt _) fun j => ?_
  rw [keysP_get, keysP_get, lastP_snoc, srt_lastP (keysP_srt _), keysP_get, lastP_works _ hn, lastP_works _ (tput_nodup k v ws hn), tget_put]
def pend (p : Pl) (l : List Rc) : Option (List Pr) := if 0 < p.left then (rCheck p.left.toNat l).map (p.taken ++ ·) else none
structure RelR (p : Pl) (s : Stp) (l : List Rc) : Prop where
  sm : ∀ b, pend p l = some b → s = ⟨sortP b, []⟩
  nn : pend p l = none → s = ⟨p.base, p.works.map rowOf⟩
theorem RelR.of_none {p : Pl} {s : Stp} {l : List Rc} (h : pend p l = none) (hs : s = ⟨p.base, p.works.map rowOf⟩) : RelR p s l := ⟨(fun b hb => by rw [h] at hb; cases hb), fun _ => hs⟩
theorem RelR.of_some {p : Pl} {s : Stp} {l : List Rc} {b : List Pr} (h : pend p l = some b) (hs : s = ⟨sortP b, []⟩) : RelR p s l := ⟨(fun b' hb => by rw [h] at hb; cases hb; exact hs), fun hb => by rw [h] at hb; cases hb⟩
theorem pend_neg {p : Pl} {l : List Rc} (h : ¬ 0 < p.left) : pend p l = none := by unfold pend; rw [if_neg h]
theorem pend_other {p : Pl} {r : Rc} {l : List Rc} (h : r.kind ≠ 7) : pend p (r :: l) = none := by
  unfold pend
  split
  · rename_i hp
    obtain ⟨m, hm⟩ : ∃ m, p.left.toNat = m + 1 := ⟨p.left.toNat - 1, by omega⟩
    rw [hm]
    simp [rCheck, h]
  · rfl
theorem RelR.step {p : Pl} {s : Stp} {r : Rc} {l : List Rc} (H : RelR p s (r :: l)) (hok : PlOk p) : RelR (oneP p r) (if r.kind = 8 then rStart s r.mask l else rOne s r) l := by
  by_cases h8 : r.kind = 8
  · have hs := H.nn (pend_other (by omega))
    rw [if_pos h8]
    unfold oneP
    rw [if_pos h8]
    unfold wholeP
    dsimp only
    by_cases hm : r.mask = 0
    · rw [if_pos (by simp [hm])]
      refine .of_none (pend_neg (by show ¬ (0 : Int) < -1; omega)) ?_
      unfold rStart
      rw [hm]
      rfl
    · rw [if_neg (by simpa using hm)]
      have hp : pend ⟨p.base, p.works, (r.mask : Int), []⟩ l = (rCheck r.mask l).map ([] ++ ·) := by
        unfold pend
        dsimp only
        rw [if_pos (by omega)]
        rfl
      unfold rStart
      cases hc : rCheck r.mask l with
      | some b => exact .of_some (b := b) (by rw [hp, hc]; rfl) rfl
      | none => exact .of_none (by rw [hp, hc]; rfl) hs
  · rw [if_neg h8]
    by_cases h7 : r.kind = 7
    · have hr : rOne s r = s := by
        unfold rOne
        rw [if_neg (by omega), if_neg (by omega), if_neg (by omega), if_neg (by omega)]
      rw [hr]
      unfold oneP
      rw [if_neg h8, if_pos h7]
      by_cases hl : 0 < p.left
      · rw [if_pos hl]
        obtain ⟨m, hm⟩ : ∃ m : Nat, p.left = (m : Int) + 1 := ⟨(p.left - 1).toNat, by omega⟩
        have hp : pend p (r :: l) = (rCheck m l).map fun b => p.taken ++ (⟨r.key, r.new⟩ :: b) := by
          unfold pend
          rw [if_pos hl, show p.left.toNat = m + 1 by omega]
          simp only [rCheck, if_pos h7, Option.map_map]
          rfl
        unfold wholeP
        dsimp only
        by_cases h0 : m = 0
        · subst h0
          rw [if_pos (by omega)]
          exact .of_none (pend_neg (by show ¬ (0 : Int) < -1; omega)) (H.sm _ (by rw [hp]; rfl))
        · rw [if_neg (by omega)]
          have hp' : pend ⟨p.base, p.works, p.left - 1, p.taken ++ [⟨r.key, r.new⟩]⟩ l = (rCheck m l).map fun b => p.taken ++ (⟨r.key, r.new⟩ :: b) := by
            unfold pend
            dsimp only
            rw [if_pos (by omega), show (p.left - 1).toNat = m by omega]
            simp
          exact ⟨fun b hb => H.sm b (by rw [hp, ← hp', hb]), fun hb => H.nn (by rw [hp, ← hp', hb])⟩
      · rw [if_neg hl]
        exact .of_none (pend_neg hl) (H.nn (pend_neg hl))
    · have hs := H.nn (pend_other h7)
      have hw := hok.get r.tx
      have key : ∀ (b : List Pr) (w : List (Int × Wk)), rOne s r = ⟨b, w.map rowOf⟩ → RelR ⟨b, w, -1, p.taken⟩ (rOne s r) l := fun b w he => .of_none (pend_neg (by show ¬ (0 : Int) < -1; omega)) he
      subst hs
      unfold oneP
      rw [if_neg h8, if_neg h7]
      by_cases h1 : r.kind = 1
      · rw [if_pos h1]
        refine key _ _ ?_
        unfold rOne
        rw [if_pos h1]
        dsimp only
        rw [rPut_map _ _ (writeW (getW p.works r.tx) r.key r.new)]
        unfold rWrite writeW rowOf
        dsimp only
        split
        · rw [keys_put _ hw.nd]
        · rfl
      · rw [if_neg h1]
        by_cases h2 : r.kind = 2
        · rw [if_pos h2]
          refine key _ _ ?_
          unfold rOne
          rw [if_neg h1, if_pos h2]
          dsimp only
          rw [rPut_map _ _ (yesW (getW p.works r.tx) r.mask)]
          unfold rYes yesW rowOf
          dsimp only
          split <;> rfl
        · rw [if_neg h2]
          by_cases h4 : r.kind = 4
          · rw [if_pos h4]
            refine key _ _ ?_
            unfold rOne
            rw [if_neg h1, if_neg h2, if_pos h4]
            dsimp only
            rw [rPut_map _ _ (commitW p.base (getW p.works r.tx)).2, rGet_map]
            · unfold rBase commitW rowOf
              dsimp only
              split <;> rfl
            · unfold rCom commitW rowOf
              dsimp only
              split <;> rfl
          · rw [if_neg h4]
            by_cases h5 : r.kind = 5 ∨ r.kind = 6
            · rw [if_pos h5]
              refine key _ _ ?_
              unfold rOne
              rw [if_neg h1, if_neg h2, if_neg h4, if_pos h5]
              dsimp only
              rw [del_map _ _ hok.kn]
            · rw [if_neg h5]
              refine key _ _ ?_
              unfold rOne
              rw [if_neg h1, if_neg h2, if_neg h4, if_neg h5]
theorem rel_play : ∀ (l : List Rc) {p : Pl} {s : Stp}, RelR p s l → PlOk p → (∀ r ∈ l, r.right = true) → RelR (l.foldl oneP p) (rPlay s l) []
  | [], p, s, H, _, _ => H
  | r :: l, p, s, H, hok, hr => by
    have h1 := rel_play l (H.step hok) (hok.one (hr r List.mem_cons_self)) fun x hx => hr x (List.mem_cons_of_mem _ hx)
    rw [List.foldl_cons]
    show RelR _ (rPlay s (r :: l)) _
    unfold rPlay
    split
    · rename_i h8
      rw [if_pos h8] at h1
      exact h1
    · rename_i h8
      rw [if_neg h8] at h1
      exact h1
theorem ref_replay (l : List Rc) : rReplay l = replayP l := by
  have H : RelR p0 ⟨[], []⟩ (l.filter Rc.right) := .of_none (pend_neg (by show ¬ (0 : Int) < -1; omega)) rfl
  have h := rel_play _ H PlOk.zero fun r hr => (List.mem_filter.1 hr).2
  have hn : pend (playP p0 l) [] = none := by
    unfold pend
    split
    · rename_i hp
      obtain ⟨m, hm⟩ : ∃ m, (playP p0 l).left.toNat = m + 1 := ⟨(playP p0 l).left.toNat - 1, by omega⟩
      rw [hm]
      rfl
    · rfl
  have hs := h.nn hn
  unfold rReplay replayP rOut outP
  rw [hs]
  dsimp only
  rw [List.map_map]
  congr 1
  congr 1
  funext n
  unfold rTx txOf
  rw [rGet_map]
  rfl
def rRight (s : Stp) : Bool := decide (s.base.length ≤ 64) && decide (sortP s.base = s.base) && rightR 0 s.txs
where
  rightR : Int → List Txp → Bool
    | _, [] => true
    | b, x :: l => decide (b < x.n) && decide (x.n ≤ 1048576) && decide (x.mask ≠ 0) && (!x.com || decide (x.ws.length = 0)) && decide (keysP x.ws = x.ws) && (x.ws.all fun p => p.val.right) && rightR x.n l
theorem keysP_iff (l : List Pr) : keysP l = l ↔ Srt l := ⟨fun h => by rw [← h]; exact keysP_srt l, keysP_self⟩
theorem sortP_iff (l : List Pr) : sortP l = l ↔ Srt l ∧ ∀ p ∈ l, p.val.there = true := ⟨fun h => ⟨by rw [← h]; exact sortP_srt l, fun p hp => sortP_all l p (by rw [h]; exact hp)⟩, fun h => sortP_self h.1 h.2⟩
theorem ref_rightR : ∀ (l : List Txp) (b : Int), rRight.rightR b l = rightTs b l
  | [], _ => rfl
  | x :: l, b => by
    simp only [rRight.rightR, rightTs, Txp.right, ref_rightR l x.n, okV, keysP_iff]
theorem ref_right (s : Stp) : rRight s = s.right := by
  unfold rRight Stp.right
  rw [ref_rightR]
  congr 1
  rw [Bool.and_assoc]
  congr 1
  rw [Bool.eq_iff_iff]
  simp [sortP_iff]
theorem ref_recs {s : Stp} (h : s.right = true) (x : Txp) : recsP x.n s.base x.ws = x.ws.map fun p => (⟨1, x.n, 0, p.key, findP s.base p.key, p.val⟩ : Rc) := by
  unfold Stp.right at h
  simp only [Bool.and_eq_true, List.all_eq_true] at h
  unfold recsP
  refine List.map_congr_left fun p _ => ?_
  unfold recP fixV
  rw [if_pos (find_right h.1.2 p.key)]
end Go.Proofs.YtpcpeoejcnndhaaGreat
namespace Go.Proofs.YtpcpeoejcnndhaaGreat
open Go.RowKit
def lkF (F : List (Nat × Value)) (t : Nat) : Option Value := match F with
  | [] => none
  | p :: F => if Nat.beq p.1 t = true then some p.2 else lkF F t
def lkI (F : List (Nat × Yield)) (t : Nat) (v : Value) (w : World) : Prop := match F with
  | [] => True
  | p :: F => if Nat.beq p.1 t = true then p.2.den v w else lkI F t v w
def den (l : List Oper) (F : List (Nat × Value)) (I : List (Nat × Yield)) (k : Nat) (v : Value) (w : World) : Prop := match (l[k]?).bind (·.dst) with
  | none => True
  | some t => match lkF F t with
    | some u => v = u
    | none => lkI I t v w
theorem lkI_kept (t : Nat) (v : Value) {w w' : World} (hk : Kept [] w w') : ∀ I : List (Nat × Yield), lkI I t v w → lkI I t v w'
  | [], h => h
  | p :: I, h => by
    unfold lkI at h ⊢
    split
    · rename_i e
      rw [if_pos e] at h
      cases hp : p.2 with
      | eq u => rw [hp] at h; exact h
      | is q hq => rw [hp] at h; exact hq v w w' hk h
    · rename_i e
      rw [if_neg e] at h
      exact lkI_kept t v hk I h
theorem den_kept (l : List Oper) (F : List (Nat × Value)) (I : List (Nat × Yield)) (k : Nat) (v : Value) (w w' : World) (hk : Kept [] w w') (h : den l F I k v w) : den l F I k v w' := by
  unfold den at h ⊢
  split
  · trivial
  · rename_i t ht
    rw [ht] at h
    dsimp only at h
    split
    · rename_i u hu; rw [hu] at h; exact h
    · rename_i hu; rw [hu] at h; exact lkI_kept t v hk I h
def fillA (F : List (Nat × Value)) (a : Act) : Act := { a with tmps := a.tmps.mapIdx fun i x => (lkF F i).getD x }
theorem fillA_get (F : List (Nat × Value)) (a : Act) (t : Nat) : (fillA F a).tmps[t]? = (a.tmps[t]?).map fun x => (lkF F t).getD x := by
  unfold fillA
  simp
theorem lkF_mem : ∀ {F : List (Nat × Value)}, (F.map (·.1)).Nodup → ∀ p ∈ F, lkF F p.1 = some p.2
  | [], _, p, hp => by cases hp
  | q :: F, hn, p, hp => by
    rw [List.map_cons, List.nodup_cons] at hn
    unfold lkF
    rcases List.mem_cons.1 hp with rfl | hp
    · rw [if_pos (by simp)]
    · rw [if_neg]
      · exact lkF_mem hn.2 p hp
      · intro e
        have e : q.1 = p.1 := by simpa using e
        exact hn.1 (by rw [e]; exact List.mem_map_of_mem hp)
theorem lkF_in : ∀ {F : List (Nat × Value)} {t : Nat} {v : Value}, lkF F t = some v → (t, v) ∈ F
  | [], t, v, h => by simp [lkF] at h
  | q :: F, t, v, h => by
    unfold lkF at h
    split at h
    · rename_i e
      have e : q.1 = t := by simpa using e
      cases h
      rw [← e]; exact List.mem_cons_self
    · exact List.mem_cons_of_mem _ (lkF_in h)
def memB (n : Nat) : List Nat → Bool
  | [] => false
  | x :: l => Nat.beq x n || memB n l
theorem memB_iff {n : Nat} : ∀ {l : List Nat}, memB n l = true ↔ n ∈ l
  | [] => by simp [memB]
  | x :: l => by
    unfold memB
    rw [Bool.or_eq_true, memB_iff, List.mem_cons, Nat.beq_eq]
    exact ⟨fun h => h.imp Eq.symm id, fun h => h.imp Eq.symm id⟩
def nodupB : List Nat → Bool
  | [] => true
  | x :: l => !memB x l && nodupB l
theorem nodupB_spec : ∀ {l : List Nat}, nodupB l = true → l.Nodup
  | [], _ => List.nodup_nil
  | x :: l, h => by
    unfold nodupB at h
    rw [Bool.and_eq_true] at h
    refine List.nodup_cons.2 ⟨fun hx => ?_, nodupB_spec h.2⟩
    have := memB_iff.2 hx
    simp [this] at h
def depT (ops : Array Oper) (o : Oper) : List Nat := o.after.toList.filterMap fun e => if Region.binds .any e then (ops[e.on]?).bind (·.dst) else none
def readsB (ops : Array Oper) (ts : List Nat) : Bool := ops.toList.all fun o => (o.looksAt ops).all fun d => !memB d ts || memB d (depT ops o)
def noSelB (l : List Oper) : Bool := l.all fun o => match o.op with
  | .select _ _ => false
  | .defer _ => false
  | _ => true
def StepA (P : Program) (l : List Oper) (Q : Exit → Act → World → Prop) (a0 : Act) (F FO : List (Nat × Value)) (I : List (Nat × Yield)) (C : World → Prop) (k : Nat) (o : Oper) : Prop :=
  ∀ (a : Act) (w : World), C w → (∀ p ∈ F, a.tmps[p.1]? = some p.2) → (∀ p ∈ FO, a.tmps[p.1]? = some p.2) → (∀ e ∈ o.after, Region.binds .any e = true → RowAt l.toArray (den l F I) e.on a w) →
    if Region.wanted o (yielded l.toArray a.tmps) then o.wp P a w (fun a' w' => ∃ v, a' = a.put o.dst v ∧ den l F I k v w' ∧ C w' ∧ Kept [] w w') (NoPanic Q) else den l F I k undef w
theorem put_size (a : Act) (d : Option Tmp) (v : Value) : (a.put d v).tmps.size = a.tmps.size := by
  cases d <;> simp [Act.put]
theorem put_inj {a b : Act} {d : Option Tmp} {u v : Value} (hs : ∀ t, d = some t → t < a.tmps.size) (h : a.put d u = a.put d v) : b.put d u = b.put d v := by
  cases d with
  | none => rfl
  | some t =>
    have h1 := congrArg (fun x : Act => x.tmps[t]?) h
    have := hs t rfl
    simp [Act.put, this] at h1
    rw [h1]
theorem upon_fill {P : Program} {o : Oper} {a b : Act} {Q : Exit → Act → World → Prop} {S : Value → World → Prop} (hs : ∀ t, o.dst = some t → t < b.tmps.size) : ∀ r : Result Next, o.upon P b (fun a' w' => ∃ v, a' = b.put o.dst v ∧ S v w') (NoPanic Q) r → o.upon P a (fun a' w' => ∃ v, a' = a.put o.dst v ∧ S v w') Q r := by
  have key : ∀ (u : Value) (w' : World), (∃ v, b.put o.dst u = b.put o.dst v ∧ S v w') → ∃ v, a.put o.dst u = a.put o.dst v ∧ S v w' := fun u w' ⟨v, h1, h2⟩ => ⟨v, put_inj hs h1, h2⟩
  intro r h
  unfold Oper.upon at h ⊢
  split at h
  · exact key _ _ h
  · exact key _ _ h
  · obtain ⟨v, h1, _⟩ := h
    have := congrArg (fun x : Act => x.defers.length) h1
    cases hd : o.dst <;> simp [Act.put, hd] at this
  · refine Calls.mono h fun e w'' h' => ?_
    cases e with
    | returned v => exact key v w'' h'
    | panicked c => exact (h' : False).elim
    | outgrown => exact h'
  · exact Rows.mono h fun v w'' h' => key v w'' h'
  · exact (h : False).elim
  · exact h.elim
theorem yielded_congr {ops : Array Oper} {a b : Act} {g : Nat} (h : ∀ t, (ops[g]?).bind (·.dst) = some t → a.tmps[t]? = b.tmps[t]?) : yielded ops a.tmps g = yielded ops b.tmps g := by
  unfold yielded
  cases ho : ops[g]? with
  | none => rfl
  | some o =>
    cases hd : o.dst with
    | none => simp [hd]
    | some t =>
      have := h t (by rw [ho]; exact hd)
      simp only [Option.bind_some, hd, this]
theorem wanted_congr {ops : Array Oper} {a b : Act} {o : Oper} (h : ∀ d ∈ o.looksAt ops, a.tmps[d]? = b.tmps[d]?) : Region.wanted o (yielded ops a.tmps) = Region.wanted o (yielded ops b.tmps) := by
  unfold Region.wanted
  cases hg : o.guard with
  | none => rfl
  | some q =>
    obtain ⟨g, x⟩ := q
    dsimp only
    rw [yielded_congr fun t ht => h t (List.mem_append_right _ (by rw [hg]; simp [ht]))]
theorem exec_congr {ops : Array Oper} {a b : Act} {o : Oper} (hsel : ∀ cs x, o.op ≠ .select cs x) (h : ∀ d ∈ o.looksAt ops, a.tmps[d]? = b.tmps[d]?) : execOp a.eval o = execOp b.eval o := by
  refine execOp_congr o hsel fun x hx => ?_
  cases x with
  | tmp t =>
    have := h t (List.mem_append_left _ (List.mem_filterMap.2 ⟨.tmp t, by simpa using hx, rfl⟩))
    show a.tmps.getD t undef = b.tmps.getD t undef
    rw [Array.getD_eq_getD_getElem?, Array.getD_eq_getD_getElem?, this]
  | _ => rfl
theorem StepA.stepR {P : Program} {l : List Oper} {Q : Exit → Act → World → Prop} {a0 : Act} {F FO : List (Nat × Value)} {I : List (Nat × Yield)} {C : World → Prop} {k : Nat} {o : Oper} (ho : l[k]? = some o)
    (hn : nodupB (F.map (·.1)) = true) (hrd : readsB l.toArray (F.map (·.1)) = true) (hsel : noSelB l = true) (hdst : dstB l.toArray a0.tmps.size = true) (hin : (F.all fun p => Nat.blt p.1 a0.tmps.size) = true) (hFO : ∀ p ∈ FO, a0.tmps[p.1]? = some p.2) (hno : (FO.all fun p => notDst l p.1 && !memB p.1 (F.map (·.1))) = true)
    (h : StepA P l Q a0 F FO I C k o) : StepR P l.toArray Q a0 (den l F I) C (Kept []) k o := by
  intro a w hC hO hd
  have hmem : o ∈ l := List.mem_of_getElem? ho
  have hsel' : ∀ cs x, o.op ≠ .select cs x := fun cs x e => by
    have := List.all_eq_true.1 hsel o hmem
    rw [e] at this; cases this
  have hsz := hO.tz
  have hnd := nodupB_spec hn
  have hrow : ∀ p ∈ F, p.1 < a.tmps.size := fun p hp => by
    have := List.all_eq_true.1 hin p hp
    rw [Nat.blt_eq] at this
    omega
  have hsame : ∀ d ∈ o.looksAt l.toArray, (fillA F a).tmps[d]? = a.tmps[d]? := fun d hd' => by
    rw [fillA_get]
    cases hl : lkF F d with
    | none => simp
    | some u =>
      have hdm := lkF_in hl
      have h1 := List.all_eq_true.1 (List.all_eq_true.1 hrd o hmem) d hd'
      have h2 : memB d (F.map (·.1)) = true := memB_iff.2 (List.mem_map.2 ⟨_, hdm, rfl⟩)
      rw [h2] at h1
      simp only [Bool.not_true, Bool.false_or] at h1
      obtain ⟨e, he, hed⟩ := List.mem_filterMap.1 (memB_iff.1 h1)
      split at hed
      · rename_i hb
        obtain ⟨oj, hoj, hjd⟩ := Option.bind_eq_some_iff.1 hed
        obtain ⟨v, hv, hR⟩ := hd e (by simpa using he) hb oj d hoj hjd
        unfold den at hR
        have hlj : l[e.on]? = some oj := by simpa using hoj
        rw [hlj] at hR
        simp only [Option.bind_some, hjd, hl] at hR
        rw [hv, hR]; rfl
      · cases hed
  have hget : ∀ p ∈ F, (fillA F a).tmps[p.1]? = some p.2 := fun p hp => by
    rw [fillA_get, lkF_mem hnd p hp]
    have := hrow p hp
    simp [this]
  have hgo : ∀ p ∈ FO, (fillA F a).tmps[p.1]? = some p.2 := fun p hp => by
    have h1 := List.all_eq_true.1 hno p hp
    rw [Bool.and_eq_true] at h1
    rw [fillA_get]
    have h2 : lkF F p.1 = none := by
      cases hl : lkF F p.1 with
      | none => rfl
      | some u =>
        have := memB_iff.2 (List.mem_map.2 ⟨_, lkF_in hl, rfl⟩ : p.1 ∈ F.map (·.1))
        rw [this] at h1
        simp at h1
    rw [h2, hO.at h1.1 (hFO p hp)]
    rfl
  have hdep : ∀ e ∈ o.after, Region.binds .any e = true → RowAt l.toArray (den l F I) e.on (fillA F a) w := fun e he hb oj t hoj ht => by
    obtain ⟨v, hv, hR⟩ := hd e he hb oj t hoj ht
    cases hl : lkF F t with
    | none => exact ⟨v, by rw [fillA_get, hl, hv]; rfl, hR⟩
    | some u =>
      have hR' := hR
      unfold den at hR'
      have hlj : l[e.on]? = some oj := by simpa using hoj
      rw [hlj] at hR'
      simp only [Option.bind_some, ht, hl] at hR'
      exact ⟨v, by rw [fillA_get, hl, hv, hR']; rfl, hR⟩
  have := h (fillA F a) w hC hget hgo hdep
  rw [wanted_congr hsame] at this
  split
  · rename_i hw
    rw [if_pos hw] at this
    unfold Oper.wp at this ⊢
    rw [exec_congr hsel' hsame] at this
    refine upon_fill (fun t ht => ?_) _ this
    have := dstB_lt hdst (by simpa using ho) ht
    have e : (fillA F a).tmps.size = a.tmps.size := by unfold fillA; simp
    rw [e, hsz]
    exact this
  · rename_i hw
    rw [if_neg hw] at this
    exact this
def isDst (l : List Oper) (t : Nat) : Bool := l.any fun o => match o.dst with
  | some u => Nat.beq u t
  | none => false
def regB (l : List Oper) (n : Nat) (m : List Bool) (ts os is : List Nat) : Bool :=
  acyB l.toArray && dstB l.toArray n && nodupB ts && readsB l.toArray ts && noSelB l && (ts.all fun t => Nat.blt t n && isDst l t && m.getD t false) && (os.all fun t => notDst l t && !memB t ts) && maskB m l && nodupB is && (is.all fun t => isDst l t && !memB t ts && m.getD t false)
theorem AllFrom.imp {p q : Nat → Oper → Prop} : ∀ {l : List Oper} {k : Nat}, (∀ i o, l[i]? = some o → p (k + i) o → q (k + i) o) → AllFrom p k l → AllFrom q k l
  | [], _, _, _ => trivial
  | o :: l, k, h, H => ⟨h 0 o rfl H.1, AllFrom.imp (fun i o' ho hp => by
      have := h (i + 1) o' (by simpa using ho)
      rw [show k + (i + 1) = k + 1 + i by omega] at this
      exact this hp) H.2⟩
theorem lkI_mem (w : World) : ∀ {I : List (Nat × Yield)}, (I.map (·.1)).Nodup → ∀ p ∈ I, ∀ v, lkI I p.1 v w → p.2.den v w
  | [], _, p, hp, _, _ => by cases hp
  | q :: I, hn, p, hp, v, h => by
    rw [List.map_cons, List.nodup_cons] at hn
    unfold lkI at h
    rcases List.mem_cons.1 hp with rfl | hp
    · rw [if_pos (by simp)] at h; exact h
    · rw [if_neg (fun e => hn.1 (by
        have e : q.1 = p.1 := by simpa using e
        rw [e]; exact List.mem_map_of_mem hp))] at h
      exact lkI_mem w hn.2 p hp v h
theorem wp_region_all {P : Program} {Q : Exit → Act → World → Prop} {id : Nat} {l : List Oper} {L : List Value} {d : List Deferred} {w : World} (F FO : List (Nat × Value)) (I : List (Nat × Yield)) (C : World → Prop) (m : List Bool) (hm : P.follows .mixedOrders = true)
    (hB : regB l L.length m (F.map (·.1)) (FO.map (·.1)) (I.map (·.1)) = true) (hFO : ∀ p ∈ FO, L[p.1]? = some p.2) (hC : C w.drew)
    (hstep : AllFrom (StepA P l Q ⟨L.toArray, d⟩ F FO I C) 0 l)
    (hfin : ∀ us w', C w' → (∀ p ∈ F, us p.1 = p.2) → (∀ p ∈ I, p.2.den (us p.1) w') → Q .normal ⟨(merge us m 0 L).toArray, d⟩ w') : (Code.region id l.toArray true).wp P Q ⟨L.toArray, d⟩ w := by
  unfold regB at hB
  simp only [Bool.and_eq_true] at hB
  obtain ⟨⟨⟨⟨⟨⟨⟨⟨⟨b1, b2⟩, b3⟩, b4⟩, b5⟩, b6⟩, b7⟩, b8⟩, b9⟩, b10⟩ := hB
  have b2' : dstB l.toArray (⟨L.toArray, d⟩ : Act).tmps.size = true := by simpa using b2
  refine wp_region_rows (den l F I) C (Kept []) hm (den_kept l F I) (Kept.refl []) b1 b2' hC (AllFrom.imp (fun i o ho h => ?_) hstep) fun a' w' hC' hO hr => ?_
  · rw [Nat.zero_add] at h ⊢
    refine h.stepR ho b3 b4 b5 b2' ?_ (fun p hp => by simpa using hFO p hp) ?_
    · refine List.all_eq_true.2 fun p hp => ?_
      have := List.all_eq_true.1 b6 p.1 (List.mem_map_of_mem hp)
      simp only [Bool.and_eq_true] at this
      simpa using this.1.1
    · refine List.all_eq_true.2 fun p hp => ?_
      exact List.all_eq_true.1 b7 p.1 (List.mem_map_of_mem hp)
  · obtain ⟨us, hus, ha⟩ := hO.lit rfl m b8
    subst ha
    have row : ∀ t, isDst l t = true → m.getD t false = true → ∃ k, (l[k]?).bind (·.dst) = some t ∧ den l F I k (us t) w' := fun t ht hmt => by
      obtain ⟨o, hom, hot⟩ := List.any_eq_true.1 ht
      obtain ⟨k, hk⟩ := List.mem_iff_getElem?.1 hom
      have hd : o.dst = some t := by
        cases hdo : o.dst with
        | none => rw [hdo] at hot; cases hot
        | some u =>
          rw [hdo] at hot
          have : u = t := by simpa using hot
          rw [this]
      obtain ⟨v, hv, hR⟩ := hr k o t (by simpa using hk) hd
      have := hus t v hmt hv
      exact ⟨k, by rw [hk]; exact hd, by rw [this]; exact hR⟩
    refine hfin us w' hC' (fun p hp => ?_) (fun p hp => ?_)
    · have h6 := List.all_eq_true.1 b6 p.1 (List.mem_map_of_mem hp)
      simp only [Bool.and_eq_true] at h6
      obtain ⟨k, hk, hR⟩ := row p.1 h6.1.2 h6.2
      unfold den at hR
      rw [hk] at hR
      simp only [lkF_mem (nodupB_spec b3) p hp] at hR
      exact hR
    · have h10 := List.all_eq_true.1 b10 p.1 (List.mem_map_of_mem hp)
      simp only [Bool.and_eq_true] at h10
      obtain ⟨k, hk, hR⟩ := row p.1 h10.1.1 h10.2
      have hl : lkF F p.1 = none := by
        cases hl : lkF F p.1 with
        | none => rfl
        | some u =>
          have h2 : memB p.1 (F.map (·.1)) = true := memB_iff.2 (List.mem_map.2 ⟨_, lkF_in hl, rfl⟩)
          have h3 := h10.1.2
          rw [h2] at h3
          cases h3
      unfold den at hR
      rw [hk] at hR
      simp only [hl] at hR
      exact lkI_mem w' (nodupB_spec b9) p hp _ hR
theorem AllUpto.imp {p q : Nat → Oper → Prop} : ∀ {n : Nat} {l : List Oper} {k : Nat}, (∀ i o, l[i]? = some o → p (k + i) o → q (k + i) o) → AllUpto p n k l → AllUpto q n k l
  | 0, _, _, _, _ => AllUpto.nil
  | _ + 1, [], _, _, _ => by unfold AllUpto; trivial
  | n + 1, o :: l, k, h, H => ⟨h 0 o rfl H.1, AllUpto.imp (fun i o' ho hp => by
      have := h (i + 1) o' (by simpa using ho)
      rw [show k + (i + 1) = k + 1 + i by omega] at this
      exact this hp) H.2⟩
def regTB (l : List Oper) (k n : Nat) (m : List Bool) (ts os is : List Nat) : Bool :=
  acyB l.toArray && dstB l.toArray n && nodupB ts && readsB l.toArray ts && noSelB l && (ts.all fun t => Nat.blt t n && isDst (l.take k) t && m.getD t false) && (os.all fun t => notDst l t && !memB t ts) && maskB m l && nodupB is && (is.all fun t => isDst (l.take k) t && !memB t ts && m.getD t false) &&
  Nat.blt k l.length && Region.sinkB .any l.toArray k && Region.chainB .any l.toArray k && Region.seqB .any l.toArray (l.drop k).length k (headA k l.toArray.size)
theorem wp_region_all_tail {P : Program} {Q : Exit → Act → World → Prop} {id : Nat} {l : List Oper} {L : List Value} {d : List Deferred} {w : World} (n : Nat) (F FO : List (Nat × Value)) (I : List (Nat × Yield)) (C : World → Prop) (m : List Bool) (hm : P.follows .mixedOrders = true)
    (hB : regTB l n L.length m (F.map (·.1)) (FO.map (·.1)) (I.map (·.1)) = true) (hFO : ∀ p ∈ FO, L[p.1]? = some p.2) (hC : C w.drew)
    (hstep : AllUpto (StepA P l Q ⟨L.toArray, d⟩ F FO I C) n 0 l)
    (hfin : ∀ us w', C w' → (∀ p ∈ F, us p.1 = p.2) → (∀ p ∈ I, p.2.den (us p.1) w') → wpList P l.toArray Q (l.drop n) ⟨(merge us m 0 L).toArray, d⟩ w') : (Code.region id l.toArray true).wp P Q ⟨L.toArray, d⟩ w := by
  unfold regTB at hB
  simp only [Bool.and_eq_true] at hB
  obtain ⟨⟨⟨⟨⟨⟨⟨⟨⟨⟨⟨⟨⟨b1, b2⟩, b3⟩, b4⟩, b5⟩, b6⟩, b7⟩, b8⟩, b9⟩, b10⟩, b11⟩, b12⟩, b13⟩, b14⟩ := hB
  have b2' : dstB l.toArray (⟨L.toArray, d⟩ : Act).tmps.size = true := by simpa using b2
  refine wp_region_rows_tail n (den l F I) C (Kept []) hm (den_kept l F I) (Kept.refl []) b1 b2' b11 b12 b13 b14 hC (AllUpto.imp (fun i o ho h => ?_) hstep) fun a' w' hC' hO hr => ?_
  · rw [Nat.zero_add] at h ⊢
    refine h.stepR ho b3 b4 b5 b2' ?_ (fun p hp => by simpa using hFO p hp) ?_
    · refine List.all_eq_true.2 fun p hp => ?_
      have := List.all_eq_true.1 b6 p.1 (List.mem_map_of_mem hp)
      simp only [Bool.and_eq_true] at this
      simpa using this.1.1
    · refine List.all_eq_true.2 fun p hp => ?_
      exact List.all_eq_true.1 b7 p.1 (List.mem_map_of_mem hp)
  · obtain ⟨us, hus, ha⟩ := hO.lit rfl m b8
    subst ha
    have row : ∀ t, isDst (l.take n) t = true → m.getD t false = true → ∃ k, (l[k]?).bind (·.dst) = some t ∧ den l F I k (us t) w' := fun t ht hmt => by
      obtain ⟨o, hom, hot⟩ := List.any_eq_true.1 ht
      obtain ⟨k, hk⟩ := List.mem_iff_getElem?.1 hom
      have hkn : k < n := by
        have := (List.getElem?_eq_some_iff.1 hk).1
        rw [List.length_take] at this
        omega
      have hk : l[k]? = some o := by rw [List.getElem?_take_of_lt hkn] at hk; exact hk
      have hd : o.dst = some t := by
        cases hdo : o.dst with
        | none => rw [hdo] at hot; cases hot
        | some u =>
          rw [hdo] at hot
          have : u = t := by simpa using hot
          rw [this]
      obtain ⟨v, hv, hR⟩ := hr k hkn o t (by simpa using hk) hd
      have := hus t v hmt hv
      exact ⟨k, by rw [hk]; exact hd, by rw [this]; exact hR⟩
    refine hfin us w' hC' (fun p hp => ?_) (fun p hp => ?_)
    · have h6 := List.all_eq_true.1 b6 p.1 (List.mem_map_of_mem hp)
      simp only [Bool.and_eq_true] at h6
      obtain ⟨k, hk, hR⟩ := row p.1 h6.1.2 h6.2
      unfold den at hR
      rw [hk] at hR
      simp only [lkF_mem (nodupB_spec b3) p hp] at hR
      exact hR
    · have h10 := List.all_eq_true.1 b10 p.1 (List.mem_map_of_mem hp)
      simp only [Bool.and_eq_true] at h10
      obtain ⟨k, hk, hR⟩ := row p.1 h10.1.1 h10.2
      have hl : lkF F p.1 = none := by
        cases hl : lkF F p.1 with
        | none => rfl
        | some u =>
          have h2 : memB p.1 (F.map (·.1)) = true := memB_iff.2 (List.mem_map.2 ⟨_, lkF_in hl, rfl⟩)
          have h3 := h10.1.2
          rw [h2] at h3
          cases h3
      unfold den at hR
      rw [hk] at hR
      simp only [hl] at hR
      exact lkI_mem w' (nodupB_spec b9) p hp _ hR
theorem want_no {o : Oper} {y : Nat → Option Bool} {j : Nat} {b c : Bool} (h : o.guard = some (j, b)) (hy : y j = some c) (hne : c ≠ b) : Region.wanted o y = false := by unfold Region.wanted; rw [h]; cases b <;> cases c <;> simp_all
theorem want_lost {o : Oper} {y : Nat → Option Bool} {j : Nat} {b : Bool} (h : o.guard = some (j, b)) (hy : y j = none) : Region.wanted o y = false := by unfold Region.wanted; rw [h]; simp [hy]
theorem yield_undef {ops : Array Oper} {a : Act} {j t : Nat} {o : Oper} (ho : ops[j]? = some o) (ht : o.dst = some t) (he : a.tmps[t]? = some undef) : yielded ops a.tmps j = none := by
  unfold yielded
  rw [ho]
  simp only [Option.bind_some, ht, he]
  rfl
def RowP (ops : Array Oper) (Rp : Nat → Value → Prop) (j : Nat) (a : Act) : Prop := ∀ o t, ops[j]? = some o → o.dst = some t → ∃ v, a.tmps[t]? = some v ∧ Rp j v
def midB (ops : Array Oper) (z : Nat) (late : Nat → Bool) : Bool := (List.range ops.size).all fun i => i == z || late i || (List.range ops.size).any fun j => !late j && decide (i < j) && decide (j ≤ z) && Region.waitsFor .any ops j i
structure ClosedR (ops : Array Oper) (listed : Array Bool) : Prop where
  closed : ∀ j oj, ops[j]? = some oj → listed.getD j false = true → ∀ e ∈ oj.after, Region.binds .any e = true → listed.getD e.on false = true
section
variable {P : Program} {ops : Array Oper} {Q : Exit → Act → World → Prop} {a0 : Act}
theorem ClosedR.set {listed : Array Bool} (H : ClosedR ops listed) {i : Nat} (hi : i ∈ Region.ready .any ops listed) : ClosedR ops (listed.setIfInBounds i true) := by
  obtain ⟨_, oi, hoi, hall⟩ := mem_ready.1 hi
  refine ⟨fun j oj hj hl e he hb => ?_⟩
  by_cases hij : i = j
  · subst hij
    have : oj = oi := Option.some.inj (hj.symm.trans hoi)
    subst this
    exact getD_set_true (hall e he hb)
  · rw [getD_set_ne false hij] at hl
    exact getD_set_true (H.closed j oj hj hl e he hb)
theorem mid_all {z : Nat} {late : Nat → Bool} (hm : midB ops z late = true) {listed : Array Bool} (hs : listed.size = ops.size) (H : ClosedR ops listed) (hz : z ∈ Region.ready .any ops listed) :
    ∀ (d i : Nat), ops.size - i = d → i < ops.size → i ≠ z → late i = false → listed.getD i false = true := by
  obtain ⟨_, oz, hoz, hall⟩ := mem_ready.1 hz
  intro d
  induction d using Nat.strongRecOn with
  | _ d ih =>
    intro i hd hi hne hl
    have h1 := List.all_eq_true.1 hm i (List.mem_range.2 hi)
    simp only [hl, Bool.or_false, Bool.or_eq_true, beq_iff_eq, hne, false_or] at h1
    obtain ⟨j, hj, hj2⟩ := List.any_eq_true.1 h1
    simp only [Bool.and_eq_true, decide_eq_true_eq, Bool.not_eq_true'] at hj2
    obtain ⟨⟨⟨hjl, hij⟩, hjz⟩, hw⟩ := hj2
    obtain ⟨oj, hoj, e, he, hb, hon⟩ := Region.waitsFor_spec hw
    have hjs : j < ops.size := List.mem_range.1 hj
    by_cases e2 : j = z
    · subst e2
      have : oj = oz := Option.some.inj (hoj.symm.trans hoz)
      subst this
      have := hall e he hb
      rwa [hon] at this
    · have := ih (ops.size - j) (by omega) j rfl hjs e2 hjl
      have h3 := H.closed j oj hoj this e he hb
      rwa [hon] at h3
structure InvZ (ops : Array Oper) (a0 : Act) (z : Nat) (R : Nat → Value → World → Prop) (C : World → Prop) (Rp : Nat → Value → Prop) (C2 : Act → World → Prop) (listed : Array Bool) (a : Act) (w : World) : Prop where
  sz : listed.size = ops.size
  old : OldR ops a0 a
  cl : ClosedR ops listed
  one : listed.getD z false = false → C w ∧ ∀ i, listed.getD i false = true → RowAt ops R i a w
  two : listed.getD z false = true → C2 a w ∧ ∀ i, listed.getD i false = true → i ≠ z → RowP ops Rp i a
theorem put_old {o : Oper} {i : Nat} {a : Act} (ho : ops[i]? = some o) (H : OldR ops a0 a) (v : Value) : OldR ops a0 (a.put o.dst v) := by
  refine ⟨?_, ?_, fun t ht => ?_⟩
  · rw [← H.tz]; unfold Act.put; split <;> simp
  · rw [← H.df]; unfold Act.put; split <;> rfl
  · rw [← H.old t ht]
    unfold Act.put
    split
    · rename_i d hd
      have : d ≠ t := fun e => ht i o ho (by rw [hd, e])
      simp [Array.getElem?_setIfInBounds, this]
    · rfl
theorem put_ne {o : Oper} {i j t' : Nat} {o' : Oper} {a : Act} (ho : ops[i]? = some o) (ho' : ops[j]? = some o') (ht' : o'.dst = some t') (hji : ¬ j = i) (hdst : dstB ops a0.tmps.size = true) (v : Value) : (a.put o.dst v).tmps[t']? = a.tmps[t']? := by
  unfold Act.put
  split
  · rename_i d hd
    have : d ≠ t' := fun e => hji (dstB_ne hdst ho' ho ht' (by rw [hd, e]))
    simp [Array.getElem?_setIfInBounds, this]
  · rfl
theorem put_eq {o : Oper} {i t : Nat} {a : Act} (ho : ops[i]? = some o) (ht : o.dst = some t) (H : OldR ops a0 a) (hdst : dstB ops a0.tmps.size = true) (v : Value) : (a.put o.dst v).tmps[t]? = some v := by
  have htl := dstB_lt hdst ho ht
  rw [← H.tz] at htl
  unfold Act.put
  rw [ht]
  simp [htl]
theorem wpAny_rows_mid {R : Nat → Value → World → Prop} {C : World → Prop} {G : World → World → Prop} {Rp : Nat → Value → Prop} {C2 : Act → World → Prop} (z : Nat) (late : Nat → Bool) (hz : z < ops.size) (hlz : late z = false) (hmid : midB ops z late = true)
    (hG : ∀ j v w w', G w w' → R j v w → R j v w') (hrefl : ∀ w, G w w) (hacy : acyB ops = true) (hdst : dstB ops a0.tmps.size = true) (hRp : ∀ j v w, R j v w → Rp j v)
    (hstep : ∀ k o, k ≠ z → ops[k]? = some o → StepR P ops Q a0 R C G k o)
    (hstore : ∀ o a w, ops[z]? = some o → C w → OldR ops a0 a → (∀ i, i < ops.size → i ≠ z → late i = false → RowAt ops R i a w) → o.dst = none ∧ Region.wanted o (yielded ops a.tmps) = true ∧ o.wp P a w (fun a' w' => a' = a ∧ C2 a w') Q)
    (hlate : ∀ k o, late k = true → ops[k]? = some o → ∀ a w, C2 a w → OldR ops a0 a → (∀ e ∈ o.after, Region.binds .any e = true → e.on ≠ z → RowP ops Rp e.on a) →
      if Region.wanted o (yielded ops a.tmps) then o.wp P a w (fun a' w' => ∃ v, a' = a.put o.dst v ∧ Rp k v ∧ w' = w) Q else Rp k undef)
    (hC2 : ∀ k o a w v, late k = true → ops[k]? = some o → C2 a w → C2 (a.put o.dst v) w)
    (hfin : ∀ a w, C2 a w → OldR ops a0 a → (∀ i, i ≠ z → RowP ops Rp i a) → Q .normal a w) :
    ∀ (fuel : Nat) (listed : Array Bool) (a : Act) (w : World), unl ops listed ≤ fuel → InvZ ops a0 z R C Rp C2 listed a w → wpAny P .any ops Q fuel listed a w := by
  have fin : ∀ (listed : Array Bool) (a : Act) (w : World), InvZ ops a0 z R C Rp C2 listed a w → (∀ i, i < ops.size → listed.getD i false = true) → Q .normal a w := fun listed a w H h => by
    obtain ⟨h1, h2⟩ := H.two (h z hz)
    refine hfin a w h1 H.old fun i hne => ?_
    by_cases hi : i < ops.size
    · exact h2 i (h i hi) hne
    · intro o t ho
      exact absurd (Array.getElem?_eq_some_iff.1 ho).1 hi
  intro fuel
  induction fuel with
  | zero =>
    intro listed a w hu H
    have hall := unl_zero H.sz (Nat.le_zero.1 hu)
    refine ⟨?_, fin listed a w H hall⟩
    cases hr : Region.ready .any ops listed with
    | nil => rfl
    | cons x xs =>
      have hx : x ∈ Region.ready .any ops listed := by rw [hr]; simp
      obtain ⟨h1, o, ho, _⟩ := mem_ready.1 hx
      have hlt := (Array.getElem?_eq_some_iff.1 ho).1
      have := hall x hlt
      have hx' : x < listed.size := by rw [H.sz]; exact hlt
      simp [hx'] at h1 this
      rw [h1] at this; cases this
  | succ fuel ih =>
    intro listed a w hu H
    refine ⟨fun hr => fin listed a w H (all_listed H.sz hacy hr), fun i hi => ?_⟩
    obtain ⟨hun, o, ho, hdep⟩ := mem_ready.1 hi
    have hlt := (Array.getElem?_eq_some_iff.1 ho).1
    have hi' : i < listed.size := by rw [H.sz]; exact hlt
    have hli : listed[i] = false := by simpa [hi'] using hun
    have hu' : unl ops (listed.setIfInBounds i true) ≤ fuel := by
      have := countP_lt (p := fun k => !listed.getD k true) (q := fun k => !(listed.setIfInBounds i true).getD k true) (fun x hx => by
        by_cases hxi : x = i
        · subst hxi; simp [hi'] at hx
        · by_cases hxs : x < listed.size
          · simp [hxs, Array.getElem_setIfInBounds, Ne.symm hxi] at hx ⊢; exact hx
          · simp [hxs] at hx) (i := i) (by simp [hi', hli]) (by simp [hi']) (List.mem_range.2 hlt)
      unfold unl at hu ⊢
      omega
    have hset : ∀ j, j ≠ i → (listed.setIfInBounds i true).getD j false = true → listed.getD j false = true := fun j hji hj => by
      by_cases hjs : j < listed.size
      · simp [hjs, Array.getElem_setIfInBounds, Ne.symm hji] at hj ⊢; exact hj
      · simp [hjs] at hj
    unfold wpOp
    simp only [ho]
    by_cases hiz : i = z
    · subst hiz
      have hlz' : listed.getD i false = false := by simp [hi', hli]
      obtain ⟨hC, hrows⟩ := H.one hlz'
      obtain ⟨hd, hw, hwp⟩ := hstore o a w ho hC H.old (fun j hj hne hl => hrows j (mid_all hmid H.sz H.cl hi _ j rfl hj hne hl))
      rw [if_pos hw]
      refine .inl (Oper.wp_mono (fun a' w' h => ?_) hwp)
      obtain ⟨rfl, h2⟩ := h
      refine ih _ _ _ hu' ⟨by simpa using H.sz, H.old, H.cl.set hi, fun h => ?_, fun _ => ⟨h2, fun j hj hne => ?_⟩⟩
      · exfalso; simp [hi'] at h
      · intro o' t' ho' ht'
        obtain ⟨v, hv1, hv2⟩ := hrows j (hset j hne hj) o' t' ho' ht'
        exact ⟨v, hv1, hRp _ _ _ hv2⟩
    · by_cases hzl : listed.getD z false = true
      · obtain ⟨h2, hrp⟩ := H.two hzl
        have hil : late i = true := by
          cases hl : late i with
          | true => rfl
          | false =>
            exfalso
            -- the store waits for all that are not late
            have hcl := H.cl
            have : ∀ (d k : Nat), ops.size - k = d → k < ops.size → k ≠ z → late k = false → listed.getD k false = true := by
              intro d
              induction d using Nat.strongRecOn with
              | _ d ihd =>
                intro k hd hk hne hlk
                have h1 := List.all_eq_true.1 hmid k (List.mem_range.2 hk)
                simp only [hlk, Bool.or_false, Bool.or_eq_true, beq_iff_eq, hne, false_or] at h1
                obtain ⟨j, hj, hj2⟩ := List.any_eq_true.1 h1
                simp only [Bool.and_eq_true, decide_eq_true_eq, Bool.not_eq_true'] at hj2
                obtain ⟨⟨⟨hjl, hij⟩, hjz⟩, hw⟩ := hj2
                obtain ⟨oj, hoj, e, he, hb, hon⟩ := Region.waitsFor_spec hw
                have hjs : j < ops.size := List.mem_range.1 hj
                have hjd : listed.getD j false = true := by
                  by_cases e2 : j = z
                  · rw [e2]; exact hzl
                  · exact ihd (ops.size - j) (by omega) j rfl hjs e2 hjl
                have h3 := hcl.closed j oj hoj hjd e he hb
                rwa [hon] at h3
            have h4 := this _ i rfl hlt hiz hl
            simp [hi', hli] at h4
        have hs := hlate i o hil ho a w h2 H.old (fun e he hb hne => hrp _ (hdep e he hb) hne)
        have next : ∀ v, Rp i v → wpAny P .any ops Q fuel (listed.setIfInBounds i true) (a.put o.dst v) w := fun v hv => by
          refine ih _ _ _ hu' ⟨by simpa using H.sz, put_old ho H.old v, H.cl.set hi, fun h => ?_, fun _ => ⟨hC2 i o a w v hil ho h2, fun j hj hne => ?_⟩⟩
          · rw [getD_set_ne false hiz, hzl] at h; cases h
          · intro o' t' ho' ht'
            by_cases hji : j = i
            · subst hji
              rw [ho] at ho'
              cases ho'
              exact ⟨v, put_eq ho ht' H.old hdst v, hv⟩
            · obtain ⟨u, hu1, hu2⟩ := hrp j (hset j hji hj) hne o' t' ho' ht'
              exact ⟨u, by rw [put_ne ho ho' ht' hji hdst v]; exact hu1, hu2⟩
        split
        · rename_i hw
          rw [if_pos hw] at hs
          refine .inl (Oper.wp_mono (fun a' w' h => ?_) hs)
          obtain ⟨v, rfl, h1, rfl⟩ := h
          exact next v h1
        · rename_i hw
          rw [if_neg hw] at hs
          exact next undef hs
      · have hzl' : listed.getD z false = false := by simpa using hzl
        obtain ⟨hC, hrows⟩ := H.one hzl'
        have hs := hstep i o hiz ho a w hC H.old (fun e he hb => hrows _ (hdep e he hb))
        have next : ∀ (v : Value) (w' : World), R i v w' → C w' → G w w' → wpAny P .any ops Q fuel (listed.setIfInBounds i true) (a.put o.dst v) w' := fun v w' hR hC' hg => by
          refine ih _ _ _ hu' ⟨by simpa using H.sz, put_old ho H.old v, H.cl.set hi, fun _ => ⟨hC', fun j hj => ?_⟩, fun h => ?_⟩
          · intro o' t' ho' ht'
            by_cases hji : j = i
            · subst hji
              rw [ho] at ho'
              cases ho'
              exact ⟨v, put_eq ho ht' H.old hdst v, hR⟩
            · obtain ⟨u, hu1, hu2⟩ := hrows j (hset j hji hj) o' t' ho' ht'
              exact ⟨u, by rw [put_ne ho ho' ht' hji hdst v]; exact hu1, hG j u w w' hg hu2⟩
          · rw [getD_set_ne false hiz, hzl'] at h; cases h
        split
        · rename_i hw
          rw [if_pos hw] at hs
          refine .inl (Oper.wp_mono (fun a' w' h => ?_) hs)
          obtain ⟨v, rfl, h1, h2, h3⟩ := h
          exact next v w' h1 h2 h3
        · rename_i hw
          rw [if_neg hw] at hs
          exact next undef w hs hC (hrefl w)
end
def pureDen (l : List Yield) (k : Nat) (v : Value) : Prop := match l[k]? with
  | some (.eq u) => v = u
  | _ => True
theorem pureDen_of (l : List Yield) (j : Nat) (v : Value) (w : World) (h : yieldDen l j v w) : pureDen l j v := by
  unfold yieldDen at h
  unfold pureDen
  cases hl : l[j]? with
  | none => trivial
  | some p =>
    rw [hl] at h
    cases p with
    | eq u => exact h
    | is p hp => trivial
def tzB (l : List Oper) (lt : List Nat) (tz : Nat) : Bool := (List.range l.length).all fun i => !lt.contains i || match l[i]? with
  | none => true
  | some o => match o.dst with
    | none => true
    | some t => !(Nat.beq t tz)
theorem wp_region_rows_mid {P : Program} {Q : Exit → Act → World → Prop} {id : Nat} {l : List Oper} {a : Act} {w : World} (z tz : Nat) (lt : List Nat) (Y : List Yield) (C : World → Prop) (K : Value → World → Prop) (hm : P.follows .mixedOrders = true)
    (hacy : acyB l.toArray = true) (hdst : dstB l.toArray a.tmps.size = true) (hz : Nat.blt z l.length = true) (hlz : lt.contains z = false) (hmid : midB l.toArray z (fun i => lt.contains i) = true) (htz : tzB l lt tz = true) (hC : C w.drew)
    (hstep : AllFrom (fun k o => k ≠ z → StepR P l.toArray Q a (yieldDen Y) C (Kept []) k o) 0 l)
    (hstore : ∀ o a' w', l[z]? = some o → C w' → OldR l.toArray a a' → (∀ i, i < l.length → i ≠ z → lt.contains i = false → RowAt l.toArray (yieldDen Y) i a' w') → o.dst = none ∧ Region.wanted o (yielded l.toArray a'.tmps) = true ∧ o.wp P a' w' (fun a'' w'' => a'' = a' ∧ ∃ v, a'.tmps[tz]? = some v ∧ K v w'') Q)
    (hlate : AllFrom (fun k o => lt.contains k = true → ∀ a' w', OldR l.toArray a a' → (∀ e ∈ o.after, Region.binds .any e = true → e.on ≠ z → RowP l.toArray (pureDen Y) e.on a') →
      if Region.wanted o (yielded l.toArray a'.tmps) then o.wp P a' w' (fun a'' w'' => ∃ v, a'' = a'.put o.dst v ∧ pureDen Y k v ∧ w'' = w') Q else pureDen Y k undef) 0 l)
    (hfin : ∀ a' w' v, a'.tmps[tz]? = some v → K v w' → OldR l.toArray a a' → (∀ i, i ≠ z → RowP l.toArray (pureDen Y) i a') → Q .normal a' w') : (Code.region id l.toArray true).wp P Q a w := by
  rw [Nat.blt_eq] at hz
  refine wp_region_any hm ?_
  refine wpAny_rows_mid (a0 := a) (R := yieldDen Y) (C := C) (G := Kept []) (Rp := pureDen Y) (C2 := fun a' w' => ∃ v, a'.tmps[tz]? = some v ∧ K v w') z (fun i => lt.contains i) (by simpa using hz) hlz hmid
    (fun j v w w' h h' => yieldDen_kept _ j v w w' h h') (fun w => Kept.refl [] w) hacy hdst (pureDen_of Y) (fun k o hk ho => by have := hstep.get k o (by simpa using ho); simp at this; exact this hk)
    (fun o a' w' ho hc hO hr => hstore o a' w' (by simpa using ho) hc hO (fun i hi => hr i (by simpa using hi)))
    (fun k o hk ho a' w' _ hO hr => by have := hlate.get k o (by simpa using ho); simp only [Nat.zero_add] at this; exact this hk a' w' hO hr)
    (fun k o a' w' v hk ho ⟨u, h1, h2⟩ => ⟨u, ?_, h2⟩) (fun a' w' ⟨v, h1, h2⟩ hO hr => hfin a' w' v h1 h2 hO hr) _ _ _ _ ?_ ⟨by simp, ⟨rfl, rfl, fun _ _ => rfl⟩, ⟨fun j oj _ hl => (by rw [getD_replicate_false] at hl; cases hl)⟩, fun _ => ⟨hC, fun i hi => ?_⟩, fun h => ?_⟩
  · rw [← h1]
    unfold Act.put
    split
    · rename_i d hd
      have hk' : k < l.length := by simpa using (Array.getElem?_eq_some_iff.1 ho).1
      have h3 := List.all_eq_true.1 htz k (List.mem_range.2 hk')
      have ho' : l[k]? = some o := by simpa using ho
      rw [ho', hk] at h3
      simp only [Bool.not_true, Bool.false_or, hd] at h3
      have : d ≠ tz := fun e => by subst e; simp at h3
      simp [Array.getElem?_setIfInBounds, this]
    · rfl
  · unfold unl
    have := List.countP_le_length (p := fun i => !(Array.replicate l.toArray.size false).getD i true) (l := List.range l.toArray.size)
    simpa using this
  · rw [getD_replicate_false] at hi; cases hi
  · rw [getD_replicate_false] at h; cases h
theorem pure_late {P : Program} {o : Oper} {a : Act} {w : World} {R : Value → Prop} {Q : Exit → Act → World → Prop} (v : Value) (hR : R v)
    (h : o.wp P a w (fun a' w' => a' = a.put o.dst v ∧ w' = w) Q) : o.wp P a w (fun a' w' => ∃ v, a' = a.put o.dst v ∧ R v ∧ w' = w) Q :=
  Oper.wp_mono (fun a' w' ⟨h1, h2⟩ => ⟨v, h1, hR, h2⟩) h
def nextE (E : List Nat) (B : List (List Nat)) (done : List Nat) : List Nat := E.filter fun k => !memB k done && B.all fun p => !(Nat.beq (p.headD 0) k) || memB (p.getLastD 0) done
def wpE (P : Program) (l : List Oper) (Q : Exit → Act → World → Prop) (C : World → Prop) (sink : Bool) (E : List Nat) (B : List (List Nat)) : Nat → List Nat → Act → World → Prop
  | 0, _, a, w => Q .normal a w
  | n + 1, done, a, w => ∀ k ∈ nextE E B done, ∀ o, l[k]? = some o →
      if Region.wanted o (yielded l.toArray a.tmps) then o.wp P a w (fun a' w' => ∃ v, a' = a.put o.dst v ∧ (sink = true ∧ n = 0 ∨ C w') ∧ wpE P l Q C sink E B n (k :: done) (a.put o.dst v) w') (NoPanic Q) else wpE P l Q C sink E B n (k :: done) (a.put o.dst undef) w
def StepQ (P : Program) (l : List Oper) (Q : Exit → Act → World → Prop) (F FO : List (Nat × Value)) (C : World → Prop) (k : Nat) (o : Oper) : Prop :=
  ∀ (a : Act) (w : World), C w → (∀ p ∈ F, a.tmps[p.1]? = some p.2) → (∀ p ∈ FO, a.tmps[p.1]? = some p.2) →
    if Region.wanted o (yielded l.toArray a.tmps) then o.wp P a w (fun a' w' => ∃ v, a' = a.put o.dst v ∧ den l F [] k v w' ∧ w' = w) (NoPanic Q) else den l F [] k undef w
def pathB (ops : Array Oper) : List Nat → Bool
  | [] => false
  | [_] => true
  | x :: y :: p => Region.waitsFor .any ops x y && pathB ops (y :: p)
def regCB (l : List Oper) (n : Nat) (m : List Bool) (ts os E : List Nat) (B : List (List Nat)) (sink : Bool) : Bool :=
  acyB l.toArray && dstB l.toArray n && nodupB ts && readsB l.toArray (l.filterMap (·.dst)) && noSelB l && (ts.all fun t => Nat.blt t n && m.getD t false && isDst l t) && (os.all fun t => notDst l t && !memB t ts) &&
  nodupB E && (E.all fun k => Nat.blt k l.length) && (B.all fun p => Nat.blt 1 p.length && pathB l.toArray p && memB (p.getLastD 0) E) && ((List.range l.length).all fun k => memB k E || (match (l[k]?).bind (·.dst) with
    | some t => memB t ts
    | none => false)) && (E.all fun k => match (l[k]?).bind (·.dst) with
    | some t => !memB t ts
    | none => true) && (m.zipIdx.all fun x => !x.1 || memB x.2 ts) &&
  (!sink || match E.getLast? with
    | none => false
    | some z => (List.range l.length).all fun k => Nat.beq k z || Region.waitsFor .any l.toArray z k || (List.range l.length).any fun j => Region.waitsFor .any l.toArray z j && Region.waitsFor .any l.toArray j k)
section
variable {P : Program} {l : List Oper} {Q : Exit → Act → World → Prop} {C : World → Prop} {sink : Bool} {E : List Nat} {B : List (List Nat)}
theorem path_listed {listed : Array Bool} (H : ClosedR l.toArray listed) : ∀ {p : List Nat} {x : Nat}, pathB l.toArray (x :: p) = true → (∀ ox, l[x]? = some ox → ∀ e ∈ ox.after, Region.binds .any e = true → listed.getD e.on false = true) → p ≠ [] → listed.getD ((x :: p).getLastD 0) false = true
  | [], _, _, _, h => absurd rfl h
  | y :: p, x, hp, hx, _ => by
    unfold pathB at hp
    rw [Bool.and_eq_true] at hp
    obtain ⟨ox, hox, e, he, hb, hon⟩ := Region.waitsFor_spec hp.1
    have hy := hx ox (by simpa using hox) e he hb
    rw [hon] at hy
    cases p with
    | nil => simpa using hy
    | cons z p =>
      have := path_listed H (p := z :: p) (x := y) hp.2 (fun oy hoy e he hb => H.closed y oy (by simpa using hoy) hy e he hb) (by simp)
      simpa using this
structure InvC (P : Program) (l : List Oper) (Q : Exit → Act → World → Prop) (C : World → Prop) (sink : Bool) (E : List Nat) (B : List (List Nat)) (F FO : List (Nat × Value)) (listed : Array Bool) (a : Act) (w : World) (n : Nat) (done : List Nat) (b : Act) : Prop where
  sz : listed.size = l.length
  cl : ClosedR l.toArray listed
  dn : ∀ k, k ∈ done ↔ k ∈ E ∧ listed.getD k false = true
  nd : done.Nodup
  ln : n + done.length = E.length
  wp : wpE P l Q C sink E B n done b w
  df : b.defers = a.defers
  tz : b.tmps.size = a.tmps.size
  old : ∀ t, (∀ (i : Nat) (o : Oper), l[i]? = some o → o.dst ≠ some t) → b.tmps[t]? = a.tmps[t]?
  row : ∀ i o t, l[i]? = some o → o.dst = some t → listed.getD i false = true → b.tmps[t]? = a.tmps[t]?
  ff : ∀ p ∈ F, b.tmps[p.1]? = some p.2
  fo : ∀ p ∈ FO, b.tmps[p.1]? = some p.2
  c : C w ∨ ∀ k, k < l.length → listed.getD k false = true
theorem put_other {a : Act} {d : Option Tmp} {v : Value} {t : Nat} (h : ∀ x, d = some x → x ≠ t) : (a.put d v).tmps[t]? = a.tmps[t]? := by
  cases d with
  | none => rfl
  | some x => simp [Act.put, Array.getElem?_setIfInBounds, h x rfl]
theorem put_own {a : Act} {t : Nat} {v : Value} (h : t < a.tmps.size) : (a.put (some t) v).tmps[t]? = some v := by simp [Act.put, h]
theorem put_df (a : Act) (d : Option Tmp) (v : Value) : (a.put d v).defers = a.defers := by cases d <;> rfl
structure CkC (l : List Oper) (N : Nat) (F FO : List (Nat × Value)) (E : List Nat) (B : List (List Nat)) (sink : Bool) : Prop where
  acy : acyB l.toArray = true
  dst : dstB l.toArray N = true
  nd : nodupB (F.map (·.1)) = true
  rd : readsB l.toArray (l.filterMap (·.dst)) = true
  ns : noSelB l = true
  fin : ∀ p ∈ F, p.1 < N
  fo : ∀ p ∈ FO, notDst l p.1 = true
  en : E.Nodup
  el : ∀ k ∈ E, k < l.length
  bp : ∀ p ∈ B, 1 < p.length ∧ pathB l.toArray p = true ∧ p.getLastD 0 ∈ E
  qd : ∀ k, k < l.length → k ∉ E → ∃ t, (l[k]?).bind (·.dst) = some t ∧ t ∈ F.map (·.1)
  ed : ∀ k ∈ E, ∀ t, (l[k]?).bind (·.dst) = some t → t ∉ F.map (·.1)
  sk : sink = true → ∃ z ∈ E, ∀ k, k < l.length → k ≠ z → Region.waitsFor .any l.toArray z k = true ∨ ∃ j, Region.waitsFor .any l.toArray z j = true ∧ Region.waitsFor .any l.toArray j k = true
theorem wpAny_chain {F FO : List (Nat × Value)} {N : Nat} (K : CkC l N F FO E B sink) (hq : ∀ k o, k ∉ E → l[k]? = some o → StepQ P l Q F FO C k o) :
    ∀ (fuel : Nat) (listed : Array Bool) (a : Act) (w : World) (n : Nat) (done : List Nat) (b : Act), a.tmps.size = N → unl l.toArray listed ≤ fuel → InvC P l Q C sink E B F FO listed a w n done b → wpAny P .any l.toArray Q fuel listed a w := by
  have fin : ∀ (listed : Array Bool) (a : Act) (w : World) (n : Nat) (done : List Nat) (b : Act), InvC P l Q C sink E B F FO listed a w n done b → (∀ i, i < l.toArray.size → listed.getD i false = true) → Q .normal a w := fun listed a w n done b H h => by
    have hall : ∀ i, i < l.length → listed.getD i false = true := fun i hi => h i (by simpa using hi)
    have hsub : E.length ≤ done.length := K.en.length_le_of_subset fun k hk => (H.dn k).2 ⟨hk, hall k (K.el k hk)⟩
    have hn : n = 0 := by have := H.ln; omega
    have hw := H.wp
    rw [hn] at hw
    have hab : a = b := by
      obtain ⟨ta, da⟩ := a
      obtain ⟨tb, db⟩ := b
      have h1 := H.df
      have h2 := H.tz
      dsimp only at h1 h2
      subst h1
      congr 1
      refine (Array.ext_getElem? fun t => ?_).symm
      by_cases ht : ∃ (i : Nat) (o : Oper), l[i]? = some o ∧ o.dst = some t
      · obtain ⟨i, o, ho, hd⟩ := ht
        exact H.row i o t ho hd (hall i (List.getElem?_eq_some_iff.1 ho).1)
      · exact H.old t fun i o ho hd => ht ⟨i, o, ho, hd⟩
    rw [hab]
    exact hw
  intro fuel
  induction fuel with
  | zero =>
    intro listed a w n done b hN hu H
    have hall := unl_zero (by simpa using H.sz) (Nat.le_zero.1 hu)
    refine ⟨?_, fin listed a w n done b H hall⟩
    cases hr : Region.ready .any l.toArray listed with
    | nil => rfl
    | cons x xs =>
      have hx : x ∈ Region.ready .any l.toArray listed := by rw [hr]; simp
      obtain ⟨h1, o, ho, _⟩ := mem_ready.1 hx
      have hlt := (Array.getElem?_eq_some_iff.1 ho).1
      have := hall x hlt
      have hx' : x < listed.size := by rw [H.sz]; simpa using hlt
      simp [hx'] at h1 this
      rw [h1] at this; cases this
  | succ fuel ih =>
    intro listed a w n done b hN hu H
    refine ⟨fun hr => fin listed a w n done b H (all_listed (by simpa using H.sz) K.acy hr), fun i hi => ?_⟩
    obtain ⟨hun, o, ho, hdep⟩ := mem_ready.1 hi
    have hlt := (Array.getElem?_eq_some_iff.1 ho).1
    have hol : l[i]? = some o := by simpa using ho
    have hi' : i < listed.size := by rw [H.sz]; simpa using hlt
    have hli : listed.getD i false = false := by simpa [hi'] using hun
    have hu' : unl l.toArray (listed.setIfInBounds i true) ≤ fuel := by
      have hli' : listed[i] = false := by simpa [hi'] using hun
      have := countP_lt (p := fun k => !listed.getD k true) (q := fun k => !(listed.setIfInBounds i true).getD k true) (fun x hx => by
        by_cases hxi : x = i
        · subst hxi; simp [hi'] at hx
        · by_cases hxs : x < listed.size
          · simp [hxs, Array.getElem_setIfInBounds, Ne.symm hxi] at hx ⊢; exact hx
          · simp [hxs] at hx) (i := i) (by simp [hi', hli']) (by simp [hi']) (List.mem_range.2 hlt)
      unfold unl at hu ⊢
      omega
    have hset : ∀ j, j ≠ i → (listed.setIfInBounds i true).getD j false = listed.getD j false := fun j hj => getD_set_ne false (Ne.symm hj)
    have hseti : (listed.setIfInBounds i true).getD i false = true := by simp [hi']
    have hmem : o ∈ l := List.mem_of_getElem? hol
    have hsel : ∀ cs x, o.op ≠ .select cs x := fun cs x e => by
      have := List.all_eq_true.1 K.ns o hmem
      rw [e] at this; cases this
    have hsame : ∀ d ∈ o.looksAt l.toArray, b.tmps[d]? = a.tmps[d]? := fun d hd' => by
      by_cases ht : ∃ (j : Nat) (oj : Oper), l[j]? = some oj ∧ oj.dst = some d
      · obtain ⟨j, oj, hoj, hjd⟩ := ht
        have h1 := List.all_eq_true.1 (List.all_eq_true.1 K.rd o (by simpa using hmem)) d hd'
        have h2 : memB d (l.filterMap (·.dst)) = true := memB_iff.2 (List.mem_filterMap.2 ⟨oj, List.mem_of_getElem? hoj, hjd⟩)
        rw [h2] at h1
        simp only [Bool.not_true, Bool.false_or] at h1
        obtain ⟨e, he, hed⟩ := List.mem_filterMap.1 (memB_iff.1 h1)
        split at hed
        · rename_i hb
          obtain ⟨ok, hok, hkd⟩ := Option.bind_eq_some_iff.1 hed
          exact H.row e.on ok d (by simpa using hok) hkd (hdep e (by simpa using he) hb)
        · cases hed
      · exact H.old d fun j oj hoj hjd => ht ⟨j, oj, hoj, hjd⟩
    have hwant := wanted_congr hsame
    have hex := exec_congr hsel hsame
    have hN' : ∀ v, (a.put o.dst v).tmps.size = N := fun v => by rw [put_size]; exact hN
    have hbN : b.tmps.size = N := by rw [H.tz, hN]
    have dne : ∀ j oj t, l[j]? = some oj → oj.dst = some t → j ≠ i → ∀ x, o.dst = some x → x ≠ t := fun j oj t hoj hjt hji x hx e => by
      subst e
      exact hji (dstB_ne K.dst (by simpa using hoj) ho hjt hx)
    unfold wpOp
    simp only [ho]
    by_cases hE : i ∈ E
    · have hid : i ∉ done := fun h => by have := ((H.dn i).1 h).2; rw [hli] at this; cases this
      have hdl : done.length < E.length := by
        have : (i :: done).length ≤ E.length := (List.nodup_cons.2 ⟨hid, H.nd⟩).length_le_of_subset fun k hk => by
          rcases List.mem_cons.1 hk with rfl | hk
          · exact hE
          · exact ((H.dn k).1 hk).1
        simp only [List.length_cons] at this
        omega
      obtain ⟨n, rfl⟩ : ∃ m, n = m + 1 := ⟨n - 1, by have := H.ln; omega⟩
      have hnext : i ∈ nextE E B done := by
        refine List.mem_filter.2 ⟨hE, ?_⟩
        rw [Bool.and_eq_true]
        refine ⟨by
          cases hm : memB i done with
          | false => rfl
          | true => exact absurd (memB_iff.1 hm) hid, List.all_eq_true.2 fun p hp => ?_⟩
        obtain ⟨h1, h2, h3⟩ := K.bp p hp
        rw [Bool.or_eq_true]
        cases p with
        | nil => simp at h1
        | cons x p =>
          by_cases hx : x = i
          · right
            subst hx
            have hp0 : p ≠ [] := by intro e; subst e; simp at h1
            have := path_listed H.cl h2 (fun ox hox e he hb => by
              have : ox = o := Option.some.inj (hox.symm.trans hol)
              subst this
              exact hdep e he hb) hp0
            exact memB_iff.2 ((H.dn _).2 ⟨h3, this⟩)
          · left
            have : Nat.beq x i = false := by
              cases hb : Nat.beq x i with
              | false => rfl
              | true => exact absurd (Nat.eq_of_beq_eq_true hb) hx
            simp [this]
      have hw := H.wp i hnext o hol
      have hdn : ∀ k, k ∈ i :: done ↔ k ∈ E ∧ (listed.setIfInBounds i true).getD k false = true := fun k => by
        by_cases hk : k = i
        · subst hk; simp [hE, hi']
        · rw [hset k hk, ← H.dn k, List.mem_cons]
          exact ⟨fun h => h.resolve_left hk, .inr⟩
      have next : ∀ v w', (sink = true ∧ n = 0 ∨ C w') → wpE P l Q C sink E B n (i :: done) (b.put o.dst v) w' → InvC P l Q C sink E B F FO (listed.setIfInBounds i true) (a.put o.dst v) w' n (i :: done) (b.put o.dst v) := fun v w' hc hwp' => by
        refine ⟨by simpa using H.sz, H.cl.set hi, hdn, List.nodup_cons.2 ⟨hid, H.nd⟩, by have := H.ln; simp only [List.length_cons]; omega, hwp', by rw [put_df, put_df, H.df], by rw [put_size, put_size, H.tz], fun t ht => ?_, fun j oj t hoj hjt hjl => ?_, fun p hp => ?_, fun p hp => ?_, ?_⟩
        · rw [put_other fun x hx e => ht i o hol (by rw [hx, e]), put_other fun x hx e => ht i o hol (by rw [hx, e])]
          exact H.old t ht
        · by_cases hji : j = i
          · subst hji
            have : oj = o := Option.some.inj (hoj.symm.trans hol)
            subst this
            have htl := dstB_lt K.dst ho hjt
            rw [hjt, put_own (by omega), put_own (by omega)]
          · rw [put_other (dne j oj t hoj hjt hji), put_other (dne j oj t hoj hjt hji)]
            rw [hset j hji] at hjl
            exact H.row j oj t hoj hjt hjl
        · rw [put_other fun x hx e => K.ed i hE x (by rw [hol]; exact hx) (by rw [e]; exact List.mem_map_of_mem hp)]
          exact H.ff p hp
        · rw [put_other fun x hx e => ?_]
          · exact H.fo p hp
          · have h1 := K.fo p hp
            have := List.all_eq_true.1 h1 o hmem
            rw [hx, e] at this
            simp at this
        · rcases hc with ⟨hs, hn⟩ | hc
          · right
            intro k hk
            obtain ⟨z, hz, hzw⟩ := K.sk hs
            have hzl : (listed.setIfInBounds i true).getD z false = true := by
              have hfull : z ∈ i :: done := by
                have hlen : (i :: done).length = E.length := by have := H.ln; simp only [List.length_cons]; omega
                by_cases hzd : z ∈ i :: done
                · exact hzd
                · exfalso
                  have : (z :: i :: done).length ≤ E.length := (List.nodup_cons.2 ⟨hzd, List.nodup_cons.2 ⟨hid, H.nd⟩⟩).length_le_of_subset fun k hk => by
                    rcases List.mem_cons.1 hk with rfl | hk
                    · exact hz
                    · rcases List.mem_cons.1 hk with rfl | hk
                      · exact hE
                      · exact ((H.dn k).1 hk).1
                  simp only [List.length_cons] at this hlen
                  omega
              exact ((hdn z).1 hfull).2
            by_cases hkz : k = z
            · rw [hkz]; exact hzl
            · have step : ∀ x y, (listed.setIfInBounds i true).getD x false = true → Region.waitsFor .any l.toArray x y = true → (listed.setIfInBounds i true).getD y false = true := fun x y hx hxy => by
                obtain ⟨oz, hoz, e, he, hb, hon⟩ := Region.waitsFor_spec hxy
                have := (H.cl.set hi).closed x oz hoz hx e he hb
                rwa [hon] at this
              rcases hzw k hk hkz with h | ⟨j, h1, h2⟩
              · exact step z k hzl h
              · exact step j k (step z j hzl h1) h2
          · exact .inl hc
      split
      · rename_i hwa
        rw [hwant, if_pos hwa] at hw
        refine .inl (Oper.wp_mono (fun a' w' h => ?_) (show o.wp P a w (fun a' w' => ∃ v, a' = a.put o.dst v ∧ ((sink = true ∧ n = 0 ∨ C w') ∧ wpE P l Q C sink E B n (i :: done) (b.put o.dst v) w')) Q from ?_))
        · obtain ⟨v, rfl, h1, h2⟩ := h
          exact ih _ _ _ _ _ _ (hN' v) hu' (next v w' h1 h2)
        · unfold Oper.wp at hw ⊢
          rw [hex] at hw
          have hs' : ∀ t, o.dst = some t → t < b.tmps.size := fun t ht => by rw [hbN]; exact dstB_lt K.dst ho ht
          exact upon_fill hs' _ hw
      · rename_i hwa
        rw [hwant, if_neg hwa] at hw
        have hc : C w := H.c.resolve_right fun h => by have := h i (by simpa using hlt); rw [hli] at this; cases this
        exact ih _ _ _ _ _ _ (hN' _) hu' (next undef w (.inr hc) hw)
    · have hc : C w := H.c.resolve_right fun h => by have := h i (by simpa using hlt); rw [hli] at this; cases this
      obtain ⟨t, hbt, htF⟩ := K.qd i (by simpa using hlt) hE
      have hdt : o.dst = some t := by rw [hol] at hbt; exact hbt
      obtain ⟨p, hp, hpt⟩ := List.mem_map.1 htF
      have hlk : lkF F t = some p.2 := by rw [← hpt]; exact lkF_mem (nodupB_spec K.nd) p hp
      have hbt2 : b.tmps[t]? = some p.2 := by rw [← hpt]; exact H.ff p hp
      have den_is : ∀ v w', den l F [] i v w' → v = p.2 := fun v w' h => by
        unfold den at h
        rw [hbt] at h
        simp only [hlk] at h
        exact h
      have hs := hq i o hE hol b w hc H.ff H.fo
      have next : InvC P l Q C sink E B F FO (listed.setIfInBounds i true) (a.put o.dst p.2) w n done b := by
        refine ⟨by simpa using H.sz, H.cl.set hi, fun k => ?_, H.nd, H.ln, H.wp, by rw [put_df, H.df], by rw [put_size, H.tz], fun u hu => ?_, fun j oj u hoj hju hjl => ?_, H.ff, H.fo, .inl hc⟩
        · by_cases hk : k = i
          · subst hk
            exact ⟨fun h => absurd ((H.dn k).1 h).1 hE, fun h => absurd h.1 hE⟩
          · rw [hset k hk]; exact H.dn k
        · rw [put_other fun x hx e => hu i o hol (by rw [hx, e])]
          exact H.old u hu
        · by_cases hji : j = i
          · subst hji
            have : oj = o := Option.some.inj (hoj.symm.trans hol)
            subst this
            rw [hdt] at hju
            cases hju
            have htl := dstB_lt K.dst ho hdt
            rw [hdt, put_own (by omega)]
            exact hbt2
          · rw [put_other (dne j oj u hoj hju hji)]
            rw [hset j hji] at hjl
            exact H.row j oj u hoj hju hjl
      split
      · rename_i hwa
        rw [hwant, if_pos hwa] at hs
        refine .inl (Oper.wp_mono (fun a' w' h => ?_) (show o.wp P a w (fun a' w' => ∃ v, a' = a.put o.dst v ∧ (den l F [] i v w' ∧ w' = w)) Q from ?_))
        · obtain ⟨v, rfl, h1, rfl⟩ := h
          rw [den_is v _ h1]
          exact ih _ _ _ _ _ _ (hN' _) hu' next
        · unfold Oper.wp at hs ⊢
          rw [hex] at hs
          have hs' : ∀ t, o.dst = some t → t < b.tmps.size := fun t ht => by rw [hbN]; exact dstB_lt K.dst ho ht
          exact upon_fill hs' _ hs
      · rename_i hwa
        rw [hwant, if_neg hwa] at hs
        have := den_is _ _ hs
        rw [this]
        exact ih _ _ _ _ _ _ (hN' _) hu' next
theorem CkC.of {m : List Bool} {n : Nat} {F FO : List (Nat × Value)} (h : regCB l n m (F.map (·.1)) (FO.map (·.1)) E B sink = true) : CkC l n F FO E B sink := by
  unfold regCB at h
  simp only [Bool.and_eq_true] at h
  obtain ⟨⟨⟨⟨⟨⟨⟨⟨⟨⟨⟨⟨⟨b1, b2⟩, b3⟩, b4⟩, b5⟩, b6⟩, b7⟩, b8⟩, b9⟩, b10⟩, b11⟩, b12⟩, b13⟩, b14⟩ := h
  refine ⟨b1, b2, b3, b4, b5, fun p hp => ?_, fun p hp => ?_, nodupB_spec b8, fun k hk => ?_, fun p hp => ?_, fun k hk hE => ?_, fun k hk t ht hm => ?_, fun hs => ?_⟩
  · have := List.all_eq_true.1 b6 p.1 (List.mem_map_of_mem hp)
    rw [Bool.and_eq_true, Bool.and_eq_true, Nat.blt_eq] at this
    exact this.1.1
  · have := List.all_eq_true.1 b7 p.1 (List.mem_map_of_mem hp)
    rw [Bool.and_eq_true] at this
    exact this.1
  · have := List.all_eq_true.1 b9 k hk
    rwa [Nat.blt_eq] at this
  · have := List.all_eq_true.1 b10 p hp
    rw [Bool.and_eq_true, Bool.and_eq_true, Nat.blt_eq] at this
    exact ⟨this.1.1, this.1.2, memB_iff.1 this.2⟩
  · have := List.all_eq_true.1 b11 k (List.mem_range.2 hk)
    rw [Bool.or_eq_true] at this
    rcases this with h | h
    · exact absurd (memB_iff.1 h) hE
    · split at h
      · rename_i t ht
        exact ⟨t, ht, memB_iff.1 h⟩
      · cases h
  · have := List.all_eq_true.1 b12 k hk
    rw [ht] at this
    have h2 := memB_iff.2 hm
    simp [h2] at this
  · rw [hs] at b14
    simp only [Bool.not_true, Bool.false_or] at b14
    split at b14
    · cases b14
    · rename_i z hz
      refine ⟨z, List.mem_of_getLast? hz, fun k hk hne => ?_⟩
      have := List.all_eq_true.1 b14 k (List.mem_range.2 hk)
      rw [Bool.or_eq_true, Bool.or_eq_true] at this
      rcases this with (h | h) | h
      · exact absurd (Nat.eq_of_beq_eq_true h) hne
      · exact .inl h
      · obtain ⟨j, _, hj⟩ := List.any_eq_true.1 h
        rw [Bool.and_eq_true] at hj
        exact .inr ⟨j, hj⟩
theorem fillA_lit {F : List (Nat × Value)} {m : List Bool} {L : List Value} {d : List Deferred} (h1 : ∀ p ∈ F, p.1 < L.length ∧ m.getD p.1 false = true) (h2 : ∀ t, m.getD t false = true → t ∈ F.map (·.1)) : fillA F ⟨L.toArray, d⟩ = ⟨(merge (fun t => (lkF F t).getD undef) m 0 L).toArray, d⟩ := by
  unfold fillA
  congr 1
  refine Array.ext_getElem? fun t => ?_
  rw [Array.getElem?_mapIdx]
  by_cases ht : t < L.length
  · have hm := merge_get (fun t => (lkF F t).getD undef) m 0 L t ht
    rw [show (merge (fun t => (lkF F t).getD undef) m 0 L).toArray[t]? = (merge (fun t => (lkF F t).getD undef) m 0 L)[t]? by simp, hm]
    by_cases hmt : m[t]? = some true
    · rw [if_pos hmt]
      have hg : m.getD t false = true := by rw [List.getD_eq_getElem?_getD, hmt]; rfl
      obtain ⟨p, hp, hpt⟩ := List.mem_map.1 (h2 t hg)
      simp only [Nat.zero_add]
      cases hl : lkF F t with
      | none =>
        exfalso
        have : ∀ {F : List (Nat × Value)}, p ∈ F → lkF F t ≠ none := fun {F} => by
          induction F with
          | nil => intro h; cases h
          | cons q F ih =>
            intro h
            unfold lkF
            split
            · simp
            · rename_i hq
              rcases List.mem_cons.1 h with rfl | h
              · exact absurd (by rw [hpt]; simp) hq
              · exact ih h
        exact this hp hl
      | some u => simp [ht]
    · rw [if_neg hmt]
      have hl : lkF F t = none := by
        cases hl : lkF F t with
        | none => rfl
        | some u =>
          exfalso
          have := (h1 _ (lkF_in hl)).2
          rw [List.getD_eq_getElem?_getD] at this
          cases hg : m[t]? with
          | none => rw [hg] at this; cases this
          | some b => rw [hg] at this hmt; cases b <;> simp_all
      rw [hl]
      simp
  · rw [show L.toArray[t]? = none by simpa using ht, show (merge (fun t => (lkF F t).getD undef) m 0 L).toArray[t]? = none by simpa [merge_len] using ht]
    rfl
theorem wp_region_chain {id : Nat} {L : List Value} {d : List Deferred} {w : World} (F FO : List (Nat × Value)) (C : World → Prop) (E : List Nat) (B : List (List Nat)) (sink : Bool) (m : List Bool) (hm : P.follows .mixedOrders = true)
    (hB : regCB l L.length m (F.map (·.1)) (FO.map (·.1)) E B sink = true) (hFO : ∀ p ∈ FO, L[p.1]? = some p.2) (hC : C w.drew)
    (hq : AllFrom (fun k o => memB k E = true ∨ StepQ P l Q F FO C k o) 0 l)
    (hwp : ∀ us : Nat → Value, (∀ p ∈ F, us p.1 = p.2) → wpE P l Q C sink E B E.length [] ⟨(merge us m 0 L).toArray, d⟩ w.drew) : (Code.region id l.toArray true).wp P Q ⟨L.toArray, d⟩ w := by
  have K := CkC.of hB
  have hB2 := hB
  unfold regCB at hB2
  simp only [Bool.and_eq_true] at hB2
  obtain ⟨⟨⟨⟨⟨⟨⟨⟨⟨⟨⟨⟨⟨b1, b2⟩, b3⟩, b4⟩, b5⟩, b6⟩, b7⟩, b8⟩, b9⟩, b10⟩, b11⟩, b12⟩, b13⟩, b14⟩ := hB2
  have hnd := nodupB_spec b3
  have hmF : ∀ p ∈ F, p.1 < L.length ∧ m.getD p.1 false = true := fun p hp => by
    have := List.all_eq_true.1 b6 p.1 (List.mem_map_of_mem hp)
    rw [Bool.and_eq_true, Bool.and_eq_true, Nat.blt_eq] at this
    exact this.1
  have hFm : ∀ t, m.getD t false = true → t ∈ F.map (·.1) := fun t ht => by
    rw [List.getD_eq_getElem?_getD] at ht
    cases hg : m[t]? with
    | none => rw [hg] at ht; cases ht
    | some x =>
      rw [hg] at ht
      have hx : x = true := by simpa using ht
      subst hx
      have h1 := List.all_eq_true.1 b13 (true, t) (List.mem_zipIdx_iff_getElem?.2 hg)
      simp only [Bool.not_true, Bool.false_or] at h1
      exact memB_iff.1 h1
  refine wp_region_any hm ?_
  refine wpAny_chain (F := F) (FO := FO) (N := L.length) K (fun k o hk ho => ?_) l.toArray.size _ _ _ E.length [] (fillA F ⟨L.toArray, d⟩) (by simp) ?_ ⟨by simp, ⟨fun j oj _ hl => by rw [getD_replicate_false] at hl; cases hl⟩, fun k => ?_, List.nodup_nil, by simp, ?_, rfl, ?_, fun t ht => ?_, fun i o t _ _ hl => ?_, fun p hp => ?_, fun p hp => ?_, .inl hC⟩
  · have := hq.get k o ho
    rw [Nat.zero_add] at this
    exact this.resolve_left fun h => hk (memB_iff.1 h)
  · unfold unl
    have := List.countP_le_length (p := fun i => !(Array.replicate l.toArray.size false).getD i true) (l := List.range l.toArray.size)
    simpa using this
  · rw [getD_replicate_false]
    exact ⟨fun h => (by cases h), fun h => by cases h.2⟩
  · rw [fillA_lit hmF hFm]
    exact hwp _ fun p hp => by rw [lkF_mem hnd p hp]; rfl
  · unfold fillA; simp
  · rw [fillA_get]
    have : lkF F t = none := by
      cases hl : lkF F t with
      | none => rfl
      | some u =>
        exfalso
        have hmem : t ∈ F.map (·.1) := List.mem_map.2 ⟨_, lkF_in hl, rfl⟩
        have h6 := List.all_eq_true.1 b6 t hmem
        rw [Bool.and_eq_true] at h6
        obtain ⟨o, hom, hot⟩ := List.any_eq_true.1 h6.2
        obtain ⟨k, hk⟩ := List.mem_iff_getElem?.1 hom
        refine ht k o hk ?_
        cases hdo : o.dst with
        | none => rw [hdo] at hot; cases hot
        | some u =>
          rw [hdo] at hot
          have : u = t := by simpa using hot
          rw [this]
    rw [this]
    simp
  · rw [getD_replicate_false] at hl; cases hl
  · rw [fillA_get, lkF_mem hnd p hp]
    simp [(hmF p hp).1]
  · rw [fillA_get]
    have h7 := List.all_eq_true.1 b7 p.1 (List.mem_map_of_mem hp)
    rw [Bool.and_eq_true] at h7
    have : lkF F p.1 = none := by
      cases hl : lkF F p.1 with
      | none => rfl
      | some u =>
        have h2 : memB p.1 (F.map (·.1)) = true := memB_iff.2 (List.mem_map.2 ⟨_, lkF_in hl, rfl⟩)
        have h3 := h7.2
        rw [h2] at h3
        cases h3
    rw [this]
    have := hFO p hp
    simpa using this
theorem wpE_one {n : Nat} {done : List Nat} {a : Act} {w : World} (k : Nat) (o : Oper) (hn : nextE E B done = [k]) (ho : l[k]? = some o) (hg : o.guard = none)
    (h : o.wp P a w (fun a' w' => ∃ v, a' = a.put o.dst v ∧ (sink = true ∧ n = 0 ∨ C w') ∧ wpE P l Q C sink E B n (k :: done) (a.put o.dst v) w') (NoPanic Q)) : wpE P l Q C sink E B (n + 1) done a w := by
  intro j hj o' ho'
  rw [hn, List.mem_singleton] at hj
  subst hj
  obtain rfl := Option.some.inj (ho'.symm.trans ho)
  rw [if_pos (wanted_none hg)]
  exact h
theorem wpE_more {n : Nat} {done : List Nat} {a : Act} {w : World} (ks : List Nat) (hn : nextE E B done = ks)
    (h : ∀ k ∈ ks, ∃ o, l[k]? = some o ∧ o.guard = none ∧ o.wp P a w (fun a' w' => ∃ v, a' = a.put o.dst v ∧ (sink = true ∧ n = 0 ∨ C w') ∧ wpE P l Q C sink E B n (k :: done) (a.put o.dst v) w') (NoPanic Q)) : wpE P l Q C sink E B (n + 1) done a w := by
  intro j hj o' ho'
  rw [hn] at hj
  obtain ⟨o, h1, h2, h3⟩ := h j hj
  obtain rfl := Option.some.inj (ho'.symm.trans h1)
  rw [if_pos (wanted_none h2)]
  exact h3
theorem wpE_end {done : List Nat} {a : Act} {w : World} (h : Q .normal a w) : wpE P l Q C sink E B 0 done a w := h
theorem pure_q {F : List (Nat × Value)} {k : Nat} {o : Oper} {a : Act} {w : World} (v : Value) (hR : den l F [] k v w) (h : o.wp P a w (fun a' w' => a' = a.put o.dst v ∧ w' = w) (NoPanic Q)) : o.wp P a w (fun a' w' => ∃ v, a' = a.put o.dst v ∧ den l F [] k v w' ∧ w' = w) (NoPanic Q) :=
  Oper.wp_mono (fun a' w' ⟨h1, h2⟩ => by subst h2; exact ⟨v, h1, hR, rfl⟩) h
end
def kn (F : List (Nat × Value)) (d : Option Tmp) (v : Value) : Prop := ∀ t, d = some t → ∀ u, lkF F t = some u → v = u
def wpK (P : Program) (l : List Oper) (Q : Exit → Act → World → Prop) (C : World → Prop) (F : List (Nat × Value)) (sink : Bool) (E : List Nat) (B : List (List Nat)) : Nat → List Nat → Act → World → Prop
  | 0, _, a, w => Q .normal a w
  | n + 1, done, a, w => ∀ k ∈ nextE E B done, ∀ o, l[k]? = some o →
      if Region.wanted o (yielded l.toArray a.tmps) then o.wp P a w (fun a' w' => ∃ v, a' = a.put o.dst v ∧ (sink = true ∧ n = 0 ∨ C w') ∧ kn F o.dst v ∧ wpK P l Q C F sink E B n (k :: done) (a.put o.dst v) w') (NoPanic Q) else kn F o.dst undef ∧ wpK P l Q C F sink E B n (k :: done) (a.put o.dst undef) w
def regKB (l : List Oper) (n : Nat) (m : List Bool) (ts os E : List Nat) (B : List (List Nat)) (sink : Bool) : Bool :=
  acyB l.toArray && dstB l.toArray n && nodupB ts && readsB l.toArray (l.filterMap (·.dst)) && noSelB l && (ts.all fun t => Nat.blt t n && m.getD t false && isDst l t) && (os.all fun t => notDst l t && !memB t ts) &&
  nodupB E && (E.all fun k => Nat.blt k l.length) && (B.all fun p => Nat.blt 1 p.length && pathB l.toArray p && memB (p.getLastD 0) E) && ((List.range l.length).all fun k => memB k E || (match (l[k]?).bind (·.dst) with
    | some t => memB t ts
    | none => false)) && true && (m.zipIdx.all fun x => !x.1 || memB x.2 ts) &&
  (!sink || match E.getLast? with
    | none => false
    | some z => (List.range l.length).all fun k => Nat.beq k z || Region.waitsFor .any l.toArray z k || (List.range l.length).any fun j => Region.waitsFor .any l.toArray z j && Region.waitsFor .any l.toArray j k)
section
variable {P : Program} {l : List Oper} {Q : Exit → Act → World → Prop} {C : World → Prop} {sink : Bool} {E : List Nat} {B : List (List Nat)}
structure InvK (P : Program) (l : List Oper) (Q : Exit → Act → World → Prop) (C : World → Prop) (sink : Bool) (E : List Nat) (B : List (List Nat)) (F FO : List (Nat × Value)) (listed : Array Bool) (a : Act) (w : World) (n : Nat) (done : List Nat) (b : Act) : Prop where
  sz : listed.size = l.length
  cl : ClosedR l.toArray listed
  dn : ∀ k, k ∈ done ↔ k ∈ E ∧ listed.getD k false = true
  nd : done.Nodup
  ln : n + done.length = E.length
  wp : wpK P l Q C F sink E B n done b w
  df : b.defers = a.defers
  tz : b.tmps.size = a.tmps.size
  old : ∀ t, (∀ (i : Nat) (o : Oper), l[i]? = some o → o.dst ≠ some t) → b.tmps[t]? = a.tmps[t]?
  row : ∀ i o t, l[i]? = some o → o.dst = some t → listed.getD i false = true → b.tmps[t]? = a.tmps[t]?
  ff : ∀ p ∈ F, b.tmps[p.1]? = some p.2
  fo : ∀ p ∈ FO, b.tmps[p.1]? = some p.2
  c : C w ∨ ∀ k, k < l.length → listed.getD k false = true
structure CkK (l : List Oper) (N : Nat) (F FO : List (Nat × Value)) (E : List Nat) (B : List (List Nat)) (sink : Bool) : Prop where
  acy : acyB l.toArray = true
  dst : dstB l.toArray N = true
  nd : nodupB (F.map (·.1)) = true
  rd : readsB l.toArray (l.filterMap (·.dst)) = true
  ns : noSelB l = true
  fin : ∀ p ∈ F, p.1 < N
  fo : ∀ p ∈ FO, notDst l p.1 = true
  en : E.Nodup
  el : ∀ k ∈ E, k < l.length
  bp : ∀ p ∈ B, 1 < p.length ∧ pathB l.toArray p = true ∧ p.getLastD 0 ∈ E
  qd : ∀ k, k < l.length → k ∉ E → ∃ t, (l[k]?).bind (·.dst) = some t ∧ t ∈ F.map (·.1)
  sk : sink = true → ∃ z ∈ E, ∀ k, k < l.length → k ≠ z → Region.waitsFor .any l.toArray z k = true ∨ ∃ j, Region.waitsFor .any l.toArray z j = true ∧ Region.waitsFor .any l.toArray j k = true
theorem wpAny_chainK {F FO : List (Nat × Value)} {N : Nat} (K : CkK l N F FO E B sink) (hq : ∀ k o, k ∉ E → l[k]? = some o → StepQ P l Q F FO C k o) :
    ∀ (fuel : Nat) (listed : Array Bool) (a : Act) (w : World) (n : Nat) (done : List Nat) (b : Act), a.tmps.size = N → unl l.toArray listed ≤ fuel → InvK P l Q C sink E B F FO listed a w n done b → wpAny P .any l.toArray Q fuel listed a w := by
  have fin : ∀ (listed : Array Bool) (a : Act) (w : World) (n : Nat) (done : List Nat) (b : Act), InvK P l Q C sink E B F FO listed a w n done b → (∀ i, i < l.toArray.size → listed.getD i false = true) → Q .normal a w := fun listed a w n done b H h => by
    have hall : ∀ i, i < l.length → listed.getD i false = true := fun i hi => h i (by simpa using hi)
    have hsub : E.length ≤ done.length := K.en.length_le_of_subset fun k hk => (H.dn k).2 ⟨hk, hall k (K.el k hk)⟩
    have hn : n = 0 := by have := H.ln; omega
    have hw := H.wp
    rw [hn] at hw
    have hab : a = b := by
      obtain ⟨ta, da⟩ := a
      obtain ⟨tb, db⟩ := b
      have h1 := H.df
      have h2 := H.tz
      dsimp only at h1 h2
      subst h1
      congr 1
      refine (Array.ext_getElem? fun t => ?_).symm
      by_cases ht : ∃ (i : Nat) (o : Oper), l[i]? = some o ∧ o.dst = some t
      · obtain ⟨i, o, ho, hd⟩ := ht
        exact H.row i o t ho hd (hall i (List.getElem?_eq_some_iff.1 ho).1)
      · exact H.old t fun i o ho hd => ht ⟨i, o, ho, hd⟩
    rw [hab]
    exact hw
  intro fuel
  induction fuel with
  | zero =>
    intro listed a w n done b hN hu H
    have hall := unl_zero (by simpa using H.sz) (Nat.le_zero.1 hu)
    refine ⟨?_, fin listed a w n done b H hall⟩
    cases hr : Region.ready .any l.toArray listed with
    | nil => rfl
    | cons x xs =>
      have hx : x ∈ Region.ready .any l.toArray listed := by rw [hr]; simp
      obtain ⟨h1, o, ho, _⟩ := mem_ready.1 hx
      have hlt := (Array.getElem?_eq_some_iff.1 ho).1
      have := hall x hlt
      have hx' : x < listed.size := by rw [H.sz]; simpa using hlt
      simp [hx'] at h1 this
      rw [h1] at this; cases this
  | succ fuel ih =>
    intro listed a w n done b hN hu H
    refine ⟨fun hr => fin listed a w n done b H (all_listed (by simpa using H.sz) K.acy hr), fun i hi => ?_⟩
    obtain ⟨hun, o, ho, hdep⟩ := mem_ready.1 hi
    have hlt := (Array.getElem?_eq_some_iff.1 ho).1
    have hol : l[i]? = some o := by simpa using ho
    have hi' : i < listed.size := by rw [H.sz]; simpa using hlt
    have hli : listed.getD i false = false := by simpa [hi'] using hun
    have hu' : unl l.toArray (listed.setIfInBounds i true) ≤ fuel := by
      have hli' : listed[i] = false := by simpa [hi'] using hun
      have := countP_lt (p := fun k => !listed.getD k true) (q := fun k => !(listed.setIfInBounds i true).getD k true) (fun x hx => by
        by_cases hxi : x = i
        · subst hxi; simp [hi'] at hx
        · by_cases hxs : x < listed.size
          · simp [hxs, Array.getElem_setIfInBounds, Ne.symm hxi] at hx ⊢; exact hx
          · simp [hxs] at hx) (i := i) (by simp [hi', hli']) (by simp [hi']) (List.mem_range.2 hlt)
      unfold unl at hu ⊢
      omega
    have hset : ∀ j, j ≠ i → (listed.setIfInBounds i true).getD j false = listed.getD j false := fun j hj => getD_set_ne false (Ne.symm hj)
    have hseti : (listed.setIfInBounds i true).getD i false = true := by simp [hi']
    have hmem : o ∈ l := List.mem_of_getElem? hol
    have hsel : ∀ cs x, o.op ≠ .select cs x := fun cs x e => by
      have := List.all_eq_true.1 K.ns o hmem
      rw [e] at this; cases this
    have hsame : ∀ d ∈ o.looksAt l.toArray, b.tmps[d]? = a.tmps[d]? := fun d hd' => by
      by_cases ht : ∃ (j : Nat) (oj : Oper), l[j]? = some oj ∧ oj.dst = some d
      · obtain ⟨j, oj, hoj, hjd⟩ := ht
        have h1 := List.all_eq_true.1 (List.all_eq_true.1 K.rd o (by simpa using hmem)) d hd'
        have h2 : memB d (l.filterMap (·.dst)) = true := memB_iff.2 (List.mem_filterMap.2 ⟨oj, List.mem_of_getElem? hoj, hjd⟩)
        rw [h2] at h1
        simp only [Bool.not_true, Bool.false_or] at h1
        obtain ⟨e, he, hed⟩ := List.mem_filterMap.1 (memB_iff.1 h1)
        split at hed
        · rename_i hb
          obtain ⟨ok, hok, hkd⟩ := Option.bind_eq_some_iff.1 hed
          exact H.row e.on ok d (by simpa using hok) hkd (hdep e (by simpa using he) hb)
        · cases hed
      · exact H.old d fun j oj hoj hjd => ht ⟨j, oj, hoj, hjd⟩
    have hwant := wanted_congr hsame
    have hex := exec_congr hsel hsame
    have hN' : ∀ v, (a.put o.dst v).tmps.size = N := fun v => by rw [put_size]; exact hN
    have hbN : b.tmps.size = N := by rw [H.tz, hN]
    have dne : ∀ j oj t, l[j]? = some oj → oj.dst = some t → j ≠ i → ∀ x, o.dst = some x → x ≠ t := fun j oj t hoj hjt hji x hx e => by
      subst e
      exact hji (dstB_ne K.dst (by simpa using hoj) ho hjt hx)
    unfold wpOp
    simp only [ho]
    by_cases hE : i ∈ E
    · have hid : i ∉ done := fun h => by have := ((H.dn i).1 h).2; rw [hli] at this; cases this
      have hdl : done.length < E.length := by
        have : (i :: done).length ≤ E.length := (List.nodup_cons.2 ⟨hid, H.nd⟩).length_le_of_subset fun k hk => by
          rcases List.mem_cons.1 hk with rfl | hk
          · exact hE
          · exact ((H.dn k).1 hk).1
        simp only [List.length_cons] at this
        omega
      obtain ⟨n, rfl⟩ : ∃ m, n = m + 1 := ⟨n - 1, by have := H.ln; omega⟩
      have hnext : i ∈ nextE E B done := by
        refine List.mem_filter.2 ⟨hE, ?_⟩
        rw [Bool.and_eq_true]
        refine ⟨by
          cases hm : memB i done with
          | false => rfl
          | true => exact absurd (memB_iff.1 hm) hid, List.all_eq_true.2 fun p hp => ?_⟩
        obtain ⟨h1, h2, h3⟩ := K.bp p hp
        rw [Bool.or_eq_true]
        cases p with
        | nil => simp at h1
        | cons x p =>
          by_cases hx : x = i
          · right
            subst hx
            have hp0 : p ≠ [] := by intro e; subst e; simp at h1
            have := path_listed H.cl h2 (fun ox hox e he hb => by
              have : ox = o := Option.some.inj (hox.symm.trans hol)
              subst this
              exact hdep e he hb) hp0
            exact memB_iff.2 ((H.dn _).2 ⟨h3, this⟩)
          · left
            have : Nat.beq x i = false := by
              cases hb : Nat.beq x i with
              | false => rfl
              | true => exact absurd (Nat.eq_of_beq_eq_true hb) hx
            simp [this]
      have hw := H.wp i hnext o hol
      have hdn : ∀ k, k ∈ i :: done ↔ k ∈ E ∧ (listed.setIfInBounds i true).getD k false = true := fun k => by
        by_cases hk : k = i
        · subst hk; simp [hE, hi']
        · rw [hset k hk, ← H.dn k, List.mem_cons]
          exact ⟨fun h => h.resolve_left hk, .inr⟩
      have next : ∀ v w', (sink = true ∧ n = 0 ∨ C w') → kn F o.dst v → wpK P l Q C F sink E B n (i :: done) (b.put o.dst v) w' → InvK P l Q C sink E B F FO (listed.setIfInBounds i true) (a.put o.dst v) w' n (i :: done) (b.put o.dst v) := fun v w' hc hkn hwp' => by
        refine ⟨by simpa using H.sz, H.cl.set hi, hdn, List.nodup_cons.2 ⟨hid, H.nd⟩, by have := H.ln; simp only [List.length_cons]; omega, hwp', by rw [put_df, put_df, H.df], by rw [put_size, put_size, H.tz], fun t ht => ?_, fun j oj t hoj hjt hjl => ?_, fun p hp => ?_, fun p hp => ?_, ?_⟩
        · rw [put_other fun x hx e => ht i o hol (by rw [hx, e]), put_other fun x hx e => ht i o hol (by rw [hx, e])]
          exact H.old t ht
        · by_cases hji : j = i
          · subst hji
            have : oj = o := Option.some.inj (hoj.symm.trans hol)
            subst this
            have htl := dstB_lt K.dst ho hjt
            rw [hjt, put_own (by omega), put_own (by omega)]
          · rw [put_other (dne j oj t hoj hjt hji), put_other (dne j oj t hoj hjt hji)]
            rw [hset j hji] at hjl
            exact H.row j oj t hoj hjt hjl
        · by_cases hx : o.dst = some p.1
          · have hvp : v = p.2 := hkn _ hx _ (lkF_mem (nodupB_spec K.nd) p hp)
            rw [hx, put_own (by rw [hbN]; exact dstB_lt K.dst ho hx), hvp]
          · rw [put_other fun x hx' e => hx (by rw [hx', e])]
            exact H.ff p hp
        · rw [put_other fun x hx e => ?_]
          · exact H.fo p hp
          · have h1 := K.fo p hp
            have := List.all_eq_true.1 h1 o hmem
            rw [hx, e] at this
            simp at this
        · rcases hc with ⟨hs, hn⟩ | hc
          · right
            intro k hk
            obtain ⟨z, hz, hzw⟩ := K.sk hs
            have hzl : (listed.setIfInBounds i true).getD z false = true := by
              have hfull : z ∈ i :: done := by
                have hlen : (i :: done).length = E.length := by have := H.ln; simp only [List.length_cons]; omega
                by_cases hzd : z ∈ i :: done
                · exact hzd
                · exfalso
                  have : (z :: i :: done).length ≤ E.length := (List.nodup_cons.2 ⟨hzd, List.nodup_cons.2 ⟨hid, H.nd⟩⟩).length_le_of_subset fun k hk => by
                    rcases List.mem_cons.1 hk with rfl | hk
                    · exact hz
                    · rcases List.mem_cons.1 hk with rfl | hk
                      · exact hE
                      · exact ((H.dn k).1 hk).1
                  simp only [List.length_cons] at this hlen
                  omega
              exact ((hdn z).1 hfull).2
            by_cases hkz : k = z
            · rw [hkz]; exact hzl
            · have step : ∀ x y, (listed.setIfInBounds i true).getD x false = true → Region.waitsFor .any l.toArray x y = true → (listed.setIfInBounds i true).getD y false = true := fun x y hx hxy => by
                obtain ⟨oz, hoz, e, he, hb, hon⟩ := Region.waitsFor_spec hxy
                have := (H.cl.set hi).closed x oz hoz hx e he hb
                rwa [hon] at this
              rcases hzw k hk hkz with h | ⟨j, h1, h2⟩
              · exact step z k hzl h
              · exact step j k (step z j hzl h1) h2
          · exact .inl hc
      split
      · rename_i hwa
        rw [hwant, if_pos hwa] at hw
        refine .inl (Oper.wp_mono (fun a' w' h => ?_) (show o.wp P a w (fun a' w' => ∃ v, a' = a.put o.dst v ∧ ((sink = true ∧ n = 0 ∨ C w') ∧ kn F o.dst v ∧ wpK P l Q C F sink E B n (i :: done) (b.put o.dst v) w')) Q from ?_))
        · obtain ⟨v, rfl, h1, h2, h3⟩ := h
          exact ih _ _ _ _ _ _ (hN' v) hu' (next v w' h1 h2 h3)
        · unfold Oper.wp at hw ⊢
          rw [hex] at hw
          have hs' : ∀ t, o.dst = some t → t < b.tmps.size := fun t ht => by rw [hbN]; exact dstB_lt K.dst ho ht
          exact upon_fill hs' _ hw
      · rename_i hwa
        rw [hwant, if_neg hwa] at hw
        have hc : C w := H.c.resolve_right fun h => by have := h i (by simpa using hlt); rw [hli] at this; cases this
        exact ih _ _ _ _ _ _ (hN' _) hu' (next undef w (.inr hc) hw.1 hw.2)
    · have hc : C w := H.c.resolve_right fun h => by have := h i (by simpa using hlt); rw [hli] at this; cases this
      obtain ⟨t, hbt, htF⟩ := K.qd i (by simpa using hlt) hE
      have hdt : o.dst = some t := by rw [hol] at hbt; exact hbt
      obtain ⟨p, hp, hpt⟩ := List.mem_map.1 htF
      have hlk : lkF F t = some p.2 := by rw [← hpt]; exact lkF_mem (nodupB_spec K.nd) p hp
      have hbt2 : b.tmps[t]? = some p.2 := by rw [← hpt]; exact H.ff p hp
      have den_is : ∀ v w', den l F [] i v w' → v = p.2 := fun v w' h => by
        unfold den at h
        rw [hbt] at h
        simp only [hlk] at h
        exact h
      have hs := hq i o hE hol b w hc H.ff H.fo
      have next : InvK P l Q C sink E B F FO (listed.setIfInBounds i true) (a.put o.dst p.2) w n done b := by
        refine ⟨by simpa using H.sz, H.cl.set hi, fun k => ?_, H.nd, H.ln, H.wp, by rw [put_df, H.df], by rw [put_size, H.tz], fun u hu => ?_, fun j oj u hoj hju hjl => ?_, H.ff, H.fo, .inl hc⟩
        · by_cases hk : k = i
          · subst hk
            exact ⟨fun h => absurd ((H.dn k).1 h).1 hE, fun h => absurd h.1 hE⟩
          · rw [hset k hk]; exact H.dn k
        · rw [put_other fun x hx e => hu i o hol (by rw [hx, e])]
          exact H.old u hu
        · by_cases hji : j = i
          · subst hji
            have : oj = o := Option.some.inj (hoj.symm.trans hol)
            subst this
            rw [hdt] at hju
            cases hju
            have htl := dstB_lt K.dst ho hdt
            rw [hdt, put_own (by omega)]
            exact hbt2
          · rw [put_other (dne j oj u hoj hju hji)]
            rw [hset j hji] at hjl
            exact H.row j oj u hoj hju hjl
      split
      · rename_i hwa
        rw [hwant, if_pos hwa] at hs
        refine .inl (Oper.wp_mono (fun a' w' h => ?_) (show o.wp P a w (fun a' w' => ∃ v, a' = a.put o.dst v ∧ (den l F [] i v w' ∧ w' = w)) Q from ?_))
        · obtain ⟨v, rfl, h1, rfl⟩ := h
          rw [den_is v _ h1]
          exact ih _ _ _ _ _ _ (hN' _) hu' next
        · unfold Oper.wp at hs ⊢
          rw [hex] at hs
          have hs' : ∀ t, o.dst = some t → t < b.tmps.size := fun t ht => by rw [hbN]; exact dstB_lt K.dst ho ht
          exact upon_fill hs' _ hs
      · rename_i hwa
        rw [hwant, if_neg hwa] at hs
        have := den_is _ _ hs
        rw [this]
        exact ih _ _ _ _ _ _ (hN' _) hu' next
theorem CkK.of {m : List Bool} {n : Nat} {F FO : List (Nat × Value)} (h : regKB l n m (F.map (·.1)) (FO.map (·.1)) E B sink = true) : CkK l n F FO E B sink := by
  unfold regKB at h
  simp only [Bool.and_eq_true] at h
  obtain ⟨⟨⟨⟨⟨⟨⟨⟨⟨⟨⟨⟨⟨b1, b2⟩, b3⟩, b4⟩, b5⟩, b6⟩, b7⟩, b8⟩, b9⟩, b10⟩, b11⟩, b12⟩, b13⟩, b14⟩ := h
  refine ⟨b1, b2, b3, b4, b5, fun p hp => ?_, fun p hp => ?_, nodupB_spec b8, fun k hk => ?_, fun p hp => ?_, fun k hk hE => ?_, fun hs => ?_⟩
  · have := List.all_eq_true.1 b6 p.1 (List.mem_map_of_mem hp)
    rw [Bool.and_eq_true, Bool.and_eq_true, Nat.blt_eq] at this
    exact this.1.1
  · have := List.all_eq_true.1 b7 p.1 (List.mem_map_of_mem hp)
    rw [Bool.and_eq_true] at this
    exact this.1
  · have := List.all_eq_true.1 b9 k hk
    rwa [Nat.blt_eq] at this
  · have := List.all_eq_true.1 b10 p hp
    rw [Bool.and_eq_true, Bool.and_eq_true, Nat.blt_eq] at this
    exact ⟨this.1.1, this.1.2, memB_iff.1 this.2⟩
  · have := List.all_eq_true.1 b11 k (List.mem_range.2 hk)
    rw [Bool.or_eq_true] at this
    rcases this with h | h
    · exact absurd (memB_iff.1 h) hE
    · split at h
      · rename_i t ht
        exact ⟨t, ht, memB_iff.1 h⟩
      · cases h
  · rw [hs] at b14
    simp only [Bool.not_true, Bool.false_or] at b14
    split at b14
    · cases b14
    · rename_i z hz
      refine ⟨z, List.mem_of_getLast? hz, fun k hk hne => ?_⟩
      have := List.all_eq_true.1 b14 k (List.mem_range.2 hk)
      rw [Bool.or_eq_true, Bool.or_eq_true] at this
      rcases this with (h | h) | h
      · exact absurd (Nat.eq_of_beq_eq_true h) hne
      · exact .inl h
      · obtain ⟨j, _, hj⟩ := List.any_eq_true.1 h
        rw [Bool.and_eq_true] at hj
        exact .inr ⟨j, hj⟩
theorem wp_region_chainK {id : Nat} {L : List Value} {d : List Deferred} {w : World} (F FO : List (Nat × Value)) (C : World → Prop) (E : List Nat) (B : List (List Nat)) (sink : Bool) (m : List Bool) (hm : P.follows .mixedOrders = true)
    (hB : regKB l L.length m (F.map (·.1)) (FO.map (·.1)) E B sink = true) (hFO : ∀ p ∈ FO, L[p.1]? = some p.2) (hC : C w.drew)
    (hq : AllFrom (fun k o => memB k E = true ∨ StepQ P l Q F FO C k o) 0 l)
    (hwp : ∀ us : Nat → Value, (∀ p ∈ F, us p.1 = p.2) → wpK P l Q C F sink E B E.length [] ⟨(merge us m 0 L).toArray, d⟩ w.drew) : (Code.region id l.toArray true).wp P Q ⟨L.toArray, d⟩ w := by
  have K := CkK.of hB
  have hB2 := hB
  unfold regKB at hB2
  simp only [Bool.and_eq_true] at hB2
  obtain ⟨⟨⟨⟨⟨⟨⟨⟨⟨⟨⟨⟨⟨b1, b2⟩, b3⟩, b4⟩, b5⟩, b6⟩, b7⟩, b8⟩, b9⟩, b10⟩, b11⟩, b12⟩, b13⟩, b14⟩ := hB2
  have hnd := nodupB_spec b3
  have hmF : ∀ p ∈ F, p.1 < L.length ∧ m.getD p.1 false = true := fun p hp => by
    have := List.all_eq_true.1 b6 p.1 (List.mem_map_of_mem hp)
    rw [Bool.and_eq_true, Bool.and_eq_true, Nat.blt_eq] at this
    exact this.1
  have hFm : ∀ t, m.getD t false = true → t ∈ F.map (·.1) := fun t ht => by
    rw [List.getD_eq_getElem?_getD] at ht
    cases hg : m[t]? with
    | none => rw [hg] at ht; cases ht
    | some x =>
      rw [hg] at ht
      have hx : x = true := by simpa using ht
      subst hx
      have h1 := List.all_eq_true.1 b13 (true, t) (List.mem_zipIdx_iff_getElem?.2 hg)
      simp only [Bool.not_true, Bool.false_or] at h1
      exact memB_iff.1 h1
  refine wp_region_any hm ?_
  refine wpAny_chainK (F := F) (FO := FO) (N := L.length) K (fun k o hk ho => ?_) l.toArray.size _ _ _ E.length [] (fillA F ⟨L.toArray, d⟩) (by simp) ?_ ⟨by simp, ⟨fun j oj _ hl => by rw [getD_replicate_false] at hl; cases hl⟩, fun k => ?_, List.nodup_nil, by simp, ?_, rfl, ?_, fun t ht => ?_, fun i o t _ _ hl => ?_, fun p hp => ?_, fun p hp => ?_, .inl hC⟩
  · have := hq.get k o ho
    rw [Nat.zero_add] at this
    exact this.resolve_left fun h => hk (memB_iff.1 h)
  · unfold unl
    have := List.countP_le_length (p := fun i => !(Array.replicate l.toArray.size false).getD i true) (l := List.range l.toArray.size)
    simpa using this
  · rw [getD_replicate_false]
    exact ⟨fun h => (by cases h), fun h => by cases h.2⟩
  · rw [fillA_lit hmF hFm]
    exact hwp _ fun p hp => by rw [lkF_mem hnd p hp]; rfl
  · unfold fillA; simp
  · rw [fillA_get]
    have : lkF F t = none := by
      cases hl : lkF F t with
      | none => rfl
      | some u =>
        exfalso
        have hmem : t ∈ F.map (·.1) := List.mem_map.2 ⟨_, lkF_in hl, rfl⟩
        have h6 := List.all_eq_true.1 b6 t hmem
        rw [Bool.and_eq_true] at h6
        obtain ⟨o, hom, hot⟩ := List.any_eq_true.1 h6.2
        obtain ⟨k, hk⟩ := List.mem_iff_getElem?.1 hom
        refine ht k o hk ?_
        cases hdo : o.dst with
        | none => rw [hdo] at hot; cases hot
        | some u =>
          rw [hdo] at hot
          have : u = t := by simpa using hot
          rw [this]
    rw [this]
    simp
  · rw [getD_replicate_false] at hl; cases hl
  · rw [fillA_get, lkF_mem hnd p hp]
    simp [(hmF p hp).1]
  · rw [fillA_get]
    have h7 := List.all_eq_true.1 b7 p.1 (List.mem_map_of_mem hp)
    rw [Bool.and_eq_true] at h7
    have : lkF F p.1 = none := by
      cases hl : lkF F p.1 with
      | none => rfl
      | some u =>
        have h2 : memB p.1 (F.map (·.1)) = true := memB_iff.2 (List.mem_map.2 ⟨_, lkF_in hl, rfl⟩)
        have h3 := h7.2
        rw [h2] at h3
        cases h3
    rw [this]
    have := hFO p hp
    simpa using this
theorem wpK_one {F : List (Nat × Value)} {n : Nat} {done : List Nat} {a : Act} {w : World} (k : Nat) (o : Oper) (hn : nextE E B done = [k]) (ho : l[k]? = some o) (hg : Region.wanted o (yielded l.toArray a.tmps) = true)
    (h : o.wp P a w (fun a' w' => ∃ v, a' = a.put o.dst v ∧ (sink = true ∧ n = 0 ∨ C w') ∧ kn F o.dst v ∧ wpK P l Q C F sink E B n (k :: done) (a.put o.dst v) w') (NoPanic Q)) : wpK P l Q C F sink E B (n + 1) done a w := by
  intro j hj o' ho'
  rw [hn, List.mem_singleton] at hj
  subst hj
  obtain rfl := Option.some.inj (ho'.symm.trans ho)
  rw [if_pos hg]
  exact h
theorem wpK_end {F : List (Nat × Value)} {done : List Nat} {a : Act} {w : World} (h : Q .normal a w) : wpK P l Q C F sink E B 0 done a w := h
end
theorem kn_none {F : List (Nat × Value)} {t : Tmp} {v : Value} (h : lkF F t = none) : kn F (some t) v := fun t' e u hu => by cases e; rw [h] at hu; cases hu
theorem kn_is {F : List (Nat × Value)} {t : Tmp} {v : Value} (h : lkF F t = some v) : kn F (some t) v := fun t' e u hu => by cases e; rw [h] at hu; exact Option.some.inj hu
end Go.Proofs.YtpcpeoejcnndhaaGreat
