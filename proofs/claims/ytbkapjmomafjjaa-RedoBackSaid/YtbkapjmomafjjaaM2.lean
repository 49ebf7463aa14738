/- Ranging over a map that the loop does not write: what is still to come, as a list of pairs. No program text. -/
import Derived.Test.YtbkapjmomafjjaaM1
import Derived.Maps.RangeWalk
import Derived.Deep.AppendLies
import Derived.Test.YtbkapjmomafjjaaIter
import Derived.StillTail
set_option linter.all false
namespace Go.Proofs.Ytbkapjmomafjjaa
open Go.RowKit
set_option linter.unusedVariables false
set_option linter.unusedSimpArgs false

theorem filter_one {α : Type} (f : α → Nat) : ∀ (L : List α) (j : Nat) (x : α), L.Pairwise (fun a b => f a ≠ f b) → L[j]? = some x → L.filter (fun y => !(f y == f x)) = L.eraseIdx j
  | [], _, _, _, h => by simp at h
  | a :: L, 0, x, hp, h => by
    simp at h; subst h
    rw [List.pairwise_cons] at hp
    simp only [List.filter_cons, beq_self_eq_true, Bool.not_true, Bool.false_eq_true, if_false, List.eraseIdx_zero, List.tail_cons]
    rw [List.filter_eq_self]
    intro y hy
    have := hp.1 y hy
    simp [Ne.symm this]
  | a :: L, j + 1, x, hp, h => by
    rw [List.pairwise_cons] at hp
    have hx : L[j]? = some x := by simpa using h
    have hm : x ∈ L := List.mem_iff_getElem?.2 ⟨j, hx⟩
    have := hp.1 x hm
    simp only [List.filter_cons, List.eraseIdx_cons_succ]
    rw [if_pos (by simp [this]), filter_one f L j x hp.2 hx]
theorem perm_pick {α : Type} : ∀ (l : List α) (j : Nat) (x : α), l[j]? = some x → l.Perm (x :: l.eraseIdx j)
  | [], _, _, h => by simp at h
  | a :: l, 0, x, h => by simp at h; subst h; simp
  | a :: l, j + 1, x, h => by
    have := perm_pick l j x (by simpa using h)
    simp only [List.eraseIdx_cons_succ]
    exact (this.cons a).trans (List.Perm.swap x a _)
/-- block r ranges over the map in block b, which holds l; 'todo' is still to come -/
structure RangeIs {α : Type} (w : World) (b r : Nat) (ek : α → Value) (todo : List (α × Value)) : Prop where
  mk' ::
  ex : ∃ es clock since seen last, w.heap[b]? = some (.map es clock) ∧ es.toList.Pairwise (fun x y => x.born ≠ y.born) ∧ (∀ e ∈ es.toList, e.born < since) ∧ since ≤ last ∧ since ≤ clock ∧
    w.heap[r]? = some (.mapIter (some b) since seen last) ∧ (leftOf es seen).toList.map (fun e => (e.key, e.val)) = todo.map (fun p => (ek p.1, p.2))
section
variable {α : Type} {P : Program} {w : World} {b r : Nat} {ek : α → Value} {todo : List (α × Value)}
theorem RangeIs.lt (h : RangeIs w b r ek todo) : b < w.heap.size ∧ r < w.heap.size ∧ b ≠ r := by
  obtain ⟨es, clock, since, seen, last, h1, _, _, _, _, h2, _⟩ := h.ex
  refine ⟨(Array.getElem?_eq_some_iff.1 h1).1, (Array.getElem?_eq_some_iff.1 h2).1, ?_⟩
  rintro rfl
  rw [h1] at h2; cases h2
theorem RangeIs.kept {w' : World} {S : List Nat} (h : RangeIs w b r ek todo) (hk : Kept S w w') (hb : b ∉ S) (hr : r ∉ S) : RangeIs w' b r ek todo := by
  have hl := h.lt
  obtain ⟨es, clock, since, seen, last, h1, h2, h3, h4, h5, h6, h7⟩ := h.ex
  exact ⟨es, clock, since, seen, last, (hk.block b hl.1 hb).trans h1, h2, h3, h4, h5, (hk.block r hl.2.1 hr).trans h6, h7⟩
theorem MapIs.run_range {l : List (α × Value)} (h : MapIs w b ek l) {t kt et : TypeId} (ht : P.underlying t = some (.map kt et)) :
    ∃ w', (Instr.range t (.map (some b))).run P w = .ok (.pointer (some ⟨w.heap.size, 0, none⟩)) w' ∧ RangeIs w' b w.heap.size ek l ∧ Kept [] w w' ∧ w'.heap.size = w.heap.size + 1 := by
  have hlt := h.lt
  obtain ⟨es, clock, hb, he, hp, hc⟩ := h.ex
  refine ⟨_, run_range_map w t kt et b es clock ht hb, ⟨es, clock, clock, #[], clock, ?_, hp, hc, Nat.le_refl _, Nat.le_refl _, heap_alloc_new w _, ?_⟩, (Kept.refl [] w).alloc _, by simp⟩
  · rw [heap_alloc_old w _ hlt, hb]
  · have : (leftOf es #[]).toList = es.toList := by simp [leftOf, List.filter_eq_self]
    rw [this]; exact he
theorem RangeIs.run_next (h : RangeIs w b r ek todo) (ty : TypeId) :
    (todo = [] ∧ (Instr.next (.pointer (some ⟨r, 0, none⟩)) false ty).run P w = .ok (.tuple #[.bool false]) w) ∨
    ∃ x v todo' w1, todo.Perm ((x, v) :: todo') ∧ (Instr.next (.pointer (some ⟨r, 0, none⟩)) false ty).run P w = .ok (.tuple #[.bool true, ek x, v]) w1 ∧ RangeIs w1 b r ek todo' ∧ Kept [r] w w1 ∧ w1.heap.size = w.heap.size ∧
      ∀ w', w'.heap[r]? = w1.heap[r]? → w'.heap[b]? = w1.heap[b]? → (Instr.entry (.pointer (some ⟨r, 0, none⟩))).run P w' = .ok (.tuple #[ek x, v]) w' := by
  have hlt := h.lt
  obtain ⟨es, clock, since, seen, last, hb, hp, hold, hsc, hcl, hr, hleft⟩ := h.ex
  simp only [Instr.next, getObj, Sem.run_bind, Sem.run, hr, hb, Result.andThen, next_test_false seen es since last hold hsc, Bool.false_eq_true, if_false]
  have hL : leftOf es seen = Array.filter (fun e => !seen.contains e.born) es := rfl
  have hsub : ∀ x ∈ (leftOf es seen).toList, x ∈ es.toList := fun x hx => by rw [hL] at hx; simp at hx ⊢; exact hx.1
  have hmem : ∀ x ∈ (leftOf es seen).toList, x.born < since := fun x hx => hold x (hsub x hx)
  have hpL : (leftOf es seen).toList.Pairwise (fun x y => x.born ≠ y.born) := by
    rw [hL, Array.toList_filter]; exact hp.sublist List.filter_sublist
  have hnew : ∀ e : MapEntry, (leftOf es (seen.push e.born)).toList = (leftOf es seen).toList.filter (fun y => !(y.born == e.born)) := fun e => by
    rw [hL]
    simp only [leftOf, Array.toList_filter, List.filter_filter]
    refine List.filter_congr fun x _ => ?_
    rw [Bool.eq_iff_iff]
    simp
    constructor
    · rintro ⟨h1, h2⟩; exact ⟨h2, h1⟩
    · rintro ⟨h1, h2⟩; exact ⟨h2, h1⟩
  rw [← hL]
  generalize hLL : leftOf es seen = L at hmem hpL hsub hleft hnew
  have e1 : L.filter (fun x => decide (x.born < since)) = L := Array.filter_eq_self.2 (fun x hx => by simpa using hmem x (by simpa using hx))
  have e2 : L.filter (fun x => decide (x.born ≥ since)) = #[] := by
    rw [Array.filter_eq_empty_iff]
    intro x hx
    have := hmem x (by simpa using hx)
    simp
    omega
  simp only [e1, e2, Array.append_empty]
  have hlen : L.size = todo.length := by have := congrArg List.length hleft; simpa using this
  by_cases h0 : L.size = 0
  · left
    have : L = #[] := Array.eq_empty_of_size_eq_zero h0
    subst this
    refine ⟨List.eq_nil_of_length_eq_zero (by rw [← hlen]; exact h0), ?_⟩
    simp [choose, Sem.run, Question.forced]
  · right
    have hne : L.isEmpty = false := by simp [Array.isEmpty, h0]
    simp only [hne, Bool.false_eq_true, if_false, Array.empty_append, Array.size_map]
    have hch : ∃ (j : Nat) (w1 : World), j < L.size ∧ (w1 = w ∨ w1 = w.drew) ∧ (choose (Question.mapNext L.size)).run P w = .ok j w1 := by
      by_cases hf : L.size ≤ 1
      · exact ⟨0, w, by omega, .inl rfl, by simp [choose, Sem.run, Question.forced, hf]⟩
      · exact ⟨_, w.drew, Nat.mod_lt _ (by omega), .inr rfl, by
          simp only [choose, Sem.run, Question.forced, decide_eq_true_eq, hf, if_false, Question.cut]
          rfl⟩
    obtain ⟨j, w1, hj, hal, hrun⟩ := hch
    have hjt : j < todo.length := by omega
    have hkv : (L[j].key, L[j].val) = (ek todo[j].1, todo[j].2) := by
      have := congrArg (fun m => m[j]?) hleft
      simpa [hj, hjt] using this
    have hin : L[j] ∈ L.toList := by simp
    have hLj : L.toList[j]? = some L[j] := by simp [hj]
    have hwh : w1.heap = w.heap := by rcases hal with rfl | rfl <;> rfl
    have hw1k : Kept [] w w1 := by rcases hal with rfl | rfl; exact Kept.refl _ _; exact (Kept.refl _ _).drew
    refine ⟨todo[j].1, todo[j].2, todo.eraseIdx j, { w1 with heap := w1.heap.setIfInBounds r (.mapIter (some b) since (seen.push L[j].born) clock) }, ?_, ?_, ⟨es, clock, since, seen.push L[j].born, clock, ?_, hp, hold, hcl, hcl, ?_, ?_⟩, ?_, ?_, ?_⟩
    · exact perm_pick todo j todo[j] (by simp [hjt])
    · have hr1 : w1.heap[r]? = some (.mapIter (some b) since seen last) := by rw [hwh, hr]
      have hset : ∀ o', (setObj r o').run P w1 = .ok () { w1 with heap := w1.heap.setIfInBounds r o' } := fun o' => by
        simp [setObj, Sem.run, hr1]
      simp only [hrun, Array.getElem?_map, Array.getElem?_eq_getElem hj, Option.map_some, Sem.run_bind, hset, Result.andThen]
      have k1 : L[j].key = ek todo[j].1 := by have := congrArg Prod.fst hkv; exact this
      have k2 : L[j].val = todo[j].2 := by have := congrArg Prod.snd hkv; exact this
      rw [← k1, ← k2]
      rfl
    · show (w1.heap.setIfInBounds r _)[b]? = _
      rw [Array.getElem?_setIfInBounds, if_neg (Ne.symm hlt.2.2), hwh, hb]
    · show (w1.heap.setIfInBounds r _)[r]? = _
      rw [Array.getElem?_setIfInBounds, if_pos rfl, if_pos (by rw [hwh]; exact hlt.2.1)]
    · rw [hnew, filter_one (·.born) L.toList j L[j] hpL hLj, map_eraseIdx', hleft, map_eraseIdx']
    · exact (hw1k.mono (by simp)).trans (T := [r]) (kept_set w1 r _) (by simp)
    · simp [hwh]
    · intro w' h1 h2
      have h1' : w'.heap[r]? = some (.mapIter (some b) since (seen.push L[j].born) clock) := by
        rw [h1]
        show (w1.heap.setIfInBounds r _)[r]? = _
        rw [Array.getElem?_setIfInBounds, if_pos rfl, if_pos (by rw [hwh]; exact hlt.2.1)]
      have h2' : w'.heap[b]? = some (.map es clock) := by
        rw [h2]
        show (w1.heap.setIfInBounds r _)[b]? = _
        rw [Array.getElem?_setIfInBounds, if_neg (Ne.symm hlt.2.2), hwh, hb]
      have hf : es.find? (·.born == L[j].born) = some L[j] := by rw [← Array.find?_toList]; exact find_born L[j] es.toList (List.pairwise_map.2 hp) (hsub _ hin)
      have k1 : L[j].key = ek todo[j].1 := by have := congrArg Prod.fst hkv; exact this
      have k2 : L[j].val = todo[j].2 := by have := congrArg Prod.snd hkv; exact this
      simp only [Instr.entry, getObj, Sem.run_bind, Sem.run, h1', h2', Result.andThen, Array.back?_push, bne_self_eq_false, Bool.false_eq_true, if_false, hf]
      rw [← k1, ← k2]
      rfl
theorem RangeIs.left_eq (h : RangeIs w b r ek todo) : w.rangeLeft b r = todo.length := by
  obtain ⟨es, clock, since, seen, last, hb, hp, hold, hsc, hcl, hr, hleft⟩ := h.ex
  have hlen : (leftOf es seen).size = todo.length := by have := congrArg List.length hleft; simpa using this
  simp [World.rangeLeft, hb, hr, hlen]
theorem wpList_range_is {l : List (α × Value)} {ops : Array Oper} {rest : List Oper} {o : Oper} {a : Act} {Q : Exit → Act → World → Prop}
    (hg : o.guard = none) (m : Operand) (t : TypeId) (hop : o.op = Op.range t m) (kt et : TypeId) (ht : P.underlying t = some (.map kt et))
    (hm : a.eval m = .map (some b)) (hM : MapIs w b ek l)
    (hK : ∀ w', RangeIs w' b w.heap.size ek l → Kept [] w w' → w'.heap.size = w.heap.size + 1 → wpList P ops Q rest (a.put o.dst (.pointer (some ⟨w.heap.size, 0, none⟩))) w') :
    wpList P ops Q (o :: rest) a w := by
  refine wpList_plain hg fun K' hK' => ?_
  obtain ⟨w', hrun, r1, r2, r3⟩ := hM.run_range (P := P) ht
  unfold Oper.wp
  simp [execOp, hop, hm, hrun, Result.andThen]
  exact hK' _ _ (hK w' r1 r2 r3)
theorem wpList_next_is {ops : Array Oper} {rest : List Oper} {o : Oper} {a : Act} {Q : Exit → Act → World → Prop}
    (hg : o.guard = none) (it : Operand) (hop : o.op = Op.next it false) (hit : a.eval it = .pointer (some ⟨r, 0, none⟩)) (h : RangeIs w b r ek todo)
    (hDone : todo = [] → wpList P ops Q rest (a.put o.dst (.tuple #[.bool false])) w)
    (hMore : ∀ x v todo' w', todo.Perm ((x, v) :: todo') → RangeIs w' b r ek todo' → Kept [r] w w' → w'.heap.size = w.heap.size →
      (Instr.entry (.pointer (some ⟨r, 0, none⟩))).run P w' = .ok (.tuple #[ek x, v]) w' → wpList P ops Q rest (a.put o.dst (.tuple #[.bool true, ek x, v])) w') :
    wpList P ops Q (o :: rest) a w := by
  refine wpList_plain hg fun K' hK' => ?_
  unfold Oper.wp
  rcases h.run_next (P := P) o.type with ⟨h0, hrun⟩ | ⟨x, v, todo', w', hp, hrun, hR, hk, hs, hen⟩
  · simp [execOp, hop, hit, hrun, Result.andThen]
    exact hK' _ _ (hDone h0)
  · simp [execOp, hop, hit, hrun, Result.andThen]
    exact hK' _ _ (hMore x v todo' w' hp hR hk hs (hen w' rfl rfl))
end
end Go.Proofs.Ytbkapjmomafjjaa
/- Records as values; their equality. -/
namespace Go.Proofs.Ytbkapjmomafjjaa
open Go.RowKit
set_option linter.unusedVariables false
set_option linter.unusedSimpArgs false

def Rc.v (r : Rc) : Value := .agg #[.int .i64 r.kind, .int .i64 r.tx, .int .u16 (r.mask : Int), .int .u8 (r.key.a.toNat : Int), .int .u8 (r.key.b.toNat : Int), .int .u8 (r.key.c.toNat : Int), .int .u8 (r.key.d.toNat : Int), .bool r.old.there, .int .i64 r.old.n, .bool r.new.there, .int .i64 r.new.n]
theorem rec_cells {w : World} {l : List Rc} {b off k : Nat} (h : ∀ j u, (l.flatMap Rc.f)[j]? = some u → w.cell? ⟨b, off + j, none⟩ = some u) (hk : k < l.length) :
    w.cell? ⟨b, off + k * 11, none⟩ = some (.int .i64 l[k].kind) ∧ w.cell? ⟨b, off + k * 11 + 1, none⟩ = some (.int .i64 l[k].tx) ∧ w.cell? ⟨b, off + k * 11 + 2, none⟩ = some (.int .u16 (l[k].mask : Int)) ∧ w.cell? ⟨b, off + k * 11 + 3, none⟩ = some (.int .u8 (l[k].key.a.toNat : Int)) ∧ w.cell? ⟨b, off + k * 11 + 4, none⟩ = some (.int .u8 (l[k].key.b.toNat : Int)) ∧ w.cell? ⟨b, off + k * 11 + 5, none⟩ = some (.int .u8 (l[k].key.c.toNat : Int)) ∧ w.cell? ⟨b, off + k * 11 + 6, none⟩ = some (.int .u8 (l[k].key.d.toNat : Int)) ∧ w.cell? ⟨b, off + k * 11 + 7, none⟩ = some (.bool l[k].old.there) ∧ w.cell? ⟨b, off + k * 11 + 8, none⟩ = some (.int .i64 l[k].old.n) ∧ w.cell? ⟨b, off + k * 11 + 9, none⟩ = some (.bool l[k].new.there) ∧ w.cell? ⟨b, off + k * 11 + 10, none⟩ = some (.int .i64 l[k].new.n) := by
  have key : ∀ j u, j < 11 → (l[k].f)[j]? = some u → w.cell? ⟨b, off + (k * 11 + j), none⟩ = some u := fun j u hj hu =>
    h _ u (by rw [flatMap_get Rc.f (c := 11) (fun _ => rfl) l k j l[k] (by simp [hk]) hj]; exact hu)
  exact ⟨key 0 _ (by omega) rfl, key 1 _ (by omega) rfl, key 2 _ (by omega) rfl, key 3 _ (by omega) rfl, key 4 _ (by omega) rfl, key 5 _ (by omega) rfl, key 6 _ (by omega) rfl, key 7 _ (by omega) rfl, key 8 _ (by omega) rfl, key 9 _ (by omega) rfl, key 10 _ (by omega) rfl⟩
--@@ api.Rec
set_option maxHeartbeats 2000000 in
theorem eq_rec (w : World) (d : Nat) (x y : Rc) : (Op.equalIn (d + 3) 43 x.v y.v).run Try.prog w = .ok (decide (x = y)) w := by
  have hS : Try.prog.underlying 43 = some (.struct (Try.prog.fieldsOf 43)) := by kernel_rfl
  have hp : Try.prog.stoodInHeld 43 = false := by kernel_rfl
  obtain ⟨a, b, c, k, ⟨o1, o2⟩, ⟨n1, n2⟩⟩ := x
  obtain ⟨a', b', c', k', ⟨o1', o2'⟩, ⟨n1', n2'⟩⟩ := y
  simp only [Rc.v]
  rw [run_equalIn_agg w (d + 2) _ _ _ hS hp]
  simp only [Program.fieldsOf, Try.underlying43, Op.eqFields]
  have e1 := fun w d => eq_key w d k k'
  simp only [K4.v] at e1
  generalize hk : decide (k = k') = rk at e1
  have hr : decide ((⟨a, b, c, k, ⟨o1, o2⟩, ⟨n1, n2⟩⟩ : Rc) = ⟨a', b', c', k', ⟨o1', o2'⟩, ⟨n1', n2'⟩⟩) = (decide (a = a') && (decide (b = b') && (decide (c = c') && (rk && ((decide (o1 = o1') && decide (o2 = o2')) && (decide (n1 = n1') && decide (n2 = n2'))))))) := by
    subst hk
    rw [Bool.eq_iff_iff]
    simp [Rc.mk.injEq, V.mk.injEq, and_assoc]
  rw [hr]
  clear hr hk
  cases rk
  · go_simp
  · go_simp
    by_cases h1 : a = a' <;> by_cases h2 : b = b' <;> by_cases h3 : c = c' <;> by_cases h4 : o1 = o1' <;> by_cases h5 : o2 = o2' <;> by_cases h6 : n1 = n1' <;> by_cases h7 : n2 = n2' <;> simp [h1, h2, h3, h4, h5, h6, h7] <;> omega
theorem eqR (w : World) (x y : Rc) : (binOp .eql 43 x.v y.v).run Try.prog w = .ok (.bool (decide (x = y))) w := by
  rw [Rc.v, Rc.v, run_eql_struct, ← Rc.v, ← Rc.v, show (10000 : Nat) = 9997 + 3 from rfl, eq_rec]; rfl
theorem neR (w : World) (x y : Rc) : (binOp .neq 43 x.v y.v).run Try.prog w = .ok (.bool (!decide (x = y))) w := by
  rw [Rc.v, Rc.v, run_neq_struct, ← Rc.v, ← Rc.v, show (10000 : Nat) = 9997 + 3 from rfl, eq_rec]; rfl
--@@ end
end Go.Proofs.Ytbkapjmomafjjaa
/- append at a row of the call's own: where the new row lies. No program text. -/
namespace Go.Proofs.Ytbkapjmomafjjaa
open Go.RowKit
set_option linter.unusedVariables false
set_option linter.unusedSimpArgs false

section
variable {P : Program} {w : World} {o : Oper} {a : Act} {K : Act → World → Prop} {Q : Exit → Act → World → Prop}
theorem wp_append_ow (s x : Operand) (t : TypeId)
    (ho : o.op = .call { callee := .builtin .append, args := #[s, x], argTypes := #[t, t] })
    (e : TypeId) (z : Value) (size bytes : Nat) (ht : P.underlying t = some (.slice e)) (hi : (P.info? e).map (fun i => (i.zero, i.size, i.bytes)) = some (some z, size, bytes))
    (hzs : z.cells.size = size) (hsz : 0 < size) (hby : 0 < bytes) (base : Nat)
    (v : Value) (n : Nat) (xs : List Value) (hs : a.eval s = v) (hown : w.ownsRow base e size v n xs)
    (ad : Addr) (m c : Nat) (news : List Value) (hx : a.eval x = .slice (some ad) m c) (hl : news.length = m * size) (hnews : ∀ j u, news[j]? = some u → w.cell? (ad.add j) = some u) (h1 : ∀ u ∈ news, u.oneCell' = true) (hm : 0 < m)
    (hbytes : (n + m) * bytes ≤ 140737488355328) (hbase : base ≤ w.heap.size)
    (h : ∀ g cap w', w'.ownsRow base e size (.slice (some ⟨g, 0, none⟩) (n + m) cap) (n + m) (xs ++ news) → w.grownBy w' v.ownBlock → (v.ownBlock = some g ∨ g = w.heap.size) → K (a.put o.dst (.slice (some ⟨g, 0, none⟩) (n + m) cap)) w') : o.wp P a w K Q := by
  obtain ⟨i, hi, hz0, hz1, hz2⟩ := info_parts hi
  have h63 : n + m ≤ maxLen := by
    have := Nat.le_mul_of_pos_right (n + m) hby
    unfold maxLen; omega
  exact wp_append_lies w s x t ho base e i z size bytes ht hi hz0 hz1 hz2 hzs hsz v n xs hs hown ad m c news hx hl hnews h1 hm h63 hbytes hbase w.heap.size rfl fun g cap w' g1 g2 g3 _ => h g cap w' g1 g2 g3
end
end Go.Proofs.Ytbkapjmomafjjaa
/- A map keyed by ints, for the kit's contracts on its sorted keys. -/
namespace Go.Proofs.Ytbkapjmomafjjaa
open Go.RowKit Go.Maps
open Go.WideElems (rd rg)
set_option linter.unusedVariables false
set_option linter.unusedSimpArgs false

abbrev anyR : Value → Option (DataW Unit × List MemPlace) := fun _ => some (.nil, [])
theorem MapIs.owns {P : Program} {k : TypeId} {w : World} {b : Nat} {l : List (Int × Value)} (h : MapIs w b (Value.int .i64) l) (hk : P.underlying k = some (.int .i64))
    (hn : (l.map (·.1)).Nodup) (hw : ∀ p, p ∈ l → (Lit.int .i64 p.1).wf = true) (hs : l.length ≤ maxLen) :
    ∃ D : DataW Unit, w.ownsMap P k anyR b l.length D ∧ (intKeys D).Perm (l.map (·.1)) ∧ Maps.size D = l.length := by
  obtain ⟨es, clock, hb, he, hp, hc⟩ := h.ex
  have hl : es.size = l.length := by have := congrArg List.length he; simpa using this
  have hkeys : es.toList.map (·.key) = (l.map (·.1)).map (Value.int .i64) := by
    have := congrArg (List.map (·.1)) he
    simpa [List.map_map, Function.comp_def] using this
  have hrg : es.toList.map (rg P k anyR) = l.map fun p => (Lit.int .i64 p.1, DataW.nil) := by
    refine List.ext_getElem? fun i => ?_
    have hi := congrArg (fun m => m[i]?) he
    simp only [List.getElem?_map] at hi ⊢
    cases h1 : es.toList[i]? with
    | none =>
      rw [h1] at hi
      cases h2 : l[i]? with
      | none => rfl
      | some p => rw [h2] at hi; simp at hi
    | some e =>
      rw [h1] at hi
      cases h2 : l[i]? with
      | none => rw [h2] at hi; simp at hi
      | some p =>
        rw [h2] at hi
        simp at hi
        have hwp := hw p (List.mem_iff_getElem?.2 ⟨i, h2⟩)
        simp [rg, rd, hi.1, keyOf_int_mk hk hwp]
  refine ⟨.map ((es.toList.map (rg P k anyR)).foldr DataW.insert []), ⟨es, clock, hb, ⟨by omega, ⟨hc, ?_, ?_⟩, ?_⟩, by omega, rfl⟩, ?_, ?_⟩
  · exact List.pairwise_map.2 hp
  · rw [hkeys]
    exact List.pairwise_map.2 (hn.imp fun hne e => hne (by cases e; rfl))
  · intro e hm
    obtain ⟨i, hi⟩ := List.mem_iff_getElem?.1 hm
    have hi' := congrArg (fun m => m[i]?) he
    simp only [List.getElem?_map, hi] at hi'
    cases h2 : l[i]? with
    | none => rw [h2] at hi'; simp at hi'
    | some p =>
      rw [h2] at hi'
      simp at hi'
      have hwp := hw p (List.mem_iff_getElem?.2 ⟨i, h2⟩)
      exact ⟨_, by simp [rd, hi'.1, keyOf_int_mk hk hwp]; rfl⟩
  · have h2 := (WideShapes.sorted_perm (es.toList.map (rg P k anyR))).map fun p => _root_.Go.intOf p.1
    simp only [intKeys]
    refine h2.trans ?_
    rw [hrg]
    simp [List.map_map, Function.comp_def, _root_.Go.intOf]
  · simp [Maps.size, length_sorted, hl]
end Go.Proofs.Ytbkapjmomafjjaa
/- A block of two cells. No program text. -/
namespace Go.Proofs.Ytbkapjmomafjjaa
open Go.RowKit
set_option linter.unusedVariables false
set_option linter.unusedSimpArgs false

theorem two_kept {w w' : World} {t : TypeId} {x y : Value} (hk : Kept [] (w.alloc (.cells #[x, y] t)) w') : w'.heap[w.heap.size]? = some (.cells #[x, y] t (0, 0)) :=
  (hk.block w.heap.size (by simp) (by simp)).trans (heap_alloc_new w _)
theorem cell2 {w : World} {B : Nat} {t : TypeId} {x y : Value} (hb : w.heap[B]? = some (.cells #[x, y] t (0, 0))) :
    w.cell? ⟨B, 0, none⟩ = some x ∧ w.cell? ⟨B, 1, none⟩ = some y ∧ w.frozen? ⟨B, 0, none⟩ = false ∧ w.frozen? ⟨B, 1, none⟩ = false := by
  refine ⟨?_, ?_, ?_, ?_⟩ <;> simp [World.cell?, World.frozen?, hb]
theorem set2 {w : World} {B : Nat} {t : TypeId} {fr : Nat × Nat} {x y : Value} (hb : w.heap[B]? = some (.cells #[x, y] t fr)) (x' y' : Value) :
    ((w.setCell ⟨B, 0, none⟩ x').setCell ⟨B, 1, none⟩ y').heap[B]? = some (.cells #[x', y'] t fr) := by
  simp [World.setCell, Array.getElem?_modify, hb]
end Go.Proofs.Ytbkapjmomafjjaa
/- A region that draws its order, by what each of its operations yields: no order is walked. No program text. -/
namespace Go.Proofs.Ytbkapjmomafjjaa
open Go.RowKit
set_option linter.unusedVariables false
set_option linter.unusedSimpArgs false

/-- what operation j has yielded -/
def RowAt (ops : Array Oper) (R : Nat → Value → World → Prop) (j : Nat) (a : Act) (w : World) : Prop :=
  ∀ o t, ops[j]? = some o → o.dst = some t → ∃ v, a.tmps[t]? = some v ∧ R j v w
/-- what is as it was ahead of the region -/
structure OldR (ops : Array Oper) (a0 a : Act) : Prop where
  tz : a.tmps.size = a0.tmps.size
  df : a.defers = a0.defers
  old : ∀ t, (∀ (i : Nat) (o : Oper), ops[i]? = some o → o.dst ≠ some t) → a.tmps[t]? = a0.tmps[t]?
structure InvR (ops : Array Oper) (a0 : Act) (R : Nat → Value → World → Prop) (C : World → Prop) (listed : Array Bool) (a : Act) (w : World) : Prop where
  c : C w
  sz : listed.size = ops.size
  old : OldR ops a0 a
  row : ∀ i, listed.getD i false = true → RowAt ops R i a w
/-- what is asked of operation k -/
def StepR (P : Program) (ops : Array Oper) (Q : Exit → Act → World → Prop) (a0 : Act) (R : Nat → Value → World → Prop) (C : World → Prop) (G : World → World → Prop) (k : Nat) (o : Oper) : Prop :=
  ∀ (a : Act) (w : World), C w → OldR ops a0 a → (∀ e ∈ o.after, Region.binds .any e = true → RowAt ops R e.on a w) →
    if Region.wanted o (yielded ops a.tmps) then o.wp P a w (fun a' w' => ∃ v, a' = a.put o.dst v ∧ R k v w' ∧ C w' ∧ G w w') Q else R k undef w
theorem countP_lt {p q : Nat → Bool} (hpq : ∀ x, q x = true → p x = true) {i : Nat} (hpi : p i = true) (hqi : q i = false) : ∀ {l : List Nat}, i ∈ l → l.countP q < l.countP p
  | x :: l, hi => by
    have hle : l.countP q ≤ l.countP p := by
      clear hi
      induction l with
      | nil => simp
      | cons y l ih =>
        rw [List.countP_cons, List.countP_cons]
        by_cases hy : q y = true
        · simp [hy, hpq y hy, ih]
        · simp [hy]; split <;> omega
    rw [List.countP_cons, List.countP_cons]
    rcases List.mem_cons.1 hi with rfl | hi
    · rw [hpi, hqi]; simp; omega
    · have ih := countP_lt hpq hpi hqi hi
      by_cases hx : q x = true
      · simp [hx, hpq x hx]; omega
      · simp [hx]; split <;> omega
def unl (ops : Array Oper) (listed : Array Bool) : Nat := (List.range ops.size).countP fun i => !listed.getD i true
def acyB (ops : Array Oper) : Bool := (List.range ops.size).all fun i => ((ops[i]?).map fun o => o.after.all fun e => !Region.binds .any e || decide (e.on < i)).getD true
def apartB : List Oper → Bool
  | [] => true
  | x :: l => (match x.dst with
    | none => true
    | some t => l.all fun y => match y.dst with
      | none => true
      | some u => !(Nat.beq t u)) && apartB l
theorem apartB_spec : ∀ {l : List Oper}, apartB l = true → l.Pairwise fun x y => x.dst = none ∨ x.dst ≠ y.dst
  | [], _ => List.Pairwise.nil
  | x :: l, h => by
    unfold apartB at h
    rw [Bool.and_eq_true] at h
    refine List.Pairwise.cons (fun y hy => ?_) (apartB_spec h.2)
    have h1 := h.1
    cases hx : x.dst with
    | none => exact .inl rfl
    | some t =>
      rw [hx] at h1
      have h2 := List.all_eq_true.1 h1 y hy
      refine .inr fun e => ?_
      rw [← e] at h2
      simp at h2
def dstB (ops : Array Oper) (n : Nat) : Bool := ops.toList.all (fun o => match o.dst with
  | none => true
  | some t => Nat.blt t n) && apartB ops.toList
section
variable {P : Program} {ops : Array Oper} {Q : Exit → Act → World → Prop} {a0 : Act} {R : Nat → Value → World → Prop} {C : World → Prop} {G : World → World → Prop}
theorem acyB_spec (h : acyB ops = true) : ∀ i o e, ops[i]? = some o → e ∈ o.after → Region.binds .any e = true → e.on < i := fun i o e ho he hb => by
  unfold acyB at h
  have hi : i < ops.size := (Array.getElem?_eq_some_iff.1 ho).1
  have := List.all_eq_true.1 h i (List.mem_range.2 hi)
  rw [ho] at this
  simp only [Option.map_some, Option.getD_some] at this
  have h2 := Array.all_eq_true_iff_forall_mem.1 this e he
  simpa [hb] using h2
theorem dstB_lt {n : Nat} (h : dstB ops n = true) {i t : Nat} {o : Oper} (ho : ops[i]? = some o) (ht : o.dst = some t) : t < n := by
  unfold dstB at h
  rw [Bool.and_eq_true] at h
  have hm : o ∈ ops.toList := by
    have := Array.mem_of_getElem? ho
    simpa using this
  have := List.all_eq_true.1 h.1 o hm
  rw [ht] at this
  have h2 : Nat.blt t n = true := by simpa using this
  rw [Nat.blt_eq] at h2
  exact h2
theorem dstB_ne {n : Nat} (h : dstB ops n = true) {i j t : Nat} {o o' : Oper} (ho : ops[i]? = some o) (ho' : ops[j]? = some o') (ht : o.dst = some t) (ht' : o'.dst = some t) : i = j := by
  unfold dstB at h
  rw [Bool.and_eq_true] at h
  have hp := apartB_spec h.2
  rw [List.pairwise_iff_getElem] at hp
  obtain ⟨hi, hio⟩ := Array.getElem?_eq_some_iff.1 ho
  obtain ⟨hj, hjo⟩ := Array.getElem?_eq_some_iff.1 ho'
  rcases Nat.lt_trichotomy i j with hlt | heq | hgt
  · have := hp i j (by simpa using hi) (by simpa using hj) hlt
    simp only [Array.getElem_toList, hio, hjo, ht, ht'] at this
    rcases this with h1 | h1
    · cases h1
    · exact absurd rfl h1
  · exact heq
  · have := hp j i (by simpa using hj) (by simpa using hi) hgt
    simp only [Array.getElem_toList, hio, hjo, ht, ht'] at this
    rcases this with h1 | h1
    · cases h1
    · exact absurd rfl h1
theorem unl_zero {listed : Array Bool} (hs : listed.size = ops.size) (h : unl ops listed = 0) : ∀ i, i < ops.size → listed.getD i false = true := fun i hi => by
  unfold unl at h
  rw [List.countP_eq_zero] at h
  have := h i (List.mem_range.2 hi)
  have hi' : i < listed.size := by omega
  simp [hi'] at this ⊢
  exact this
theorem all_listed {listed : Array Bool} (hs : listed.size = ops.size) (hacy : acyB ops = true) (hr : Region.ready .any ops listed = []) : ∀ i, i < ops.size → listed.getD i false = true := fun i => by
  induction i using Nat.strongRecOn with
  | ind i ih =>
    intro hi
    have hi' : i < listed.size := by omega
    cases hl : listed[i] with
    | true => simp [hi', hl]
    | false =>
      have : i ∈ Region.ready .any ops listed := by
        rw [mem_ready]
        refine ⟨by simp [hi', hl], ops[i], by simp [hi], fun e he hb => ?_⟩
        have hlt := acyB_spec hacy i ops[i] e (by simp [hi]) he hb
        exact ih _ hlt (by omega)
      rw [hr] at this
      cases this
theorem wpAny_rows (hG : ∀ j v w w', G w w' → R j v w → R j v w') (hacy : acyB ops = true) (hdst : dstB ops a0.tmps.size = true)
    (hstep : ∀ k o, ops[k]? = some o → StepR P ops Q a0 R C G k o) (hrefl : ∀ w, G w w)
    (hfin : ∀ a w, C w → OldR ops a0 a → (∀ i, RowAt ops R i a w) → Q .normal a w) :
    ∀ (fuel : Nat) (listed : Array Bool) (a : Act) (w : World), unl ops listed ≤ fuel → InvR ops a0 R C listed a w → wpAny P .any ops Q fuel listed a w := by
  have fin : ∀ (listed : Array Bool) (a : Act) (w : World), InvR ops a0 R C listed a w → (∀ i, i < ops.size → listed.getD i false = true) → Q .normal a w := fun listed a w H h =>
    hfin a w H.c H.old fun i => by
      by_cases hi : i < ops.size
      · exact H.row i (h i hi)
      · intro o t ho
        exact absurd (Array.getElem?_eq_some_iff.1 ho).1 hi
  intro fuel
  induction fuel with
  | zero =>
    intro listed a w hu H
    have hall := unl_zero H.sz (Nat.le_zero.1 hu)
    refine ⟨?_, fin listed a w H hall⟩
    cases hr : Region.ready .any ops listed with
    | nil => rfl
    | cons x xs =>
      have hx : x ∈ Region.ready .any ops listed := by rw [hr]; simp
      obtain ⟨h1, o, ho, _⟩ := mem_ready.1 hx
      have hlt := (Array.getElem?_eq_some_iff.1 ho).1
      have := hall x hlt
      have hx' : x < listed.size := by rw [H.sz]; exact hlt
      simp [hx'] at h1 this
      rw [h1] at this; cases this
  | succ fuel ih =>
    intro listed a w hu H
    refine ⟨fun hr => fin listed a w H (all_listed H.sz hacy hr), fun i hi => ?_⟩
    obtain ⟨hun, o, ho, hdep⟩ := mem_ready.1 hi
    have hlt := (Array.getElem?_eq_some_iff.1 ho).1
    have hi' : i < listed.size := by rw [H.sz]; exact hlt
    have hli : listed[i] = false := by simpa [hi'] using hun
    have next : ∀ (v : Value) (w' : World), R i v w' → C w' → G w w' → wpAny P .any ops Q fuel (listed.setIfInBounds i true) (a.put o.dst v) w' := fun v w' hR hC hg => by
      refine ih _ _ _ ?_ ⟨hC, by simpa using H.sz, ⟨?_, ?_, fun t ht => ?_⟩, fun j hj o' t' ho' ht' => ?_⟩
      · have := countP_lt (p := fun k => !listed.getD k true) (q := fun k => !(listed.setIfInBounds i true).getD k true) (fun x hx => by
          by_cases hxi : x = i
          · subst hxi; simp [hi'] at hx
          · by_cases hxs : x < listed.size
            · simp [hxs, Array.getElem_setIfInBounds, Ne.symm hxi] at hx ⊢; exact hx
            · simp [hxs] at hx) (i := i) (by simp [hi', hli]) (by simp [hi']) (List.mem_range.2 hlt)
        unfold unl at hu ⊢
        omega
      · rw [← H.old.tz]; unfold Act.put; split <;> simp
      · rw [← H.old.df]; unfold Act.put; split <;> rfl
      · rw [← H.old.old t ht]
        unfold Act.put
        split
        · rename_i d hd
          have : d ≠ t := fun e => ht i o ho (by rw [hd, e])
          simp [Array.getElem?_setIfInBounds, this]
        · rfl
      · by_cases hji : j = i
        · subst hji
          rw [ho] at ho'
          cases ho'
          have htl := dstB_lt hdst ho ht'
          rw [← H.old.tz] at htl
          refine ⟨v, ?_, hR⟩
          unfold Act.put
          rw [ht']
          simp [htl]
        · have hj' : listed.getD j false = true := by
            by_cases hjs : j < listed.size
            · simp [hjs, Array.getElem_setIfInBounds, Ne.symm hji] at hj ⊢; exact hj
            · simp [hjs] at hj
          obtain ⟨u, hu1, hu2⟩ := H.row j hj' o' t' ho' ht'
          refine ⟨u, ?_, hG j u w w' hg hu2⟩
          rw [← hu1]
          unfold Act.put
          split
          · rename_i d hd
            have : d ≠ t' := fun e => hji (dstB_ne hdst ho' ho ht' (by rw [hd, e]))
            simp [Array.getElem?_setIfInBounds, this]
          · rfl
    have hs := hstep i o ho a w H.c H.old (fun e he hb => H.row _ (hdep e he hb))
    unfold wpOp
    simp only [ho]
    split
    · rename_i hw
      rw [if_pos hw] at hs
      refine .inl (Oper.wp_mono (fun a' w' h => ?_) hs)
      obtain ⟨v, rfl, h1, h2, h3⟩ := h
      exact next v w' h1 h2 h3
    · rename_i hw
      rw [if_neg hw] at hs
      exact next undef w hs H.c (hrefl w)
theorem eval_of {a : Act} {t : Tmp} {v : Value} (h : a.tmps[t]? = some v) : a.eval (.tmp t) = v := by
  show a.tmps.getD t undef = v
  rw [Array.getD_eq_getD_getElem?, h]; rfl
theorem wanted_none {o : Oper} {y : Nat → Option Bool} (h : o.guard = none) : Region.wanted o y = true := by unfold Region.wanted; rw [h]
theorem wanted_some {o : Oper} {y : Nat → Option Bool} {j : Nat} {b : Bool} (h : o.guard = some (j, b)) (hy : y j = some b) : Region.wanted o y = true := by unfold Region.wanted; rw [h]; simp [hy]
theorem yielded_of {ops : Array Oper} {a : Act} {j t : Nat} {o : Oper} {b : Bool} (ho : ops[j]? = some o) (ht : o.dst = some t) (he : a.tmps[t]? = some (.bool b)) : yielded ops a.tmps j = some b := by
  unfold yielded
  rw [ho]
  simp only [Option.bind_some, ht, he]
def notDst (ops : List Oper) (t : Nat) : Bool := ops.all fun o => match o.dst with
  | none => true
  | some u => !(Nat.beq u t)
theorem OldR.at {l : List Oper} {a0 a : Act} (H : OldR l.toArray a0 a) {t : Nat} {v : Value} (hn : notDst l t = true) (h0 : a0.tmps[t]? = some v) : a.tmps[t]? = some v := by
  rw [H.old t fun i o ho e => ?_, h0]
  have hm : o ∈ l := by
    have := Array.mem_of_getElem? ho
    simpa using this
  have := List.all_eq_true.1 hn o hm
  rw [e] at this
  simp at this
theorem pure_step {P : Program} {o : Oper} {a : Act} {w : World} {R : Value → World → Prop} {C : World → Prop} {G : World → World → Prop} {Q : Exit → Act → World → Prop} (v : Value) (hR : R v w) (hC : C w) (hg : G w w)
    (h : o.wp P a w (fun a' w' => a' = a.put o.dst v ∧ w' = w) Q) : o.wp P a w (fun a' w' => ∃ v, a' = a.put o.dst v ∧ R v w' ∧ C w' ∧ G w w') Q :=
  Oper.wp_mono (fun a' w' ⟨h1, h2⟩ => by subst h2; exact ⟨v, h1, hR, hC, hg⟩) h
def AllFrom (p : Nat → Oper → Prop) : Nat → List Oper → Prop
  | _, [] => True
  | k, o :: l => p k o ∧ AllFrom p (k + 1) l
theorem AllFrom.cons {p : Nat → Oper → Prop} {k : Nat} {o : Oper} {l : List Oper} (h1 : p k o) (h2 : AllFrom p (k + 1) l) : AllFrom p k (o :: l) := ⟨h1, h2⟩
theorem AllFrom.get {p : Nat → Oper → Prop} : ∀ {l : List Oper} {k : Nat}, AllFrom p k l → ∀ i o, l[i]? = some o → p (k + i) o
  | [], k, _, i, o, h => by simp at h
  | x :: l, k, H, 0, o, h => by simp at h; subst h; exact H.1
  | x :: l, k, H, i + 1, o, h => by
    have := AllFrom.get H.2 i o (by simpa using h)
    rwa [show k + 1 + i = k + (i + 1) by omega] at this
theorem wp_region_rows {id : Nat} {l : List Oper} {a : Act} {w : World} (R : Nat → Value → World → Prop) (C : World → Prop) (G : World → World → Prop) (hm : P.follows .mixedOrders = true)
    (hG : ∀ j v w w', G w w' → R j v w → R j v w') (hrefl : ∀ w, G w w) (hacy : acyB l.toArray = true) (hdst : dstB l.toArray a.tmps.size = true) (hC : C w.drew)
    (hstep : AllFrom (StepR P l.toArray Q a R C G) 0 l) (hfin : ∀ a' w', C w' → OldR l.toArray a a' → (∀ i, RowAt l.toArray R i a' w') → Q .normal a' w') : (Code.region id l.toArray true).wp P Q a w := by
  refine wp_region_any hm ?_
  refine wpAny_rows (a0 := a) (R := R) (C := C) (G := G) hG hacy hdst (fun k o ho => by have := hstep.get k o (by simpa using ho); simpa using this) hrefl hfin _ _ _ _ ?_ ⟨hC, by simp, ⟨rfl, rfl, fun _ _ => rfl⟩, fun i hi => ?_⟩
  · unfold unl
    have := List.countP_le_length (p := fun i => !(Array.replicate l.toArray.size false).getD i true) (l := List.range l.toArray.size)
    simpa using this
  · by_cases h : i < l.toArray.size
    · simp at h; simp [h] at hi
    · simp at h; simp [Nat.not_lt.2 h] at hi
end
/-! a region whose last operations stand in order behind all others -/
theorem wpAny_more {P : Program} {md : Region.Mode} {ops : Array Oper} {Q : Exit → Act → World → Prop} : ∀ (f : Nat) (listed : Array Bool) (a : Act) (w : World), wpAny P md ops Q f listed a w → wpAny P md ops Q (f + 1) listed a w
  | 0, listed, a, w, h => ⟨fun _ => h.2, fun i hi => by rw [h.1] at hi; cases hi⟩
  | f + 1, listed, a, w, h => ⟨h.1, fun i hi => wpOp_mono (fun a' w' h' => wpAny_more f _ a' w' h') (h.2 i hi)⟩
theorem wpAny_fuel {P : Program} {md : Region.Mode} {ops : Array Oper} {Q : Exit → Act → World → Prop} {f g : Nat} (hfg : f ≤ g) {listed : Array Bool} {a : Act} {w : World} (h : wpAny P md ops Q f listed a w) : wpAny P md ops Q g listed a w := by
  obtain ⟨d, rfl⟩ : ∃ d, g = f + d := ⟨g - f, by omega⟩
  clear hfg
  induction d with
  | zero => exact h
  | succ d ih => exact wpAny_more _ _ _ _ ih
def headA (n m : Nat) : Array Bool := (List.replicate n true ++ List.replicate (m - n) false).toArray
theorem headA_eq {n m : Nat} (hn : n ≤ m) {listed : Array Bool} (hs : listed.size = m) (h1 : ∀ i, i < n → listed.getD i false = true) (h2 : ∀ t, n ≤ t → t < m → listed.getD t true = false) : listed = headA n m := by
  apply Array.ext
  · simp [headA, hs]; omega
  · intro i hi hi2
    by_cases hin : i < n
    · have := h1 i hin
      simp [hi] at this
      simp [headA, List.getElem_append, hin, this]
    · have := h2 i (by omega) (by omega)
      simp [hi] at this
      simp [headA, List.getElem_append, hin, this]
def unlH (n : Nat) (listed : Array Bool) : Nat := (List.range n).countP fun i => !listed.getD i true
theorem wpAny_rows_tail {P : Program} {l : List Oper} {Q : Exit → Act → World → Prop} {a0 : Act} {R : Nat → Value → World → Prop} {C : World → Prop} {G : World → World → Prop} (n : Nat) (hn : n < l.toArray.size)
    (hsk : Region.sinkB .any l.toArray n = true) (hch : Region.chainB .any l.toArray n = true) (hsq : Region.seqB .any l.toArray (l.drop n).length n (headA n l.toArray.size) = true)
    (hG : ∀ j v w w', G w w' → R j v w → R j v w') (hacy : acyB l.toArray = true) (hdst : dstB l.toArray a0.tmps.size = true)
    (hstep : ∀ k o, k < n → l.toArray[k]? = some o → StepR P l.toArray Q a0 R C G k o) (hrefl : ∀ w, G w w)
    (hfin : ∀ a w, C w → OldR l.toArray a0 a → (∀ i, i < n → RowAt l.toArray R i a w) → wpList P l.toArray Q (l.drop n) a w) :
    ∀ (fuel : Nat) (listed : Array Bool) (a : Act) (w : World), unlH n listed + (l.drop n).length ≤ fuel → InvR l.toArray a0 R C listed a w → HeadInv .any l.toArray n listed → wpAny P .any l.toArray Q fuel listed a w := by
  intro fuel
  induction fuel with
  | zero =>
    intro listed a w hu H I
    have : 0 < (l.drop n).length := by simp at hn ⊢; omega
    omega
  | succ fuel ih =>
    intro listed a w hu H I
    by_cases hall : ∀ i, i < n → listed.getD i false = true
    · have he : listed = headA n l.toArray.size := headA_eq (by omega) H.sz hall I.tail
      refine wpAny_fuel (f := (l.drop n).length) (by omega) ?_
      refine wpAny_of_seq (l.drop n) n listed a w (fun j => by simp [List.getElem?_drop]) (by rw [he]; exact hsq) ?_
      exact hfin a w H.c H.old fun i hi => H.row i (hall i hi)
    · obtain ⟨i0, hi0⟩ := Classical.not_forall.1 hall
      obtain ⟨hi0n, hi0l⟩ := Classical.not_imp.1 hi0
      have hun0 : listed.getD i0 true = false := getD_in (by rw [H.sz]; omega) (by simpa using hi0l)
      have hwait := tail_waits hsk hch hn I _ i0 rfl hi0n hun0
      refine ⟨fun hr => absurd (all_listed H.sz hacy hr i0 (by omega)) hi0l, fun i hi => ?_⟩
      have hin : i < n := by
        rcases Nat.lt_or_ge i n with h | h
        · exact h
        · exact absurd hi (hwait i h)
      obtain ⟨hun, o, ho, hdep⟩ := mem_ready.1 hi
      have hlt := (Array.getElem?_eq_some_iff.1 ho).1
      have hi' : i < listed.size := by rw [H.sz]; exact hlt
      have hli : listed[i] = false := by simpa [hi'] using hun
      have next : ∀ (v : Value) (w' : World), R i v w' → C w' → G w w' → wpAny P .any l.toArray Q fuel (listed.setIfInBounds i true) (a.put o.dst v) w' := fun v w' hR hC hg => by
        refine ih _ _ _ ?_ ⟨hC, by simpa using H.sz, ⟨?_, ?_, fun t ht => ?_⟩, fun j hj o' t' ho' ht' => ?_⟩ (I.set hi hin)
        · have := countP_lt (p := fun k => !listed.getD k true) (q := fun k => !(listed.setIfInBounds i true).getD k true) (fun x hx => by
            by_cases hxi : x = i
            · subst hxi; simp [hi'] at hx
            · by_cases hxs : x < listed.size
              · simp [hxs, Array.getElem_setIfInBounds, Ne.symm hxi] at hx ⊢; exact hx
              · simp [hxs] at hx) (i := i) (by simp [hi', hli]) (by simp [hi']) (List.mem_range.2 hin)
          unfold unlH at hu ⊢
          omega
        · rw [← H.old.tz]; unfold Act.put; split <;> simp
        · rw [← H.old.df]; unfold Act.put; split <;> rfl
        · rw [← H.old.old t ht]
          unfold Act.put
          split
          · rename_i d hd
            have : d ≠ t := fun e => ht i o ho (by rw [hd, e])
            simp [Array.getElem?_setIfInBounds, this]
          · rfl
        · by_cases hji : j = i
          · subst hji
            rw [ho] at ho'
            cases ho'
            have htl := dstB_lt hdst ho ht'
            rw [← H.old.tz] at htl
            refine ⟨v, ?_, hR⟩
            unfold Act.put
            rw [ht']
            simp [htl]
          · have hj' : listed.getD j false = true := by
              by_cases hjs : j < listed.size
              · simp [hjs, Array.getElem_setIfInBounds, Ne.symm hji] at hj ⊢; exact hj
              · simp [hjs] at hj
            obtain ⟨u, hu1, hu2⟩ := H.row j hj' o' t' ho' ht'
            refine ⟨u, ?_, hG j u w w' hg hu2⟩
            rw [← hu1]
            unfold Act.put
            split
            · rename_i d hd
              have : d ≠ t' := fun e => hji (dstB_ne hdst ho' ho ht' (by rw [hd, e]))
              simp [Array.getElem?_setIfInBounds, this]
            · rfl
      have hs := hstep i o hin ho a w H.c H.old (fun e he hb => H.row _ (hdep e he hb))
      unfold wpOp
      simp only [ho]
      split
      · rename_i hw
        rw [if_pos hw] at hs
        refine .inl (Oper.wp_mono (fun a' w' h => ?_) hs)
        obtain ⟨v, rfl, h1, h2, h3⟩ := h
        exact next v w' h1 h2 h3
      · rename_i hw
        rw [if_neg hw] at hs
        exact next undef w hs H.c (hrefl w)
def AllUpto (p : Nat → Oper → Prop) : Nat → Nat → List Oper → Prop
  | 0, _, _ => True
  | _, _, [] => True
  | n + 1, k, o :: l => p k o ∧ AllUpto p n (k + 1) l
theorem AllUpto.cons {p : Nat → Oper → Prop} {n k : Nat} {o : Oper} {l : List Oper} (h1 : p k o) (h2 : AllUpto p n (k + 1) l) : AllUpto p (n + 1) k (o :: l) := ⟨h1, h2⟩
theorem AllUpto.nil {p : Nat → Oper → Prop} {k : Nat} {l : List Oper} : AllUpto p 0 k l := by unfold AllUpto; trivial
theorem AllUpto.get {p : Nat → Oper → Prop} : ∀ {n : Nat} {l : List Oper} {k : Nat}, AllUpto p n k l → ∀ i o, i < n → l[i]? = some o → p (k + i) o
  | 0, l, k, _, i, o, hi, h => absurd hi (Nat.not_lt_zero _)
  | n + 1, [], k, _, i, o, _, h => by simp at h
  | n + 1, x :: l, k, H, 0, o, _, h => by simp at h; subst h; exact H.1
  | n + 1, x :: l, k, H, i + 1, o, hi, h => by
    have := AllUpto.get H.2 i o (by omega) (by simpa using h)
    rwa [show k + 1 + i = k + (i + 1) by omega] at this
theorem wp_region_rows_tail {P : Program} {Q : Exit → Act → World → Prop} {id : Nat} {l : List Oper} {a : Act} {w : World} (n : Nat) (R : Nat → Value → World → Prop) (C : World → Prop) (G : World → World → Prop) (hm : P.follows .mixedOrders = true)
    (hG : ∀ j v w w', G w w' → R j v w → R j v w') (hrefl : ∀ w, G w w) (hacy : acyB l.toArray = true) (hdst : dstB l.toArray a.tmps.size = true)
    (hn : Nat.blt n l.length = true) (hsk : Region.sinkB .any l.toArray n = true) (hch : Region.chainB .any l.toArray n = true) (hsq : Region.seqB .any l.toArray (l.drop n).length n (headA n l.toArray.size) = true) (hC : C w.drew)
    (hstep : AllUpto (StepR P l.toArray Q a R C G) n 0 l) (hfin : ∀ a' w', C w' → OldR l.toArray a a' → (∀ i, i < n → RowAt l.toArray R i a' w') → wpList P l.toArray Q (l.drop n) a' w') : (Code.region id l.toArray true).wp P Q a w := by
  have hn' : n < l.toArray.size := by rw [Nat.blt_eq] at hn; simpa using hn
  refine wp_region_any hm ?_
  refine wpAny_rows_tail (a0 := a) (R := R) (C := C) (G := G) n hn' hsk hch hsq hG hacy hdst (fun k o hk ho => by have := hstep.get k o hk (by simpa using ho); simpa using this) hrefl hfin _ _ _ _ ?_ ⟨hC, by simp, ⟨rfl, rfl, fun _ _ => rfl⟩, fun i hi => ?_⟩ ⟨by simp, fun j oj _ hl => (by rw [getD_replicate_false] at hl; cases hl), fun t _ ht => getD_in (by simpa using ht) (getD_replicate_false _ _)⟩
  · unfold unlH
    have := List.countP_le_length (p := fun i => !(Array.replicate l.toArray.size false).getD i true) (l := List.range n)
    simp at this ⊢
    simp at hn'
    omega
  · by_cases h : i < l.toArray.size
    · simp at h; simp [h] at hi
    · simp at h; simp [Nat.not_lt.2 h] at hi
/-! the frame behind a region, written out -/
def merge (us : Nat → Value) : List Bool → Nat → List Value → List Value
  | [], _, l => l
  | _ :: _, _, [] => []
  | true :: m, i, _ :: l => us i :: merge us m (i + 1) l
  | false :: m, i, x :: l => x :: merge us m (i + 1) l
theorem merge_len (us : Nat → Value) : ∀ (m : List Bool) (i : Nat) (l : List Value), (merge us m i l).length = l.length
  | [], _, l => by unfold merge; rfl
  | _ :: _, _, [] => by unfold merge; rfl
  | true :: m, i, _ :: l => by unfold merge; simp [merge_len us m (i + 1) l]
  | false :: m, i, x :: l => by unfold merge; simp [merge_len us m (i + 1) l]
theorem merge_get (us : Nat → Value) : ∀ (m : List Bool) (i : Nat) (l : List Value) (j : Nat), j < l.length → (merge us m i l)[j]? = if m[j]? = some true then some (us (i + j)) else l[j]?
  | [], _, l, j, _ => by unfold merge; simp
  | _ :: _, _, [], j, hj => by simp at hj
  | true :: m, i, _ :: l, 0, _ => by unfold merge; simp
  | false :: m, i, x :: l, 0, _ => by unfold merge; simp
  | true :: m, i, _ :: l, j + 1, hj => by
    unfold merge
    have := merge_get us m (i + 1) l j (by simpa using hj)
    simp only [List.getElem?_cons_succ, this, show i + 1 + j = i + (j + 1) by omega]
  | false :: m, i, x :: l, j + 1, hj => by
    unfold merge
    have := merge_get us m (i + 1) l j (by simpa using hj)
    simp only [List.getElem?_cons_succ, this, show i + 1 + j = i + (j + 1) by omega]
def maskB (m : List Bool) (l : List Oper) : Bool := l.all fun o => match o.dst with
  | none => true
  | some t => m.getD t false
theorem OldR.lit {l : List Oper} {a0 a : Act} {L : List Value} {d : _} (H : OldR l.toArray a0 a) (h0 : a0 = ⟨L.toArray, d⟩) (m : List Bool) (hm : maskB m l = true) :
    ∃ us : Nat → Value, (∀ i v, m.getD i false = true → a.tmps[i]? = some v → us i = v) ∧ a = ⟨(merge us m 0 L).toArray, d⟩ := by
  subst h0
  refine ⟨fun i => a.tmps.getD i undef, fun i v _ hv => by dsimp only; rw [Array.getD_eq_getD_getElem?, hv]; rfl, ?_⟩
  obtain ⟨T, dd⟩ := a
  have hd := H.df
  have hz := H.tz
  dsimp only at hd hz
  subst hd
  have hz' : T.size = L.length := by simpa using hz
  suffices hT : T = (merge (fun i => T.getD i undef) m 0 L).toArray by exact congrArg (fun x => (⟨x, dd⟩ : Act)) hT
  refine Array.ext_getElem? fun j => ?_
  by_cases hj : j < L.length
  · have h1 := merge_get (fun i => T.getD i undef) m 0 L j hj
    rw [show (merge (fun i => T.getD i undef) m 0 L).toArray[j]? = (merge (fun i => T.getD i undef) m 0 L)[j]? by simp, h1]
    by_cases hmj : m[j]? = some true
    · rw [if_pos hmj, Nat.zero_add, Array.getD_eq_getD_getElem?]
      have : j < T.size := by omega
      simp [this]
    · rw [if_neg hmj]
      have := H.old j fun i o ho e => by
        have hmem : o ∈ l := by
          have := Array.mem_of_getElem? ho
          simpa using this
        have h2 := List.all_eq_true.1 hm o hmem
        rw [e] at h2
        apply hmj
        dsimp only at h2
        rw [List.getD_eq_getElem?_getD] at h2
        cases hg : m[j]? with
        | none => rw [hg] at h2; cases h2
        | some b => rw [hg] at h2; cases b <;> simp_all
      simpa using this
  · rw [Array.getElem?_eq_none (by omega), Array.getElem?_eq_none (by simp [merge_len]; omega)]
/-- what an operation yields -/
inductive Yield where
  | eq (v : Value)
  | is (p : Value → World → Prop) (hp : ∀ v w w', Kept [] w w' → p v w → p v w')
def Yield.den : Yield → Value → World → Prop
  | .eq u, v, _ => v = u
  | .is p _, v, w => p v w
def yieldDen (l : List Yield) (k : Nat) (v : Value) (w : World) : Prop := match l[k]? with
  | some p => p.den v w
  | none => True
theorem yieldDen_kept (l : List Yield) (k : Nat) (v : Value) (w w' : World) (hk : Kept [] w w') (h : yieldDen l k v w) : yieldDen l k v w' := by
  unfold yieldDen at h ⊢
  cases hl : l[k]? with
  | none => trivial
  | some p =>
    rw [hl] at h
    dsimp only at h ⊢
    cases p with
    | eq u => exact h
    | is p hp => exact hp v w w' hk h
end Go.Proofs.Ytbkapjmomafjjaa
/- Rows of pairs and transactions that are new. No program text. -/
namespace Go.Proofs.Ytbkapjmomafjjaa
open Go.RowKit
set_option linter.unusedVariables false
set_option linter.unusedSimpArgs false

/-- a row of pairs that is new -/
def PrN (lo : Nat) (l : List Pr) (v : Value) (w : World) : Prop := (∃ pa pc, v = .slice pa l.length pc) ∧ PrAt w v l ∧ ∀ a n c, v = .slice (some a) n c → 0 < n → lo ≤ a.block
theorem PrN.kept {lo : Nat} {l : List Pr} {v : Value} {w w' : World} (hk : Kept [] w w') (h : PrN lo l v w) : PrN lo l v w' := ⟨h.1, h.2.1.kept hk, h.2.2⟩
def AggN (lo : Nat) (x : Txp) (v : Value) (w : World) : Prop := ∃ pa pc, v = .agg #[.int .i64 x.n, .int .u16 (x.mask : Int), .bool x.com, .slice pa x.ws.length pc] ∧ PrN lo x.ws (.slice pa x.ws.length pc) w
theorem AggN.kept {lo : Nat} {x : Txp} {v : Value} {w w' : World} (hk : Kept [] w w') (h : AggN lo x v w) : AggN lo x v w' := by
  obtain ⟨pa, pc, h1, h2⟩ := h
  exact ⟨pa, pc, h1, h2.kept hk⟩
def RowN (lo : Nat) (x : Txp) (v : Value) (w : World) : Prop := ∃ g pa pc, v = .slice (some ⟨g, 0, none⟩) 1 1 ∧ PrN lo x.ws (.slice pa x.ws.length pc) w ∧ ∀ j u, (txF (x, .slice pa x.ws.length pc))[j]? = some u → w.cell? ((⟨g, 0, none⟩ : Addr).add j) = some u
theorem RowN.kept {lo : Nat} {x : Txp} {v : Value} {w w' : World} (hk : Kept [] w w') (h : RowN lo x v w) : RowN lo x v w' := by
  obtain ⟨g, pa, pc, h1, h2, h3⟩ := h
  refine ⟨g, pa, pc, h1, h2.kept hk, fun j u hu => ?_⟩
  have := h3 j u hu
  have e : (⟨g, 0, none⟩ : Addr).add j = ⟨g, j, none⟩ := by unfold Addr.add; split <;> simp_all
  rw [e] at this ⊢
  exact hk.cell this (by simp)
end Go.Proofs.Ytbkapjmomafjjaa
/- append at rows of the call's own, whatever slice is put behind; records, transactions. -/
namespace Go.Proofs.Ytbkapjmomafjjaa
open Go.RowKit Go.Proofs
set_option linter.unusedVariables false
set_option linter.unusedSimpArgs false

theorem run_append_nil_any {P : Program} {w : World} {size : Nat} (base : Nat) (t ty e : TypeId) (i : TypeInfo) (ht : P.underlying t = some (.slice e)) (hi : P.info? e = some i)
    (v : Value) (n c : Nat) (xs : List Value) (hown : w.ownsRow base e size v n xs) :
    (Builtin.append_ #[t, t] ty #[v, .slice none 0 c]).run P w = .ok v w := by
  rcases hown.2 with ⟨rfl, rfl⟩ | ⟨g, cap, cur, rfl, _, _, hnc, _⟩
  · simp [Builtin.append_, run_underlying ht, sizeOf, typeInfo, hi, Builtin.lenOf, Builtin.firstCells]
  · simp [Builtin.append_, run_underlying ht, sizeOf, typeInfo, hi, Builtin.lenOf, Builtin.firstCells, hnc, storeCells]
section
variable {P : Program} {w : World} {o : Oper} {a : Act} {K : Act → World → Prop} {Q : Exit → Act → World → Prop}
/-- all of a slice, behind a row of the call's own -/
theorem wp_append_sl (s x : Operand) (t : TypeId)
    (ho : o.op = .call { callee := .builtin .append, args := #[s, x], argTypes := #[t, t] })
    (e : TypeId) (z : Value) (size bytes : Nat) (ht : P.underlying t = some (.slice e)) (hi : (P.info? e).map (fun i => (i.zero, i.size, i.bytes)) = some (some z, size, bytes))
    (hzs : z.cells.size = size) (hsz : 0 < size) (hby : 0 < bytes) (base : Nat)
    (v : Value) (n : Nat) (xs : List Value) (hs : a.eval s = v) (hown : w.ownsRow base e size v n xs)
    (vx : Value) (m : Nat) (news : List Value) (hx : a.eval x = vx) (hp : SlAt w vx size m news) (h1 : ∀ u ∈ news, u.oneCell' = true)
    (hbytes : (n + m) * bytes ≤ 140737488355328) (hbase : base ≤ w.heap.size)
    (h : ∀ v' w', w'.ownsRow base e size v' (n + m) (xs ++ news) → w.grownBy w' v.ownBlock → (v ≠ .slice none 0 0 → v' ≠ .slice none 0 0) → K (a.put o.dst v') w') : o.wp P a w K Q := by
  obtain ⟨ax, c, rfl, hm, hl, h3⟩ := hp.ex
  cases ax with
  | none =>
    have hm0 : m = 0 := by
      rcases Nat.eq_zero_or_pos m with h0 | h0
      · exact h0
      · obtain ⟨b, off, e, _⟩ := h3 h0; cases e
    subst hm0
    have hn0 : news = [] := List.eq_nil_of_length_eq_zero (by simpa using hl)
    subst hn0
    obtain ⟨i, hi, hz0, hz1, hz2⟩ := info_parts hi
    have hr := run_append_nil_any (P := P) (w := w) base t o.type e i ht hi v n c xs hown
    unfold Oper.wp execOp
    simp only [ho, resolve, invoke, builtin, Sem.run_bind, Sem.run_pure, Result.andThen_ok, List.map_toArray, List.map_cons, List.map_nil, hs, hx, hr]
    exact h v w (by simpa using hown) (World.grownBy.refl _ _) id
  | some ad =>
    refine wp_append_is s x t ho e z size bytes ht hi hzs hsz hby base v n xs hs hown ad m c news hx hl ?_ h1 hbytes hbase (fun v' w' g1 g2 g3 => h v' w' g1 g2 (fun hne e => hne (g3.1 e).1))
    intro j u hj
    have hpos : 0 < m := by
      rcases Nat.eq_zero_or_pos m with h0 | h0
      · subst h0
        have : news = [] := List.eq_nil_of_length_eq_zero (by simpa using hl)
        subst this
        simp at hj
      · exact h0
    obtain ⟨b, off, e, _, hcs⟩ := h3 hpos
    cases e
    rw [Addr.add_lit]
    exact hcs j u hj
theorem wpList_append_sl {ops : Array Oper} {rest : List Oper} {Q : Exit → Act → World → Prop} (hgd : o.guard = none) (s x : Operand) (t : TypeId)
    (ho : o.op = .call { callee := .builtin .append, args := #[s, x], argTypes := #[t, t] })
    (e : TypeId) (z : Value) (size bytes : Nat) (ht : P.underlying t = some (.slice e)) (hi : (P.info? e).map (fun i => (i.zero, i.size, i.bytes)) = some (some z, size, bytes))
    (hzs : z.cells.size = size) (hsz : 0 < size) (hby : 0 < bytes) (base : Nat)
    (v : Value) (n : Nat) (xs : List Value) (hs : a.eval s = v) (hown : w.ownsRow base e size v n xs)
    (vx : Value) (m : Nat) (news : List Value) (hx : a.eval x = vx) (hp : SlAt w vx size m news) (h1 : ∀ u ∈ news, u.oneCell' = true)
    (hbytes : (n + m) * bytes ≤ 140737488355328) (hbase : base ≤ w.heap.size)
    (h : ∀ v' w', w'.ownsRow base e size v' (n + m) (xs ++ news) → w.grownBy w' v.ownBlock → (v ≠ .slice none 0 0 → v' ≠ .slice none 0 0) → wpList P ops Q rest (a.put o.dst v') w') : wpList P ops Q (o :: rest) a w :=
  wpList_plain hgd fun _ hK => wp_append_sl s x t ho e z size bytes ht hi hzs hsz hby base v n xs hs hown vx m news hx hp h1 hbytes hbase fun v' w' h2 h3 h4 => hK _ _ (h v' w' h2 h3 h4)
end
theorem SlAt.new (w : World) (l : List Value) (t : TypeId) (size n : Nat) (hm : n ≤ maxLen) (hl : l.length = n * size) : SlAt (w.alloc (.cells l.toArray t)) (.slice (some ⟨w.heap.size, 0, none⟩) n n) size n l :=
  SlAt.of_own (ownsRow_new w l t size n 0 (by omega) hm hl)
theorem rcF_one (l : List Rc) : ∀ u ∈ l.flatMap Rc.f, u.oneCell' = true := fun u hu => by
  obtain ⟨r, _, hr⟩ := List.mem_flatMap.1 hu
  simp only [Rc.f, List.mem_cons, List.not_mem_nil, or_false] at hr
  rcases hr with rfl | rfl | rfl | rfl | rfl | rfl | rfl | rfl | rfl | rfl | rfl <;> rfl
theorem rcF_one1 (r : Rc) : ∀ u ∈ r.f, u.oneCell' = true := fun u hu => rcF_one [r] u (by simpa using hu)
--@@ []api.Rec
theorem recInfo : (Try.prog.info? 43).map (fun i => (i.zero, i.size, i.bytes)) = some (some (.agg #[.int .i64 0, .int .i64 0, .int .u16 0, .int .u8 0, .int .u8 0, .int .u8 0, .int .u8 0, .bool false, .int .i64 0, .bool false, .int .i64 0]), 11, 56) := by kernel_rfl
section
variable {w : World} {o : Oper} {a : Act} {K : Act → World → Prop} {Q : Exit → Act → World → Prop}
/-- records behind a row of records of the call's own -/
theorem wp_append_rc (s x : Operand)
    (ho : o.op = .call { callee := .builtin .append, args := #[s, x], argTypes := #[22, 22] })
    (base : Nat) (v : Value) (xs : List Rc) (hs : a.eval s = v) (hown : w.ownsRow base 43 11 v xs.length (xs.flatMap Rc.f))
    (vx : Value) (ns : List Rc) (hx : a.eval x = vx) (hp : SlAt w vx 11 ns.length (ns.flatMap Rc.f))
    (hlen : xs.length + ns.length ≤ 1000000) (hbase : base ≤ w.heap.size)
    (h : ∀ v' w', w'.ownsRow base 43 11 v' (xs ++ ns).length ((xs ++ ns).flatMap Rc.f) → w.grownBy w' v.ownBlock → (v ≠ .slice none 0 0 → v' ≠ .slice none 0 0) → K (a.put o.dst v') w') : o.wp Try.prog a w K Q :=
  wp_append_sl s x 22 ho 43 _ 11 56 Try.underlying22 recInfo rfl (by decide) (by decide) base v xs.length _ hs hown vx ns.length _ hx hp (rcF_one ns) (by omega) hbase fun v' w' h1 h2 h3 => h v' w' (by rw [List.flatMap_append, List.length_append]; exact h1) h2 h3
theorem wpList_append_rc {ops : Array Oper} {rest : List Oper} (hgd : o.guard = none) (s x : Operand)
    (ho : o.op = .call { callee := .builtin .append, args := #[s, x], argTypes := #[22, 22] })
    (base : Nat) (v : Value) (xs : List Rc) (hs : a.eval s = v) (hown : w.ownsRow base 43 11 v xs.length (xs.flatMap Rc.f))
    (vx : Value) (ns : List Rc) (hx : a.eval x = vx) (hp : SlAt w vx 11 ns.length (ns.flatMap Rc.f))
    (hlen : xs.length + ns.length ≤ 1000000) (hbase : base ≤ w.heap.size)
    (h : ∀ v' w', w'.ownsRow base 43 11 v' (xs ++ ns).length ((xs ++ ns).flatMap Rc.f) → w.grownBy w' v.ownBlock → (v ≠ .slice none 0 0 → v' ≠ .slice none 0 0) → wpList Try.prog ops Q rest (a.put o.dst v') w') : wpList Try.prog ops Q (o :: rest) a w :=
  wpList_plain hgd fun _ hK => wp_append_rc s x ho base v xs hs hown vx ns hx hp hlen hbase fun v' w' h2 h3 h4 => hK _ _ (h v' w' h2 h3 h4)
theorem SlAt.rec1 (w : World) (r : Rc) : SlAt (w.alloc (.cells r.f.toArray 43)) (.slice (some ⟨w.heap.size, 0, none⟩) 1 1) 11 [r].length ([r].flatMap Rc.f) := by
  have := SlAt.new w r.f 43 11 1 (by decide) rfl
  simpa using this
theorem recs_made0 (w : World) (base : Nat) (hb : base ≤ w.heap.size) : (w.alloc (.cells #[] 43)).ownsRow base 43 11 (.slice (some ⟨w.heap.size, 0, none⟩) 0 0) ([] : List Rc).length (([] : List Rc).flatMap Rc.f) := ownsRow_made0 w 43 11 base hb
end
--@@ end
end Go.Proofs.Ytbkapjmomafjjaa
/- What a log's records come to: the statements, of plain data. No program text. -/
namespace Go.Proofs.Ytbkapjmomafjjaa
set_option linter.unusedVariables false
set_option linter.unusedSimpArgs false

theorem replay_right (l : List Rc) : (replayP l).right = decide ((replayP l).base.length ≤ 64) := out_right (play_ok PlOk.zero l)
/-- what records come to is a state whose records come to the same -/
theorem law_twice (l : List Rc) (h : (replayP l).right = true) : replayP (recsS (replayP l)) = replayP l := law_back (StOk.of h) p0
theorem law_behind (l : List Rc) {s : Stp} (h : s.right = true) : replayP (recsS s) = s ∧ replayP (l ++ recsS s) = s ∧ replayP (recsS s ++ [Rc.zero]) = s := by
  refine ⟨law_back (StOk.of h) p0, ?_, ?_⟩
  · unfold replayP; rw [play_app]; exact law_back (StOk.of h) _
  · unfold replayP; rw [play_app]
    have : playP (playP p0 (recsS s)) [Rc.zero] = playP p0 (recsS s) := rfl
    rw [this]
    exact law_back (StOk.of h) p0
/-! what has ended is gone -/
theorem del_keys {β : Type} (tx : Int) : ∀ (ws : List (Int × β)), (ws.map (·.1)).Nodup → (adel tx ws).map (·.1) = (ws.map (·.1)).filter fun n => decide (n ≠ tx)
  | [], _ => rfl
  | p :: l, h => by
    rw [List.map_cons, List.nodup_cons] at h
    by_cases e : p.1 = tx
    · simp only [adel, if_pos e, List.map_cons]
      rw [List.filter_cons_of_neg (by simp [e])]
      symm
      rw [List.filter_eq_self]
      intro n hn
      refine decide_eq_true fun e' => h.1 ?_
      rw [e, ← e']; exact hn
    · simp only [adel, if_neg e, List.map_cons]
      rw [List.filter_cons_of_pos (by simpa using e), del_keys tx l h.2]
theorem getW_del (ws : List (Int × Wk)) (hn : (ws.map (·.1)).Nodup) (tx n : Int) : getW (adel tx ws) n = if tx = n then Wk.none else getW ws n := by
  unfold getW
  rw [tget_del _ _ _ hn]
  split <;> rfl
theorem txOf_n {ws : List (Int × Wk)} {n : Int} {x : Txp} (h : txOf ws n = some x) : x.n = n := by
  unfold txOf at h
  split at h
  · injection h with h; rw [← h]
  · cases h
theorem filterMap_del (ws : List (Int × Wk)) (hn : (ws.map (·.1)).Nodup) (tx : Int) : ∀ L : List Int, (L.filter fun n => decide (n ≠ tx)).filterMap (txOf (adel tx ws)) = (L.filterMap (txOf ws)).filter fun x => decide (x.n ≠ tx)
  | [] => rfl
  | n :: L => by
    have ih := filterMap_del ws hn tx L
    by_cases e : n = tx
    · rw [List.filter_cons_of_neg (by simp [e]), ih]
      cases hx : txOf ws n with
      | none => rw [List.filterMap_cons_none hx]
      | some x =>
        rw [List.filterMap_cons_some hx, List.filter_cons_of_neg]
        have := txOf_n hx
        simp [this, e]
    · have hg : txOf (adel tx ws) n = txOf ws n := by
        unfold txOf
        rw [getW_del ws hn, if_neg (Ne.symm e)]
      rw [List.filter_cons_of_pos (by simpa using e)]
      cases hx : txOf ws n with
      | none => rw [List.filterMap_cons_none (hg.trans hx), List.filterMap_cons_none hx, ih]
      | some x =>
        rw [List.filterMap_cons_some (hg.trans hx), List.filterMap_cons_some hx, ih, List.filter_cons_of_pos]
        have := txOf_n hx
        simp [this, e]
theorem out_del (b b' : List Pr) (ws : List (Int × Wk)) (hn : (ws.map (·.1)).Nodup) (tx l l' : Int) (t t' : List Pr) : (outP ⟨b, adel tx ws, l, t⟩).txs = (outP ⟨b', ws, l', t'⟩).txs.filter fun x => decide (x.n ≠ tx) := by
  have hk : srtI ((adel tx ws).map (·.1)) = (srtI (ws.map (·.1))).filter fun n => decide (n ≠ tx) := by
    refine lt_ext (srtI_srt (tdel_nodup _ _ hn)) ((srtI_srt hn).filter _) ?_
    refine (srtI_perm _).trans ?_
    rw [del_keys tx ws hn]
    exact ((srtI_perm _).symm).filter _
  show (srtI ((adel tx ws).map (·.1))).filterMap (txOf (adel tx ws)) = _
  rw [hk, filterMap_del ws hn]
  rfl
theorem law_ends (l : List Rc) (tx : Int) (ht : 1 ≤ tx ∧ tx ≤ 1048576) (c : Int) (hc : c = 5 ∨ c = 6) :
    replayP (l ++ [⟨c, tx, 0, ⟨0, 0, 0, 0⟩, V.zero, V.zero⟩]) = ⟨(replayP l).base, (replayP l).txs.filter fun x => decide (x.n ≠ tx)⟩ := by
  have hr : ∀ r ∈ [(⟨c, tx, 0, ⟨0, 0, 0, 0⟩, V.zero, V.zero⟩ : Rc)], r.right = true := fun r hr => by
    rw [List.mem_singleton] at hr; subst hr
    exact rec_plain c tx (by omega) ht
  have hok := play_ok PlOk.zero l
  unfold replayP
  rw [play_app, play_all _ hr]
  have h1 : ∀ q : Pl, oneP q ⟨c, tx, 0, ⟨0, 0, 0, 0⟩, V.zero, V.zero⟩ = ⟨q.base, adel tx q.works, -1, q.taken⟩ := fun q => by
    unfold oneP
    rw [if_neg (by show ¬ c = 8; omega), if_neg (by show ¬ c = 7; omega), if_neg (by show ¬ c = 1; omega), if_neg (by show ¬ c = 2; omega), if_neg (by show ¬ c = 4; omega), if_pos hc]
  rw [List.foldl_cons, List.foldl_nil, h1]
  have h2 := out_del (playP p0 l).base (playP p0 l).base (playP p0 l).works hok.kn tx (-1) (playP p0 l).left (playP p0 l).taken (playP p0 l).taken
  show (⟨_, (outP ⟨(playP p0 l).base, adel tx (playP p0 l).works, -1, (playP p0 l).taken⟩).txs⟩ : Stp) = _
  rw [h2]
  rfl
/-! a transaction's writes, its yes and its commit -/
def endR (tx : Int) : Rc := ⟨6, tx, 0, ⟨0, 0, 0, 0⟩, V.zero, V.zero⟩
def writesR (tx : Int) (l : List Pr) : List Rc := l.map fun p => ⟨1, tx, 0, p.key, V.zero, p.val⟩
def yesR (tx : Int) (m : Nat) : Rc := ⟨2, tx, m, ⟨0, 0, 0, 0⟩, V.zero, V.zero⟩
def comR (tx : Int) : Rc := ⟨4, tx, 0, ⟨0, 0, 0, 0⟩, V.zero, V.zero⟩
theorem law_commits (l : List Rc) (tx : Int) (ht : 1 ≤ tx ∧ tx ≤ 1048576) (m : Nat) (hm : m ≠ 0) (ps : List Pr) (hp : ∀ p ∈ ps, p.val.right = true) :
    (replayP (l ++ (endR tx :: (writesR tx ps ++ [yesR tx m])))).base = (replayP l).base ∧ (replayP (l ++ (endR tx :: (writesR tx ps ++ [yesR tx m, comR tx])))).base = sortP ((replayP l).base ++ ps) := by
  have hok := play_ok PlOk.zero l
  have hr1 : (endR tx).right = true := rec_plain 6 tx (by omega) ht
  have hr2 : ∀ r ∈ writesR tx ps, r.right = true := fun r hr => by
    obtain ⟨p, hp', rfl⟩ := List.mem_map.1 hr
    exact rec_write _ _ _ _ ht rfl (hp p hp')
  have hr3 : (yesR tx m).right = true := rec_yes tx m ht hm
  have hr4 : (comR tx).right = true := rec_plain 4 tx (by omega) ht
  have key : ∀ rest : List Rc, (∀ r ∈ rest, r.right = true) → playP p0 (l ++ (endR tx :: (writesR tx ps ++ yesR tx m :: rest))) = rest.foldl oneP ⟨(playP p0 l).base, aput tx ⟨m, false, foldA ps []⟩ (adel tx (playP p0 l).works), -1, (playP p0 l).taken⟩ := fun rest hrest => by
    rw [play_app, play_all _ (fun r hr => by
      rcases List.mem_cons.1 hr with rfl | hr
      · exact hr1
      · rcases List.mem_append.1 hr with hr | hr
        · exact hr2 r hr
        · rcases List.mem_cons.1 hr with rfl | hr
          · exact hr3
          · exact hrest r hr)]
    rw [List.foldl_cons, List.foldl_append, List.foldl_cons]
    have h1 : oneP (playP p0 l) (endR tx) = ⟨(playP p0 l).base, adel tx (playP p0 l).works, -1, (playP p0 l).taken⟩ := rfl
    have hg : getW (adel tx (playP p0 l).works) tx = ⟨0, false, []⟩ := by rw [getW_del _ hok.kn, if_pos rfl]; rfl
    rw [h1]
    congr 1
    cases ps with
    | nil =>
      show oneP ⟨_, adel tx (playP p0 l).works, -1, _⟩ (yesR tx m) = _
      unfold yesR
      rw [one_yes _ _ _ tx m [] hg]; rfl
    | cons p ps =>
      unfold writesR yesR
      rw [fold_writes _ _ tx (p :: ps) [] _ (fun _ => V.zero) (by simp) hg, one_yes _ _ _ tx m _ (getW_put _ _ _), tput_put]
  constructor
  · unfold replayP
    rw [key [] (fun r hr => by cases hr)]
    rfl
  · unfold replayP
    rw [key [comR tx] (fun r hr => by rw [List.mem_singleton] at hr; subst hr; exact hr4), List.foldl_cons, List.foldl_nil]
    unfold comR
    rw [one_commit _ _ _ tx m _ hm (getW_put _ _ _)]
    show sortP ((playP p0 l).base ++ keysP ((foldA ps []).map toPr)) = _
    rw [keysP_foldA, sortP_keys]
    rfl
/-! what isn't committed isn't in the base -/
theorem getW_put_ne (ws : List (Int × Wk)) {n k : Int} (w : Wk) (h : ¬ k = n) : getW (aput k w ws) n = getW ws n := by unfold getW; rw [tget_put, if_neg h]
theorem one_com {p : Pl} {r : Rc} {d : Int} (hn : (p.works.map (·.1)).Nodup) (hk : r.kind ≠ 7 ∧ r.kind ≠ 8) (hd : r.tx = d → r.kind ≠ 5 ∧ r.kind ≠ 6) (h : (getW p.works d).com = true) : (getW (oneP p r).works d).com = true := by
  unfold oneP
  rw [if_neg hk.2, if_neg hk.1]
  have put : ∀ w : Wk, (r.tx = d → w.com = true) → (getW (aput r.tx w p.works) d).com = true := fun w hw => by
    by_cases e : r.tx = d
    · rw [e, getW_put]; exact hw e
    · rw [getW_put_ne _ _ e]; exact h
  split
  · refine put _ fun e => ?_
    unfold writeW
    split
    · rw [e]; exact h
    · rw [e]; exact h
  · split
    · refine put _ fun e => ?_
      unfold yesW
      split
      · rw [e]; exact h
      · rw [e]; exact h
    · split
      · refine put _ fun e => ?_
        unfold commitW
        split
        · rw [e]; exact h
        · rfl
      · split
        · rename_i hc
          show (getW (adel r.tx p.works) d).com = true
          rw [getW_del _ hn, if_neg (fun e => by have := hd e; omega)]
          exact h
        · exact h
theorem one_nodup {p : Pl} (r : Rc) (hn : (p.works.map (·.1)).Nodup) : ((oneP p r).works.map (·.1)).Nodup := by
  have hw : ∀ q : Pl, (q.works.map (·.1)).Nodup → ((wholeP q).works.map (·.1)).Nodup := fun q hq => by
    unfold wholeP
    split
    · exact List.nodup_nil
    · exact hq
  unfold oneP
  split
  · exact hw _ hn
  · split
    · split
      · exact hw _ hn
      · exact hn
    · split
      · exact tput_nodup _ _ _ hn
      · split
        · exact tput_nodup _ _ _ hn
        · split
          · exact tput_nodup _ _ _ hn
          · split
            · exact tdel_nodup _ _ hn
            · exact hn
theorem fold_com {d : Int} : ∀ (l : List Rc) {p : Pl}, (p.works.map (·.1)).Nodup → (∀ r ∈ l, (r.kind ≠ 7 ∧ r.kind ≠ 8) ∧ (r.tx = d → r.kind ≠ 5 ∧ r.kind ≠ 6)) → (getW p.works d).com = true → (getW (l.foldl oneP p).works d).com = true
  | [], p, _, _, h => h
  | r :: l, p, hn, hl, h => fold_com l (one_nodup r hn) (fun x hx => hl x (List.mem_cons_of_mem _ hx)) (one_com hn (hl r List.mem_cons_self).1 (hl r List.mem_cons_self).2 h)
structure Sim (d : Int) (p p' : Pl) : Prop where
  b : p.base = p'.base
  n : (p.works.map (·.1)).Nodup
  n' : (p'.works.map (·.1)).Nodup
  w : ∀ n, n ≠ d → getW p.works n = getW p'.works n
theorem Sim.other {d : Int} {p p' : Pl} (H : Sim d p p') {r : Rc} (hk : r.kind ≠ 7 ∧ r.kind ≠ 8) (hd : r.tx ≠ d) : Sim d (oneP p r) (oneP p' r) := by
  have hg := H.w r.tx hd
  have put : ∀ w : Wk, ∀ n, n ≠ d → getW (aput r.tx w p.works) n = getW (aput r.tx w p'.works) n := fun w n hn => by
    by_cases e : r.tx = n
    · rw [e, getW_put, getW_put]
    · rw [getW_put_ne _ _ e, getW_put_ne _ _ e]; exact H.w n hn
  refine ⟨?_, one_nodup r H.n, one_nodup r H.n', ?_⟩
  · unfold oneP
    rw [if_neg hk.2, if_neg hk.1, if_neg hk.2, if_neg hk.1]
    split
    · exact H.b
    · split
      · exact H.b
      · split
        · dsimp only; rw [hg, H.b]
        · split <;> exact H.b
  · intro n hn
    unfold oneP
    rw [if_neg hk.2, if_neg hk.1, if_neg hk.2, if_neg hk.1]
    split
    · dsimp only; rw [hg]; exact put _ n hn
    · split
      · dsimp only; rw [hg]; exact put _ n hn
      · split
        · dsimp only; rw [hg, H.b]; exact put _ n hn
        · split
          · dsimp only; rw [getW_del _ H.n, getW_del _ H.n']
            split
            · rfl
            · exact H.w n hn
          · exact H.w n hn
theorem Sim.own {d : Int} {p p' : Pl} (H : Sim d p p') {r : Rc} (hk : r.kind ≠ 7 ∧ r.kind ≠ 8) (hd : r.tx = d) (he : r.kind ≠ 5 ∧ r.kind ≠ 6) (hc : (getW (oneP p r).works d).com = false) : Sim d (oneP p r) p' := by
  have put : ∀ w : Wk, ∀ n, n ≠ d → getW (aput r.tx w p.works) n = getW p'.works n := fun w n hn => by
    rw [getW_put_ne _ _ (by rw [hd]; exact Ne.symm hn)]; exact H.w n hn
  refine ⟨?_, one_nodup r H.n, H.n', ?_⟩
  · revert hc
    unfold oneP
    rw [if_neg hk.2, if_neg hk.1]
    split
    · exact fun _ => H.b
    · split
      · exact fun _ => H.b
      · split
        · intro hc
          dsimp only at hc ⊢
          rw [hd, getW_put] at hc
          rw [hd]
          unfold commitW at hc ⊢
          split
          · exact H.b
          · rename_i h
            rw [if_neg h] at hc
            cases hc
        · split <;> exact fun _ => H.b
  · intro n hn
    unfold oneP
    rw [if_neg hk.2, if_neg hk.1]
    split
    · exact put _ n hn
    · split
      · exact put _ n hn
      · split
        · exact put _ n hn
        · split
          · rename_i h; omega
          · exact H.w n hn
theorem sim_fold {d : Int} : ∀ (l : List Rc) {p p' : Pl}, Sim d p p' → (∀ r ∈ l, (r.kind ≠ 7 ∧ r.kind ≠ 8) ∧ (r.tx = d → r.kind ≠ 5 ∧ r.kind ≠ 6)) → (getW (l.foldl oneP p).works d).com = false → Sim d (l.foldl oneP p) ((l.filter fun r => decide (r.tx ≠ d)).foldl oneP p')
  | [], p, p', H, _, _ => H
  | r :: l, p, p', H, hl, hc => by
    have hr := hl r List.mem_cons_self
    have hl' : ∀ x ∈ l, (x.kind ≠ 7 ∧ x.kind ≠ 8) ∧ (x.tx = d → x.kind ≠ 5 ∧ x.kind ≠ 6) := fun x hx => hl x (List.mem_cons_of_mem _ hx)
    rw [List.foldl_cons] at hc ⊢
    by_cases e : r.tx = d
    · rw [List.filter_cons_of_neg (by simp [e])]
      refine sim_fold l (H.own hr.1 e (hr.2 e) ?_) hl' hc
      cases hcc : (getW (oneP p r).works d).com with
      | false => rfl
      | true => rw [fold_com l (one_nodup r H.n) hl' hcc] at hc; cases hc
    · rw [List.filter_cons_of_pos (by simpa using e), List.foldl_cons]
      exact sim_fold l (H.other hr.1 e) hl' hc
theorem law_doubt (l : List Rc) (d : Int) (hk : ∀ r ∈ l, r.kind ≠ 8 ∧ r.kind ≠ 7) (he : ∀ r ∈ l, r.tx = d → r.kind ≠ 5 ∧ r.kind ≠ 6) (hd : d ∈ numbersS (replayP l) false) :
    (replayP (l.filter fun r => decide (r.tx ≠ d))).base = (replayP l).base := by
  have hok := play_ok PlOk.zero l
  have hc : (getW (playP p0 l).works d).com = false := by
    unfold numbersS at hd
    obtain ⟨x, hx, rfl⟩ := List.mem_map.1 hd
    rw [List.mem_filter] at hx
    obtain ⟨h1, h2⟩ := hx
    have h1' : x ∈ (srtI ((playP p0 l).works.map (·.1))).filterMap (txOf (playP p0 l).works) := h1
    obtain ⟨n, _, hn⟩ := List.mem_filterMap.1 h1'
    have hnn := txOf_n hn
    rw [hnn]
    unfold txOf at hn
    split at hn
    · injection hn with hn
      rw [← hn] at h2
      simpa using h2
    · cases hn
  have hs : Sim d p0 p0 := ⟨rfl, List.nodup_nil, List.nodup_nil, fun _ _ => rfl⟩
  have := sim_fold (l.filter Rc.right) hs (fun r hr => ⟨⟨(hk r (List.mem_filter.1 hr).1).2, (hk r (List.mem_filter.1 hr).1).1⟩, he r (List.mem_filter.1 hr).1⟩) hc
  unfold replayP playP
  rw [List.filter_filter]
  have hf : l.filter (fun a => Rc.right a && decide (a.tx ≠ d)) = (l.filter Rc.right).filter fun r => decide (r.tx ≠ d) := by
    rw [List.filter_filter]
    refine List.filter_congr fun x _ => ?_
    exact Bool.and_comm _ _
  rw [hf]
  exact this.b.symm
/-! transactions are nothing to each other -/
theorem filter_one_of {L : List Int} (h : L.Nodup) (tx : Int) : (L.filter fun n => decide (n = tx)) = if tx ∈ L then [tx] else [] := by
  induction L with
  | nil => rfl
  | cons n L ih =>
    rw [List.nodup_cons] at h
    by_cases e : n = tx
    · subst e
      rw [List.filter_cons_of_pos (by simp), ih h.2, if_neg h.1, if_pos List.mem_cons_self]
    · rw [List.filter_cons_of_neg (by simpa using e), ih h.2]
      have : (tx ∈ n :: L) ↔ tx ∈ L := by simp [Ne.symm e]
      by_cases hm : tx ∈ L
      · rw [if_pos hm, if_pos (this.2 hm)]
      · rw [if_neg hm, if_neg (fun hx => hm (this.1 hx))]
theorem filterMap_at (ws : List (Int × Wk)) (tx : Int) : ∀ L : List Int, (L.filterMap (txOf ws)).filter (fun x => decide (x.n = tx)) = (L.filter fun n => decide (n = tx)).filterMap (txOf ws)
  | [] => rfl
  | n :: L => by
    have ih := filterMap_at ws tx L
    cases hx : txOf ws n with
    | none =>
      rw [List.filterMap_cons_none hx, ih]
      by_cases e : n = tx
      · rw [List.filter_cons_of_pos (by simpa using e), List.filterMap_cons_none hx]
      · rw [List.filter_cons_of_neg (by simpa using e)]
    | some x =>
      have hn := txOf_n hx
      rw [List.filterMap_cons_some hx]
      by_cases e : n = tx
      · rw [List.filter_cons_of_pos (by simp [hn, e]), List.filter_cons_of_pos (by simpa using e), List.filterMap_cons_some hx, ih]
      · rw [List.filter_cons_of_neg (by simp [hn, e]), List.filter_cons_of_neg (by simpa using e), ih]
theorem out_at {p : Pl} (hn : (p.works.map (·.1)).Nodup) (tx : Int) : (outP p).txs.filter (fun x => decide (x.n = tx)) = (txOf p.works tx).toList := by
  show ((srtI (p.works.map (·.1))).filterMap (txOf p.works)).filter _ = _
  rw [filterMap_at, filter_one_of ((srtI_srt hn).imp fun h => by omega)]
  split
  · cases hx : txOf p.works tx with
    | none => rw [List.filterMap_cons_none hx]; rfl
    | some x => rw [List.filterMap_cons_some hx]; rfl
  · rename_i hm
    rw [(srtI_perm _).mem_iff] at hm
    have hg : txOf p.works tx = none := by
      unfold txOf getW
      rw [tget_none.2 hm]
      rfl
    rw [hg]; rfl
structure Own (tx : Int) (p p' : Pl) : Prop where
  n : (p.works.map (·.1)).Nodup
  n' : (p'.works.map (·.1)).Nodup
  w : getW p.works tx = getW p'.works tx
  o : ∀ q ∈ p'.works, q.1 = tx
theorem Own.other {tx : Int} {p p' : Pl} (H : Own tx p p') {r : Rc} (hk : r.kind ≠ 7 ∧ r.kind ≠ 8) (hd : r.tx ≠ tx) : Own tx (oneP p r) p' := by
  refine ⟨one_nodup r H.n, H.n', ?_, H.o⟩
  unfold oneP
  rw [if_neg hk.2, if_neg hk.1]
  split
  · dsimp only; rw [getW_put_ne _ _ hd]; exact H.w
  · split
    · dsimp only; rw [getW_put_ne _ _ hd]; exact H.w
    · split
      · dsimp only; rw [getW_put_ne _ _ hd]; exact H.w
      · split
        · dsimp only; rw [getW_del _ H.n, if_neg hd]; exact H.w
        · exact H.w
theorem commitW_snd (b b' : List Pr) (w : Wk) : (commitW b w).2 = (commitW b' w).2 := by
  unfold commitW
  split <;> rfl
theorem Own.own {tx : Int} {p p' : Pl} (H : Own tx p p') {r : Rc} (hk : r.kind ≠ 7 ∧ r.kind ≠ 8) (hd : r.tx = tx) : Own tx (oneP p r) (oneP p' r) := by
  have hput : ∀ w : Wk, ∀ q ∈ aput r.tx w p'.works, q.1 = tx := fun w q hq => by
    rcases tput_mem hq with rfl | hq
    · exact hd
    · exact H.o q hq
  refine ⟨one_nodup r H.n, one_nodup r H.n', ?_, ?_⟩
  · unfold oneP
    rw [if_neg hk.2, if_neg hk.1, if_neg hk.2, if_neg hk.1]
    split
    · dsimp only; rw [hd, getW_put, getW_put, H.w]
    · split
      · dsimp only; rw [hd, getW_put, getW_put, H.w]
      · split
        · dsimp only; rw [hd, getW_put, getW_put, H.w]; exact commitW_snd _ _ _
        · split
          · dsimp only; rw [hd, getW_del _ H.n, getW_del _ H.n', if_pos rfl, if_pos rfl]
          · exact H.w
  · unfold oneP
    rw [if_neg hk.2, if_neg hk.1]
    split
    · exact hput _
    · split
      · exact hput _
      · split
        · exact hput _
        · split
          · exact fun q hq => H.o q ((tdel_sub _ _).subset hq)
          · exact H.o
theorem own_fold {tx : Int} : ∀ (l : List Rc) {p p' : Pl}, Own tx p p' → (∀ r ∈ l, r.kind ≠ 7 ∧ r.kind ≠ 8) → Own tx (l.foldl oneP p) ((l.filter fun r => decide (r.tx = tx)).foldl oneP p')
  | [], p, p', H, _ => H
  | r :: l, p, p', H, hl => by
    have hl' : ∀ x ∈ l, x.kind ≠ 7 ∧ x.kind ≠ 8 := fun x hx => hl x (List.mem_cons_of_mem _ hx)
    rw [List.foldl_cons]
    by_cases e : r.tx = tx
    · rw [List.filter_cons_of_pos (by simpa using e), List.foldl_cons]
      exact own_fold l (H.own (hl r List.mem_cons_self) e) hl'
    · rw [List.filter_cons_of_neg (by simpa using e)]
      exact own_fold l (H.other (hl r List.mem_cons_self) e) hl'
theorem law_rests (l : List Rc) (tx : Int) (hk : ∀ r ∈ l, r.kind ≠ 8 ∧ r.kind ≠ 7) :
    (replayP l).txs.filter (fun x => decide (x.n = tx)) = (replayP (l.filter fun r => decide (r.tx = tx))).txs := by
  have hs : Own tx p0 p0 := ⟨List.nodup_nil, List.nodup_nil, rfl, fun q hq => by cases hq⟩
  have H := own_fold (l.filter Rc.right) hs (fun r hr => ⟨(hk r (List.mem_filter.1 hr).1).2, (hk r (List.mem_filter.1 hr).1).1⟩)
  have hf : playP p0 (l.filter fun r => decide (r.tx = tx)) = ((l.filter Rc.right).filter fun r => decide (r.tx = tx)).foldl oneP p0 := by
    unfold playP
    rw [List.filter_filter, List.filter_filter]
    congr 1
    exact List.filter_congr fun x _ => Bool.and_comm _ _
  unfold replayP
  rw [hf]
  have h1 := out_at H.n tx
  have h2 := out_at H.n' tx
  have h3 : ∀ x ∈ (outP (((l.filter Rc.right).filter fun r => decide (r.tx = tx)).foldl oneP p0)).txs, x.n = tx := fun x hx => by
    obtain ⟨n, hn, hx'⟩ := List.mem_filterMap.1 hx
    rw [(srtI_perm _).mem_iff] at hn
    obtain ⟨q, hq, rfl⟩ := List.mem_map.1 hn
    rw [txOf_n hx']
    exact H.o q hq
  rw [List.filter_eq_self.2 (fun x hx => decide_eq_true (h3 x hx))] at h2
  rw [h2]
  refine h1.trans ?_
  unfold txOf
  rw [H.w]
end Go.Proofs.Ytbkapjmomafjjaa
/- Keys, values and pairs that come in, as data. -/
namespace Go.Proofs.Ytbkapjmomafjjaa
open Go.RowKit Go.ChangeShapes Go.WideShapes
set_option linter.unusedVariables false
set_option linter.unusedSimpArgs false

namespace K4
def ok (k : K4) : Prop := True
def ps : List (Value → Prop) := [IsI .u8, IsI .u8, IsI .u8, IsI .u8]
theorem len (k : K4) : k.f.length = ps.length := rfl
theorem pos : 0 < ps.length := by decide
theorem dec (cs : List Value) (h : All2 ps cs) : ∃ k : K4, cs = k.f ∧ k.ok := by
  obtain ⟨_, _, rfl, ⟨a, rfl, ha⟩, h1⟩ := All2.cons h
  obtain ⟨_, _, rfl, ⟨b, rfl, hb⟩, h2⟩ := All2.cons h1
  obtain ⟨_, _, rfl, ⟨c, rfl, hc⟩, h3⟩ := All2.cons h2
  obtain ⟨_, _, rfl, ⟨d, rfl, hd⟩, h4⟩ := All2.cons h3
  obtain rfl := All2.nil h4
  obtain ⟨a', rfl⟩ := u8_of ha
  obtain ⟨b', rfl⟩ := u8_of hb
  obtain ⟨c', rfl⟩ := u8_of hc
  obtain ⟨d', rfl⟩ := u8_of hd
  exact ⟨⟨a', b', c', d'⟩, rfl, trivial⟩
--@@ key flat
theorem flat : Flat Try.prog 39 ps :=
  Flat.array (P := Try.prog) (t := 39) (n := 4) Try.underlying39 (by kernel_rfl) (Flat.int Try.underlying5 (by kernel_rfl))
--@@ key end
end K4
namespace V
def ps : List (Value → Prop) := [IsB, IsI .i64]
--@@ val flat
theorem flat : Flat Try.prog 41 ps := by
  have h := Flat.struct (P := Try.prog) (t := 41) (pss := [[IsB], [IsI .i64]]) Try.underlying41 (by kernel_rfl)
    ⟨rfl, Flat.bool Try.underlying4 (by kernel_rfl), rfl, Flat.int Try.underlying3 (by kernel_rfl), trivial⟩
  exact h
--@@ val end
end V
namespace Pr
def ok (p : Pr) : Prop := True
def ps : List (Value → Prop) := [IsI .u8, IsI .u8, IsI .u8, IsI .u8, IsB, IsI .i64]
theorem len (p : Pr) : p.f.length = ps.length := rfl
theorem pos : 0 < ps.length := by decide
theorem dec (cs : List Value) (h : All2 ps cs) : ∃ p : Pr, cs = p.f ∧ p.ok := by
  obtain ⟨_, _, rfl, ⟨a, rfl, ha⟩, h1⟩ := All2.cons h
  obtain ⟨_, _, rfl, ⟨b, rfl, hb⟩, h2⟩ := All2.cons h1
  obtain ⟨_, _, rfl, ⟨c, rfl, hc⟩, h3⟩ := All2.cons h2
  obtain ⟨_, _, rfl, ⟨d, rfl, hd⟩, h4⟩ := All2.cons h3
  obtain ⟨_, _, rfl, ⟨t, rfl⟩, h5⟩ := All2.cons h4
  obtain ⟨_, _, rfl, ⟨n, rfl, hn⟩, h6⟩ := All2.cons h5
  obtain rfl := All2.nil h6
  obtain ⟨a', rfl⟩ := u8_of ha
  obtain ⟨b', rfl⟩ := u8_of hb
  obtain ⟨c', rfl⟩ := u8_of hc
  obtain ⟨d', rfl⟩ := u8_of hd
  exact ⟨⟨⟨a', b', c', d'⟩, ⟨t, n⟩⟩, rfl, trivial⟩
--@@ pair flat
theorem flat : Flat Try.prog 54 ps := by
  have h := Flat.struct (P := Try.prog) (t := 54) (pss := [K4.ps, V.ps]) Try.underlying54 (by kernel_rfl)
    ⟨rfl, K4.flat, rfl, V.flat, trivial⟩
  exact h
--@@ pair end
end Pr

end Go.Proofs.Ytbkapjmomafjjaa
/- The statements' arguments as data: records. -/
namespace Go.Proofs.Ytbkapjmomafjjaa
open Go.RowKit Go.ChangeShapes Go.WideShapes
set_option linter.unusedVariables false
set_option linter.unusedSimpArgs false

namespace Rc
def ok (r : Rc) : Prop := r.mask ≤ 65535
def ps : List (Value → Prop) := [IsI .i64, IsI .i64, IsI .u16, IsI .u8, IsI .u8, IsI .u8, IsI .u8, IsB, IsI .i64, IsB, IsI .i64]
theorem len (r : Rc) : r.f.length = ps.length := rfl
theorem pos : 0 < ps.length := by decide
theorem dec (cs : List Value) (h : All2 ps cs) : ∃ r : Rc, cs = r.f ∧ r.ok := by
  obtain ⟨_, _, rfl, ⟨kd, rfl, _⟩, h1⟩ := All2.cons h
  obtain ⟨_, _, rfl, ⟨tx, rfl, _⟩, h2⟩ := All2.cons h1
  obtain ⟨_, _, rfl, ⟨m, rfl, hm⟩, h3⟩ := All2.cons h2
  obtain ⟨_, _, rfl, ⟨a, rfl, ha⟩, h4⟩ := All2.cons h3
  obtain ⟨_, _, rfl, ⟨b, rfl, hb⟩, h5⟩ := All2.cons h4
  obtain ⟨_, _, rfl, ⟨c, rfl, hc⟩, h6⟩ := All2.cons h5
  obtain ⟨_, _, rfl, ⟨d, rfl, hd⟩, h7⟩ := All2.cons h6
  obtain ⟨_, _, rfl, ⟨ot, rfl⟩, h8⟩ := All2.cons h7
  obtain ⟨_, _, rfl, ⟨on, rfl, _⟩, h9⟩ := All2.cons h8
  obtain ⟨_, _, rfl, ⟨nt, rfl⟩, h10⟩ := All2.cons h9
  obtain ⟨_, _, rfl, ⟨nn, rfl, _⟩, h11⟩ := All2.cons h10
  obtain rfl := All2.nil h11
  obtain ⟨a', rfl⟩ := u8_of ha
  obtain ⟨b', rfl⟩ := u8_of hb
  obtain ⟨c', rfl⟩ := u8_of hc
  obtain ⟨d', rfl⟩ := u8_of hd
  have hlo : (0 : Int) ≤ m := hm.1
  have hhi : m ≤ (65535 : Int) := hm.2
  obtain ⟨m', rfl⟩ : ∃ k : Nat, m = (k : Int) := ⟨m.toNat, by omega⟩
  exact ⟨⟨kd, tx, m', ⟨a', b', c', d'⟩, ⟨ot, on⟩, ⟨nt, nn⟩⟩, rfl, by show m' ≤ 65535; omega⟩
--@@ rec flat
theorem flat : Flat Try.prog 43 ps := by
  have h := Flat.struct (P := Try.prog) (t := 43) (pss := [[IsI .i64], [IsI .i64], [IsI .u16], K4.ps, V.ps, V.ps]) Try.underlying43 (by kernel_rfl)
    ⟨rfl, Flat.int Try.underlying3 (by kernel_rfl), rfl, Flat.int Try.underlying3 (by kernel_rfl), rfl, Flat.int Try.underlying37 (by kernel_rfl), rfl, K4.flat, rfl, V.flat, rfl, V.flat, trivial⟩
  exact h
--@@ rec end
end Rc
end Go.Proofs.Ytbkapjmomafjjaa
/- States that come in: slices of structs that hold slices. -/
namespace Go.Proofs.Ytbkapjmomafjjaa
open Go.RowKit Go.ChangeShapes Go.WideShapes Go.ChangeAt
set_option linter.unusedVariables false
set_option linter.unusedSimpArgs false

/-- transactions that may be read; nothing is said of where their rows lie -/
structure RTxs (w : World) (v : Value) (l : List Txp) : Prop where
  ex : ∃ L : List (Txp × Value), L.map (·.1) = l ∧ SlAt w v 4 L.length (L.flatMap txF) ∧ ∀ q ∈ L, SlAt w q.2 6 q.1.ws.length (q.1.ws.flatMap Pr.f)
theorem RTxs.kept {w w' : World} {v : Value} {l : List Txp} (h : RTxs w v l) (hk : Kept [] w w') : RTxs w' v l := by
  obtain ⟨L, h1, h2, h3⟩ := h.ex
  exact ⟨L, h1, h2.kept hk, fun q hq => (h3 q hq).kept hk⟩
structure RSt (w : World) (bv tv : Value) (s : Stp) : Prop where
  base : SlAt w bv 6 s.base.length (s.base.flatMap Pr.f)
  txs : RTxs w tv s.txs
theorem RSt.kept {w w' : World} {bv tv : Value} {s : Stp} (h : RSt w bv tv s) (hk : Kept [] w w') : RSt w' bv tv s := ⟨h.base.kept hk, h.txs.kept hk⟩
theorem TxsAt.r {w : World} {v : Value} {l : List Txp} (h : TxsAt w v l) : RTxs w v l := by
  obtain ⟨L, h1, h2, h3⟩ := h.ex
  exact ⟨L, h1, h2, fun q hq => (h3 q hq).at'⟩
theorem StAt.r {w : World} {bv tv : Value} {s : Stp} (h : StAt w bv tv s) : RSt w bv tv s := ⟨h.base.at', h.txs.r⟩
section
variable {P : Program} {H : Type} {enc : TypeId × Value → H} {W : World} {base : Nat} {spare : Nat → Bool} {held : Bool}
/-- what the parts of what is read weigh -/
theorem weights_all {e : TypeId} {B : Nat} : ∀ {l : List (DataW H)}, (∀ k ∈ DataW.weightsAll P e l, k ≤ B) → ∀ d ∈ l, ∀ k ∈ d.weights P e, k ≤ B
  | x :: l, h, d, hd, k, hk => by
    unfold DataW.weightsAll at h
    rcases List.mem_cons.1 hd with rfl | hd
    · exact h k (List.mem_append_left _ hk)
    · exact weights_all (fun k hk => h k (List.mem_append_right _ hk)) d hd k hk
theorem weights_slice {t e : TypeId} {B : Nat} {elems spare : List (DataW H)} (ht : P.underlying t = some (.slice e)) (h : ∀ k ∈ (DataW.slice elems spare).weights P t, k ≤ B) : elems.length * P.bytesOf e ≤ B ∧ ∀ d ∈ elems, ∀ k ∈ d.weights P e, k ≤ B := by
  unfold DataW.weights at h
  rw [ht] at h
  refine ⟨Nat.le_trans (Nat.mul_le_mul_right _ (Nat.le_add_right _ _)) (h _ (List.mem_cons_self ..)), weights_all fun k hk => h k (List.mem_cons_of_mem _ (List.mem_append_left _ hk))⟩
/-- a slice that is read, of elements of which each is read -/
theorem trod_rows {α : Type} {t e : TypeId} {fuel : Nat} {cs : List Value} {x : DataW H × List MemPlace} (ht : P.underlying t = some (.slice e)) (c : Nat) (hc : P.cellsOf e = c) (hpos : 0 < c) (f : α → List Value) (ok : α → Prop) (hlen : ∀ x, (f x).length = c)
    (B : Nat) (hdec : ∀ n cs' y, DataW.trod enc P W base spare held n e cs' = some y → (∀ k ∈ y.1.weights P e, k ≤ B) → ∃ x, cs' = f x ∧ ok x) (h : DataW.trod enc P W base spare held fuel t cs = some x) (hw : ∀ k ∈ x.1.weights P t, k ≤ B) :
    ∃ v, cs = [v] ∧ ∃ l : List α, SlAt W v c l.length (l.flatMap f) ∧ (∀ x ∈ l, ok x) ∧ l.length * P.bytesOf e ≤ B := by
  rcases Go.Deep.open_slice ht h with ⟨hcs, _⟩ | ⟨a, len, cap, m, n, D, Pl, hcs, hb, hl, hm, hmm, hx, hall⟩
  · exact ⟨_, hcs, [], ⟨none, 0, rfl, by simp, by simp, by simp⟩, by simp, by simp⟩
  · have hlm : len ≤ m := by rw [hmm]; split <;> omega
    rw [hx] at hw
    obtain ⟨hw1, hw2⟩ := weights_slice ht hw
    rw [List.length_map, List.length_range] at hw1
    obtain ⟨l, hl1, hl2⟩ := list_choose (n := len) (R := fun i x => ok x ∧ ∀ j u, (f x)[j]? = some u → W.cell? ((a.add (i * c)).add j) = some u) (fun i hi => by
      obtain ⟨cs', h1, h2⟩ := hall i (by omega)
      obtain ⟨x, rfl, hok⟩ := hdec _ cs' _ h2 (hw2 _ (List.mem_map.2 ⟨i, List.mem_range.2 hi, rfl⟩))
      refine ⟨x, hok, fun j u hj => ?_⟩
      rw [hc] at h1
      obtain ⟨_, hl', hc'⟩ := World.cells?_some h1
      have hjl := (List.getElem?_eq_some_iff.1 hj).1
      rw [hlen] at hjl
      rw [hc' j hjl]; exact hj)
    have key : ∀ i x j u, l[i]? = some x → (f x)[j]? = some u → W.cell? ((a.add (i * c)).add j) = some u := fun i x j u hi hj => (hl2 i x hi).2 j u hj
    refine ⟨_, hcs, l, ⟨some a, cap, by rw [hl1], by unfold maxLen at hm; omega, flatMap_len f hlen l, fun hpos' => ?_⟩, fun x hx => ?_, by rw [hl1]; exact hw1⟩
    · obtain ⟨b, off, sp⟩ := a
      have h0 : ∃ x, l[0]? = some x := ⟨l[0], by simp [hpos']⟩
      obtain ⟨x0, hx0⟩ := h0
      have hlt0 : 0 < (f x0).length := by rw [hlen]; exact hpos
      have c0 := key 0 x0 0 (f x0)[0] hx0 (by simp [hlt0])
      have hsp : sp = none := by
        cases sp with
        | none => rfl
        | some s =>
          simp [World.cell?, Addr.add] at c0
          split at c0 <;> simp_all
      subst hsp
      have hadd : ∀ o j, (⟨b, o, none⟩ : Addr).add j = ⟨b, o + j, none⟩ := fun o j => by unfold Addr.add; split <;> simp_all
      refine ⟨b, off, rfl, ?_, fun j u hj => ?_⟩
      · rw [hadd, hadd] at c0
        exact World.block_lt_of_cell? W _ c0
      · have hjl : j < l.length * c := by
          have := (List.getElem?_eq_some_iff.1 hj).1
          rwa [flatMap_len f hlen] at this
        have hq : j / c < l.length := Nat.div_lt_of_lt_mul (by rw [Nat.mul_comm]; exact hjl)
        have hr : j % c < c := Nat.mod_lt _ hpos
        have hj' : j / c * c + j % c = j := by rw [Nat.mul_comm]; exact Nat.div_add_mod _ _
        have e := flatMap_get f hlen l (j / c) (j % c) l[j / c] (by simp [hq]) hr
        rw [hj', hj] at e
        have := key (j / c) l[j / c] (j % c) u (by simp [hq]) e.symm
        rw [hadd, hadd, Nat.add_assoc, hj'] at this
        exact this
    · obtain ⟨i, hi⟩ := List.mem_iff_getElem?.1 hx
      exact (hl2 i x hi).1
theorem trod_flats {α : Type} {t e : TypeId} {fuel : Nat} {cs : List Value} {x : DataW H × List MemPlace} {ps : List (Value → Prop)} (ht : P.underlying t = some (.slice e)) (hf : Flat P e ps) (hpos : 0 < ps.length) (f : α → List Value) (ok : α → Prop)
    (hdec : ∀ cs, All2 ps cs → ∃ x, cs = f x ∧ ok x) (hlen : ∀ x, (f x).length = ps.length) (B : Nat) (h : DataW.trod enc P W base spare held fuel t cs = some x) (hw : ∀ k ∈ x.1.weights P t, k ≤ B) :
    ∃ v, cs = [v] ∧ ∃ l : List α, SlAt W v ps.length l.length (l.flatMap f) ∧ (∀ x ∈ l, ok x) ∧ l.length * P.bytesOf e ≤ B :=
  trod_rows ht ps.length hf.1 hpos f ok hlen B (fun n cs' y h' _ => hdec cs' (hf.2 _ _ _ _ _ _ _ _ _ h')) h hw
end
--@@ concordatref11
/-- what a transaction that comes in holds -/
def okTx (W : World) (q : Txp × Value) : Prop := SlAt W q.2 6 q.1.ws.length (q.1.ws.flatMap Pr.f) ∧ q.1.mask ≤ 65535 ∧ q.1.ws.length * 24 ≤ reachBytes
theorem list4 {α : Type} {cs : List α} (h : cs.length = 4) : ∃ c0 c1 c2 c3, cs = [c0, c1, c2, c3] := by
  match cs, h with
  | [c0, c1, c2, c3], _ => exact ⟨c0, c1, c2, c3, rfl⟩
theorem txF_len (q : Txp × Value) : (txF q).length = 4 := rfl
set_option maxRecDepth 100000 in
theorem open_tx {H : Type} {enc : TypeId × Value → H} {W : World} {base : Nat} {spare : Nat → Bool} {held : Bool} (n : Nat) (cs : List Value) (y : DataW H × List MemPlace) (h : DataW.trod enc Try.prog W base spare held n 64 cs = some y) (hw : ∀ k ∈ y.1.weights Try.prog 64, k ≤ reachBytes) :
    ∃ q, cs = txF q ∧ okTx W q := by
  obtain ⟨y0, y1, y2, y3, m, hy, hl, h0, h1, h2, h3⟩ := Go.Joins.trod_struct4 Try.underlying64 h
  have hw3 : ∀ k ∈ y3.1.weights Try.prog 23, k ≤ reachBytes := fun k hk => hw k (by
    rw [hy]
    unfold DataW.weights
    rw [Try.underlying64]
    exact List.mem_append_right _ (List.mem_append_right _ (List.mem_append_right _ (List.mem_append_left _ hk))))
  have hby : Try.prog.bytesOf 54 = 24 := by kernel_rfl
  have hc : Try.prog.cellsOf 64 = 4 := by kernel_rfl
  rw [hc] at hl
  obtain ⟨c0, c1, c2, c3, rfl⟩ := list4 hl
  · skip
    have k1 : Try.prog.cellsOf 3 = 1 := by kernel_rfl
    have k2 : Try.prog.cellsOf 37 = 1 := by kernel_rfl
    have k3 : Try.prog.cellsOf 4 = 1 := by kernel_rfl
    have k4 : Try.prog.cellsOf 23 = 1 := by kernel_rfl
    have a0 := (Flat.int (k := .i64) Try.underlying3 k1).2 _ _ _ _ _ _ _ _ _ h0
    have a1 := (Flat.int (k := .u16) Try.underlying37 k2).2 _ _ _ _ _ _ _ _ _ h1
    have a2 := (Flat.bool Try.underlying4 k3).2 _ _ _ _ _ _ _ _ _ h2
    obtain ⟨v, hv, l, hsl, hok, hll⟩ := trod_flats Try.underlying23 Pr.flat Pr.pos Pr.f Pr.ok Pr.dec Pr.len _ h3 hw3
    rw [hby] at hll
    simp only [k1, k2, k3, k4, List.drop_succ_cons, List.drop_zero, List.take_succ_cons, List.take_zero] at a0 a1 a2 hv
    obtain ⟨_, _, e0, ⟨n, rfl, _⟩, f0⟩ := All2.cons a0
    cases e0
    obtain ⟨_, _, e1, ⟨mk, rfl, hm⟩, f1⟩ := All2.cons a1
    cases e1
    obtain ⟨_, _, e2, ⟨b, rfl⟩, f2⟩ := All2.cons a2
    cases e2
    obtain rfl : c3 = v := by simpa using hv
    have hlo : (0 : Int) ≤ mk := hm.1
    have hhi : mk ≤ (65535 : Int) := hm.2
    obtain ⟨mk', rfl⟩ : ∃ k : Nat, mk = (k : Int) := ⟨mk.toNat, by omega⟩
    exact ⟨(⟨n, mk', b, l⟩, c3), rfl, hsl, by show mk' ≤ 65535; omega, hll⟩
set_option maxRecDepth 100000 in
/-- a state that comes in -/
theorem open_st {H : Type} {enc : TypeId × Value → H} {w W : World} {base b0 : Nat} {spare : Nat → Bool} {held : Bool} {r : Reach} {v : Value} {d : DataW H} {p : List MemPlace}
    (hv : Value.okWide Try.prog w r b0 26 v) (hw : ∀ k ∈ d.weights Try.prog 26, k ≤ reachBytes) (h : DataW.Trod enc Try.prog W base spare held 26 v d p) : ∃ bv tv s, v = .agg #[bv, tv] ∧ RSt W bv tv s ∧ ∀ x ∈ s.txs, x.mask ≤ 65535 ∧ x.ws.length * 24 ≤ reachBytes := by
  obtain ⟨fuel, hf'⟩ := h
  obtain ⟨y0, y1, m, hy, hl, h0, h1⟩ := Go.ChangeShapes.trod_struct2 Try.underlying26 hf'
  have hd := congrArg Prod.fst hy
  dsimp only at hd
  rw [hd] at hw
  unfold DataW.weights at hw
  rw [Try.underlying26] at hw
  have hw0 : ∀ k ∈ y0.1.weights Try.prog 23, k ≤ reachBytes := fun k hk => hw k (List.mem_append_left _ hk)
  have hw1 : ∀ k ∈ y1.1.weights Try.prog 24, k ≤ reachBytes := fun k hk => hw k (List.mem_append_right _ (List.mem_append_left _ hk))
  unfold Value.okWide at hv
  rw [Try.underlying26] at hv
  obtain ⟨cs, rfl, hsz, _⟩ := hv
  have hc : Try.prog.cellsOf 26 = 2 := by kernel_rfl
  rw [hc] at hsz
  obtain ⟨c0, c1, rfl⟩ := Go.Joins.array2 hsz
  have k1 : Try.prog.cellsOf 23 = 1 := by kernel_rfl
  have k2 : Try.prog.cellsOf 24 = 1 := by kernel_rfl
  obtain ⟨bv, hbv, l, hsl, _⟩ := trod_flats Try.underlying23 Pr.flat Pr.pos Pr.f Pr.ok Pr.dec Pr.len _ h0 hw0
  obtain ⟨tv, htv, L, hL, hok, _⟩ := trod_rows Try.underlying24 4 (by kernel_rfl) (by decide) txF (okTx W) txF_len _ open_tx h1 hw1
  simp only [k1, k2, Value.cells, List.drop_succ_cons, List.drop_zero, List.take_succ_cons, List.take_zero] at hbv htv
  obtain rfl : c0 = bv := by simpa using hbv
  obtain rfl : c1 = tv := by simpa using htv
  exact ⟨_, _, ⟨l, L.map (·.1)⟩, rfl, ⟨hsl, ⟨L, rfl, hL, fun q hq => (hok q hq).1⟩⟩, fun x hx => by obtain ⟨q, hq, rfl⟩ := List.mem_map.1 hx; exact (hok q hq).2⟩
--@@ end
end Go.Proofs.Ytbkapjmomafjjaa
/- Is a state greater than is looked at? -/
namespace Go.Proofs.Ytbkapjmomafjjaa
open Go.RowKit Go.Shelf Go.Lib Go.Sort Go.Proofs
set_option linter.unusedVariables false
set_option linter.unusedSimpArgs false

def wsN (l : List Txp) : Nat := (l.map fun x => x.ws.length).sum
def greatS (s : Stp) : Bool := decide (100 < s.base.length) || (decide (30 < s.txs.length) || decide (200 < wsN s.txs))
theorem wsN_take (l : List Txp) (k : Nat) (h : k < l.length) : wsN (l.take (k + 1)) = wsN (l.take k) + l[k].ws.length := by
  unfold wsN
  rw [List.take_succ_eq_append_getElem h, List.map_append, List.sum_append]
  simp
theorem wsN_le : ∀ (l : List Txp) (k : Nat), wsN (l.take k) ≤ wsN l
  | [], k => by simp
  | x :: l, 0 => by simp [wsN]
  | x :: l, k + 1 => by
    have := wsN_le l k
    simp only [wsN, List.take_succ_cons, List.map_cons, List.sum_cons] at this ⊢
    omega
theorem wsN_mem {l : List Txp} {x : Txp} (h : x ∈ l) : x.ws.length ≤ wsN l := by
  induction l with
  | nil => cases h
  | cons y l ih =>
    simp only [wsN, List.map_cons, List.sum_cons] at ih ⊢
    rcases List.mem_cons.1 h with rfl | h
    · omega
    · have := ih h; omega
theorem greatS_false {s : Stp} (h : greatS s = false) : s.base.length ≤ 100 ∧ s.txs.length ≤ 30 ∧ ∀ x ∈ s.txs, x.ws.length ≤ 200 := by
  simp only [greatS, Bool.or_eq_false_iff, decide_eq_false_iff_not, Nat.not_lt] at h
  exact ⟨h.1, h.2.1, fun x hx => Nat.le_trans (wsN_mem hx) h.2.2⟩
--@@ concordatlaw11.great
set_option maxHeartbeats 4000000 in
set_option maxRecDepth 100000 in
theorem great_any (bv tv : Value) (s : Stp) (w : World) (h : RSt w bv tv s) (hx : ∀ x ∈ s.txs, x.ws.length * 24 ≤ reachBytes) :
    Calls Try.prog 10 #[.agg #[bv, tv]] w fun e w' => e = .returned (.bool (greatS s)) ∧ Kept [] w w' := by
  obtain ⟨base, txs⟩ := s
  obtain ⟨L, hL, hS, hP⟩ := h.txs.ex
  obtain ⟨ba, bc, rfl, hbm, _, _⟩ := h.base.ex
  obtain ⟨ta, tc, rfl, htm, _, htc⟩ := hS.ex
  have HTC := hid htc
  dsimp only at hL hx hbm
  have hll : txs.length = L.length := by rw [← hL, List.length_map]
  have HX := hid (fun x (hx' : x ∈ txs) => show x.ws.length ≤ 10000000000000 from by have := hx x hx'; unfold reachBytes at this; omega)
  have HL := hid hL
  have HPV := hid (fun q (hq : q ∈ L) => show ∃ a c, q.2 = .slice a q.1.ws.length c from by obtain ⟨a, c, e, _⟩ := (hP q hq).ex; exact ⟨a, c, e⟩)
  clear h hS hP htc hL hx
  unfold greatS
  dsimp only
  by_cases hb : 100 < base.length
  · have hbz : (100 : Int) < (base.length : Int) := by omega
    rw [decide_eq_true hb, Bool.true_or]
    clear hb hll
    go_enter Try.func10, Try.ntmps10
    go_wp2
    go_ret
    exact ⟨rfl, (Kept.refl _ _).alloc _⟩
  have hbz : (base.length : Int) ≤ 100 := by omega
  rw [decide_eq_false hb, Bool.false_or]
  by_cases ht : 30 < L.length
  · have htz : (30 : Int) < (L.length : Int) := by omega
    rw [decide_eq_true (show 30 < txs.length by omega), Bool.true_or]
    clear hb ht hll
    go_enter Try.func10, Try.ntmps10
    go_wp2
    go_ret
    exact ⟨rfl, (Kept.refl _ _).alloc _⟩
  have htz : (L.length : Int) ≤ 30 := by omega
  rw [decide_eq_false (show ¬ 30 < txs.length by omega), Bool.false_or]
  have HLL := hid hll
  have nc := new_cell w [.slice ba base.length bc, .slice ta L.length tc] 26
  have g0 := nc 0 _ rfl
  have g1 := nc 1 _ rfl
  clear hb ht hll nc
  obtain ⟨T, hT⟩ : ∃ T, T = wsN txs := ⟨_, rfl⟩
  have HT := hid hT
  rw [← hT]
  clear hT
  go_enter Try.func10, Try.ntmps10
  go_wp2_with fail
  go_loopg [3, 4] L.length (fun kx s3 s4 wr => ∃ k : Nat, s4 = .int .i64 k ∧ k ≤ L.length ∧ L.length - k ≤ kx ∧ s3 = .int .i64 (wsN (txs.take k) : Int) ∧ wsN (txs.take k) ≤ 200 ∧ wr = w.alloc (.cells #[.slice ba base.length bc, .slice ta L.length tc] 26))
  case atStart => exact ⟨0, by first | rfl | go_num, by omega, by omega, by first | rfl | go_num, by simp [wsN], rfl⟩
  case round =>
    obtain ⟨k, rfl, hk, hkx, rfl, h200, rfl⟩ := hrel
    by_cases hlt : k < L.length
    · have hltz : (k : Int) < (L.length : Int) := by omega
      obtain ⟨b, off, rfl, _, d1⟩ := HTC.out (by omega)
      obtain ⟨e0, e1, e2, e3⟩ := tx_cells (fun j u hu => ((Kept.refl [] w).alloc (.cells #[.slice ba base.length bc, .slice (some ⟨b, off, none⟩) L.length tc] 26)).cell (d1 j u hu) (by simp)) hlt
      have hll := HLL.out
      have hlt' : k < txs.length := by omega
      have hq1 : txs[k] = L[k].1 := by simp [← HL.out]
      have HN := hid (show wsN (txs.take (k + 1)) = wsN (txs.take k) + L[k].1.ws.length by rw [wsN_take txs k hlt', hq1])
      have hxk := HX.out txs[k] (List.getElem_mem hlt')
      rw [hq1] at hxk
      have hle := wsN_le txs (k + 1)
      have HLE := hid hle
      obtain ⟨qa, qc, hqv⟩ := HPV.out _ (List.getElem_mem hlt)
      clear d1 hll hlt' hq1 e0 e1 e2 hle
      generalize L[k] = q at *
      obtain ⟨⟨n, mask, com, ws⟩, qv⟩ := q
      dsimp only at e3 hqv HN hxk
      subst hqv
      generalize wsN (txs.take k) = u at *
      by_cases h2 : 200 < u + ws.length
      · have h2z : (200 : Int) < (u : Int) + (ws.length : Int) := by omega
        have hT : decide (200 < T) = true := by
          have h1 := HN.out
          have h3 := HLE.out
          have h4 := HT.out
          exact decide_eq_true (by omega)
        have HTT := hid hT
        clear h2 hT HN HLE
        go_wp2
        go_ret
        exact ⟨by rw [HTT.out]; rfl, (Kept.refl _ _).alloc _⟩
      · have h2z : (u : Int) + (ws.length : Int) ≤ 200 := by omega
        clear h2
        go_wp2
        go_roundg (L.length - (k + 1))
        case measure => omega
        case rel => exact ⟨k + 1, by first | rfl | go_num, by omega, Nat.le_refl _, by rw [HN.out]; go_num, by rw [HN.out]; omega, rfl⟩
    · obtain rfl : k = L.length := by omega
      have hltz : ¬ (L.length : Int) < (L.length : Int) := by omega
      have hT : decide (200 < T) = false := by
        have h1 := HT.out
        have h2 := HLL.out
        rw [← h2, List.take_length] at h200
        exact decide_eq_false (by omega)
      have HTT := hid hT
      clear hT h200
      go_wp2
      go_ret
      exact ⟨by rw [HTT.out]; rfl, (Kept.refl _ _).alloc _⟩
--@@ end
end Go.Proofs.Ytbkapjmomafjjaa
