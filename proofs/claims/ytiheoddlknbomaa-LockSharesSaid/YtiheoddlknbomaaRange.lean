/- Ranging over a map that the loop does not write: what is still to come, as a list of pairs. No program text. -/
import Derived.Test.YtiheoddlknbomaaSl
import Derived.Maps.RangeWalk
set_option linter.all false
namespace Go.Proofs.Ytiheoddlknbomaa
open Go.RowKit
set_option linter.unusedVariables false
set_option linter.unusedSimpArgs false

theorem filter_one {α : Type} (f : α → Nat) : ∀ (L : List α) (j : Nat) (x : α), L.Pairwise (fun a b => f a ≠ f b) → L[j]? = some x → L.filter (fun y => !(f y == f x)) = L.eraseIdx j
  | [], _, _, _, h => by simp at h
  | a :: L, 0, x, hp, h => by
    simp at h; subst h
    rw [List.pairwise_cons] at hp
    simp only [List.filter_cons, beq_self_eq_true, Bool.not_true, Bool.false_eq_true, if_false, List.eraseIdx_zero, List.tail_cons]
    rw [List.filter_eq_self]
    intro y hy
    have := hp.1 y hy
    simp [Ne.symm this]
  | a :: L, j + 1, x, hp, h => by
    rw [List.pairwise_cons] at hp
    have hx : L[j]? = some x := by simpa using h
    have hm : x ∈ L := List.mem_iff_getElem?.2 ⟨j, hx⟩
    have := hp.1 x hm
    simp only [List.filter_cons, List.eraseIdx_cons_succ]
    rw [if_pos (by simp [this]), filter_one f L j x hp.2 hx]
theorem perm_pick {α : Type} : ∀ (l : List α) (j : Nat) (x : α), l[j]? = some x → l.Perm (x :: l.eraseIdx j)
  | [], _, _, h => by simp at h
  | a :: l, 0, x, h => by simp at h; subst h; simp
  | a :: l, j + 1, x, h => by
    have := perm_pick l j x (by simpa using h)
    simp only [List.eraseIdx_cons_succ]
    exact (this.cons a).trans (List.Perm.swap x a _)
/-- block r ranges over the map in block b, which holds l; 'todo' is still to come -/
structure RangeIs {α : Type} (w : World) (b r : Nat) (ek : α → Value) (todo : List (α × Value)) : Prop where
  mk' ::
  ex : ∃ es clock since seen last, w.heap[b]? = some (.map es clock) ∧ es.toList.Pairwise (fun x y => x.born ≠ y.born) ∧ (∀ e ∈ es.toList, e.born < since) ∧ since ≤ last ∧ since ≤ clock ∧
    w.heap[r]? = some (.mapIter (some b) since seen last) ∧ (leftOf es seen).toList.map (fun e => (e.key, e.val)) = todo.map (fun p => (ek p.1, p.2))
section
variable {α : Type} {P : Program} {w : World} {b r : Nat} {ek : α → Value} {todo : List (α × Value)}
theorem RangeIs.lt (h : RangeIs w b r ek todo) : b < w.heap.size ∧ r < w.heap.size ∧ b ≠ r := by
  obtain ⟨es, clock, since, seen, last, h1, _, _, _, _, h2, _⟩ := h.ex
  refine ⟨(Array.getElem?_eq_some_iff.1 h1).1, (Array.getElem?_eq_some_iff.1 h2).1, ?_⟩
  rintro rfl
  rw [h1] at h2; cases h2
theorem RangeIs.kept {w' : World} {S : List Nat} (h : RangeIs w b r ek todo) (hk : Kept S w w') (hb : b ∉ S) (hr : r ∉ S) : RangeIs w' b r ek todo := by
  have hl := h.lt
  obtain ⟨es, clock, since, seen, last, h1, h2, h3, h4, h5, h6, h7⟩ := h.ex
  exact ⟨es, clock, since, seen, last, (hk.block b hl.1 hb).trans h1, h2, h3, h4, h5, (hk.block r hl.2.1 hr).trans h6, h7⟩
theorem MapIs.run_range {l : List (α × Value)} (h : MapIs w b ek l) {t kt et : TypeId} (ht : P.underlying t = some (.map kt et)) :
    ∃ w', (Instr.range t (.map (some b))).run P w = .ok (.pointer (some ⟨w.heap.size, 0, none⟩)) w' ∧ RangeIs w' b w.heap.size ek l ∧ Kept [] w w' ∧ w'.heap.size = w.heap.size + 1 := by
  have hlt := h.lt
  obtain ⟨es, clock, hb, he, hp, hc⟩ := h.ex
  refine ⟨_, run_range_map w t kt et b es clock ht hb, ⟨es, clock, clock, #[], clock, ?_, hp, hc, Nat.le_refl _, Nat.le_refl _, heap_alloc_new w _, ?_⟩, (Kept.refl [] w).alloc _, by simp⟩
  · rw [heap_alloc_old w _ hlt, hb]
  · have : (leftOf es #[]).toList = es.toList := by simp [leftOf, List.filter_eq_self]
    rw [this]; exact he
theorem RangeIs.run_next (h : RangeIs w b r ek todo) (ty : TypeId) :
    (todo = [] ∧ (Instr.next (.pointer (some ⟨r, 0, none⟩)) false ty).run P w = .ok (.tuple #[.bool false]) w) ∨
    ∃ x v todo' w1, todo.Perm ((x, v) :: todo') ∧ (Instr.next (.pointer (some ⟨r, 0, none⟩)) false ty).run P w = .ok (.tuple #[.bool true, ek x, v]) w1 ∧ RangeIs w1 b r ek todo' ∧ Kept [r] w w1 ∧ w1.heap.size = w.heap.size ∧
      ∀ w', w'.heap[r]? = w1.heap[r]? → w'.heap[b]? = w1.heap[b]? → (Instr.entry (.pointer (some ⟨r, 0, none⟩))).run P w' = .ok (.tuple #[ek x, v]) w' := by
  have hlt := h.lt
  obtain ⟨es, clock, since, seen, last, hb, hp, hold, hsc, hcl, hr, hleft⟩ := h.ex
  simp only [Instr.next, getObj, Sem.run_bind, Sem.run, hr, hb, Result.andThen, next_test_false seen es since last hold hsc, Bool.false_eq_true, if_false]
  have hL : leftOf es seen = Array.filter (fun e => !seen.contains e.born) es := rfl
  have hsub : ∀ x ∈ (leftOf es seen).toList, x ∈ es.toList := fun x hx => by rw [hL] at hx; simp at hx ⊢; exact hx.1
  have hmem : ∀ x ∈ (leftOf es seen).toList, x.born < since := fun x hx => hold x (hsub x hx)
  have hpL : (leftOf es seen).toList.Pairwise (fun x y => x.born ≠ y.born) := by
    rw [hL, Array.toList_filter]; exact hp.sublist List.filter_sublist
  have hnew : ∀ e : MapEntry, (leftOf es (seen.push e.born)).toList = (leftOf es seen).toList.filter (fun y => !(y.born == e.born)) := fun e => by
    rw [hL]
    simp only [leftOf, Array.toList_filter, List.filter_filter]
    refine List.filter_congr fun x _ => ?_
    rw [Bool.eq_iff_iff]
    simp
    constructor
    · rintro ⟨h1, h2⟩; exact ⟨h2, h1⟩
    · rintro ⟨h1, h2⟩; exact ⟨h2, h1⟩
  rw [← hL]
  generalize hLL : leftOf es seen = L at hmem hpL hsub hleft hnew
  have e1 : L.filter (fun x => decide (x.born < since)) = L := Array.filter_eq_self.2 (fun x hx => by simpa using hmem x (by simpa using hx))
  have e2 : L.filter (fun x => decide (x.born ≥ since)) = #[] := by
    rw [Array.filter_eq_empty_iff]
    intro x hx
    have := hmem x (by simpa using hx)
    simp
    omega
  simp only [e1, e2, Array.append_empty]
  have hlen : L.size = todo.length := by have := congrArg List.length hleft; simpa using this
  by_cases h0 : L.size = 0
  · left
    have : L = #[] := Array.eq_empty_of_size_eq_zero h0
    subst this
    refine ⟨List.eq_nil_of_length_eq_zero (by rw [← hlen]; exact h0), ?_⟩
    simp [choose, Sem.run, Question.forced]
  · right
    have hne : L.isEmpty = false := by simp [Array.isEmpty, h0]
    simp only [hne, Bool.false_eq_true, if_false, Array.empty_append, Array.size_map]
    have hch : ∃ (j : Nat) (w1 : World), j < L.size ∧ (w1 = w ∨ w1 = w.drew) ∧ (choose (Question.mapNext L.size)).run P w = .ok j w1 := by
      by_cases hf : L.size ≤ 1
      · exact ⟨0, w, by omega, .inl rfl, by simp [choose, Sem.run, Question.forced, hf]⟩
      · exact ⟨_, w.drew, Nat.mod_lt _ (by omega), .inr rfl, by
          simp only [choose, Sem.run, Question.forced, decide_eq_true_eq, hf, if_false, Question.cut]
          rfl⟩
    obtain ⟨j, w1, hj, hal, hrun⟩ := hch
    have hjt : j < todo.length := by omega
    have hkv : (L[j].key, L[j].val) = (ek todo[j].1, todo[j].2) := by
      have := congrArg (fun m => m[j]?) hleft
      simpa [hj, hjt] using this
    have hin : L[j] ∈ L.toList := by simp
    have hLj : L.toList[j]? = some L[j] := by simp [hj]
    have hwh : w1.heap = w.heap := by rcases hal with rfl | rfl <;> rfl
    have hw1k : Kept [] w w1 := by rcases hal with rfl | rfl; exact Kept.refl _ _; exact (Kept.refl _ _).drew
    refine ⟨todo[j].1, todo[j].2, todo.eraseIdx j, { w1 with heap := w1.heap.setIfInBounds r (.mapIter (some b) since (seen.push L[j].born) clock) }, ?_, ?_, ⟨es, clock, since, seen.push L[j].born, clock, ?_, hp, hold, hcl, hcl, ?_, ?_⟩, ?_, ?_, ?_⟩
    · exact perm_pick todo j todo[j] (by simp [hjt])
    · have hr1 : w1.heap[r]? = some (.mapIter (some b) since seen last) := by rw [hwh, hr]
      have hset : ∀ o', (setObj r o').run P w1 = .ok () { w1 with heap := w1.heap.setIfInBounds r o' } := fun o' => by
        simp [setObj, Sem.run, hr1]
      simp only [hrun, Array.getElem?_map, Array.getElem?_eq_getElem hj, Option.map_some, Sem.run_bind, hset, Result.andThen]
      have k1 : L[j].key = ek todo[j].1 := by have := congrArg Prod.fst hkv; exact this
      have k2 : L[j].val = todo[j].2 := by have := congrArg Prod.snd hkv; exact this
      rw [← k1, ← k2]
      rfl
    · show (w1.heap.setIfInBounds r _)[b]? = _
      rw [Array.getElem?_setIfInBounds, if_neg (Ne.symm hlt.2.2), hwh, hb]
    · show (w1.heap.setIfInBounds r _)[r]? = _
      rw [Array.getElem?_setIfInBounds, if_pos rfl, if_pos (by rw [hwh]; exact hlt.2.1)]
    · rw [hnew, filter_one (·.born) L.toList j L[j] hpL hLj, map_eraseIdx', hleft, map_eraseIdx']
    · exact (hw1k.mono (by simp)).trans (T := [r]) (kept_set w1 r _) (by simp)
    · simp [hwh]
    · intro w' h1 h2
      have h1' : w'.heap[r]? = some (.mapIter (some b) since (seen.push L[j].born) clock) := by
        rw [h1]
        show (w1.heap.setIfInBounds r _)[r]? = _
        rw [Array.getElem?_setIfInBounds, if_pos rfl, if_pos (by rw [hwh]; exact hlt.2.1)]
      have h2' : w'.heap[b]? = some (.map es clock) := by
        rw [h2]
        show (w1.heap.setIfInBounds r _)[b]? = _
        rw [Array.getElem?_setIfInBounds, if_neg (Ne.symm hlt.2.2), hwh, hb]
      have hf : es.find? (·.born == L[j].born) = some L[j] := by rw [← Array.find?_toList]; exact find_born L[j] es.toList (List.pairwise_map.2 hp) (hsub _ hin)
      have k1 : L[j].key = ek todo[j].1 := by have := congrArg Prod.fst hkv; exact this
      have k2 : L[j].val = todo[j].2 := by have := congrArg Prod.snd hkv; exact this
      simp only [Instr.entry, getObj, Sem.run_bind, Sem.run, h1', h2', Result.andThen, Array.back?_push, bne_self_eq_false, Bool.false_eq_true, if_false, hf]
      rw [← k1, ← k2]
      rfl
theorem RangeIs.left_eq (h : RangeIs w b r ek todo) : w.rangeLeft b r = todo.length := by
  obtain ⟨es, clock, since, seen, last, hb, hp, hold, hsc, hcl, hr, hleft⟩ := h.ex
  have hlen : (leftOf es seen).size = todo.length := by have := congrArg List.length hleft; simpa using this
  simp [World.rangeLeft, hb, hr, hlen]
theorem wpList_range_is {l : List (α × Value)} {ops : Array Oper} {rest : List Oper} {o : Oper} {a : Act} {Q : Exit → Act → World → Prop}
    (hg : o.guard = none) (m : Operand) (t : TypeId) (hop : o.op = Op.range t m) (kt et : TypeId) (ht : P.underlying t = some (.map kt et))
    (hm : a.eval m = .map (some b)) (hM : MapIs w b ek l)
    (hK : ∀ w', RangeIs w' b w.heap.size ek l → Kept [] w w' → w'.heap.size = w.heap.size + 1 → wpList P ops Q rest (a.put o.dst (.pointer (some ⟨w.heap.size, 0, none⟩))) w') :
    wpList P ops Q (o :: rest) a w := by
  refine wpList_plain hg fun K' hK' => ?_
  obtain ⟨w', hrun, r1, r2, r3⟩ := hM.run_range (P := P) ht
  unfold Oper.wp
  simp [execOp, hop, hm, hrun, Result.andThen]
  exact hK' _ _ (hK w' r1 r2 r3)
theorem wpList_next_is {ops : Array Oper} {rest : List Oper} {o : Oper} {a : Act} {Q : Exit → Act → World → Prop}
    (hg : o.guard = none) (it : Operand) (hop : o.op = Op.next it false) (hit : a.eval it = .pointer (some ⟨r, 0, none⟩)) (h : RangeIs w b r ek todo)
    (hDone : todo = [] → wpList P ops Q rest (a.put o.dst (.tuple #[.bool false])) w)
    (hMore : ∀ x v todo' w', todo.Perm ((x, v) :: todo') → RangeIs w' b r ek todo' → Kept [r] w w' → w'.heap.size = w.heap.size →
      (Instr.entry (.pointer (some ⟨r, 0, none⟩))).run P w' = .ok (.tuple #[ek x, v]) w' → wpList P ops Q rest (a.put o.dst (.tuple #[.bool true, ek x, v])) w') :
    wpList P ops Q (o :: rest) a w := by
  refine wpList_plain hg fun K' hK' => ?_
  unfold Oper.wp
  rcases h.run_next (P := P) o.type with ⟨h0, hrun⟩ | ⟨x, v, todo', w', hp, hrun, hR, hk, hs, hen⟩
  · simp [execOp, hop, hit, hrun, Result.andThen]
    exact hK' _ _ (hDone h0)
  · simp [execOp, hop, hit, hrun, Result.andThen]
    exact hK' _ _ (hMore x v todo' w' hp hR hk hs (hen w' rfl rfl))
end
end Go.Proofs.Ytiheoddlknbomaa
