/- Worlds that keep blocks; maps as lists of pairs. No program text. -/
import Derived.Test.YtiheoddlknbomaaBase
import Derived.Maps.OwnSet
import Derived.StillTailTactics
set_option linter.all false
namespace Go.Proofs.Ytiheoddlknbomaa
open Go.RowKit
set_option linter.unusedVariables false
set_option linter.unusedSimpArgs false

/-- All blocks that there were, but for those of S, are as they were. -/
structure Kept (S : List Nat) (w w' : World) : Prop where
  os : w'.os = w.os
  tape : w'.tape = w.tape
  output : w'.output = w.output
  size : w.heap.size ≤ w'.heap.size
  block : ∀ k, k < w.heap.size → k ∉ S → w'.heap[k]? = w.heap[k]?

theorem Kept.refl (S : List Nat) (w : World) : Kept S w w := ⟨rfl, rfl, rfl, Nat.le_refl _, fun _ _ _ => rfl⟩
theorem Kept.trans {S T : List Nat} {a b c : World} (h : Kept S a b) (k : Kept T b c) (hT : ∀ x, x ∈ T → x ∈ S ∨ a.heap.size ≤ x) : Kept S a c :=
  ⟨k.os.trans h.os, k.tape.trans h.tape, k.output.trans h.output, Nat.le_trans h.size k.size, fun i hi hs =>
    (k.block i (Nat.lt_of_lt_of_le hi h.size) (fun ht => by rcases hT i ht with h1 | h1; exact hs h1; omega)).trans (h.block i hi hs)⟩
theorem Kept.mono {S T : List Nat} {a b : World} (h : Kept S a b) (hT : ∀ x, x ∈ S → x ∈ T) : Kept T a b :=
  ⟨h.os, h.tape, h.output, h.size, fun i hi hs => h.block i hi (fun h' => hs (hT i h'))⟩
theorem Kept.of_below {B : Nat} {w w' : World} (h : Below B w w') (hB : w.heap.size ≤ B) (S : List Nat) : Kept S w w' :=
  ⟨h.os, h.tape, h.output, h.size, fun k hk _ => h.block k (by omega)⟩
theorem Kept.below {S : List Nat} {w w' : World} (h : Kept S w w') {B : Nat} (hB : B ≤ w.heap.size) (hS : ∀ x, x ∈ S → B ≤ x) : Below B w w' :=
  ⟨h.os, h.tape, h.output, h.size, fun k hk => h.block k (by omega) (fun hs => by have := hS k hs; omega)⟩
theorem Kept.of_grown {w w' : World} {row : Option Nat} (h : w.grownBy w' row) (S : List Nat) (hr : ∀ k, row = some k → k ∈ S) : Kept S w w' :=
  ⟨h.os, h.tape, h.output, h.size, fun k hk hs => h.block k hk (fun e => hs (hr k e.symm))⟩
theorem Kept.then_below {S : List Nat} {a b c : World} {B : Nat} (h : Kept S a b) (k : Below B b c) (hB : a.heap.size ≤ B) : Kept S a c :=
  ⟨k.os.trans h.os, k.tape.trans h.tape, k.output.trans h.output, Nat.le_trans h.size k.size, fun i hi hs => (k.block i (by omega)).trans (h.block i hi hs)⟩
theorem Kept.cell {S : List Nat} {w w' : World} (h : Kept S w w') {b o : Nat} {v : Value} (hc : w.cell? ⟨b, o, none⟩ = some v) (hb : b ∉ S) : w'.cell? ⟨b, o, none⟩ = some v :=
  (World.cell?_of_block (w := w) (a := ⟨b, o, none⟩) (h.block b (World.block_lt_of_cell? w ⟨b, o, none⟩ hc) hb)).trans hc
theorem Kept.alloc {S : List Nat} {a w : World} (h : Kept S a w) (o : Obj) : Kept S a (w.alloc o) :=
  ⟨h.os, h.tape, h.output, Nat.le_trans h.size (by simp), fun k hk hs => by
    rw [Below.heap_alloc _ _ _ (Nat.lt_of_lt_of_le hk h.size)]; exact h.block k hk hs⟩
theorem Kept.setCell {S : List Nat} {a w : World} (h : Kept S a w) {p : Addr} (hp : p.block ∈ S ∨ a.heap.size ≤ p.block) (u : Value) : Kept S a (w.setCell p u) :=
  ⟨h.os, h.tape, h.output, Nat.le_trans h.size (by simp [World.setCell]), fun k hk hs => by
    rw [Below.heap_setCell _ _ _ _ (fun e => by rcases hp with h1 | h1; exact hs (e ▸ h1); omega)]; exact h.block k hk hs⟩
theorem Kept.drewN {S : List Nat} {a w : World} (h : Kept S a w) (n : Nat) : Kept S a (w.drewN n) := ⟨h.os, h.tape, h.output, h.size, h.block⟩
theorem Kept.drew {S : List Nat} {a w : World} (h : Kept S a w) : Kept S a w.drew := ⟨h.os, h.tape, h.output, h.size, h.block⟩

theorem map_eraseIdx' {α β : Type} (f : α → β) (l : List α) (i : Nat) : (l.eraseIdx i).map f = (l.map f).eraseIdx i := by
  refine List.ext_getElem? fun j => ?_
  simp only [List.getElem?_map, List.getElem?_eraseIdx]
  split <;> rfl
/-! ### lists of pairs -/
section
variable {α β : Type} [DecidableEq α]
def aget (x : α) : List (α × β) → Option β
  | [] => none
  | p :: r => if p.1 = x then some p.2 else aget x r
def aput (x : α) (v : β) : List (α × β) → List (α × β)
  | [] => [(x, v)]
  | p :: r => if p.1 = x then (x, v) :: r else p :: aput x v r
def adel (x : α) : List (α × β) → List (α × β)
  | [] => []
  | p :: r => if p.1 = x then r else p :: adel x r
def afind (x : α) : List (α × β) → Nat → Option (Nat × β)
  | [], _ => none
  | p :: r, i => if p.1 = x then some (i, p.2) else afind x r (i + 1)

theorem afind_none {x : α} : ∀ {l : List (α × β)} {i : Nat}, afind x l i = none → aget x l = none ∧ adel x l = l ∧ ∀ v, aput x v l = l ++ [(x, v)]
  | [], _, _ => ⟨rfl, rfl, fun _ => rfl⟩
  | p :: r, i, h => by
    unfold afind at h
    split at h
    · cases h
    · rename_i hp
      obtain ⟨h1, h2, h3⟩ := afind_none h
      exact ⟨by simp [aget, hp, h1], by simp [adel, hp, h2], fun v => by simp [aput, hp, h3]⟩
theorem afind_some {x : α} : ∀ {l : List (α × β)} {i j : Nat} {v : β}, afind x l i = some (j, v) →
    ∃ k, j = i + k ∧ l[k]? = some (x, v) ∧ aget x l = some v ∧ adel x l = l.eraseIdx k ∧ ∀ u, aput x u l = l.set k (x, u)
  | [], _, _, _, h => by simp [afind] at h
  | p :: r, i, j, v, h => by
    unfold afind at h
    split at h
    · rename_i hp
      cases h
      exact ⟨0, rfl, by cases p; simp at hp ⊢; exact hp, by simp [aget, hp], by simp [adel, hp], fun u => by simp [aput, hp]⟩
    · rename_i hp
      obtain ⟨k, h1, h2, h3, h4, h5⟩ := afind_some h
      exact ⟨k + 1, by omega, by simpa using h2, by simp [aget, hp, h3], by simp [adel, hp, h4], fun u => by simp [aput, hp, h5]⟩
theorem aget_map {γ : Type} (f : β → γ) (x : α) : ∀ l : List (α × β), aget x (l.map fun p => (p.1, f p.2)) = (aget x l).map f
  | [] => rfl
  | p :: r => by simp only [List.map_cons, aget]; split <;> simp [aget_map f x r]
theorem aput_map {γ : Type} (f : β → γ) (x : α) (v : β) : ∀ l : List (α × β), aput x (f v) (l.map fun p => (p.1, f p.2)) = (aput x v l).map fun p => (p.1, f p.2)
  | [] => rfl
  | p :: r => by simp only [List.map_cons, aput]; split <;> simp [aput_map f x v r]
theorem adel_map {γ : Type} (f : β → γ) (x : α) : ∀ l : List (α × β), adel x (l.map fun p => (p.1, f p.2)) = (adel x l).map fun p => (p.1, f p.2)
  | [] => rfl
  | p :: r => by simp only [List.map_cons, adel]; split <;> simp [adel_map f x r]
end

/-! ### a key's type -/
structure KeyOK {α : Type} [DecidableEq α] (P : Program) (kt : TypeId) (ek : α → Value) : Prop where
  check : ∀ b w x, (Instr.checkKey b 10000 kt (ek x)).run P w = .ok () w
  find : ∀ w x (es : List MapEntry) (l : List (α × Value)), es.map (fun e => (e.key, e.val)) = l.map (fun p => (ek p.1, p.2)) →
    (Instr.findKey kt (ek x) es).run P w = .ok (afind x l 0) w
  same : ∀ x, Instr.sameBits 10000 (ek x) (ek x) = true

theorem findNow_int (k k' : IntKind) (x : Int) : ∀ (es : List MapEntry) (l : List (Int × Value)) (i : Nat), es.map (fun e => (e.key, e.val)) = l.map (fun p => (Value.int k p.1, p.2)) →
    Instr.findNow (.int k') (.int k x) es i = some (afind x l i)
  | [], [], _, _ => rfl
  | [], _ :: _, _, h => by simp at h
  | _ :: _, [], _, h => by simp at h
  | e :: es, p :: l, i, h => by
    simp only [List.map_cons, List.cons.injEq, Prod.mk.injEq] at h
    obtain ⟨⟨h1, h2⟩, h3⟩ := h
    have ih := findNow_int k k' x es l (i + 1) h3
    unfold Instr.findNow afind
    rw [h1]
    by_cases hp : p.1 = x
    · simp [Instr.sameNow, hp, h2]
    · have : (x == p.1) = false := by simpa using fun e => hp e.symm
      simp [Instr.sameNow, hp, this, ih]
theorem checkKey_int {P : Program} {kt : TypeId} {k : IntKind} (n : Nat) (h : P.underlying kt = some (.int k)) (b : Bool) (w : World) (x : Int) :
    (Instr.checkKey b (n + 1) kt (.int k x)).run P w = .ok () w := by
  simp only [Instr.checkKey, Sem.run_bind, run_underlying h, Result.andThen_ok, Sem.run_pure]
theorem KeyOK.int {P : Program} {kt : TypeId} {k : IntKind} (h : P.underlying kt = some (.int k)) : KeyOK P kt (Value.int k) where
  check := fun b w x => checkKey_int 9999 h b w x
  find := fun w x es l he => by
    simp [Instr.findKey, run_underlying h, findNow_int k k x es l 0 he]
  same := fun x => by simp [Instr.sameBits]

/-! ### a map's block -/
structure MapIs {α : Type} (w : World) (b : Nat) (ek : α → Value) (l : List (α × Value)) : Prop where
  mk' ::
  ex : ∃ es clock, w.heap[b]? = some (.map es clock) ∧ es.toList.map (fun e => (e.key, e.val)) = l.map (fun p => (ek p.1, p.2)) ∧ es.toList.Pairwise (fun x y => x.born ≠ y.born) ∧ ∀ e ∈ es.toList, e.born < clock
theorem MapIs.lt {α : Type} {w : World} {b : Nat} {ek : α → Value} {l : List (α × Value)} (h : MapIs w b ek l) : b < w.heap.size := by
  obtain ⟨es, clock, hb, _⟩ := h.ex
  exact (Array.getElem?_eq_some_iff.1 hb).1
theorem MapIs.kept {α : Type} {w w' : World} {b : Nat} {ek : α → Value} {l : List (α × Value)} {S : List Nat} (h : MapIs w b ek l) (hk : Kept S w w') (hb : b ∉ S) : MapIs w' b ek l := by
  have hl := h.lt
  obtain ⟨es, clock, h1, h2⟩ := h.ex
  exact ⟨es, clock, (hk.block b hl hb).trans h1, h2⟩
theorem MapIs.alloc {α : Type} {w : World} {b : Nat} {ek : α → Value} {l : List (α × Value)} (h : MapIs w b ek l) (o : Obj) : MapIs (w.alloc o) b ek l :=
  h.kept (S := []) ((Kept.refl _ _).alloc o) (by simp)
theorem MapIs.drewN {α : Type} {w : World} {b : Nat} {ek : α → Value} {l : List (α × Value)} (h : MapIs w b ek l) (n : Nat) : MapIs (w.drewN n) b ek l := ⟨h.ex⟩
theorem MapIs.made {α : Type} (w : World) (ek : α → Value) : MapIs (w.alloc (.map #[] 0)) w.heap.size ek [] :=
  ⟨#[], 0, heap_alloc_new w _, rfl, by simp, by simp⟩

section
variable {α : Type} [DecidableEq α] {P : Program} {w : World} {b : Nat} {ek : α → Value} {l : List (α × Value)} {t kt et : TypeId}
theorem getObj_map {es : Array MapEntry} {clock : Nat} (h : w.heap[b]? = some (.map es clock)) : (getObj b).run P w = .ok (.map es clock) w := by
  simp [getObj, Sem.run, h]
theorem MapIs.run_lookup (h : MapIs w b ek l) (K : KeyOK P kt ek) (ht : P.underlying t = some (.map kt et)) {z : Value} (hz : (zeroValue et).run P w = .ok z w) (x : α) (ok : Bool) :
    (Instr.lookup t (.map (some b)) (ek x) ok).run P w = .ok (if ok then .tuple #[(aget x l).getD z, .bool (aget x l).isSome] else (aget x l).getD z) w := by
  obtain ⟨es, clock, hb, he, _⟩ := h.ex
  have hf := K.find w x es.toList l he
  unfold Instr.lookup
  simp only [Sem.run_bind, run_underlying ht, Result.andThen_ok, getObj_map hb, Sem.run_pure, K.check, hf]
  cases hx : afind x l 0 with
  | none => simp [(afind_none hx).1, hz]
  | some r =>
    obtain ⟨j, v⟩ := r
    obtain ⟨_, _, _, hg, _⟩ := afind_some hx
    simp [hg]
theorem setObj_map {es es' : Array MapEntry} {clock clock' : Nat} (h : w.heap[b]? = some (.map es clock)) :
    (setObj b (.map es' clock')).run P w = .ok () { w with heap := w.heap.setIfInBounds b (.map es' clock') } := by
  simp [setObj, Sem.run, h]
theorem kept_set (w : World) (b : Nat) (o : Obj) : Kept [b] w { w with heap := w.heap.setIfInBounds b o } :=
  ⟨rfl, rfl, rfl, by simp, fun k hk hs => by simp at hs; simp [Array.getElem?_setIfInBounds, Ne.symm hs]⟩
theorem MapIs.run_update (h : MapIs w b ek l) (K : KeyOK P kt ek) (ht : P.underlying t = some (.map kt et)) (x : α) (v : Value) :
    ∃ w', (Instr.mapUpdate t (.map (some b)) (ek x) v).run P w = .ok () w' ∧ MapIs w' b ek (aput x v l) ∧ Kept [b] w w' := by
  obtain ⟨es, clock, hb, he, hp, hc⟩ := h.ex
  have hlt := (Array.getElem?_eq_some_iff.1 hb).1
  have hf := K.find w x es.toList l he
  have hl : es.toList.length = l.length := by have := congrArg List.length he; simpa using this
  cases hx : afind x l 0 with
  | none =>
    obtain ⟨_, _, hput⟩ := afind_none hx
    refine ⟨{ w with heap := w.heap.setIfInBounds b (.map (es.push { key := ek x, val := v, born := clock }) (clock + 1)) }, ?_, ⟨es.push { key := ek x, val := v, born := clock }, clock + 1, by simp [hlt], ?_, ?_, ?_⟩, kept_set w b _⟩
    · unfold Instr.mapUpdate
      simp only [Sem.run_bind, run_underlying ht, Result.andThen_ok, getObj_map hb, K.check, hf, hx]
      exact setObj_map hb
    · rw [hput]; simp [he]
    · simp only [Array.toList_push]
      rw [List.pairwise_append]
      exact ⟨hp, by simp, fun a ha c hc' => by simp at hc'; subst hc'; have := hc a ha; simp; omega⟩
    · intro e hm
      simp only [Array.toList_push, List.mem_append, List.mem_singleton] at hm
      rcases hm with hm | rfl
      · have := hc e hm; omega
      · simp
  | some r =>
    obtain ⟨j, u⟩ := r
    obtain ⟨k, hj, hk, hg, _, hput⟩ := afind_some hx
    simp only [Nat.zero_add] at hj
    subst hj
    have hke : (es.toList.map fun e => (e.key, e.val))[j]? = some (ek x, u) := by rw [he]; simp [hk]
    have hkl : j < es.size := by
      have := (List.getElem?_eq_some_iff.1 hke).1
      simpa using this
    have hkey : es[j].key = ek x := by
      simp [hkl] at hke
      exact hke.1
    refine ⟨{ w with heap := w.heap.setIfInBounds b (.map (es.modify j fun e => { e with key := ek x, val := v }) clock) }, ?_, ⟨es.modify j fun e => { e with key := ek x, val := v }, clock, by simp [hlt], ?_, ?_, ?_⟩, kept_set w b _⟩
    · unfold Instr.mapUpdate
      simp only [Sem.run_bind, run_underlying ht, Result.andThen_ok, getObj_map hb, K.check, hf, hx]
      simp only [Instr.keyThatStays, hkl, Array.getElem?_eq_getElem, Option.map_some, Option.getD_some, hkey, K.same, if_true, Sem.run_pure, Result.andThen_ok]
      exact setObj_map hb
    · rw [hput, List.map_set, ← he]
      refine List.ext_getElem? fun i => ?_
      simp only [Array.toList_modify, List.getElem?_map, List.getElem?_modify, List.getElem?_set, List.length_map, Array.length_toList]
      by_cases hij : j = i
      · subst hij; simp [hkl]
      · simp [hij]
    · rw [Array.toList_modify]
      have e1 : (es.toList.modify j fun e => { e with key := ek x, val := v }).map (·.born) = es.toList.map (·.born) := by
        refine List.ext_getElem? fun i => ?_
        simp only [List.getElem?_map, List.getElem?_modify]
        by_cases hij : j = i <;> simp [hij]
        cases es[i]? <;> simp
      have e2 : (es.toList.map (·.born)).Pairwise (· ≠ ·) := List.pairwise_map.2 hp
      rw [← e1] at e2
      exact List.pairwise_map.1 e2
    · intro e hm
      rw [Array.toList_modify] at hm
      obtain ⟨i, hi⟩ := List.mem_iff_getElem?.1 hm
      simp only [List.getElem?_modify] at hi
      cases hei : es.toList[i]? with
      | none => simp [hei] at hi
      | some e0 =>
        have h0 := hc e0 (List.mem_iff_getElem?.2 ⟨i, hei⟩)
        rw [hei] at hi
        by_cases hij : j = i <;> simp [hij] at hi <;> subst hi <;> exact h0
theorem MapIs.run_delete (h : MapIs w b ek l) (K : KeyOK P kt ek) (ht : P.underlying t = some (.map kt et)) (x : α) (ty kty : TypeId) :
    ∃ w', (Builtin.delete_ #[t, kty] ty #[.map (some b), ek x]).run P w = .ok (.tuple #[]) w' ∧ MapIs w' b ek (adel x l) ∧ Kept [b] w w' := by
  obtain ⟨es, clock, hb, he, hp, hc⟩ := h.ex
  have hlt := (Array.getElem?_eq_some_iff.1 hb).1
  have hf := K.find w x es.toList l he
  cases hx : afind x l 0 with
  | none =>
    obtain ⟨_, hdel, _⟩ := afind_none hx
    refine ⟨{ w with heap := w.heap.setIfInBounds b (.map es clock) }, ?_, ⟨es, clock, by simp [hlt], by rw [hdel]; exact he, hp, hc⟩, kept_set w b _⟩
    unfold Builtin.delete_
    simp only [List.getElem?_toArray, List.getElem?_cons_zero, List.getElem?_cons_succ, Sem.run_bind, run_underlying ht, Result.andThen_ok, getObj_map hb, K.check, hf, hx, setObj_map hb, Sem.run_pure]
  | some r =>
    obtain ⟨j, u⟩ := r
    obtain ⟨k, hj, hk, hg, hdel, _⟩ := afind_some hx
    simp only [Nat.zero_add] at hj
    subst hj
    have hke : (es.toList.map fun e => (e.key, e.val))[j]? = some (ek x, u) := by rw [he]; simp [hk]
    have hkl : j < es.size := by
      have := (List.getElem?_eq_some_iff.1 hke).1
      simpa using this
    have el : (es.eraseIdxIfInBounds j).toList = es.toList.eraseIdx j := by
      simp [Array.eraseIdxIfInBounds, hkl, Array.toList_eraseIdx]
    refine ⟨{ w with heap := w.heap.setIfInBounds b (.map (es.eraseIdxIfInBounds j) clock) }, ?_, ⟨es.eraseIdxIfInBounds j, clock, by simp [hlt], ?_, ?_, ?_⟩, kept_set w b _⟩
    · unfold Builtin.delete_
      simp only [List.getElem?_toArray, List.getElem?_cons_zero, List.getElem?_cons_succ, Sem.run_bind, run_underlying ht, Result.andThen_ok, getObj_map hb, K.check, hf, hx, setObj_map hb, Sem.run_pure]
    · rw [hdel, el, map_eraseIdx', he, ← map_eraseIdx']
    · rw [el]; exact hp.sublist (List.eraseIdx_sublist _ _)
    · rw [el]; exact fun e hm => hc e (List.mem_of_mem_eraseIdx hm)
theorem MapIs.run_len (h : MapIs w b ek l) (ht : P.underlying t = some (.map kt et)) (ty : TypeId) :
    (Builtin.len_ #[t] ty #[.map (some b)]).run P w = .ok (.int .i64 l.length) w := by
  obtain ⟨es, clock, hb, he, _⟩ := h.ex
  have hl : es.size = l.length := by have := congrArg List.length he; simpa using this
  unfold Builtin.len_
  simp only [List.getElem?_toArray, List.getElem?_cons_zero, Sem.run_bind, run_underlying ht, Result.andThen_ok, getObj_map hb, Sem.run_pure]
  simp [goInt, hl, IntKind.wrap]
end

/-! ### the map's operations, for the walk -/
section
variable {α : Type} [DecidableEq α] {P : Program} {b : Nat} {ek : α → Value} {l : List (α × Value)}
theorem wpList_lookup_is {w : World} {ops : Array Oper} {rest : List Oper} {o : Oper} {a : Act} {Q : Exit → Act → World → Prop}
    (hg : o.guard = none) (m x : Operand) (t : TypeId) (ok : Bool) (hop : o.op = Op.lookup t m x ok)
    (kt et : TypeId) (K : KeyOK P kt ek) (ht : P.underlying t = some (.map kt et)) (z : Value) (hz : ∀ w, (zeroValue et).run P w = .ok z w)
    (hm : a.eval m = .map (some b)) (key : α) (hx : a.eval x = ek key) (hM : MapIs w b ek l) (r : Option Value) (hr : aget key l = r)
    (hK : wpList P ops Q rest (a.put o.dst (if ok then .tuple #[r.getD z, .bool r.isSome] else r.getD z)) w) :
    wpList P ops Q (o :: rest) a w := by
  refine wpList_plain hg fun K' hK' => ?_
  have hrun := hM.run_lookup K ht (hz w) key ok
  unfold Oper.wp
  simp [execOp, hop, hm, hx, hrun, Result.andThen, hr]
  refine hK' _ _ ?_
  cases ok <;> simpa using hK
theorem wpList_mapUpdate_is {w : World} {ops : Array Oper} {rest : List Oper} {o : Oper} {a : Act} {Q : Exit → Act → World → Prop}
    (hg : o.guard = none) (m x v : Operand) (t : TypeId) (hop : o.op = Op.mapUpdate t m x v)
    (kt et : TypeId) (K : KeyOK P kt ek) (ht : P.underlying t = some (.map kt et))
    (hm : a.eval m = .map (some b)) (key : α) (hx : a.eval x = ek key) (val : Value) (hv : a.eval v = val) (hM : MapIs w b ek l)
    (hK : ∀ w', MapIs w' b ek (aput key val l) → Kept [b] w w' → wpList P ops Q rest (a.put o.dst undef) w') :
    wpList P ops Q (o :: rest) a w := by
  refine wpList_plain hg fun K' hK' => ?_
  obtain ⟨w', hrun, r1, r2⟩ := hM.run_update K ht key val
  unfold Oper.wp
  simp [execOp, hop, hm, hx, hv, hrun, Result.andThen]
  exact hK' _ _ (hK w' r1 r2)
theorem wpList_delete_is {w : World} {ops : Array Oper} {rest : List Oper} {o : Oper} {a : Act} {Q : Exit → Act → World → Prop}
    (hg : o.guard = none) (m x : Operand) (t kty : TypeId) (hop : o.op = .call { callee := .builtin .delete, args := #[m, x], argTypes := #[t, kty] })
    (kt et : TypeId) (K : KeyOK P kt ek) (ht : P.underlying t = some (.map kt et))
    (hm : a.eval m = .map (some b)) (key : α) (hx : a.eval x = ek key) (hM : MapIs w b ek l)
    (hK : ∀ w', MapIs w' b ek (adel key l) → Kept [b] w w' → wpList P ops Q rest (a.put o.dst (.tuple #[])) w') :
    wpList P ops Q (o :: rest) a w := by
  refine wpList_plain hg fun K' hK' => ?_
  obtain ⟨w', hrun, r1, r2⟩ := hM.run_delete K ht key o.type kty
  unfold Oper.wp execOp
  simp only [hop, resolve, invoke, builtin, Sem.run_bind, Sem.run_pure, Result.andThen_ok, List.map_toArray, List.map_cons, List.map_nil, hm, hx, hrun]
  exact hK' _ _ (hK w' r1 r2)
theorem wpList_len_is {w : World} {ops : Array Oper} {rest : List Oper} {o : Oper} {a : Act} {Q : Exit → Act → World → Prop}
    (hg : o.guard = none) (m : Operand) (t : TypeId) (hop : o.op = .call { callee := .builtin .len, args := #[m], argTypes := #[t] })
    (kt et : TypeId) (ht : P.underlying t = some (.map kt et))
    (hm : a.eval m = .map (some b)) (hM : MapIs w b ek l) (n : Nat) (hn : l.length = n)
    (hK : wpList P ops Q rest (a.put o.dst (.int .i64 n)) w) :
    wpList P ops Q (o :: rest) a w := by
  refine wpList_plain hg fun K' hK' => ?_
  have hrun := hM.run_len (P := P) ht o.type
  unfold Oper.wp execOp
  simp only [hop, resolve, invoke, builtin, Sem.run_bind, Sem.run_pure, Result.andThen_ok, List.map_toArray, List.map_cons, List.map_nil, hm, hrun]
  rw [hn]
  exact hK' _ _ hK
end

/-- A region that draws its order: reads, and one operation behind them all: the world under its own name. -/
theorem region_tail {P : Program} {id : Nat} {Q : Exit → Act → World → Prop} {a : Act} {w : World} {l : List Oper} (n : Nat) (hm : P.follows .mixedOrders = true) (hB : Region.lexTailB .any l.toArray n = true)
    (h : wpStill P l.toArray w.drew (fun a' => wpList P l.toArray Q (l.drop n) a' w.drew) (l.take n) a) : (Code.region id l.toArray true).wp P Q a w :=
  wp_region_still_tail n hm hB h
theorem MapIs.drew {α : Type} {w : World} {b : Nat} {ek : α → Value} {l : List (α × Value)} (h : MapIs w b ek l) : MapIs w.drew b ek l := ⟨h.ex⟩
end Go.Proofs.Ytiheoddlknbomaa
