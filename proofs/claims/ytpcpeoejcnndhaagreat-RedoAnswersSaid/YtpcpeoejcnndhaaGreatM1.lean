/- General facts for the walks: 64-bit words as natural numbers, worlds that keep blocks, maps as lists of pairs. No program text. -/
import Derived.Test.YtpcpeoejcnndhaaGreatRows
import Derived.WalkKit
import Derived.BigQuiet
import Derived.Deep.QuietTactic
import Derived.Outline
import Derived.WalkSpells
import Derived.WalkLawsBesides
import Derived.Laws.BitsAllLaws
import Derived.Maps.OwnSet
import Derived.StillTailTactics
import Derived.ProofKit
import Derived.OpenShut
import Derived.Lib.SmallJoins
import Derived.Deep.Slices
import Derived.Laws.StructEq
import Derived.ChangeKeysEq
import Derived.Handy
import Derived.Sort.Grow
import Derived.Deep.RegionHeld3
import Derived.Lib.Bytealg
import Derived.Lib.BytesEntry
import Derived.Shelf.SlSortCmp.KitK
import Derived.Laws.AppendOwnNone
import Derived.RangeFuncNested
import Derived.RangeFuncBound
import Derived.RangeFuncCalls
import Derived.RangeFuncLeaves
import Derived.RangeFuncBox
import Derived.Shelf.Abstract
import Derived.Shelf.RegionOpen
import Derived.OwnWalkIn
import Derived.TacticsInMore
import Derived.LoopNIn
import Derived.LoopIn
import Derived.Deep.MidRow
import Derived.Deep.AppendSrc
import Derived.Sort.AssemblyPlain
import Derived.Sort.WalkB2
import Derived.Sort.WalkB12
import Derived.Deep.LoopGhost
import Derived.Shelf.RegionOpenPlain
set_option linter.all false
namespace Go.Proofs.YtpcpeoejcnndhaaGreat
open Go.RowKit
theorem hid {p : Prop} (h : p) : Hid p := h
theorem ret_int {k : IntKind} {a b : Int} (h : a = b) : Ending.returned (.int k a) = .returned (.int k b) := by rw [h]
theorem ret_bool {a b : Bool} (h : a = b) : Ending.returned (.bool a) = .returned (.bool b) := by rw [h]
def U64 (n : Nat) : Prop := n < 18446744073709551616
theorem U64.lt {n : Nat} (h : U64 n) : n < 18446744073709551616 := h
theorem u64_bits {a b : Nat} (ha : U64 a) (hb : U64 b) :
    bits .and .u64 (a : Int) (b : Int) = ((a &&& b : Nat) : Int) ∧ bits .or .u64 (a : Int) (b : Int) = ((a ||| b : Nat) : Int) ∧
    bits .andNot .u64 (a : Int) (b : Int) = ((a &&& (18446744073709551615 - b) : Nat) : Int) :=
  ⟨u64_and_nat a b ha.lt hb.lt, u64_or_nat a b ha.lt hb.lt, u64_andNot_nat a b ha.lt hb.lt⟩
structure Kept (S : List Nat) (w w' : World) : Prop where
  os : w'.os = w.os
  tape : w'.tape = w.tape
  output : w'.output = w.output
  size : w.heap.size ≤ w'.heap.size
  block : ∀ k, k < w.heap.size → k ∉ S → w'.heap[k]? = w.heap[k]?
theorem Kept.refl (S : List Nat) (w : World) : Kept S w w := ⟨rfl, rfl, rfl, Nat.le_refl _, fun _ _ _ => rfl⟩
theorem Kept.trans {S T : List Nat} {a b c : World} (h : Kept S a b) (k : Kept T b c) (hT : ∀ x, x ∈ T → x ∈ S ∨ a.heap.size ≤ x) : Kept S a c :=
  ⟨k.os.trans h.os, k.tape.trans h.tape, k.output.trans h.output, Nat.le_trans h.size k.size, fun i hi hs =>
    (k.block i (Nat.lt_of_lt_of_le hi h.size) (fun ht => by rcases hT i ht with h1 | h1; exact hs h1; omega)).trans (h.block i hi hs)⟩
theorem Kept.mono {S T : List Nat} {a b : World} (h : Kept S a b) (hT : ∀ x, x ∈ S → x ∈ T) : Kept T a b :=
  ⟨h.os, h.tape, h.output, h.size, fun i hi hs => h.block i hi (fun h' => hs (hT i h'))⟩
theorem Kept.of_below {B : Nat} {w w' : World} (h : Below B w w') (hB : w.heap.size ≤ B) (S : List Nat) : Kept S w w' :=
  ⟨h.os, h.tape, h.output, h.size, fun k hk _ => h.block k (by omega)⟩
theorem Kept.below {S : List Nat} {w w' : World} (h : Kept S w w') {B : Nat} (hB : B ≤ w.heap.size) (hS : ∀ x, x ∈ S → B ≤ x) : Below B w w' :=
  ⟨h.os, h.tape, h.output, h.size, fun k hk => h.block k (by omega) (fun hs => by have := hS k hs; omega)⟩
theorem Kept.of_grown {w w' : World} {row : Option Nat} (h : w.grownBy w' row) (S : List Nat) (hr : ∀ k, row = some k → k ∈ S) : Kept S w w' :=
  ⟨h.os, h.tape, h.output, h.size, fun k hk hs => h.block k hk (fun e => hs (hr k e.symm))⟩
theorem Kept.then_below {S : List Nat} {a b c : World} {B : Nat} (h : Kept S a b) (k : Below B b c) (hB : a.heap.size ≤ B) : Kept S a c :=
  ⟨k.os.trans h.os, k.tape.trans h.tape, k.output.trans h.output, Nat.le_trans h.size k.size, fun i hi hs => (k.block i (by omega)).trans (h.block i hi hs)⟩
theorem Kept.cell {S : List Nat} {w w' : World} (h : Kept S w w') {b o : Nat} {v : Value} (hc : w.cell? ⟨b, o, none⟩ = some v) (hb : b ∉ S) : w'.cell? ⟨b, o, none⟩ = some v :=
  (World.cell?_of_block (w := w) (a := ⟨b, o, none⟩) (h.block b (World.block_lt_of_cell? w ⟨b, o, none⟩ hc) hb)).trans hc
theorem Kept.alloc {S : List Nat} {a w : World} (h : Kept S a w) (o : Obj) : Kept S a (w.alloc o) :=
  ⟨h.os, h.tape, h.output, Nat.le_trans h.size (by simp), fun k hk hs => by
    rw [Below.heap_alloc _ _ _ (Nat.lt_of_lt_of_le hk h.size)]; exact h.block k hk hs⟩
theorem Kept.setCell {S : List Nat} {a w : World} (h : Kept S a w) {p : Addr} (hp : p.block ∈ S ∨ a.heap.size ≤ p.block) (u : Value) : Kept S a (w.setCell p u) :=
  ⟨h.os, h.tape, h.output, Nat.le_trans h.size (by simp [World.setCell]), fun k hk hs => by
    rw [Below.heap_setCell _ _ _ _ (fun e => by rcases hp with h1 | h1; exact hs (e ▸ h1); omega)]; exact h.block k hk hs⟩
theorem Kept.drewN {S : List Nat} {a w : World} (h : Kept S a w) (n : Nat) : Kept S a (w.drewN n) := ⟨h.os, h.tape, h.output, h.size, h.block⟩
theorem Kept.drew {S : List Nat} {a w : World} (h : Kept S a w) : Kept S a w.drew := ⟨h.os, h.tape, h.output, h.size, h.block⟩
theorem map_eraseIdx' {α β : Type} (f : α → β) (l : List α) (i : Nat) : (l.eraseIdx i).map f = (l.map f).eraseIdx i := by
  refine List.ext_getElem? fun j => ?_
  simp only [List.getElem?_map, List.getElem?_eraseIdx]
  split <;> rfl
section
variable {α β : Type} [DecidableEq α]
def aget (x : α) : List (α × β) → Option β
  | [] => none
  | p :: r => if p.1 = x then some p.2 else aget x r
def aput (x : α) (v : β) : List (α × β) → List (α × β)
  | [] => [(x, v)]
  | p :: r => if p.1 = x then (x, v) :: r else p :: aput x v r
def adel (x : α) : List (α × β) → List (α × β)
  | [] => []
  | p :: r => if p.1 = x then r else p :: adel x r
def afind (x : α) : List (α × β) → Nat → Option (Nat × β)
  | [], _ => none
  | p :: r, i => if p.1 = x then some (i, p.2) else afind x r (i + 1)
theorem afind_none {x : α} : ∀ {l : List (α × β)} {i : Nat}, afind x l i = none → aget x l = none ∧ adel x l = l ∧ ∀ v, aput x v l = l ++ [(x, v)]
  | [], _, _ => ⟨rfl, rfl, fun _ => rfl⟩
  | p :: r, i, h => by
    unfold afind at h
    split at h
    · cases h
    · rename_i hp
      obtain ⟨h1, h2, h3⟩ := afind_none h
      exact ⟨by simp [aget, hp, h1], by simp [adel, hp, h2], fun v => by simp [aput, hp, h3]⟩
theorem afind_some {x : α} : ∀ {l : List (α × β)} {i j : Nat} {v : β}, afind x l i = some (j, v) →
    ∃ k, j = i + k ∧ l[k]? = some (x, v) ∧ aget x l = some v ∧ adel x l = l.eraseIdx k ∧ ∀ u, aput x u l = l.set k (x, u)
  | [], _, _, _, h => by simp [afind] at h
  | p :: r, i, j, v, h => by
    unfold afind at h
    split at h
    · rename_i hp
      cases h
      exact ⟨0, rfl, by cases p; simp at hp ⊢; exact hp, by simp [aget, hp], by simp [adel, hp], fun u => by simp [aput, hp]⟩
    · rename_i hp
      obtain ⟨k, h1, h2, h3, h4, h5⟩ := afind_some h
      exact ⟨k + 1, by omega, by simpa using h2, by simp [aget, hp, h3], by simp [adel, hp, h4], fun u => by simp [aput, hp, h5]⟩
theorem aget_map {γ : Type} (f : β → γ) (x : α) : ∀ l : List (α × β), aget x (l.map fun p => (p.1, f p.2)) = (aget x l).map f
  | [] => rfl
  | p :: r => by simp only [List.map_cons, aget]; split <;> simp [aget_map f x r]
theorem aput_map {γ : Type} (f : β → γ) (x : α) (v : β) : ∀ l : List (α × β), aput x (f v) (l.map fun p => (p.1, f p.2)) = (aput x v l).map fun p => (p.1, f p.2)
  | [] => rfl
  | p :: r => by simp only [List.map_cons, aput]; split <;> simp [aput_map f x v r]
theorem adel_map {γ : Type} (f : β → γ) (x : α) : ∀ l : List (α × β), adel x (l.map fun p => (p.1, f p.2)) = (adel x l).map fun p => (p.1, f p.2)
  | [] => rfl
  | p :: r => by simp only [List.map_cons, adel]; split <;> simp [adel_map f x r]
end
structure KeyOK {α : Type} [DecidableEq α] (P : Program) (kt : TypeId) (ek : α → Value) : Prop where
  check : ∀ b w x, (Instr.checkKey b 10000 kt (ek x)).run P w = .ok () w
  find : ∀ w x (es : List MapEntry) (l : List (α × Value)), es.map (fun e => (e.key, e.val)) = l.map (fun p => (ek p.1, p.2)) →
    (Instr.findKey kt (ek x) es).run P w = .ok (afind x l 0) w
  same : ∀ x, Instr.sameBits 10000 (ek x) (ek x) = true
theorem findNow_int (k k' : IntKind) (x : Int) : ∀ (es : List MapEntry) (l : List (Int × Value)) (i : Nat), es.map (fun e => (e.key, e.val)) = l.map (fun p => (Value.int k p.1, p.2)) →
    Instr.findNow (.int k') (.int k x) es i = some (afind x l i)
  | [], [], _, _ => rfl
  | [], _ :: _, _, h => by simp at h
  | _ :: _, [], _, h => by simp at h
  | e :: es, p :: l, i, h => by
    simp only [List.map_cons, List.cons.injEq, Prod.mk.injEq] at h
    obtain ⟨⟨h1, h2⟩, h3⟩ := h
    have ih := findNow_int k k' x es l (i + 1) h3
    unfold Instr.findNow afind
    rw [h1]
    by_cases hp : p.1 = x
    · simp [Instr.sameNow, hp, h2]
    · have : (x == p.1) = false := by simpa using fun e => hp e.symm
      simp [Instr.sameNow, hp, this, ih]
theorem checkKey_int {P : Program} {kt : TypeId} {k : IntKind} (n : Nat) (h : P.underlying kt = some (.int k)) (b : Bool) (w : World) (x : Int) :
    (Instr.checkKey b (n + 1) kt (.int k x)).run P w = .ok () w := by
  simp only [Instr.checkKey, Sem.run_bind, run_underlying h, Result.andThen_ok, Sem.run_pure]
theorem KeyOK.int {P : Program} {kt : TypeId} {k : IntKind} (h : P.underlying kt = some (.int k)) : KeyOK P kt (Value.int k) where
  check := fun b w x => checkKey_int 9999 h b w x
  find := fun w x es l he => by
    simp [Instr.findKey, run_underlying h, findNow_int k k x es l 0 he]
  same := fun x => by simp [Instr.sameBits]
structure MapIs {α : Type} (w : World) (b : Nat) (ek : α → Value) (l : List (α × Value)) : Prop where
  mk' ::
  ex : ∃ es clock, w.heap[b]? = some (.map es clock) ∧ es.toList.map (fun e => (e.key, e.val)) = l.map (fun p => (ek p.1, p.2)) ∧ es.toList.Pairwise (fun x y => x.born ≠ y.born) ∧ ∀ e ∈ es.toList, e.born < clock
theorem MapIs.lt {α : Type} {w : World} {b : Nat} {ek : α → Value} {l : List (α × Value)} (h : MapIs w b ek l) : b < w.heap.size := by
  obtain ⟨es, clock, hb, _⟩ := h.ex
  exact (Array.getElem?_eq_some_iff.1 hb).1
theorem MapIs.kept {α : Type} {w w' : World} {b : Nat} {ek : α → Value} {l : List (α × Value)} {S : List Nat} (h : MapIs w b ek l) (hk : Kept S w w') (hb : b ∉ S) : MapIs w' b ek l := by
  have hl := h.lt
  obtain ⟨es, clock, h1, h2⟩ := h.ex
  exact ⟨es, clock, (hk.block b hl hb).trans h1, h2⟩
theorem MapIs.alloc {α : Type} {w : World} {b : Nat} {ek : α → Value} {l : List (α × Value)} (h : MapIs w b ek l) (o : Obj) : MapIs (w.alloc o) b ek l :=
  h.kept (S := []) ((Kept.refl _ _).alloc o) (by simp)
theorem MapIs.drewN {α : Type} {w : World} {b : Nat} {ek : α → Value} {l : List (α × Value)} (h : MapIs w b ek l) (n : Nat) : MapIs (w.drewN n) b ek l := ⟨h.ex⟩
theorem MapIs.made {α : Type} (w : World) (ek : α → Value) : MapIs (w.alloc (.map #[] 0)) w.heap.size ek [] :=
  ⟨#[], 0, heap_alloc_new w _, rfl, by simp, by simp⟩
section
variable {α : Type} [DecidableEq α] {P : Program} {w : World} {b : Nat} {ek : α → Value} {l : List (α × Value)} {t kt et : TypeId}
theorem getObj_map {es : Array MapEntry} {clock : Nat} (h : w.heap[b]? = some (.map es clock)) : (getObj b).run P w = .ok (.map es clock) w := by
  simp [getObj, Sem.run, h]
theorem MapIs.run_lookup (h : MapIs w b ek l) (K : KeyOK P kt ek) (ht : P.underlying t = some (.map kt et)) {z : Value} (hz : (zeroValue et).run P w = .ok z w) (x : α) (ok : Bool) :
    (Instr.lookup t (.map (some b)) (ek x) ok).run P w = .ok (if ok then .tuple #[(aget x l).getD z, .bool (aget x l).isSome] else (aget x l).getD z) w := by
  obtain ⟨es, clock, hb, he, _⟩ := h.ex
  have hf := K.find w x es.toList l he
  unfold Instr.lookup
  simp only [Sem.run_bind, run_underlying ht, Result.andThen_ok, getObj_map hb, Sem.run_pure, K.check, hf]
  cases hx : afind x l 0 with
  | none => simp [(afind_none hx).1, hz]
  | some r =>
    obtain ⟨j, v⟩ := r
    obtain ⟨_, _, _, hg, _⟩ := afind_some hx
    simp [hg]
theorem setObj_map {es es' : Array MapEntry} {clock clock' : Nat} (h : w.heap[b]? = some (.map es clock)) :
    (setObj b (.map es' clock')).run P w = .ok () { w with heap := w.heap.setIfInBounds b (.map es' clock') } := by
  simp [setObj, Sem.run, h]
theorem kept_set (w : World) (b : Nat) (o : Obj) : Kept [b] w { w with heap := w.heap.setIfInBounds b o } :=
  ⟨rfl, rfl, rfl, by simp, fun k hk hs => by simp at hs; simp [Array.getElem?_setIfInBounds, Ne.symm hs]⟩
theorem MapIs.run_update (h : MapIs w b ek l) (K : KeyOK P kt ek) (ht : P.underlying t = some (.map kt et)) (x : α) (v : Value) :
    ∃ w', (Instr.mapUpdate t (.map (some b)) (ek x) v).run P w = .ok () w' ∧ MapIs w' b ek (aput x v l) ∧ Kept [b] w w' := by
  obtain ⟨es, clock, hb, he, hp, hc⟩ := h.ex
  have hlt := (Array.getElem?_eq_some_iff.1 hb).1
  have hf := K.find w x es.toList l he
  have hl : es.toList.length = l.length := by have := congrArg List.length he; simpa using this
  cases hx : afind x l 0 with
  | none =>
    obtain ⟨_, _, hput⟩ := afind_none hx
    refine ⟨{ w with heap := w.heap.setIfInBounds b (.map (es.push { key := ek x, val := v, born := clock }) (clock + 1)) }, ?_, ⟨es.push { key := ek x, val := v, born := clock }, clock + 1, by simp [hlt], ?_, ?_, ?_⟩, kept_set w b _⟩
    · unfold Instr.mapUpdate
      simp only [Sem.run_bind, run_underlying ht, Result.andThen_ok, getObj_map hb, K.check, hf, hx]
      exact setObj_map hb
    · rw [hput]; simp [he]
    · simp only [Array.toList_push]
      rw [List.pairwise_append]
      exact ⟨hp, by simp, fun a ha c hc' => by simp at hc'; subst hc'; have := hc a ha; simp; omega⟩
    · intro e hm
      simp only [Array.toList_push, List.mem_append, List.mem_singleton] at hm
      rcases hm with hm | rfl
      · have := hc e hm; omega
      · simp
  | some r =>
    obtain ⟨j, u⟩ := r
    obtain ⟨k, hj, hk, hg, _, hput⟩ := afind_some hx
    simp only [Nat.zero_add] at hj
    subst hj
    have hke : (es.toList.map fun e => (e.key, e.val))[j]? = some (ek x, u) := by rw [he]; simp [hk]
    have hkl : j < es.size := by
      have := (List.getElem?_eq_some_iff.1 hke).1
      simpa using this
    have hkey : es[j].key = ek x := by
      simp [hkl] at hke
      exact hke.1
    refine ⟨{ w with heap := w.heap.setIfInBounds b (.map (es.modify j fun e => { e with key := ek x, val := v }) clock) }, ?_, ⟨es.modify j fun e => { e with key := ek x, val := v }, clock, by simp [hlt], ?_, ?_, ?_⟩, kept_set w b _⟩
    · unfold Instr.mapUpdate
      simp only [Sem.run_bind, run_underlying ht, Result.andThen_ok, getObj_map hb, K.check, hf, hx]
      simp only [Instr.keyThatStays, hkl, Array.getElem?_eq_getElem, Option.map_some, Option.getD_some, hkey, K.same, if_true, Sem.run_pure, Result.andThen_ok]
      exact setObj_map hb
    · rw [hput, List.map_set, ← he]
      refine List.ext_getElem? fun i => ?_
      simp only [Array.toList_modify, List.getElem?_map, List.getElem?_modify, List.getElem?_set, List.length_map, Array.length_toList]
      by_cases hij : j = i
      · subst hij; simp [hkl]
      · simp [hij]
    · rw [Array.toList_modify]
      have e1 : (es.toList.modify j fun e => { e with key := ek x, val := v }).map (·.born) = es.toList.map (·.born) := by
        refine List.ext_getElem? fun i => ?_
        simp only [List.getElem?_map, List.getElem?_modify]
        by_cases hij : j = i <;> simp [hij]
        cases es[i]? <;> simp
      have e2 : (es.toList.map (·.born)).Pairwise (· ≠ ·) := List.pairwise_map.2 hp
      rw [← e1] at e2
      exact List.pairwise_map.1 e2
    · intro e hm
      rw [Array.toList_modify] at hm
      obtain ⟨i, hi⟩ := List.mem_iff_getElem?.1 hm
      simp only [List.getElem?_modify] at hi
      cases hei : es.toList[i]? with
      | none => simp [hei] at hi
      | some e0 =>
        have h0 := hc e0 (List.mem_iff_getElem?.2 ⟨i, hei⟩)
        rw [hei] at hi
        by_cases hij : j = i <;> simp [hij] at hi <;> subst hi <;> exact h0
theorem MapIs.run_delete (h : MapIs w b ek l) (K : KeyOK P kt ek) (ht : P.underlying t = some (.map kt et)) (x : α) (ty kty : TypeId) :
    ∃ w', (Builtin.delete_ #[t, kty] ty #[.map (some b), ek x]).run P w = .ok (.tuple #[]) w' ∧ MapIs w' b ek (adel x l) ∧ Kept [b] w w' := by
  obtain ⟨es, clock, hb, he, hp, hc⟩ := h.ex
  have hlt := (Array.getElem?_eq_some_iff.1 hb).1
  have hf := K.find w x es.toList l he
  cases hx : afind x l 0 with
  | none =>
    obtain ⟨_, hdel, _⟩ := afind_none hx
    refine ⟨{ w with heap := w.heap.setIfInBounds b (.map es clock) }, ?_, ⟨es, clock, by simp [hlt], by rw [hdel]; exact he, hp, hc⟩, kept_set w b _⟩
    unfold Builtin.delete_
    simp only [List.getElem?_toArray, List.getElem?_cons_zero, List.getElem?_cons_succ, Sem.run_bind, run_underlying ht, Result.andThen_ok, getObj_map hb, K.check, hf, hx, setObj_map hb, Sem.run_pure]
  | some r =>
    obtain ⟨j, u⟩ := r
    obtain ⟨k, hj, hk, hg, hdel, _⟩ := afind_some hx
    simp only [Nat.zero_add] at hj
    subst hj
    have hke : (es.toList.map fun e => (e.key, e.val))[j]? = some (ek x, u) := by rw [he]; simp [hk]
    have hkl : j < es.size := by
      have := (List.getElem?_eq_some_iff.1 hke).1
      simpa using this
    have el : (es.eraseIdxIfInBounds j).toList = es.toList.eraseIdx j := by
      simp [Array.eraseIdxIfInBounds, hkl, Array.toList_eraseIdx]
    refine ⟨{ w with heap := w.heap.setIfInBounds b (.map (es.eraseIdxIfInBounds j) clock) }, ?_, ⟨es.eraseIdxIfInBounds j, clock, by simp [hlt], ?_, ?_, ?_⟩, kept_set w b _⟩
    · unfold Builtin.delete_
      simp only [List.getElem?_toArray, List.getElem?_cons_zero, List.getElem?_cons_succ, Sem.run_bind, run_underlying ht, Result.andThen_ok, getObj_map hb, K.check, hf, hx, setObj_map hb, Sem.run_pure]
    · rw [hdel, el, map_eraseIdx', he, ← map_eraseIdx']
    · rw [el]; exact hp.sublist (List.eraseIdx_sublist _ _)
    · rw [el]; exact fun e hm => hc e (List.mem_of_mem_eraseIdx hm)
theorem MapIs.run_len (h : MapIs w b ek l) (ht : P.underlying t = some (.map kt et)) (ty : TypeId) :
    (Builtin.len_ #[t] ty #[.map (some b)]).run P w = .ok (.int .i64 l.length) w := by
  obtain ⟨es, clock, hb, he, _⟩ := h.ex
  have hl : es.size = l.length := by have := congrArg List.length he; simpa using this
  unfold Builtin.len_
  simp only [List.getElem?_toArray, List.getElem?_cons_zero, Sem.run_bind, run_underlying ht, Result.andThen_ok, getObj_map hb, Sem.run_pure]
  simp [goInt, hl, IntKind.wrap]
end
section
variable {α : Type} [DecidableEq α] {P : Program} {b : Nat} {ek : α → Value} {l : List (α × Value)}
theorem wpList_lookup_is {w : World} {ops : Array Oper} {rest : List Oper} {o : Oper} {a : Act} {Q : Exit → Act → World → Prop}
    (hg : o.guard = none) (m x : Operand) (t : TypeId) (ok : Bool) (hop : o.op = Op.lookup t m x ok)
    (kt et : TypeId) (K : KeyOK P kt ek) (ht : P.underlying t = some (.map kt et)) (z : Value) (hz : ∀ w, (zeroValue et).run P w = .ok z w)
    (hm : a.eval m = .map (some b)) (key : α) (hx : a.eval x = ek key) (hM : MapIs w b ek l) (r : Option Value) (hr : aget key l = r)
    (hK : wpList P ops Q rest (a.put o.dst (if ok then .tuple #[r.getD z, .bool r.isSome] else r.getD z)) w) :
    wpList P ops Q (o :: rest) a w := by
  refine wpList_plain hg fun K' hK' => ?_
  have hrun := hM.run_lookup K ht (hz w) key ok
  unfold Oper.wp
  simp [execOp, hop, hm, hx, hrun, Result.andThen, hr]
  refine hK' _ _ ?_
  cases ok <;> simpa using hK
theorem wpList_mapUpdate_is {w : World} {ops : Array Oper} {rest : List Oper} {o : Oper} {a : Act} {Q : Exit → Act → World → Prop}
    (hg : o.guard = none) (m x v : Operand) (t : TypeId) (hop : o.op = Op.mapUpdate t m x v)
    (kt et : TypeId) (K : KeyOK P kt ek) (ht : P.underlying t = some (.map kt et))
    (hm : a.eval m = .map (some b)) (key : α) (hx : a.eval x = ek key) (val : Value) (hv : a.eval v = val) (hM : MapIs w b ek l)
    (hK : ∀ w', MapIs w' b ek (aput key val l) → Kept [b] w w' → wpList P ops Q rest (a.put o.dst undef) w') :
    wpList P ops Q (o :: rest) a w := by
  refine wpList_plain hg fun K' hK' => ?_
  obtain ⟨w', hrun, r1, r2⟩ := hM.run_update K ht key val
  unfold Oper.wp
  simp [execOp, hop, hm, hx, hv, hrun, Result.andThen]
  exact hK' _ _ (hK w' r1 r2)
theorem wpList_delete_is {w : World} {ops : Array Oper} {rest : List Oper} {o : Oper} {a : Act} {Q : Exit → Act → World → Prop}
    (hg : o.guard = none) (m x : Operand) (t kty : TypeId) (hop : o.op = .call { callee := .builtin .delete, args := #[m, x], argTypes := #[t, kty] })
    (kt et : TypeId) (K : KeyOK P kt ek) (ht : P.underlying t = some (.map kt et))
    (hm : a.eval m = .map (some b)) (key : α) (hx : a.eval x = ek key) (hM : MapIs w b ek l)
    (hK : ∀ w', MapIs w' b ek (adel key l) → Kept [b] w w' → wpList P ops Q rest (a.put o.dst (.tuple #[])) w') :
    wpList P ops Q (o :: rest) a w := by
  refine wpList_plain hg fun K' hK' => ?_
  obtain ⟨w', hrun, r1, r2⟩ := hM.run_delete K ht key o.type kty
  unfold Oper.wp execOp
  simp only [hop, resolve, invoke, builtin, Sem.run_bind, Sem.run_pure, Result.andThen_ok, List.map_toArray, List.map_cons, List.map_nil, hm, hx, hrun]
  exact hK' _ _ (hK w' r1 r2)
theorem wpList_len_is {w : World} {ops : Array Oper} {rest : List Oper} {o : Oper} {a : Act} {Q : Exit → Act → World → Prop}
    (hg : o.guard = none) (m : Operand) (t : TypeId) (hop : o.op = .call { callee := .builtin .len, args := #[m], argTypes := #[t] })
    (kt et : TypeId) (ht : P.underlying t = some (.map kt et))
    (hm : a.eval m = .map (some b)) (hM : MapIs w b ek l) (n : Nat) (hn : l.length = n)
    (hK : wpList P ops Q rest (a.put o.dst (.int .i64 n)) w) :
    wpList P ops Q (o :: rest) a w := by
  refine wpList_plain hg fun K' hK' => ?_
  have hrun := hM.run_len (P := P) ht o.type
  unfold Oper.wp execOp
  simp only [hop, resolve, invoke, builtin, Sem.run_bind, Sem.run_pure, Result.andThen_ok, List.map_toArray, List.map_cons, List.map_nil, hm, hrun]
  rw [hn]
  exact hK' _ _ hK
end
theorem region_tail {P : Program} {id : Nat} {Q : Exit → Act → World → Prop} {a : Act} {w : World} {l : List Oper} (n : Nat) (hm : P.follows .mixedOrders = true) (hB : Region.lexTailB .any l.toArray n = true)
    (h : wpStill P l.toArray w.drew (fun a' => wpList P l.toArray Q (l.drop n) a' w.drew) (l.take n) a) : (Code.region id l.toArray true).wp P Q a w :=
  wp_region_still_tail n hm hB h
theorem MapIs.drew {α : Type} {w : World} {b : Nat} {ek : α → Value} {l : List (α × Value)} (h : MapIs w b ek l) : MapIs w.drew b ek l := ⟨h.ex⟩
theorem Kept.grown_own {S : List Nat} {a w w' : World} {base n size : Nat} {e : TypeId} {v : Value} {xs : List Value} (h : Kept S a w) (hown : w.ownsRow base e size v n xs) (hg : w.grownBy w' v.ownBlock) (hb : a.heap.size ≤ base) : Kept S a w' :=
  h.trans (T := v.ownBlock.toList) (Kept.of_grown hg _ (fun k hk => by simp [hk])) (fun x hx => .inr (by
    have := (hown.lt x (by simpa using hx)).1
    omega))
theorem cells_new (w : World) (l : List Value) (t : TypeId) (j : Nat) (u : Value) (h : l[j]? = some u) : (w.alloc (.cells l.toArray t)).cell? ((⟨w.heap.size, 0, none⟩ : Addr).add j) = some u := by
  have hadd : (⟨w.heap.size, 0, none⟩ : Addr).add j = ⟨w.heap.size, j, none⟩ := by unfold Addr.add; split <;> simp_all
  rw [hadd, cell_of_row _ _ j l.toArray t (0, 0) (heap_alloc_new w _)]
  simpa using h
theorem new_cell (w : World) (l : List Value) (t : TypeId) (j : Nat) (u : Value) (h : l[j]? = some u) : (w.alloc (.cells l.toArray t)).cell? ⟨w.heap.size, j, none⟩ = some u := by
  rw [cell_of_row _ _ j l.toArray t (0, 0) (heap_alloc_new w _)]
  simpa using h
theorem ownsRow_made0 (w : World) (e : TypeId) (size base : Nat) (hb : base ≤ w.heap.size) : (w.alloc (.cells #[] e)).ownsRow base e size (.slice (some ⟨w.heap.size, 0, none⟩) 0 0) 0 [] :=
  World.ownsRow_made w #[] 0 hb (by simp) (by simp)
theorem ownsRow_new (w : World) (l : List Value) (e : TypeId) (size n base : Nat) (hb : base ≤ w.heap.size) (hm : n ≤ maxLen) (hl : l.length = n * size) :
    (w.alloc (.cells l.toArray e)).ownsRow base e size (.slice (some ⟨w.heap.size, 0, none⟩) n n) n l :=
  ⟨hl, .inr ⟨w.heap.size, n, l.toArray, rfl, hb, heap_alloc_new w _, Nat.le_refl _, hm, by simpa using hl, by rw [List.take_of_length_le]; simp [hl]⟩⟩
section
variable {P : Program} {w : World} {ops : Array Oper} {rest : List Oper} {o : Oper} {a : Act} {Q : Exit → Act → World → Prop}
theorem wpList_append_is (hgd : o.guard = none) (s x : Operand) (t : TypeId)
    (ho : o.op = .call { callee := .builtin .append, args := #[s, x], argTypes := #[t, t] })
    (e : TypeId) (z : Value) (size bytes : Nat) (ht : P.underlying t = some (.slice e)) (hi : (P.info? e).map (fun i => (i.zero, i.size, i.bytes)) = some (some z, size, bytes))
    (hzs : z.cells.size = size) (hsz : 0 < size) (hby : 0 < bytes) (base : Nat)
    (v : Value) (n : Nat) (xs : List Value) (hs : a.eval s = v) (hown : w.ownsRow base e size v n xs)
    (ad : Addr) (m c : Nat) (news : List Value) (hx : a.eval x = .slice (some ad) m c) (hl : news.length = m * size) (hnews : ∀ j u, news[j]? = some u → w.cell? (ad.add j) = some u) (h1 : ∀ u ∈ news, u.oneCell' = true)
    (hbytes : (n + m) * bytes ≤ 140737488355328) (hbase : base ≤ w.heap.size)
    (h : ∀ v' w', w'.ownsRow base e size v' (n + m) (xs ++ news) → w.grownBy w' v.ownBlock → (v' = .slice none 0 0 ↔ v = .slice none 0 0 ∧ m = 0) → wpList P ops Q rest (a.put o.dst v') w') : wpList P ops Q (o :: rest) a w := by
  obtain ⟨i, hi, hz0, hz1, hz2⟩ := info_parts hi
  have h63 : n + m ≤ maxLen := by
    have := Nat.le_mul_of_pos_right (n + m) hby
    unfold maxLen; omega
  exact wpList_append_own w hgd s x t ho base e i z size bytes ht hi hz0 hz1 hz2 hzs hsz v n xs hs hown ad m c news hx hl hnews h1 h63 hbytes hbase h
end
theorem ownsRow_slice {w : World} {base : Nat} {e : TypeId} {size n : Nat} {v : Value} {xs : List Value} (h : w.ownsRow base e size v n xs) : ∃ a cap, v = .slice a n cap := by
  rcases h.2 with ⟨rfl, rfl⟩ | ⟨g, cap, cur, rfl, _⟩
  · exact ⟨none, 0, rfl⟩
  · exact ⟨_, cap, rfl⟩
theorem ownsRow_set {w : World} {base : Nat} {e : TypeId} {size n g cap : Nat} {xs : List Value} (h : w.ownsRow base e size (.slice (some ⟨g, 0, none⟩) n cap) n xs) (j : Nat) (u : Value) (hj : j < xs.length) :
    (w.setCell ⟨g, j, none⟩ u).ownsRow base e size (.slice (some ⟨g, 0, none⟩) n cap) n (xs.set j u) := by
  refine ⟨by simpa using h.1, .inr ?_⟩
  rcases h.2 with ⟨h', _⟩ | ⟨g', cap', cur, hv, hb, hg, hle, hcm, hsz, htk⟩
  · cases h'
  · cases hv
    refine ⟨g, cap, cur.setIfInBounds j u, rfl, hb, ?_, hle, hcm, by simpa using hsz, ?_⟩
    · simp [World.setCell, Array.getElem?_modify, hg]
    · rw [← htk, Array.toList_setIfInBounds, List.take_set]
def Here (p : Prop) : Prop := p
theorem Here.mk {p : Prop} (h : Here p) : p := h
theorem Here.of {p : Prop} (h : p) : Here p := h
structure SlAt (w : World) (v : Value) (size n : Nat) (xs : List Value) : Prop where
  ex : ∃ a cap, v = .slice a n cap ∧ n ≤ 9223372036854775807 ∧ xs.length = n * size ∧ (0 < n → ∃ b off, a = some ⟨b, off, none⟩ ∧ b < w.heap.size ∧ ∀ j u, xs[j]? = some u → w.cell? ⟨b, off + j, none⟩ = some u)
theorem SlAt.of_own {w : World} {base : Nat} {e : TypeId} {size n : Nat} {v : Value} {xs : List Value} (h : w.ownsRow base e size v n xs) : SlAt w v size n xs := by
  rcases h.2 with ⟨rfl, rfl⟩ | ⟨g, cap, cur, rfl, _, hg, hle, hcm, _⟩
  · exact ⟨none, 0, rfl, by omega, h.1, fun h => by omega⟩
  · refine ⟨_, cap, rfl, by unfold maxLen at hcm; omega, h.1, fun _ => ⟨g, 0, rfl, (Array.getElem?_eq_some_iff.1 hg).1, fun j u hu => ?_⟩⟩
    have := h.cells (g := g) rfl _ _ hu
    have hadd : (⟨g, 0, none⟩ : Addr).add j = ⟨g, j, none⟩ := by unfold Addr.add; split <;> simp_all
    rw [hadd] at this
    rw [Nat.zero_add]; exact this
theorem SlAt.kept {w w' : World} {size n : Nat} {v : Value} {xs : List Value} (h : SlAt w v size n xs) (hk : Kept [] w w') : SlAt w' v size n xs := by
  obtain ⟨a, cap, h1, h2, h3, h4⟩ := h.ex
  refine ⟨a, cap, h1, h2, h3, fun hn => ?_⟩
  obtain ⟨b, off, h5, h6, h7⟩ := h4 hn
  exact ⟨b, off, h5, Nat.lt_of_lt_of_le h6 hk.size, fun j u hu => hk.cell (h7 j u hu) (by simp)⟩
--@@ ref00.SameInts
set_option maxRecDepth 100000 in
set_option maxHeartbeats 1000000 in
theorem sameInts_any (v1 v2 : Value) (xs ys : List Int) (w : World) (h1 : SlAt w v1 1 xs.length (xs.map (Value.int .i64))) (h2 : SlAt w v2 1 ys.length (ys.map (Value.int .i64))) :
    Calls Tryz.prog 14 #[v1, v2] w fun e w' => e = .returned (.bool (decide (xs = ys))) ∧ Kept [] w w' := by
  obtain ⟨a1, cap1, rfl, m1, _, c1⟩ := h1.ex
  obtain ⟨a2, cap2, rfl, m2, _, c2⟩ := h2.ex
  clear h1 h2
  have HC1 := hid c1
  have HC2 := hid c2
  clear c1 c2
  by_cases hl : xs.length = ys.length
  · have hb : ((xs.length : Int) != (ys.length : Int)) = false := by simp [hl]
    have HL := hid hl
    clear hl
    go_enter Tryz.func14, Tryz.ntmps14
    go_wp2
    go_loopw [5] (fun i wr => ∃ k : Nat, k ≤ xs.length ∧ i = .int .i64 k ∧ xs.take k = ys.take k ∧ ∃ n, wr = w.drewN n) (fun i _ => xs.length - (intOf i).toNat)
    case atStart => exact ⟨0, Nat.zero_le _, rfl, rfl, 0, rfl⟩
    case round =>
      obtain ⟨k, hk, rfl, ht, n, rfl⟩ := hrel
      have HT := hid ht
      clear ht
      by_cases hlt : k < xs.length
      · have hlt2 : k < ys.length := by rw [← HL.out]; exact hlt
        obtain ⟨b1, o1, rfl, _, d1⟩ := HC1.out (by omega)
        obtain ⟨b2, o2, rfl, _, d2⟩ := HC2.out (by omega)
        have e1 := d1 k (.int .i64 xs[k]) (by simp [hlt])
        have e2 := d2 k (.int .i64 ys[k]) (by simp [hlt2])
        clear d1 d2
        have HX := hid (show xs.take (k + 1) = xs.take k ++ [xs[k]] by rw [List.take_succ_eq_append_getElem hlt])
        have HY := hid (show ys.take (k + 1) = ys.take k ++ [ys[k]] by rw [List.take_succ_eq_append_getElem hlt2])
        have HXE := hid (show xs[k]? = some xs[k] by simp [hlt])
        have HYE := hid (show ys[k]? = some ys[k] by simp [hlt2])
        generalize xs[k] = x at *
        generalize ys[k] = y at *
        go_wp2_with fail
        go_quiet (fail)
        go_wp2
        · have hne : x ≠ y := by simpa using ‹(x != y) = true›
          go_ret
          refine ⟨ret_bool ?_, ((Kept.refl [] w).drewN _).drewN _⟩
          symm
          refine decide_eq_false fun h => hne ?_
          have := HXE.out
          rw [h, HYE.out] at this
          exact (Option.some.inj this).symm
        · have he : x = y := by simpa using ‹(x != y) = false›
          go_roundw
          case rel => exact ⟨k + 1, by omega, by go_num, by rw [HX.out, HY.out, HT.out, he], _, rfl⟩
          case measure => simp [intOf]; omega
      · go_wp2
        go_ret
        obtain rfl : k = xs.length := by omega
        refine ⟨ret_bool ?_, (Kept.refl [] w).drewN _⟩
        have := HT.out
        rw [List.take_length, HL.out, List.take_length] at this
        simp [this]
  · have hb : ((xs.length : Int) != (ys.length : Int)) = true := by simp; omega
    have HL := hid hl
    clear hl
    go_enter Tryz.func14, Tryz.ntmps14
    go_wp2
    go_ret
    exact ⟨ret_bool (by symm; exact decide_eq_false fun h => HL.out (by rw [h])), Kept.refl _ _⟩
--@@ end
end Go.Proofs.YtpcpeoejcnndhaaGreat
namespace Go.Proofs.YtpcpeoejcnndhaaGreat
open Go.RowKit Go.ChangeShapes Go.WideShapes Go.ChangeAt
def All2 : List (Value → Prop) → List Value → Prop
  | [], [] => True
  | p :: ps, v :: vs => p v ∧ All2 ps vs
  | _, _ => False
theorem All2.len : ∀ {ps : List (Value → Prop)} {vs : List Value}, All2 ps vs → vs.length = ps.length
  | [], [], _ => rfl
  | _ :: ps, _ :: vs, h => by simp [All2.len h.2]
  | [], _ :: _, h => h.elim
  | _ :: _, [], h => h.elim
theorem All2.append : ∀ {ps qs : List (Value → Prop)} {vs us : List Value}, All2 ps vs → All2 qs us → All2 (ps ++ qs) (vs ++ us)
  | [], _, [], _, _, h => h
  | _ :: ps, _, _ :: vs, _, h, h' => ⟨h.1, All2.append h.2 h'⟩
  | [], _, _ :: _, _, h, _ => h.elim
  | _ :: _, _, [], _, h, _ => h.elim
theorem All2.cons {p : Value → Prop} {ps : List (Value → Prop)} : ∀ {cs : List Value}, All2 (p :: ps) cs → ∃ v vs, cs = v :: vs ∧ p v ∧ All2 ps vs
  | [], h => h.elim
  | v :: vs, h => ⟨v, vs, rfl, h.1, h.2⟩
theorem All2.nil : ∀ {cs : List Value}, All2 [] cs → cs = []
  | [], _ => rfl
  | _ :: _, h => h.elim
def IsI (k : IntKind) (v : Value) : Prop := ∃ n, v = .int k n ∧ k.min ≤ n ∧ n ≤ k.max
def IsB (v : Value) : Prop := ∃ b, v = .bool b
def IsS (v : Value) : Prop := ∃ s, v = .string s ∧ s.size ≤ maxLen
def Flat (P : Program) (t : TypeId) (ps : List (Value → Prop)) : Prop :=
  P.cellsOf t = ps.length ∧ ∀ (H : Type) (enc : TypeId × Value → H) (w : World) (base : Nat) (spare : Nat → Bool) (held : Bool) (fuel : Nat) (cs : List Value) (x : DataW H × List MemPlace),
    DataW.trod enc P w base spare held fuel t cs = some x → All2 ps cs
section
variable {P : Program}
theorem wf_range {k : IntKind} {n : Int} (h : (Lit.int k n).wf = true) : k.min ≤ n ∧ n ≤ k.max := by simpa [Lit.wf] using h
theorem Flat.int {t : TypeId} {k : IntKind} (ht : P.underlying t = some (.int k)) (hc : P.cellsOf t = 1) : Flat P t [IsI k] :=
  ⟨hc, fun H enc w base spare held fuel cs x h => by
    obtain ⟨n, rfl, _, hw⟩ := DataW.trod_int ht h
    exact ⟨⟨n, rfl, wf_range hw⟩, trivial⟩⟩
theorem Flat.bool {t : TypeId} (ht : P.underlying t = some .bool) (hc : P.cellsOf t = 1) : Flat P t [IsB] :=
  ⟨hc, fun H enc w base spare held fuel cs x h => by
    cases fuel with
    | zero => simp [DataW.trod] at h
    | succ n =>
      unfold DataW.trod at h
      rw [ht] at h
      split at h <;> simp_all [All2, IsB]⟩
theorem Flat.string {t : TypeId} (ht : P.underlying t = some .string) (hc : P.cellsOf t = 1) : Flat P t [IsS] :=
  ⟨hc, fun H enc w base spare held fuel cs x h => by
    cases fuel with
    | zero => simp [DataW.trod] at h
    | succ n =>
      unfold DataW.trod at h
      rw [ht] at h
      split at h <;> simp_all [All2, IsS]⟩
def FlatFields (P : Program) : List Field → Nat → List (List (Value → Prop)) → Prop
  | [], _, [] => True
  | f :: fs, off, ps :: r => f.offset = off ∧ Flat P f.type ps ∧ FlatFields P fs (off + ps.length) r
  | _, _, _ => False
theorem flat_fields {H : Type} {enc : TypeId × Value → H} {w : World} {base : Nat} {spare : Nat → Bool} {held : Bool} {n : Nat} {cs : List Value} :
    ∀ (fs : List Field) (off : Nat) (pss : List (List (Value → Prop))), FlatFields P fs off pss → (∀ (i : Nat) (f : Field), fs[i]? = some f → ∃ x, DataW.trod enc P w base spare held n f.type ((cs.drop f.offset).take (P.cellsOf f.type)) = some x) →
      cs.length = off + pss.flatten.length → All2 pss.flatten (cs.drop off)
  | [], off, [], _, _, hl => by
    simp at hl
    rw [List.drop_of_length_le (by omega)]; trivial
  | f :: fs, off, ps :: r, h, hx, hl => by
    obtain ⟨h1, h2, h3⟩ := h
    obtain ⟨x, hx0⟩ := hx 0 f rfl
    have a1 := h2.2 _ _ _ _ _ _ _ _ _ hx0
    rw [h1, h2.1] at a1
    have a2 := flat_fields fs (off + ps.length) r h3 (fun i g hg => hx (i + 1) g (by simpa using hg)) (by simp at hl ⊢; omega)
    have e : cs.drop off = (cs.drop off).take ps.length ++ cs.drop (off + ps.length) := by
      rw [← List.drop_drop, List.take_append_drop]
    rw [e, List.flatten_cons]
    exact All2.append a1 a2
  | [], _, _ :: _, h, _, _ => h.elim
  | _ :: _, _, [], h, _, _ => h.elim
theorem Flat.struct {t : TypeId} {fs : List Field} {pss : List (List (Value → Prop))} (ht : P.underlying t = some (.struct fs.toArray)) (hc : P.cellsOf t = pss.flatten.length) (hf : FlatFields P fs 0 pss) : Flat P t pss.flatten :=
  ⟨hc, fun H enc w base spare held fuel cs x h => by
    obtain ⟨xs, n, _, _, hl, hlen, hx⟩ := DataW.trod_struct ht h
    have := flat_fields (enc := enc) (w := w) (base := base) (spare := spare) (held := held) (n := n) (cs := cs) fs 0 pss hf (fun i f hi => by
      have h2 := hx i f (by simpa using hi)
      have hlt : i < xs.length := by
        rw [hlen]
        have := (List.getElem?_eq_some_iff.1 hi).1
        simpa using this
      rw [List.getElem?_eq_getElem hlt] at h2
      exact ⟨_, h2⟩) (by rw [hl, hc]; simp)
    simpa using this⟩
theorem flat_rows {H : Type} {enc : TypeId × Value → H} {w : World} {base : Nat} {spare : Nat → Bool} {held : Bool} {m : Nat} {e : TypeId} {ps : List (Value → Prop)} (hf : Flat P e ps) :
    ∀ (n : Nat) (cs : List Value), cs.length = n * ps.length → (∀ i, i < n → ∃ x, DataW.trod enc P w base spare held m e ((cs.drop (i * ps.length)).take ps.length) = some x) → All2 (List.replicate n ps).flatten cs
  | 0, cs, hl, _ => by
    have : cs = [] := List.eq_nil_of_length_eq_zero (by simpa using hl)
    subst this; trivial
  | n + 1, cs, hl, hx => by
    obtain ⟨x, h0⟩ := hx 0 (by omega)
    simp only [Nat.zero_mul, List.drop_zero] at h0
    have a1 := hf.2 _ _ _ _ _ _ _ _ _ h0
    have a2 := flat_rows hf n (cs.drop ps.length) (by rw [List.length_drop, hl, Nat.succ_mul]; omega) (fun i hi => by
      obtain ⟨y, hy⟩ := hx (i + 1) (by omega)
      rw [List.drop_drop]
      rw [Nat.succ_mul, Nat.add_comm] at hy
      exact ⟨y, hy⟩)
    rw [← List.take_append_drop ps.length cs, List.replicate_succ, List.flatten_cons]
    exact All2.append a1 a2
theorem Flat.array {t e : TypeId} {n : Nat} {ps : List (Value → Prop)} (ht : P.underlying t = some (.array n e)) (hc : P.cellsOf t = n * ps.length) (hf : Flat P e ps) : Flat P t (List.replicate n ps).flatten :=
  ⟨by rw [hc]; simp, fun H enc w base spare held fuel cs x h => by
    obtain ⟨xs, m, _, _, hl, hlen, hx⟩ := DataW.trod_array ht h
    refine flat_rows (enc := enc) (w := w) (base := base) (spare := spare) (held := held) (m := m) hf n cs (by rw [hl, hc]) fun i hi => ?_
    have h2 := hx i hi
    rw [hf.1, List.getElem?_eq_getElem (by omega)] at h2
    exact ⟨_, h2⟩⟩
theorem open_agg {H : Type} {enc : TypeId × Value → H} {w W : World} {base b0 : Nat} {spare : Nat → Bool} {held : Bool} {r : Reach} {t : TypeId} {v : Value} {d : DataW H} {p : List MemPlace} {ps : List (Value → Prop)} {ds : TypeDesc}
    (hd : P.underlying t = some ds) (ha : (match ds with | .struct _ => true | .array _ _ => true | _ => false) = true) (hf : Flat P t ps)
    (hv : Value.okWide P w r b0 t v) (h : DataW.Trod enc P W base spare held t v d p) : ∃ cs : List Value, v = .agg cs.toArray ∧ All2 ps cs := by
  obtain ⟨fuel, hf'⟩ := h
  have a := hf.2 _ _ _ _ _ _ _ _ _ hf'
  unfold Value.okWide at hv
  rw [hd] at hv
  have : ∃ cs, v = .agg cs := by
    cases ds <;> simp at ha <;> exact ⟨_, hv.choose_spec.1⟩
  obtain ⟨cs, rfl⟩ := this
  exact ⟨cs.toList, by simp, by simpa [Value.cells] using a⟩
theorem list_choose {α : Type} {n : Nat} {R : Nat → α → Prop} (h : ∀ i, i < n → ∃ x, R i x) : ∃ l : List α, l.length = n ∧ ∀ i x, l[i]? = some x → R i x := by
  induction n with
  | zero => exact ⟨[], rfl, by simp⟩
  | succ n ih =>
    obtain ⟨l, h1, h2⟩ := ih fun i hi => h i (by omega)
    obtain ⟨x, hx⟩ := h n (by omega)
    refine ⟨l ++ [x], by simp [h1], fun i y hy => ?_⟩
    by_cases hi : i < l.length
    · rw [List.getElem?_append_left hi] at hy; exact h2 i y hy
    · rw [List.getElem?_append_right (by omega)] at hy
      have hi' : i - l.length = 0 := by
        have := (List.getElem?_eq_some_iff.1 hy).1
        simp at this; omega
      rw [hi'] at hy
      simp at hy
      subst hy
      have : i = n := by omega
      subst this; exact hx
theorem flatMap_get {α : Type} {c : Nat} (f : α → List Value) (hc : ∀ x, (f x).length = c) : ∀ (l : List α) (i j : Nat) (x : α), l[i]? = some x → j < c → (l.flatMap f)[i * c + j]? = (f x)[j]?
  | [], _, _, _, h, _ => by simp at h
  | y :: l, 0, j, x, h, hj => by
    simp at h; subst h
    simp only [List.flatMap_cons, Nat.zero_mul, Nat.zero_add]
    rw [List.getElem?_append_left (by rw [hc]; omega)]
  | y :: l, i + 1, j, x, h, hj => by
    have := flatMap_get f hc l i j x (by simpa using h) hj
    simp only [List.flatMap_cons]
    rw [List.getElem?_append_right (by rw [hc, Nat.succ_mul]; omega), hc, ← this]
    congr 1; rw [Nat.succ_mul]; omega
theorem flatMap_len {α : Type} {c : Nat} (f : α → List Value) (hc : ∀ x, (f x).length = c) : ∀ (l : List α), (l.flatMap f).length = l.length * c
  | [] => by simp
  | y :: l => by simp only [List.flatMap_cons, List.length_append, hc, flatMap_len f hc l, List.length_cons, Nat.succ_mul]; omega
theorem open_flats {α : Type} {H : Type} {enc : TypeId × Value → H} {w W : World} {base b0 : Nat} {spare : Nat → Bool} {held : Bool} {r : Reach} {t e : TypeId} {v : Value} {d : DataW H} {p : List MemPlace} {ps : List (Value → Prop)}
    (ht : P.underlying t = some (.slice e)) (hf : Flat P e ps) (hpos : 0 < ps.length) (f : α → List Value) (ok : α → Prop) (hdec : ∀ cs, All2 ps cs → ∃ x, cs = f x ∧ ok x) (hlen : ∀ x, (f x).length = ps.length)
    (hv : Value.okWide P w r b0 t v) (h : DataW.Trod enc P W base spare held t v d p) : ∃ l : List α, SlAt W v ps.length l.length (l.flatMap f) ∧ ∀ x ∈ l, ok x := by
  obtain ⟨a0, len, cap, rfl⟩ := okWide_slice ht hv
  obtain ⟨fuel, hf'⟩ := h
  rcases Go.Deep.open_slice ht hf' with ⟨hcs, _⟩ | ⟨a, len', cap', m, n, D, Pl, hcs, hb, hl, hm, hmm, hx, hall⟩
  · simp [Value.cells] at hcs
    obtain ⟨rfl, rfl, rfl⟩ := hcs
    exact ⟨[], ⟨none, 0, rfl, by simp, by simp, by simp⟩, by simp⟩
  · simp [Value.cells] at hcs
    obtain ⟨rfl, rfl, rfl⟩ := hcs
    have hlm : len ≤ m := by rw [hmm]; split <;> omega
    obtain ⟨l, hl1, hl2⟩ := list_choose (n := len) (R := fun i x => ok x ∧ ∀ j u, (f x)[j]? = some u → W.cell? ((a.add (i * ps.length)).add j) = some u) (fun i hi => by
      obtain ⟨cs', h1, h2⟩ := hall i (by omega)
      have a1 := hf.2 _ _ _ _ _ _ _ _ _ h2
      obtain ⟨x, rfl, hok⟩ := hdec cs' a1
      refine ⟨x, hok, fun j u hj => ?_⟩
      rw [hf.1] at h1
      obtain ⟨_, hl', hc'⟩ := World.cells?_some h1
      have hjl := (List.getElem?_eq_some_iff.1 hj).1
      rw [hlen] at hjl
      rw [hc' j hjl]; exact hj)
    have key : ∀ i x j u, l[i]? = some x → (f x)[j]? = some u → W.cell? ((a.add (i * ps.length)).add j) = some u := fun i x j u hi hj => (hl2 i x hi).2 j u hj
    refine ⟨l, ⟨some a, cap, by rw [hl1], by unfold maxLen at hm; omega, flatMap_len f hlen l, fun hpos' => ?_⟩, fun x hx => ?_⟩
    · obtain ⟨b, off, sp⟩ := a
      have h0 : ∃ x, l[0]? = some x := ⟨l[0], by simp [hpos']⟩
      obtain ⟨x0, hx0⟩ := h0
      have hlt0 : 0 < (f x0).length := by rw [hlen]; exact hpos
      have c0 := key 0 x0 0 (f x0)[0] hx0 (by simp [hlt0])
      have hsp : sp = none := by
        cases sp with
        | none => rfl
        | some s =>
          simp [World.cell?, Addr.add] at c0
          split at c0 <;> simp_all
      subst hsp
      have hadd : ∀ o j, (⟨b, o, none⟩ : Addr).add j = ⟨b, o + j, none⟩ := fun o j => by unfold Addr.add; split <;> simp_all
      refine ⟨b, off, rfl, ?_, fun j u hj => ?_⟩
      · rw [hadd, hadd] at c0
        exact World.block_lt_of_cell? W _ c0
      · have hjl : j < l.length * ps.length := by
          have := (List.getElem?_eq_some_iff.1 hj).1
          rwa [flatMap_len f hlen] at this
        have hq : j / ps.length < l.length := Nat.div_lt_of_lt_mul (by rw [Nat.mul_comm]; exact hjl)
        have hr : j % ps.length < ps.length := Nat.mod_lt _ hpos
        have hj' : j / ps.length * ps.length + j % ps.length = j := by rw [Nat.mul_comm]; exact Nat.div_add_mod _ _
        have e := flatMap_get f hlen l (j / ps.length) (j % ps.length) l[j / ps.length] (by simp [hq]) hr
        rw [hj', hj] at e
        have := key (j / ps.length) l[j / ps.length] (j % ps.length) u (by simp [hq]) e.symm
        rw [hadd, hadd, Nat.add_assoc, hj'] at this
        exact this
    · obtain ⟨i, hi⟩ := List.mem_iff_getElem?.1 hx
      exact (hl2 i x hi).1
end
end Go.Proofs.YtpcpeoejcnndhaaGreat
namespace Go.Proofs.YtpcpeoejcnndhaaGreat
open Go.RowKit
structure K4 where
  a : UInt8
  b : UInt8
  c : UInt8
  d : UInt8
  deriving DecidableEq
structure V where
  there : Bool
  n : Int
  deriving DecidableEq
structure Pr where
  key : K4
  val : V
  deriving DecidableEq
def K4.f (k : K4) : List Value := [.int .u8 (k.a.toNat : Int), .int .u8 (k.b.toNat : Int), .int .u8 (k.c.toNat : Int), .int .u8 (k.d.toNat : Int)]
def K4.v (k : K4) : Value := .agg #[.int .u8 (k.a.toNat : Int), .int .u8 (k.b.toNat : Int), .int .u8 (k.c.toNat : Int), .int .u8 (k.d.toNat : Int)]
def V.f (v : V) : List Value := [.bool v.there, .int .i64 v.n]
def V.v (v : V) : Value := .agg #[.bool v.there, .int .i64 v.n]
def Pr.f (p : Pr) : List Value := [.int .u8 (p.key.a.toNat : Int), .int .u8 (p.key.b.toNat : Int), .int .u8 (p.key.c.toNat : Int), .int .u8 (p.key.d.toNat : Int), .bool p.val.there, .int .i64 p.val.n]
def Pr.v (p : Pr) : Value := .agg #[.int .u8 (p.key.a.toNat : Int), .int .u8 (p.key.b.toNat : Int), .int .u8 (p.key.c.toNat : Int), .int .u8 (p.key.d.toNat : Int), .bool p.val.there, .int .i64 p.val.n]
def V.zero : V := ⟨false, 0⟩
theorem u8_eq (a b : UInt8) : ((a.toNat : Int) == (b.toNat : Int)) = decide (a = b) := by
  rw [Bool.eq_iff_iff]; simp [UInt8.toNat_inj, Int.ofNat_inj]
theorem u8_of {a : Int} (h : IntKind.u8.min ≤ a ∧ a ≤ IntKind.u8.max) : ∃ x : UInt8, a = (x.toNat : Int) := by
  have h' : 0 ≤ a ∧ a ≤ 255 := by simpa [IntKind.min, IntKind.max, IntKind.signed, IntKind.bits] using h
  refine ⟨a.toNat.toUInt8, ?_⟩
  have : a.toNat.toUInt8.toNat = a.toNat % 256 := by simp
  omega
theorem K4.ext_iff' (a b : K4) : (decide (a.a = b.a) && (decide (a.b = b.b) && (decide (a.c = b.c) && decide (a.d = b.d)))) = decide (a = b) := by
  rw [Bool.eq_iff_iff]
  cases a; cases b
  simp
theorem V.ext_iff' (a b : V) : ((a.there == b.there) && (a.n == b.n)) = decide (a = b) := by
  rw [Bool.eq_iff_iff]
  cases a; cases b
  simp
theorem sameBits_int (n : Nat) (k : IntKind) (a : Int) : Instr.sameBits n (.int k a) (.int k a) = true := by
  cases n <;> simp [Instr.sameBits]
--@@ key
theorem info_u8 : ∃ i, Tryz.prog.info? 5 = some i := info_of_underlying Tryz.underlying5
theorem cells_u8 : Tryz.prog.cellsOf 5 = 1 := by kernel_rfl
theorem part_u8 (w : World) (cs : Array Value) (i : Nat) (n : Int) (h : cs[i]? = some (.int .u8 n)) : (part 5 cs i).run Tryz.prog w = .ok (.int .u8 n) w := by
  simp [part, Tryz.isAgg5, h]
theorem key_part0 (w : World) (a b c d : UInt8) : (part 5 #[.int .u8 (a.toNat : Int), .int .u8 (b.toNat : Int), .int .u8 (c.toNat : Int), .int .u8 (d.toNat : Int)] 0).run Tryz.prog w = .ok (.int .u8 (a.toNat : Int)) w := part_u8 w _ 0 _ rfl
theorem key_part1 (w : World) (a b c d : UInt8) : (part 5 #[.int .u8 (a.toNat : Int), .int .u8 (b.toNat : Int), .int .u8 (c.toNat : Int), .int .u8 (d.toNat : Int)] 1).run Tryz.prog w = .ok (.int .u8 (b.toNat : Int)) w := part_u8 w _ 1 _ rfl
theorem key_part2 (w : World) (a b c d : UInt8) : (part 5 #[.int .u8 (a.toNat : Int), .int .u8 (b.toNat : Int), .int .u8 (c.toNat : Int), .int .u8 (d.toNat : Int)] 2).run Tryz.prog w = .ok (.int .u8 (c.toNat : Int)) w := part_u8 w _ 2 _ rfl
theorem key_part3 (w : World) (a b c d : UInt8) : (part 5 #[.int .u8 (a.toNat : Int), .int .u8 (b.toNat : Int), .int .u8 (c.toNat : Int), .int .u8 (d.toNat : Int)] 3).run Tryz.prog w = .ok (.int .u8 (d.toNat : Int)) w := part_u8 w _ 3 _ rfl
theorem eq_u8 (w : World) (d : Nat) (a b : UInt8) : (Op.equalIn (d + 1) 5 (.int .u8 a.toNat) (.int .u8 b.toNat)).run Tryz.prog w = .ok (decide (a = b)) w := by
  rw [run_equalIn_int w d _ _ _ _ _ Tryz.underlying5, u8_eq]
theorem eq_key (w : World) (d : Nat) (x y : K4) : (Op.equalIn (d + 2) 49 x.v y.v).run Tryz.prog w = .ok (decide (x = y)) w := by
  obtain ⟨i, hi⟩ := info_u8
  obtain ⟨a, b, c, e⟩ := x
  obtain ⟨a', b', c', e'⟩ := y
  simp only [K4.v]
  rw [run_equalIn_array w (d + 1) _ _ Tryz.underlying49 hi, cells_u8]
  have hr : List.range 4 = [0, 1, 2, 3] := rfl
  simp only [hr, Op.eqItems, Sem.run_bind, Nat.mul_one]
  simp only [key_part0, key_part1, key_part2, key_part3, eq_u8, Result.andThen_ok, Sem.run_ite, Sem.run_bind, Sem.run_pure]
  by_cases h1 : a = a' <;> by_cases h2 : b = b' <;> by_cases h3 : c = c' <;> by_cases h4 : e = e' <;> simp [h1, h2, h3, h4]
theorem ask_key (w : World) (x : K4) : ∀ (es : List MapEntry) (l : List (K4 × Value)) (i : Nat), es.map (fun e => (e.key, e.val)) = l.map (fun p => (K4.v p.1, p.2)) →
    (Instr.findAsking 49 x.v es i).run Tryz.prog w = .ok (afind x l i) w
  | [], [], _, _ => by simp [Instr.findAsking, afind]
  | [], _ :: _, _, h => by simp at h
  | _ :: _, [], _, h => by simp at h
  | e :: es, p :: l, i, h => by
    simp only [List.map_cons, List.cons.injEq, Prod.mk.injEq] at h
    obtain ⟨⟨h1, h2⟩, h3⟩ := h
    have ih := ask_key w x es l (i + 1) h3
    unfold Instr.findAsking afind
    simp only [Sem.run_bind, Op.equal, Op.maxDepth, h1]
    rw [show (10000 : Nat) = 9998 + 2 from rfl, eq_key]
    by_cases hp : p.1 = x
    · simp [hp, h2]
    · have : ¬ x = p.1 := fun e => hp e.symm
      simp [hp, this, ih]
theorem check_key (b : Bool) (w : World) (x : K4) : (Instr.checkKey b 10000 49 x.v).run Tryz.prog w = .ok () w := by
  have hs : (sizeOf 5).run Tryz.prog w = .ok 1 w := Tryz.sizeOf5 w
  obtain ⟨a, c, d, e⟩ := x
  have hc : ∀ v : UInt8, (Instr.checkKey b 9999 5 (.int .u8 v.toNat)).run Tryz.prog w = .ok () w := fun v => checkKey_int 9998 Tryz.underlying5 b w _
  unfold Instr.checkKey
  simp only [Sem.run_bind, run_underlying Tryz.underlying49, Result.andThen_ok, K4.v]
  simp only [Std.Legacy.Range.forIn_eq_forIn_range', Std.Legacy.Range.size, Nat.sub_zero, Nat.add_one_sub_one, Nat.div_one]
  have hr : List.range' 0 4 = [0, 1, 2, 3] := rfl
  rw [hr]
  simp only [List.forIn_cons, List.forIn_nil, Sem.run_bind, hs, Result.andThen_ok, Nat.mul_one]
  have p0 := part_u8 w #[.int .u8 a.toNat, .int .u8 c.toNat, .int .u8 d.toNat, .int .u8 e.toNat] 0 _ rfl
  have p1 := part_u8 w #[.int .u8 a.toNat, .int .u8 c.toNat, .int .u8 d.toNat, .int .u8 e.toNat] 1 _ rfl
  have p2 := part_u8 w #[.int .u8 a.toNat, .int .u8 c.toNat, .int .u8 d.toNat, .int .u8 e.toNat] 2 _ rfl
  have p3 := part_u8 w #[.int .u8 a.toNat, .int .u8 c.toNat, .int .u8 d.toNat, .int .u8 e.toNat] 3 _ rfl
  simp only [hs, Nat.zero_mul, Nat.one_mul, Nat.mul_one, p0, p1, p2, p3, hc, Result.andThen_ok, Sem.run_pure, Sem.run_bind]
theorem keyK : KeyOK Tryz.prog 49 K4.v where
  check := check_key
  find := fun w x es l he => by
    have hn : ∀ (es : List MapEntry) (i : Nat), es ≠ [] → Instr.findNow (.array 4 5) x.v es i = none := fun es i h => by
      cases es with
      | nil => exact absurd rfl h
      | cons e es => simp [Instr.findNow, Instr.sameNow]
    cases es with
    | nil =>
      cases l with
      | nil => simp [Instr.findKey, run_underlying Tryz.underlying49, Instr.findNow, afind]
      | cons _ _ => simp at he
    | cons e es =>
      simp only [Instr.findKey, Sem.run_bind, run_underlying Tryz.underlying49, Result.andThen_ok, hn (e :: es) 0 (by simp)]
      exact ask_key w x _ l 0 he
  same := fun x => by
    unfold Instr.sameBits
    simp [K4.v, sameBits_int]
theorem eqK (w : World) (x y : K4) : (binOp .eql 49 x.v y.v).run Tryz.prog w = .ok (.bool (decide (x = y))) w := by
  rw [K4.v, K4.v, run_eql_struct, ← K4.v, ← K4.v, show (10000 : Nat) = 9998 + 2 from rfl, eq_key]; rfl
theorem neK (w : World) (x y : K4) : (binOp .neq 49 x.v y.v).run Tryz.prog w = .ok (.bool (!decide (x = y))) w := by
  rw [K4.v, K4.v, run_neq_struct, ← K4.v, ← K4.v, show (10000 : Nat) = 9998 + 2 from rfl, eq_key]; rfl
--@@ val
theorem eq_val (w : World) (d : Nat) (x y : V) : (Op.equalIn (d + 2) 51 x.v y.v).run Tryz.prog w = .ok (decide (x = y)) w := by
  have hS : Tryz.prog.underlying 51 = some (.struct (Tryz.prog.fieldsOf 51)) := by kernel_rfl
  have hp : Tryz.prog.stoodInHeld 51 = false := by kernel_rfl
  have u3 := Tryz.underlying3
  have u4 := Tryz.underlying4
  have a3 := Tryz.isAgg3
  have a4 := Tryz.isAgg4
  obtain ⟨a, b⟩ := x
  obtain ⟨a', b'⟩ := y
  simp only [V.v]
  rw [run_equalIn_agg w (d + 1) _ _ _ hS hp]
  simp only [Program.fieldsOf, Tryz.underlying51]
  go_simp
  by_cases h1 : a = a' <;> by_cases h2 : b = b' <;> simp [h1, h2]
theorem eqV (w : World) (x y : V) : (binOp .eql 51 x.v y.v).run Tryz.prog w = .ok (.bool (decide (x = y))) w := by
  rw [V.v, V.v, run_eql_struct, ← V.v, ← V.v, show (10000 : Nat) = 9998 + 2 from rfl, eq_val]; rfl
theorem neV (w : World) (x y : V) : (binOp .neq 51 x.v y.v).run Tryz.prog w = .ok (.bool (!decide (x = y))) w := by
  rw [V.v, V.v, run_neq_struct, ← V.v, ← V.v, show (10000 : Nat) = 9998 + 2 from rfl, eq_val]; rfl
--@@ pair
theorem part_key (w : World) (cs : Array Value) (i : Nat) (k : K4) (h : cs.extract i (i + 4) = k.f.toArray) : (part 49 cs i).run Tryz.prog w = .ok k.v w := by
  simp [part, Tryz.isAgg49, Tryz.sizeOf49, h, K4.v, K4.f]
theorem part_val (w : World) (cs : Array Value) (i : Nat) (k : V) (h : cs.extract i (i + 2) = k.f.toArray) : (part 51 cs i).run Tryz.prog w = .ok k.v w := by
  simp [part, Tryz.isAgg51, Tryz.sizeOf51, h, V.v, V.f]
theorem eq_rpair (w : World) (d : Nat) (x y : Pr) : (Op.equalIn (d + 3) 64 x.v y.v).run Tryz.prog w = .ok (decide (x = y)) w := by
  have hS : Tryz.prog.underlying 64 = some (.struct (Tryz.prog.fieldsOf 64)) := by kernel_rfl
  have hp : Tryz.prog.stoodInHeld 64 = false := by kernel_rfl
  obtain ⟨a, b⟩ := x
  obtain ⟨a', b'⟩ := y
  simp only [Pr.v]
  rw [run_equalIn_agg w (d + 2) _ _ _ hS hp]
  simp only [Program.fieldsOf, Tryz.underlying64, Op.eqFields]
  have p1 := part_key w (Pr.f ⟨a, b⟩).toArray 0 a rfl
  have p2 := part_val w (Pr.f ⟨a, b⟩).toArray 4 b rfl
  have p3 := part_key w (Pr.f ⟨a', b'⟩).toArray 0 a' rfl
  have p4 := part_val w (Pr.f ⟨a', b'⟩).toArray 4 b' rfl
  simp only [Pr.f] at p1 p2 p3 p4
  simp [p1, p2, p3, p4, eq_key, eq_val]
  by_cases h1 : a = a' <;> by_cases h2 : b = b' <;> simp [h1, h2]
theorem neP (w : World) (x y : Pr) : (binOp .neq 64 x.v y.v).run Tryz.prog w = .ok (.bool (!decide (x = y))) w := by
  rw [Pr.v, Pr.v, run_neq_struct, ← Pr.v, ← Pr.v, show (10000 : Nat) = 9997 + 3 from rfl, eq_rpair]; rfl
--@@ end
def dl (l : List (K4 × V)) : List (K4 × Value) := l.map fun p => (p.1, p.2.v)
theorem dl_get (x : K4) (l : List (K4 × V)) : aget x (dl l) = (aget x l).map V.v := aget_map V.v x l
theorem dl_put (x : K4) (r : V) (l : List (K4 × V)) : aput x r.v (dl l) = dl (aput x r l) := aput_map V.v x r l
theorem dl_len (l : List (K4 × V)) : (dl l).length = l.length := by simp [dl]
def K4.bs (k : K4) : List UInt8 := [k.a, k.b, k.c, k.d]
def ordK (x y : K4) : Int := Lib.compareBytes x.bs y.bs
def V.right (v : V) : Bool := v.there || decide (v.n = 0)
--@@ draft.order
theorem u8_bytes (l : List UInt8) : Lib.bytesOf (l.map fun b => (b.toNat : Int)) = l := by
  induction l with
  | nil => rfl
  | cons x l ih => simp only [List.map_cons, Lib.bytesOf] at ih ⊢; rw [ih]; simp
theorem K4.get_f (x : K4) (j : Nat) (n : Int) (h : (x.bs.map fun b => (b.toNat : Int))[j]? = some n) : x.f[j]? = some (.int .u8 n) := by
  have e : x.f = (x.bs.map fun b => (b.toNat : Int)).map (Value.int .u8) := rfl
  rw [e, List.getElem?_map, h]; rfl
theorem run_bytesK {P : Program} (a : Addr) (x : K4) (w : World) (c : Nat) (hx : ∀ (j : Nat) (u : Value), x.f[j]? = some u → w.cell? (a.add j) = some u) :
    (Extern.Bytes.bytesOf (.slice (some a) 4 c)).run P w = .ok ⟨x.bs.toArray⟩ w := by
  have := Lib.run_loadBytesX (P := P) w (x.bs.map fun b => (b.toNat : Int)) a .empty (fun j n hj => hx j _ (K4.get_f x j n hj))
  have hl : (x.bs.map fun b => (b.toNat : Int)).length = 4 := rfl
  rw [hl, u8_bytes] at this
  simp only [Extern.Bytes.bytesOf]
  rw [this]
  rfl
set_option maxHeartbeats 1000000 in
set_option maxRecDepth 100000 in
theorem bcompare_any (a b : Addr) (x y : K4) (w : World) (c c' : Nat) (hx : ∀ (j : Nat) (u : Value), x.f[j]? = some u → w.cell? (a.add j) = some u) (hy : ∀ (j : Nat) (u : Value), y.f[j]? = some u → w.cell? (b.add j) = some u) :
    Calls Tryz.prog 105 #[.slice (some a) 4 c, .slice (some b) 4 c'] w fun e w' => e = .returned (.int .i64 (ordK x y)) ∧ w' = w := by
  have hX := run_bytesK (P := Tryz.prog) a x w c hx
  have hY := run_bytesK (P := Tryz.prog) b y w c' hy
  clear hx hy
  have hrun : (Extern.BytealgCompare.compare #[.slice (some a) 4 c, .slice (some b) 4 c']).run Tryz.prog w = .ok (.int .i64 (ordK x y)) w := by
    change Sem.run Tryz.prog (do pure (goInt (Extern.BytealgCompare.cmp (← Extern.Bytes.bytesOf (.slice (some a) 4 c)) (← Extern.Bytes.bytesOf (.slice (some b) 4 c'))))) w = _
    simp only [Sem.run_bind, Sem.run_pure, hX, hY, Result.andThen]
    rw [Lib.cmp_eq]
    rfl
  have HR := hid hrun
  clear hrun hX hY
  go_enter Tryz.func105, Tryz.ntmps105
  go_wp2
  rw [run_callFunc_extern Tryz.func116 (by kernel_rfl) (by kernel_rfl) (by kernel_rfl) (e := Extern.BytealgCompare.compare) (by kernel_rfl), HR.out]
  simp only [Result.andThen]
  rw [Oper.upon_value]
  go_wp2
  go_ret
  exact ⟨rfl, rfl⟩
theorem key_at {w : World} {b : Nat} {cs : List Value} {t : TypeId} (h : w.heap[b]? = some (.cells cs.toArray t (0, 0))) (x : K4) (hx : ∀ (j : Nat) (u : Value), x.f[j]? = some u → cs[j]? = some u) (n : Nat) :
    ∀ (j : Nat) (u : Value), x.f[j]? = some u → (w.drewN n).cell? ((⟨b, 0, none⟩ : Addr).add j) = some u := fun j u hj => by
  have hadd : (⟨b, 0, none⟩ : Addr).add j = ⟨b, j, none⟩ := by unfold Addr.add; split <;> simp_all
  have h' : (w.drewN n).heap[b]? = some (.cells cs.toArray t (0, 0)) := h
  rw [hadd, cell_of_row _ _ j cs.toArray t (0, 0) h']
  simpa using hx j u hj
set_option maxHeartbeats 1000000 in
set_option maxRecDepth 100000 in
theorem order_any (x y : Pr) (w : World) :
    Calls Tryz.prog 78 #[x.v, y.v] w fun e w' => e = .returned (.int .i64 (ordK x.key y.key)) ∧ ∃ q os, w' = Go.Sort.grow (w.drewN q) os := by
  have hX := hid (key_at (w := (w.alloc (.cells x.f.toArray 57)).alloc (.cells y.f.toArray 57)) (b := w.heap.size) (by rw [Below.heap_alloc _ _ _ (by simp)]; exact heap_alloc_new w _) x.key (fun j u hj => by
    have : x.f = x.key.f ++ x.val.f := rfl
    rw [this, List.getElem?_append_left (List.getElem?_eq_some_iff.1 hj).1]; exact hj))
  have hY := hid (key_at (w := (w.alloc (.cells x.f.toArray 57)).alloc (.cells y.f.toArray 57)) (b := w.heap.size + 1) (by have := heap_alloc_new (w.alloc (.cells x.f.toArray 57)) (.cells y.f.toArray 57); simpa using this) y.key (fun j u hj => by
    have : y.f = y.key.f ++ y.val.f := rfl
    rw [this, List.getElem?_append_left (List.getElem?_eq_some_iff.1 hj).1]; exact hj))
  obtain ⟨⟨a1, a2, a3, a4⟩, ⟨a5, a6⟩⟩ := x
  obtain ⟨⟨b1, b2, b3, b4⟩, ⟨b5, b6⟩⟩ := y
  simp only [Pr.v, Pr.f] at hX hY ⊢
  go_enter Tryz.func78, Tryz.ntmps78
  go_wp2_with fail
  go_quiet ((go_at_call 105; exact Calls.quiet_of_same (bcompare_any _ _ ⟨a1, a2, a3, a4⟩ ⟨b1, b2, b3, b4⟩ _ _ _ (hX.out _) (hY.out _))))
  go_wp2
  go_ret
  exact ⟨rfl, _, _, by rw [Go.Sort.alloc_eq_grow, Go.Sort.alloc_eq_grow, Go.Sort.grow_grow]; rfl⟩
--@@ end
def K4.num (k : K4) : Nat := ((k.a.toNat * 256 + k.b.toNat) * 256 + k.c.toNat) * 256 + k.d.toNat
theorem K4.num_inj {x y : K4} (h : x.num = y.num) : x = y := by
  obtain ⟨a, b, c, d⟩ := x
  obtain ⟨a', b', c', d'⟩ := y
  have h1 := a.toNat_lt; have h2 := b.toNat_lt; have h3 := c.toNat_lt; have h4 := d.toNat_lt
  have g1 := a'.toNat_lt; have g2 := b'.toNat_lt; have g3 := c'.toNat_lt; have g4 := d'.toNat_lt
  simp only [K4.num] at h
  simp only [K4.mk.injEq, ← UInt8.toNat_inj]
  omega
theorem K4.num_eq (x y : K4) : x.num = y.num ↔ x = y := ⟨K4.num_inj, fun h => by rw [h]⟩
theorem ord_nat (a b c d a' b' c' d' : Nat) (h1 : a < 256) (h2 : b < 256) (h3 : c < 256) (h4 : d < 256) (g1 : a' < 256) (g2 : b' < 256) (g3 : c' < 256) (g4 : d' < 256) :
    (if a < a' then (-1 : Int) else if a' < a then 1 else if b < b' then -1 else if b' < b then 1 else if c < c' then -1 else if c' < c then 1 else if d < d' then -1 else if d' < d then 1 else 0) =
    if ((a * 256 + b) * 256 + c) * 256 + d < ((a' * 256 + b') * 256 + c') * 256 + d' then -1 else if ((a' * 256 + b') * 256 + c') * 256 + d' < ((a * 256 + b) * 256 + c) * 256 + d then 1 else 0 := by
  rcases Nat.lt_trichotomy a a' with e1 | e1 | e1
  · rw [if_pos e1, if_pos (by omega)]
  · rw [if_neg (by omega), if_neg (by omega)]
    rcases Nat.lt_trichotomy b b' with e2 | e2 | e2
    · rw [if_pos e2, if_pos (by omega)]
    · rw [if_neg (by omega), if_neg (by omega)]
      rcases Nat.lt_trichotomy c c' with e3 | e3 | e3
      · rw [if_pos e3, if_pos (by omega)]
      · rw [if_neg (by omega), if_neg (by omega)]
        rcases Nat.lt_trichotomy d d' with e4 | e4 | e4
        · rw [if_pos e4, if_pos (by omega)]
        · rw [if_neg (by omega), if_neg (by omega), if_neg (by omega), if_neg (by omega)]
        · rw [if_neg (by omega), if_pos e4, if_neg (by omega), if_pos (by omega)]
      · rw [if_neg (by omega), if_pos e3, if_neg (by omega), if_pos (by omega)]
    · rw [if_neg (by omega), if_pos e2, if_neg (by omega), if_pos (by omega)]
  · rw [if_neg (by omega), if_pos e1, if_neg (by omega), if_pos (by omega)]
theorem ordK_num (x y : K4) : ordK x y = if x.num < y.num then -1 else if y.num < x.num then 1 else 0 := by
  obtain ⟨a, b, c, d⟩ := x
  obtain ⟨a', b', c', d'⟩ := y
  simp only [ordK, K4.bs, Lib.compareBytes, UInt8.lt_iff_toNat_lt, K4.num]
  exact ord_nat _ _ _ _ _ _ _ _ a.toNat_lt b.toNat_lt c.toNat_lt d.toNat_lt a'.toNat_lt b'.toNat_lt c'.toNat_lt d'.toNat_lt
theorem ordK_neg (x y : K4) : decide (ordK x y < 0) = decide (x.num < y.num) := by
  rw [ordK_num]
  by_cases h : x.num < y.num
  · simp [h]
  · by_cases h' : y.num < x.num <;> simp [h, h']
def Srt (l : List Pr) : Prop := l.Pairwise fun x y => x.key.num < y.key.num
def getP (k : K4) : List Pr → Option V
  | [] => none
  | p :: r => if p.key = k then some p.val else getP k r
def lastP (k : K4) (l : List Pr) : Option V := getP k l.reverse
def insP (p : Pr) : List Pr → List Pr
  | [] => [p]
  | q :: r => if q.key.num < p.key.num then q :: insP p r else if q.key = p.key then p :: r else p :: q :: r
def keysP (l : List Pr) : List Pr := l.foldl (fun out p => insP p out) []
def thereP (l : List Pr) : List Pr := l.filter fun p => p.val.there
def sortP (l : List Pr) : List Pr := thereP (keysP l)
def toPr (p : K4 × V) : Pr := ⟨p.1, p.2⟩
def findP (l : List Pr) (k : K4) : V := (lastP k l).getD V.zero
theorem getP_append (k : K4) : ∀ (l m : List Pr), getP k (l ++ m) = (getP k l).or (getP k m)
  | [], m => by simp [getP]
  | p :: l, m => by
    simp only [List.cons_append, getP]
    split
    · simp
    · exact getP_append k l m
theorem lastP_append (k : K4) (l m : List Pr) : lastP k (l ++ m) = (lastP k m).or (lastP k l) := by
  unfold lastP; rw [List.reverse_append, getP_append]
theorem lastP_cons (k : K4) (p : Pr) (l : List Pr) : lastP k (p :: l) = (lastP k l).or (if p.key = k then some p.val else none) := by
  have : p :: l = [p] ++ l := rfl
  rw [this, lastP_append]
  simp [lastP, getP]
theorem lastP_snoc (k : K4) (p : Pr) (l : List Pr) : lastP k (l ++ [p]) = if p.key = k then some p.val else lastP k l := by
  rw [lastP_append]
  simp only [lastP, List.reverse_cons, List.reverse_nil, List.nil_append, getP]
  split <;> simp
theorem getP_none {k : K4} : ∀ {l : List Pr}, (∀ q ∈ l, q.key ≠ k) → getP k l = none
  | [], _ => rfl
  | p :: l, h => by
    simp only [getP]
    rw [if_neg (h p List.mem_cons_self)]
    exact getP_none fun q hq => h q (List.mem_cons_of_mem _ hq)
theorem getP_none_iff {k : K4} : ∀ {l : List Pr}, getP k l = none ↔ ∀ q ∈ l, q.key ≠ k
  | [] => by simp [getP]
  | p :: l => by
    simp only [getP]
    split
    · rename_i h
      simp [h]
    · rename_i h
      rw [getP_none_iff]
      simp [h]
theorem getP_mem {k : K4} {v : V} : ∀ {l : List Pr}, getP k l = some v → ⟨k, v⟩ ∈ l
  | [], h => by simp [getP] at h
  | p :: l, h => by
    simp only [getP] at h
    split at h
    · rename_i h1
      cases h
      rw [← h1]; exact List.mem_cons_self
    · exact List.mem_cons_of_mem _ (getP_mem h)
theorem Srt.tail {p : Pr} {l : List Pr} (h : Srt (p :: l)) : Srt l := (List.pairwise_cons.1 h).2
theorem Srt.head {p : Pr} {l : List Pr} (h : Srt (p :: l)) : ∀ q ∈ l, p.key.num < q.key.num := (List.pairwise_cons.1 h).1
theorem insP_mem {p q : Pr} : ∀ {l : List Pr}, q ∈ insP p l → q = p ∨ q ∈ l
  | [], h => by simp [insP] at h; exact .inl h
  | r :: l, h => by
    unfold insP at h
    split at h
    · rcases List.mem_cons.1 h with rfl | h
      · exact .inr List.mem_cons_self
      · rcases insP_mem h with h | h
        · exact .inl h
        · exact .inr (List.mem_cons_of_mem _ h)
    · split at h
      · rcases List.mem_cons.1 h with rfl | h
        · exact .inl rfl
        · exact .inr (List.mem_cons_of_mem _ h)
      · rcases List.mem_cons.1 h with rfl | h
        · exact .inl rfl
        · exact .inr h
theorem insP_srt {p : Pr} : ∀ {l : List Pr}, Srt l → Srt (insP p l)
  | [], _ => by simp [insP, Srt]
  | r :: l, h => by
    unfold insP
    split
    · rename_i h1
      refine List.pairwise_cons.2 ⟨fun q hq => ?_, insP_srt h.tail⟩
      rcases insP_mem hq with rfl | hq
      · exact h1
      · exact h.head q hq
    · rename_i h1
      split
      · rename_i h2
        exact List.pairwise_cons.2 ⟨fun q hq => by rw [← h2]; exact h.head q hq, h.tail⟩
      · rename_i h2
        have h3 : p.key.num < r.key.num := by
          have : r.key.num ≠ p.key.num := fun e => h2 (K4.num_inj e)
          omega
        refine List.pairwise_cons.2 ⟨fun q hq => ?_, h⟩
        rcases List.mem_cons.1 hq with rfl | hq
        · exact h3
        · have := h.head q hq; omega
theorem insP_get {p : Pr} {k : K4} : ∀ {l : List Pr}, Srt l → getP k (insP p l) = if p.key = k then some p.val else getP k l
  | [], _ => by simp [insP, getP]
  | r :: l, h => by
    unfold insP
    split
    · rename_i h1
      simp only [getP]
      rw [insP_get h.tail]
      by_cases hr : r.key = k
      · rw [if_pos hr, if_pos hr, if_neg (fun e => by rw [hr, e] at h1; omega)]
      · rw [if_neg hr, if_neg hr]
    · split
      · rename_i h2
        simp only [getP]
        by_cases hp : p.key = k
        · rw [if_pos hp, if_pos hp]
        · rw [if_neg hp, if_neg hp, if_neg (by rw [h2]; exact hp)]
      · simp only [getP]
theorem srt_ext : ∀ {l m : List Pr}, Srt l → Srt m → (∀ k, getP k l = getP k m) → l = m
  | [], [], _, _, _ => rfl
  | [], q :: m, _, _, h => by have := h q.key; simp [getP] at this
  | p :: l, [], _, _, h => by have := h p.key; simp [getP] at this
  | p :: l, q :: m, hl, hm, h => by
    have key : p.key = q.key := by
      have h1 := h p.key
      have h2 := h q.key
      simp only [getP, if_pos] at h1 h2
      by_cases e : p.key = q.key
      · exact e
      · exfalso
        rw [if_neg (Ne.symm e)] at h1
        rw [if_neg e] at h2
        have m1 := hm.head _ (getP_mem h1.symm)
        have m2 := hl.head _ (getP_mem h2)
        simp only at m1 m2
        omega
    have hv : p.val = q.val := by
      have h1 := h p.key
      simp only [getP, if_pos] at h1
      rw [if_pos key.symm] at h1
      exact Option.some.inj h1
    have ht : l = m := by
      refine srt_ext hl.tail hm.tail fun k => ?_
      have := h k
      simp only [getP] at this
      by_cases hk : p.key = k
      · rw [getP_none fun x hx e => by have := hl.head x hx; rw [e, ← hk] at this; omega, getP_none fun x hx e => by have := hm.head x hx; rw [e, ← key, ← hk] at this; omega]
      · rwa [if_neg hk, if_neg (by rw [← key]; exact hk)] at this
    cases p; cases q
    simp only at key hv
    rw [key, hv, ht]
theorem keysP_snoc (l : List Pr) (p : Pr) : keysP (l ++ [p]) = insP p (keysP l) := by
  simp [keysP, List.foldl_append]
theorem keysP_both (l : List Pr) : Srt (keysP l) ∧ ∀ k, getP k (keysP l) = lastP k l := by
  induction hn : l.length generalizing l with
  | zero =>
    have : l = [] := List.eq_nil_of_length_eq_zero hn
    subst this
    exact ⟨List.Pairwise.nil, fun k => rfl⟩
  | succ n ih =>
    have hne : l ≠ [] := fun e => by rw [e] at hn; cases hn
    obtain ⟨m, p, rfl⟩ : ∃ m p, l = m ++ [p] := ⟨l.dropLast, l.getLast hne, (List.dropLast_concat_getLast hne).symm⟩
    obtain ⟨h1, h2⟩ := ih m (by simp at hn; exact hn)
    rw [keysP_snoc]
    exact ⟨insP_srt h1, fun k => by rw [insP_get h1, h2, lastP_snoc]⟩
theorem keysP_srt (l : List Pr) : Srt (keysP l) := (keysP_both l).1
theorem keysP_get (l : List Pr) (k : K4) : getP k (keysP l) = lastP k l := (keysP_both l).2 k
theorem keysP_of {l m : List Pr} (h : Srt m) (hg : ∀ k, getP k m = lastP k l) : m = keysP l :=
  srt_ext h (keysP_srt l) fun k => by rw [hg, keysP_get]
theorem srt_getP {l : List Pr} (h : Srt l) {p : Pr} (hp : p ∈ l) : getP p.key l = some p.val := by
  induction l with
  | nil => cases hp
  | cons q l ih =>
    simp only [getP]
    rcases List.mem_cons.1 hp with rfl | hp
    · rw [if_pos rfl]
    · have := h.head p hp
      rw [if_neg (fun e => by rw [e] at this; omega)]
      exact ih h.tail hp
theorem srt_lastP {l : List Pr} (h : Srt l) (k : K4) : lastP k l = getP k l := by
  unfold lastP
  cases hg : getP k l with
  | none =>
    rw [getP_none_iff] at hg
    exact getP_none fun q hq => hg q (List.mem_reverse.1 hq)
  | some v =>
    cases hr : getP k l.reverse with
    | none =>
      rw [getP_none_iff] at hr
      exact absurd rfl (hr _ (List.mem_reverse.2 (getP_mem hg)))
    | some u =>
      have h1 := srt_getP h (List.mem_reverse.1 (getP_mem hr))
      simp only at h1
      rw [hg] at h1
      exact h1.symm
theorem keysP_self {l : List Pr} (h : Srt l) : keysP l = l := (keysP_of h fun k => (srt_lastP h k).symm).symm
theorem thereP_srt {l : List Pr} (h : Srt l) : Srt (thereP l) := List.Pairwise.sublist List.filter_sublist h
theorem thereP_get {l : List Pr} (h : Srt l) (k : K4) : getP k (thereP l) = (getP k l).filter fun v => v.there := by
  induction l with
  | nil => rfl
  | cons p l ih =>
    have ih := ih h.tail
    unfold thereP at ih ⊢
    rw [List.filter_cons]
    by_cases hp : p.key = k
    · have hn : getP k (List.filter (fun p => p.val.there) l) = none := getP_none fun q hq e => by
        have := h.head q (List.mem_filter.1 hq).1
        rw [e, ← hp] at this; omega
      split
      · rename_i h1
        simp [getP, hp, Option.filter, h1]
      · rename_i h1
        simp [getP, hp, Option.filter, h1, hn]
    · split <;> simp [getP, hp, ih]
theorem sortP_srt (l : List Pr) : Srt (sortP l) := thereP_srt (keysP_srt l)
theorem sortP_get (l : List Pr) (k : K4) : getP k (sortP l) = (lastP k l).filter fun v => v.there := by
  unfold sortP; rw [thereP_get (keysP_srt l), keysP_get]
theorem perm_getP {l m : List Pr} (h : l.Perm m) (hn : (l.map (·.key)).Nodup) (k : K4) : getP k l = getP k m := by
  have hu : ∀ {a : List Pr}, (a.map (·.key)).Nodup → ∀ {p : Pr}, p ∈ a → getP p.key a = some p.val := by
    intro a
    induction a with
    | nil => intro _ p hp; cases hp
    | cons q a ih =>
      intro hn p hp
      simp only [List.map_cons, List.nodup_cons] at hn
      simp only [getP]
      rcases List.mem_cons.1 hp with rfl | hp
      · rw [if_pos rfl]
      · rw [if_neg (fun e => hn.1 (by rw [e]; exact List.mem_map.2 ⟨p, hp, rfl⟩))]
        exact ih hn.2 hp
  have hn' : (m.map (·.key)).Nodup := (h.map _).nodup_iff.1 hn
  cases hg : getP k l with
  | none =>
    rw [getP_none_iff] at hg
    exact (getP_none fun q hq => hg q (h.mem_iff.2 hq)).symm
  | some v => exact (hu hn' (h.mem_iff.1 (getP_mem hg))).symm
def cmpU (a b : UInt8) : Int := if a.toNat < b.toNat then -1 else if b.toNat < a.toNat then 1 else 0
theorem cmpU_self (a : UInt8) : cmpU a a = 0 := by unfold cmpU; simp
theorem cmpU_ne {a b : UInt8} (h : a ≠ b) : cmpU a b ≠ 0 := by
  have : a.toNat ≠ b.toNat := fun e => h (UInt8.toNat_inj.1 e)
  unfold cmpU
  split
  · decide
  · split
    · decide
    · omega
theorem ordK_steps (x y : K4) : ordK x y = if x.a ≠ y.a then cmpU x.a y.a else if x.b ≠ y.b then cmpU x.b y.b else if x.c ≠ y.c then cmpU x.c y.c else if x.d ≠ y.d then cmpU x.d y.d else 0 := by
  obtain ⟨a, b, c, d⟩ := x
  obtain ⟨a', b', c', d'⟩ := y
  have t : ∀ u v : UInt8, u ≠ v → u.toNat ≠ v.toNat := fun u v h e => h (UInt8.toNat_inj.1 e)
  simp only [ordK, K4.bs, Lib.compareBytes, UInt8.lt_iff_toNat_lt, cmpU]
  by_cases h1 : a = a'
  · subst h1
    by_cases h2 : b = b'
    · subst h2
      by_cases h3 : c = c'
      · subst h3
        by_cases h4 : d = d'
        · subst h4; simp
        · have := t _ _ h4; simp [h4]
      · have := t _ _ h3
        simp only [Nat.lt_irrefl, if_false, ne_eq, not_true, h3, not_false_eq_true, if_true]
        rcases Nat.lt_or_gt_of_ne this with h | h
        · simp [h]
        · rw [if_neg (by omega), if_pos h, if_neg (by omega), if_pos h]
    · have := t _ _ h2
      simp only [Nat.lt_irrefl, if_false, ne_eq, not_true, h2, not_false_eq_true, if_true]
      rcases Nat.lt_or_gt_of_ne this with h | h
      · simp [h]
      · rw [if_neg (by omega), if_pos h, if_neg (by omega), if_pos h]
  · have := t _ _ h1
    simp only [ne_eq, h1, not_false_eq_true, if_true]
    rcases Nat.lt_or_gt_of_ne this with h | h
    · simp [h]
    · rw [if_neg (by omega), if_pos h, if_neg (by omega), if_pos h]
theorem key_at' {w : World} {b : Nat} {cs : List Value} {t : TypeId} (h : w.heap[b]? = some (.cells cs.toArray t (0, 0))) (x : K4) (hx : ∀ (j : Nat) (u : Value), x.f[j]? = some u → cs[j]? = some u) (n : Nat) :
    ∀ (j : Nat) (u : Value), x.f[j]? = some u → (w.drewN n).cell? ⟨b, 0 + j, none⟩ = some u := fun j u hj => by
  have h' : (w.drewN n).heap[b]? = some (.cells cs.toArray t (0, 0)) := h
  rw [Nat.zero_add, cell_of_row _ _ j cs.toArray t (0, 0) h']
  simpa using hx j u hj
theorem u8_lt (a b : UInt8) : decide ((a.toNat : Int) < (b.toNat : Int)) = decide (a.toNat < b.toNat) := by simp
--@@ cmp.Compare[byte]
theorem nan_any (a : UInt8) (w : World) : Calls Tryz.prog 103 #[.int .u8 (a.toNat : Int)] w fun e w' => e = .returned (.bool false) ∧ w' = w := by
  go_enter Tryz.func103, Tryz.ntmps103
  go_wp2
  go_ret
  exact ⟨by simp, rfl⟩
theorem ccmp_any (a b : UInt8) (w : World) : Calls Tryz.prog 73 #[.int .u8 (a.toNat : Int), .int .u8 (b.toNat : Int)] w fun e w' => e = .returned (.int .i64 (cmpU a b)) ∧ w' = w := by
  unfold cmpU
  by_cases h : a.toNat < b.toNat
  · rw [if_pos h]
    have h1 : (a.toNat : Int) < (b.toNat : Int) := by omega
    clear h
    go_enter Tryz.func73, Tryz.ntmps73
    go_wp2_with (go_at_call 103; refine (nan_any _ _).mono ?_; rintro e w' ⟨rfl, rfl⟩)
    go_returns
    exact ⟨rfl, rfl⟩
  · rw [if_neg h]
    by_cases h2 : b.toNat < a.toNat
    · rw [if_pos h2]
      have h1 : ¬ (a.toNat : Int) < (b.toNat : Int) := by omega
      have h3 : (b.toNat : Int) < (a.toNat : Int) := by omega
      clear h h2
      go_enter Tryz.func73, Tryz.ntmps73
      go_wp2_with (go_at_call 103; refine (nan_any _ _).mono ?_; rintro e w' ⟨rfl, rfl⟩)
      go_returns
      exact ⟨rfl, rfl⟩
    · rw [if_neg h2]
      have h1 : ¬ (a.toNat : Int) < (b.toNat : Int) := by omega
      have h3 : ¬ (b.toNat : Int) < (a.toNat : Int) := by omega
      clear h h2
      go_enter Tryz.func73, Tryz.ntmps73
      go_wp2_with (go_at_call 103; refine (nan_any _ _).mono ?_; rintro e w' ⟨rfl, rfl⟩)
      go_returns
      exact ⟨rfl, rfl⟩
--@@ slices.Compare[[]byte,byte]
def SameTo (k : Nat) (x y : K4) : Prop := (1 ≤ k → x.a = y.a) ∧ (2 ≤ k → x.b = y.b) ∧ (3 ≤ k → x.c = y.c) ∧ (4 ≤ k → x.d = y.d)
set_option maxHeartbeats 2000000 in
set_option maxRecDepth 100000 in
theorem scmp_any (b1 o1 b2 o2 : Nat) (x y : K4) (w : World) (c c' : Nat) (hx : ∀ (j : Nat) (u : Value), x.f[j]? = some u → w.cell? ⟨b1, o1 + j, none⟩ = some u) (hy : ∀ (j : Nat) (u : Value), y.f[j]? = some u → w.cell? ⟨b2, o2 + j, none⟩ = some u) :
    Calls Tryz.prog 58 #[.slice (some ⟨b1, o1, none⟩) 4 c, .slice (some ⟨b2, o2, none⟩) 4 c'] w fun e w' => e = .returned (.int .i64 (ordK x y)) ∧ w' = w := by
  have HO := hid (ordK_steps x y)
  generalize ordK x y = r at HO ⊢
  obtain ⟨x1, x2, x3, x4⟩ := x
  obtain ⟨y1, y2, y3, y4⟩ := y
  have e0 := hx 0 _ rfl
  have e1 := hx 1 _ rfl
  have e2 := hx 2 _ rfl
  have e3 := hx 3 _ rfl
  have f0 := hy 0 _ rfl
  have f1 := hy 1 _ rfl
  have f2 := hy 2 _ rfl
  have f3 := hy 3 _ rfl
  rw [Nat.add_zero] at e0 f0
  clear hx hy
  dsimp only at e0 e1 e2 e3 f0 f1 f2 f3 HO ⊢
  go_enter Tryz.func58, Tryz.ntmps58
  go_wp2
  go_loopw [11] (fun i wr => ∃ k : Nat, k ≤ 4 ∧ i = .int .i64 k ∧ SameTo k ⟨x1, x2, x3, x4⟩ ⟨y1, y2, y3, y4⟩ ∧ wr = w) (fun i _ => 4 - (intOf i).toNat)
  case atStart => exact ⟨0, by omega, rfl, ⟨by omega, by omega, by omega, by omega⟩, rfl⟩
  case round =>
    obtain ⟨k, hk, rfl, T, rfl⟩ := hrel
    have hk5 : k = 0 ∨ k = 1 ∨ k = 2 ∨ k = 3 ∨ k = 4 := by omega
    rcases hk5 with rfl | rfl | rfl | rfl | rfl
    · by_cases hq : x1 = y1
      · have h0 : cmpU x1 y1 = 0 := by rw [hq]; exact cmpU_self _
        have HQ := hid hq
        clear hq
        go_wp2_with (go_at_call 73; refine (ccmp_any _ _ _).mono ?_; rintro e w' ⟨rfl, rfl⟩)
        go_roundw
        case rel => exact ⟨1, by omega, by go_num, ⟨fun _ => HQ, fun h => by omega, fun h => by omega, fun h => by omega⟩, trivial⟩
        case measure => simp [intOf]
      · have h0 : (cmpU x1 y1 != 0) = true := by simpa using cmpU_ne hq
        have HQ := hid hq
        clear hq
        go_wp2_with (go_at_call 73; refine (ccmp_any _ _ _).mono ?_; rintro e w' ⟨rfl, rfl⟩)
        go_returns
        refine ⟨ret_int ?_, rfl⟩
        rw [HO.out]
        rw [if_pos HQ.out]
    · by_cases hq : x2 = y2
      · have h0 : cmpU x2 y2 = 0 := by rw [hq]; exact cmpU_self _
        have HQ := hid hq
        clear hq
        go_wp2_with (go_at_call 73; refine (ccmp_any _ _ _).mono ?_; rintro e w' ⟨rfl, rfl⟩)
        go_roundw
        case rel => exact ⟨2, by omega, by go_num, ⟨fun _ => T.1 (by omega), fun _ => HQ, fun h => by omega, fun h => by omega⟩, trivial⟩
        case measure => simp [intOf]
      · have h0 : (cmpU x2 y2 != 0) = true := by simpa using cmpU_ne hq
        have HQ := hid hq
        clear hq
        go_wp2_with (go_at_call 73; refine (ccmp_any _ _ _).mono ?_; rintro e w' ⟨rfl, rfl⟩)
        go_returns
        refine ⟨ret_int ?_, rfl⟩
        rw [HO.out]
        rw [if_neg (fun h => h (T.1 (by omega)))]
        rw [if_pos HQ.out]
    · by_cases hq : x3 = y3
      · have h0 : cmpU x3 y3 = 0 := by rw [hq]; exact cmpU_self _
        have HQ := hid hq
        clear hq
        go_wp2_with (go_at_call 73; refine (ccmp_any _ _ _).mono ?_; rintro e w' ⟨rfl, rfl⟩)
        go_roundw
        case rel => exact ⟨3, by omega, by go_num, ⟨fun _ => T.1 (by omega), fun _ => T.2.1 (by omega), fun _ => HQ, fun h => by omega⟩, trivial⟩
        case measure => simp [intOf]
      · have h0 : (cmpU x3 y3 != 0) = true := by simpa using cmpU_ne hq
        have HQ := hid hq
        clear hq
        go_wp2_with (go_at_call 73; refine (ccmp_any _ _ _).mono ?_; rintro e w' ⟨rfl, rfl⟩)
        go_returns
        refine ⟨ret_int ?_, rfl⟩
        rw [HO.out]
        rw [if_neg (fun h => h (T.1 (by omega)))]
        rw [if_neg (fun h => h (T.2.1 (by omega)))]
        rw [if_pos HQ.out]
    · by_cases hq : x4 = y4
      · have h0 : cmpU x4 y4 = 0 := by rw [hq]; exact cmpU_self _
        have HQ := hid hq
        clear hq
        go_wp2_with (go_at_call 73; refine (ccmp_any _ _ _).mono ?_; rintro e w' ⟨rfl, rfl⟩)
        go_roundw
        case rel => exact ⟨4, by omega, by go_num, ⟨fun _ => T.1 (by omega), fun _ => T.2.1 (by omega), fun _ => T.2.2.1 (by omega), fun _ => HQ⟩, trivial⟩
        case measure => simp [intOf]
      · have h0 : (cmpU x4 y4 != 0) = true := by simpa using cmpU_ne hq
        have HQ := hid hq
        clear hq
        go_wp2_with (go_at_call 73; refine (ccmp_any _ _ _).mono ?_; rintro e w' ⟨rfl, rfl⟩)
        go_returns
        refine ⟨ret_int ?_, rfl⟩
        rw [HO.out]
        rw [if_neg (fun h => h (T.1 (by omega)))]
        rw [if_neg (fun h => h (T.2.1 (by omega)))]
        rw [if_neg (fun h => h (T.2.2.1 (by omega)))]
        rw [if_pos HQ.out]
    · go_wp2
      go_returns
      refine ⟨ret_int ?_, rfl⟩
      rw [HO.out, if_neg (fun h => h (T.1 (by omega))), if_neg (fun h => h (T.2.1 (by omega))), if_neg (fun h => h (T.2.2.1 (by omega))), if_neg (fun h => h (T.2.2.2 (by omega)))]
--@@ (*redo.work).pairs$1
set_option maxHeartbeats 1000000 in
set_option maxRecDepth 100000 in
theorem porder_any (x y : Pr) (w : World) :
    Calls Tryz.prog 57 #[x.v, y.v] w fun e w' => e = .returned (.int .i64 (ordK x.key y.key)) ∧ ∃ q os, w' = Go.Sort.grow (w.drewN q) os := by
  have hX := hid (key_at' (w := (w.alloc (.cells x.f.toArray 57)).alloc (.cells y.f.toArray 57)) (b := w.heap.size) (by rw [Below.heap_alloc _ _ _ (by simp)]; exact heap_alloc_new w _) x.key (fun j u hj => by
    have : x.f = x.key.f ++ x.val.f := rfl
    rw [this, List.getElem?_append_left (List.getElem?_eq_some_iff.1 hj).1]; exact hj))
  have hY := hid (key_at' (w := (w.alloc (.cells x.f.toArray 57)).alloc (.cells y.f.toArray 57)) (b := w.heap.size + 1) (by have := heap_alloc_new (w.alloc (.cells x.f.toArray 57)) (.cells y.f.toArray 57); simpa using this) y.key (fun j u hj => by
    have : y.f = y.key.f ++ y.val.f := rfl
    rw [this, List.getElem?_append_left (List.getElem?_eq_some_iff.1 hj).1]; exact hj))
  obtain ⟨⟨a1, a2, a3, a4⟩, ⟨a5, a6⟩⟩ := x
  obtain ⟨⟨b1, b2, b3, b4⟩, ⟨b5, b6⟩⟩ := y
  simp only [Pr.v, Pr.f] at hX hY ⊢
  go_enter Tryz.func57, Tryz.ntmps57
  go_wp2_with fail
  go_quiet ((go_at_call 58; exact Calls.quiet_of_same (scmp_any _ _ _ _ ⟨a1, a2, a3, a4⟩ ⟨b1, b2, b3, b4⟩ _ _ _ (hX.out _) (hY.out _))))
  go_wp2
  go_ret
  exact ⟨rfl, _, _, by rw [Go.Sort.alloc_eq_grow, Go.Sort.alloc_eq_grow, Go.Sort.grow_grow]; rfl⟩
--@@ end
structure PrAt (w : World) (v : Value) (l : List Pr) : Prop where
  at' : SlAt w v 6 l.length (l.flatMap Pr.f)
  sp : ∀ a n c, v = .slice (some a) n c → a.spot = none
  nl : ∀ n c, v = .slice none n c → c = 0
theorem PrAt.kept {w w' : World} {v : Value} {l : List Pr} (h : PrAt w v l) (hk : Kept [] w w') : PrAt w' v l := ⟨h.at'.kept hk, h.sp, h.nl⟩
theorem PrAt.of_own {w : World} {base n : Nat} {e : TypeId} {v : Value} {l : List Pr} (h : w.ownsRow base e 6 v n (l.flatMap Pr.f)) (hn : n = l.length) : PrAt w v l := by
  subst hn
  refine ⟨SlAt.of_own h, fun a n c hv => ?_, fun n c hv => ?_⟩
  · rcases h.2 with ⟨rfl, _⟩ | ⟨g, cap, cur, rfl, _⟩
    · cases hv
    · cases hv; rfl
  · rcases h.2 with ⟨rfl, _⟩ | ⟨g, cap, cur, rfl, _⟩
    · cases hv; rfl
    · cases hv
theorem ownsRow_kept {S : List Nat} {w w' : World} {base n size : Nat} {e : TypeId} {v : Value} {xs : List Value} (h : w.ownsRow base e size v n xs) (hk : Kept S w w') (hS : ∀ x, x ∈ S → x < base) : w'.ownsRow base e size v n xs := by
  refine ⟨h.1, ?_⟩
  rcases h.2 with h1 | ⟨g, cap, cur, rfl, hb, hg, r⟩
  · exact .inl h1
  · exact .inr ⟨g, cap, cur, rfl, hb, (hk.block g (Array.getElem?_eq_some_iff.1 hg).1 (fun hx => by have := hS g hx; omega)).trans hg, r⟩
theorem ownsRow_grown {w w' : World} {base n size : Nat} {e : TypeId} {v : Value} {xs : List Value} (h : w.ownsRow base e size v n xs) (hg : w.grownBy w' v.ownBlock) : ∃ S, Kept S w w' ∧ ∀ x, x ∈ S → base ≤ x :=
  ⟨v.ownBlock.toList, Kept.of_grown hg _ (fun k hk => by simp [hk]), fun x hx => (h.lt x (by simpa using hx)).1⟩
theorem perm_of_map {α β : Type} (f : α → β) : ∀ {a b : List β}, a.Perm b → ∀ t : List α, b = t.map f → ∃ t' : List α, t'.Perm t ∧ a = t'.map f := fun h => by
  induction h with
  | nil => intro t ht; exact ⟨[], by cases t with | nil => exact List.Perm.refl _ | cons x t => simp at ht, rfl⟩
  | cons x _ ih =>
    intro t ht
    cases t with
    | nil => simp at ht
    | cons y t =>
      simp only [List.map_cons, List.cons.injEq] at ht
      obtain ⟨t', h1, h2⟩ := ih t ht.2
      exact ⟨y :: t', h1.cons y, by rw [ht.1, h2]; rfl⟩
  | swap x y l =>
    intro t ht
    cases t with
    | nil => simp at ht
    | cons u t =>
      cases t with
      | nil => simp at ht
      | cons z t =>
        simp only [List.map_cons, List.cons.injEq] at ht
        exact ⟨z :: u :: t, List.Perm.swap _ _ _, by rw [ht.1, ht.2.1, ht.2.2]; rfl⟩
  | trans _ _ ih1 ih2 =>
    intro t ht
    obtain ⟨t2, h1, h2⟩ := ih2 t ht
    obtain ⟨t1, h3, h4⟩ := ih1 t2 h2
    exact ⟨t1, h3.trans h1, h4⟩
theorem dl_perm {todo : List (K4 × V)} {x : K4} {u : Value} {T : List (K4 × Value)} (h : (dl todo).Perm ((x, u) :: T)) : ∃ v t', u = V.v v ∧ T = dl t' ∧ todo.Perm ((x, v) :: t') := by
  obtain ⟨t', h1, h2⟩ := perm_of_map (fun p : K4 × V => (p.1, p.2.v)) h.symm todo rfl
  cases t' with
  | nil => cases h2
  | cons y t' =>
    simp only [List.map_cons, List.cons.injEq, Prod.mk.injEq] at h2
    obtain ⟨⟨rfl, rfl⟩, rfl⟩ := h2
    exact ⟨y.2, t', rfl, rfl, h1.symm⟩
theorem sorted_keysP (ps ls : List Pr) (hp : ps.Perm ls) (hn : (ls.map (·.key)).Nodup) (hs : ps.Pairwise fun x y => x.key.num ≤ y.key.num) : ps = keysP ls := by
  have hn' : (ps.map (·.key)).Nodup := (hp.map _).nodup_iff.2 hn
  refine keysP_of ?_ fun k => ?_
  · have h2 : ps.Pairwise fun x y => x.key ≠ y.key := List.pairwise_map.1 hn'
    exact (hs.and h2).imp fun {a b} h => by
      have : a.key.num ≠ b.key.num := fun e => h.2 (K4.num_inj e)
      show a.key.num < b.key.num
      have := h.1; omega
  · unfold lastP
    exact (perm_getP hp hn' k).trans (perm_getP (List.reverse_perm ls).symm hn k)
theorem pair_cells {w : World} {l : List Pr} {b off k : Nat} (h : ∀ j u, (l.flatMap Pr.f)[j]? = some u → w.cell? ⟨b, off + j, none⟩ = some u) (hk : k < l.length) :
    w.cell? ⟨b, off + k * 6, none⟩ = some (.int .u8 (l[k].key.a.toNat : Int)) ∧ w.cell? ⟨b, off + k * 6 + 1, none⟩ = some (.int .u8 (l[k].key.b.toNat : Int)) ∧ w.cell? ⟨b, off + k * 6 + 2, none⟩ = some (.int .u8 (l[k].key.c.toNat : Int)) ∧
    w.cell? ⟨b, off + k * 6 + 3, none⟩ = some (.int .u8 (l[k].key.d.toNat : Int)) ∧ w.cell? ⟨b, off + k * 6 + 4, none⟩ = some (.bool l[k].val.there) ∧ w.cell? ⟨b, off + k * 6 + 5, none⟩ = some (.int .i64 l[k].val.n) := by
  have key : ∀ j u, j < 6 → (l[k].f)[j]? = some u → w.cell? ⟨b, off + (k * 6 + j), none⟩ = some u := fun j u hj hu =>
    h _ u (by rw [flatMap_get Pr.f (c := 6) (fun _ => rfl) l k j l[k] (by simp [hk]) hj]; exact hu)
  exact ⟨key 0 _ (by omega) rfl, key 1 _ (by omega) rfl, key 2 _ (by omega) rfl, key 3 _ (by omega) rfl, key 4 _ (by omega) rfl, key 5 _ (by omega) rfl⟩
end Go.Proofs.YtpcpeoejcnndhaaGreat
namespace Go.Proofs.YtpcpeoejcnndhaaGreat
open Go.RowKit Go.Shelf Go.Lib Go.Sort Go.Proofs
section
variable {P : Program} {α : Type} [Inhabited α] {enc : α → List Value} {k : Nat} {w0 W : World} {blk off : Nat} {dk d0 : Array α}
theorem get_setIf (d : Array α) (i : Nat) (y : α) (hi : i < d.size) (x : Nat) : (d.setIfInBounds i y)[x]! = if x = i then y else d[x]! := by
  by_cases h : x = i
  · subst h; rw [if_pos rfl]; simp [hi]
  · rw [if_neg h]
    by_cases hx : x < d.size
    · simp [Array.getElem!_eq_getD, Array.getD, Array.getElem_setIfInBounds, hx, Ne.symm h]
    · simp [hx]
theorem setMany_put (hk : ∀ x, (enc x).length = k) (d : Array α) (i : Nat) (y : α) (hi : i < d.size) : setMany (flatK enc k d) (i * k) (enc y) = flatK enc k (d.setIfInBounds i y) := by
  refine ext_get! (by simp) fun t ht => ?_
  have ht' : t < d.size * k := by simpa using ht
  have k0 : 0 < k := by rcases Nat.eq_zero_or_pos k with h | h; · subst h; simp at ht'
                        · exact h
  rw [get_setMany _ _ _ t (by simpa using ht'), get_flatK _ _ _ t ht', get_flatK _ _ _ t (by simpa using ht'), hk, get_setIf _ _ _ hi]
  have m : ∀ q, t / k = q → t - q * k = t % k := fun q h => by subst h; rw [Nat.mod_eq_sub_div_mul]
  by_cases a : t / k = i
  · rw [if_pos ((blk_iff k i t k0).2 a), m i a, if_pos a]
  · rw [if_neg (fun h => a ((blk_iff k i t k0).1 h)), if_neg a]
theorem swk_put (h : SWK enc k w0 blk off dk W) (R : RowK enc k w0 blk off d0) (i : Nat) (y : α) (hi : i < dk.size) :
    SWK enc k w0 blk off (dk.setIfInBounds i y) (W.setCells blk (off + i * k) (enc y)) := by
  obtain ⟨n, os, rfl⟩ := h
  refine ⟨n, os, ?_⟩
  unfold sortWorldK
  rw [← putRowK_grow enc k (Sort.ahead w0 n) os blk off dk R.hblk, ← putRowK_grow enc k (Sort.ahead w0 n) os blk off _ R.hblk]
  unfold putRowK
  rw [setCells_putRow _ _ _ _ _ _ (by rw [R.hk, size_flatK]; exact rowK_bnd dk k i hi), setMany_put R.hk dk i y hi]
theorem swk_st (h : SWK enc k w0 blk off dk W) (R : RowK enc k w0 blk off d0) (hs : dk.size = d0.size) (P : Program) (i : Nat) (hi : i < dk.size) (y : α) :
    Sem.run P (storeCells ⟨blk, off + i * k, none⟩ (enc y) 0) W = .ok () (W.setCells blk (off + i * k) (enc y)) :=
  stores_of_holds P (h.holds R.hblk R.hH hs) (i * k) _ (by rw [R.hk, size_flatK]; exact rowK_bnd dk k i hi) (R.h1 _)
def zfill (zr : α) (i : Nat) (d : Array α) : Array α := (d.toList.take i ++ List.replicate (d.size - i) zr).toArray
theorem size_zfill (zr : α) (i : Nat) (d : Array α) (hi : i ≤ d.size) : (zfill zr i d).size = d.size := by simp [zfill]; omega
theorem get_zfill (zr : α) (i : Nat) (d : Array α) (hi : i ≤ d.size) (x : Nat) (hx : x < d.size) : (zfill zr i d)[x]! = if x < i then d[x]! else zr := by
  unfold zfill
  by_cases h : x < i
  · rw [if_pos h, getElem!_pos _ _ (by simp; omega), getElem!_pos d x hx, List.getElem_toArray, List.getElem_append_left (by simp; omega), List.getElem_take]
    simp
  · rw [if_neg h, getElem!_pos _ _ (by simp; omega), List.getElem_toArray, List.getElem_append_right (by simp; omega)]
    simp
theorem zeroCells_flat (zr : α) (hk : ∀ x, (enc x).length = k) (n : Nat) : (Builtin.zeroCells (enc zr).toArray n).toList = (flatK enc k (Array.replicate n zr)).toList := by
  congr 1
  refine ext_get! (by simp [Builtin.zeroCells, hk]) fun t ht => ?_
  have ht' : t < n * k := by simpa [Builtin.zeroCells, hk] using ht
  rw [get_flatK _ _ _ t (by simpa using ht')]
  have k0 : 0 < k := by rcases Nat.eq_zero_or_pos k with h | h; · subst h; simp at ht'
                        · exact h
  have q : t / k < n := (Nat.div_lt_iff_lt_mul k0).2 ht'
  rw [getElem!_pos _ t ht]
  simp [Builtin.zeroCells, hk, q]
theorem setMany_fill (hk : ∀ x, (enc x).length = k) (d : Array α) (zr : α) (i : Nat) (hi : i ≤ d.size) : setMany (flatK enc k d) (i * k) (flatK enc k (Array.replicate (d.size - i) zr)).toList = flatK enc k (zfill zr i d) := by
  have hz := size_zfill zr i d hi
  refine ext_get! (by simp [hz]) fun t ht => ?_
  have ht' : t < d.size * k := by simpa using ht
  have k0 : 0 < k := by rcases Nat.eq_zero_or_pos k with h | h; · subst h; simp at ht'
                        · exact h
  have q : t / k < d.size := (Nat.div_lt_iff_lt_mul k0).2 ht'
  rw [get_setMany _ _ _ t (by simpa using ht'), get_flatK enc k (zfill zr i d) t (by rw [hz]; exact ht'), get_zfill zr i d hi _ q]
  by_cases a : t / k < i
  · have : t < i * k := (Nat.div_lt_iff_lt_mul k0).1 a
    rw [if_neg (by omega), if_pos a, get_flatK _ _ _ t ht']
  · have h1 : i * k ≤ t := (Nat.le_div_iff_mul_le k0).1 (by omega)
    have h2 : (d.size - i) * k = d.size * k - i * k := Nat.sub_mul _ _ _
    rw [if_pos ⟨h1, by simp; omega⟩, if_neg a]
    have h3 : t - i * k < (d.size - i) * k := by omega
    have h4 := get_flatK enc k (Array.replicate (d.size - i) zr) (t - i * k) (by simpa using h3)
    have h5 : (t - i * k) / k < d.size - i := (Nat.div_lt_iff_lt_mul k0).2 h3
    have h6 : (t - i * k) % k = t % k := by rw [Nat.mul_comm, Nat.sub_mul_mod (by rw [Nat.mul_comm]; exact h1)]
    have e : (flatK enc k (Array.replicate (d.size - i) zr)).toList[t - i * k]! = (flatK enc k (Array.replicate (d.size - i) zr))[t - i * k]! := by
      rw [getElem!_pos _ _ (by simpa using h3), getElem!_pos _ _ (by simpa using h3)]; simp
    rw [e, h4, h6]
    simp [h5]
theorem flat_one (h1 : ∀ x, ∀ v ∈ enc x, v.oneCell' = true) (hk : ∀ x, (enc x).length = k) (d : Array α) : ∀ v ∈ (flatK enc k d).toList, v.oneCell' = true := fun v hv => by
  obtain ⟨t, ht, rfl⟩ := List.mem_iff_getElem.1 hv
  have ht' : t < d.size * k := by simpa using ht
  have k0 : 0 < k := by rcases Nat.eq_zero_or_pos k with h | h; · subst h; simp at ht'
                        · exact h
  have e : (flatK enc k d).toList[t] = (enc d[t / k]!)[t % k]! := by
    rw [← get_flatK enc k d t ht', getElem!_pos _ t (by simpa using ht')]; simp
  rw [e]
  have hm : t % k < (enc d[t / k]!).length := by rw [hk]; exact Nat.mod_lt _ k0
  rw [getElem!_pos (enc d[t / k]!) (t % k) hm]
  exact h1 (d[t / k]!) _ (List.getElem_mem hm)
theorem swk_clear (h : SWK enc k w0 blk off dk W) (R : RowK enc k w0 blk off d0) (hs : dk.size = d0.size) {t e : TypeId} (ht : P.underlying t = some (.slice e)) {zr : α} (hv : ∀ w, (zeroValue e).run P w = .ok (.agg (enc zr).toArray) w) (i c : Nat) (hi : i < dk.size) :
    ∃ W', (∀ ty, (Builtin.clear_ #[t] ty #[.slice (some ⟨blk, off + i * k, none⟩) (dk.size - i) c]).run P W = .ok (.tuple #[]) W') ∧ SWK enc k w0 blk off (zfill zr i dk) W' := by
  have hH := h.holds R.hblk R.hH hs
  have hst := stores_of_holds P hH (i * k) (flatK enc k (Array.replicate (dk.size - i) zr)).toList (by
    have : (dk.size - i) * k = dk.size * k - i * k := Nat.sub_mul _ _ _
    have h2 : i * k ≤ dk.size * k := Nat.mul_le_mul_right k (by omega)
    simp; omega) (flat_one R.h1 R.hk _)
  refine ⟨W.setCells blk (off + i * k) (flatK enc k (Array.replicate (dk.size - i) zr)).toList, fun ty => ?_, ?_⟩
  · obtain ⟨m, hm⟩ : ∃ m, dk.size - i = m + 1 := ⟨dk.size - i - 1, by omega⟩
    rw [hm] at hst ⊢
    have hz := zeroCells_flat zr R.hk (m + 1) (enc := enc)
    simp [Builtin.clear_, run_underlying ht, hv, Value.cells, hz, hst]
  · obtain ⟨n, os, rfl⟩ := h
    refine ⟨n, os, ?_⟩
    unfold sortWorldK
    rw [← putRowK_grow enc k (Sort.ahead w0 n) os blk off dk R.hblk, ← putRowK_grow enc k (Sort.ahead w0 n) os blk off _ R.hblk]
    unfold putRowK
    rw [setCells_putRow _ _ _ _ _ _ (by
      have : (dk.size - i) * k = dk.size * k - i * k := Nat.sub_mul _ _ _
      have h2 : i * k ≤ dk.size * k := Nat.mul_le_mul_right k (by omega)
      simp; omega), setMany_fill R.hk dk zr i (by omega)]
theorem kept_mapBlock (w : World) (b : Nat) (f : Array Value → Array Value) : Kept [b] w (mapBlock w b f) := by
  refine ⟨rfl, rfl, rfl, by simp [mapBlock], fun x hx hS => ?_⟩
  have hne : x ≠ b := fun e => hS (by simp [e])
  simp [mapBlock, Array.getElem?_modify, Ne.symm hne]
theorem kept_grow {S : List Nat} {a w : World} (h : Kept S a w) (os : Array Obj) : Kept S a (grow w os) := by
  refine ⟨h.os, h.tape, h.output, Nat.le_trans h.size (by rw [size_grow]; omega), fun x hx hS => ?_⟩
  rw [← h.block x hx hS]
  have : x < w.heap.size := Nat.lt_of_lt_of_le hx h.size
  simp [grow, Array.getElem?_append, this]
theorem swk_kept (h : SWK enc k w0 blk off dk W) : Kept [blk] w0 W := by
  obtain ⟨n, os, rfl⟩ := h
  unfold sortWorldK putRowK putRow
  exact kept_grow (((Kept.refl [blk] w0).drewN n).trans (kept_mapBlock _ _ _) fun x hx => .inl hx) os
theorem rowK_at (hk : ∀ x, (enc x).length = k) : ∀ (m : List α) (j : Nat), j < m.length * k → (m.flatMap enc)[j]? = (enc m[j / k]!)[j % k]? := fun m => by
  induction m with
  | nil => intro j h; simp at h
  | cons x m ih =>
    intro j h
    have k0 : 0 < k := by rcases Nat.eq_zero_or_pos k with h' | h'; · subst h'; simp at h
                          · exact h'
    rw [List.flatMap_cons]
    by_cases c : j < k
    · rw [List.getElem?_append_left (by rw [hk]; exact c), Nat.div_eq_of_lt c, Nat.mod_eq_of_lt c]; rfl
    · have e1 : j / k = (j - k) / k + 1 := by rw [Nat.div_eq_sub_div k0 (by omega)]
      have e2 : j % k = (j - k) % k := Nat.mod_eq_sub_mod (by omega)
      rw [List.getElem?_append_right (by rw [hk]; omega), hk, e1, e2, ih (j - k) (by simp [Nat.add_mul] at h; omega)]
      simp
theorem rowK_len (hk : ∀ x, (enc x).length = k) (m : List α) : (m.flatMap enc).length = m.length * k := by
  induction m with
  | nil => simp
  | cons x m ih => simp [ih, hk, Nat.add_mul]; omega
theorem holdsK_slAt {w : World} (hk : ∀ x, (enc x).length = k) {d : Array α} (hH : HoldsK enc k w blk off d) (hb : blk < w.heap.size) (l : List α) (cap : Nat) (hl : l.length ≤ d.size) (he : ∀ x, x < l.length → d[x]! = l[x]!) (hm : l.length ≤ 9223372036854775807) :
    SlAt w (.slice (some ⟨blk, off, none⟩) l.length cap) k l.length (l.flatMap enc) := by
  have hlen := rowK_len hk
  refine ⟨_, cap, rfl, hm, hlen l, fun hn => ⟨blk, off, rfl, hb, fun j u hu => ?_⟩⟩
  have hj : j < l.length * k := by rw [← hlen]; exact (List.getElem?_eq_some_iff.1 hu).1
  have k0 : 0 < k := by rcases Nat.eq_zero_or_pos k with h | h; · subst h; simp at hj
                        · exact h
  have q : j / k < l.length := (Nat.div_lt_iff_lt_mul k0).2 hj
  have hcell := rowK_at hk
  rw [hcell l j hj] at hu
  rw [← he _ q] at hu
  have hjm : j % k < k := Nat.mod_lt _ k0
  have := HoldsK.cells hH hk (i := j / k) (by omega) (j % k) u hu
  have e3 : off + j / k * k + j % k = off + j := by have := Nat.div_add_mod j k; rw [Nat.mul_comm] at this; omega
  rw [Addr.add_lit, e3] at this
  exact this
theorem holds_of_cells (hk : ∀ x, (enc x).length = k) {w : World} (d : Array α) (hc : ∀ i, i < d.size → ∀ j u, (enc d[i]!)[j]? = some u → w.cell? ⟨blk, off + i * k + j, none⟩ = some u) (hf : ∀ j, w.frozen? ⟨blk, j, none⟩ = false) : HoldsK enc k w blk off d := by
  intro j hj
  have hj' : j < d.size * k := by simpa using hj
  have k0 : 0 < k := by rcases Nat.eq_zero_or_pos k with h | h; · subst h; simp at hj'
                        · exact h
  refine ⟨?_, hf _⟩
  have q : j / k < d.size := (Nat.div_lt_iff_lt_mul k0).2 hj'
  have m : j % k < (enc d[j / k]!).length := by rw [hk]; exact Nat.mod_lt _ k0
  have := hc (j / k) q (j % k) _ (List.getElem?_eq_getElem m)
  rw [get_flatK enc k d j hj', getElem!_pos (enc d[j / k]!) (j % k) m]
  have e3 : off + j / k * k + j % k = off + j := by have := Nat.div_add_mod j k; rw [Nat.mul_comm] at this; omega
  rw [e3] at this
  exact this
theorem holdsK_laid {w : World} (hk : ∀ x, (enc x).length = k) {d : Array α} (hH : HoldsK enc k w blk off d) (l : List α) (hl : l.length ≤ d.size) (he : ∀ x, x < l.length → d[x]! = l[x]!) : HoldsK enc k w blk off l.toArray := by
  intro j hj
  have hj' : j < l.length * k := by simpa using hj
  have k0 : 0 < k := by rcases Nat.eq_zero_or_pos k with h | h; · subst h; simp at hj'
                        · exact h
  have q : j / k < l.length := (Nat.div_lt_iff_lt_mul k0).2 hj'
  have hb : l.length * k ≤ d.size * k := Nat.mul_le_mul_right k hl
  have h := hH j (by simp; omega)
  rw [get_flatK enc k d j (by omega), he _ q] at h
  rw [get_flatK enc k l.toArray j (by simpa using hj')]
  have : l.toArray[j / k]! = l[j / k]! := by simp
  rw [this]; exact h
end
structure Rc where
  kind : Int
  tx : Int
  mask : Nat
  key : K4
  old : V
  new : V
  deriving DecidableEq
def Rc.f (r : Rc) : List Value := [.int .i64 r.kind, .int .i64 r.tx, .int .u16 (r.mask : Int), .int .u8 (r.key.a.toNat : Int), .int .u8 (r.key.b.toNat : Int), .int .u8 (r.key.c.toNat : Int), .int .u8 (r.key.d.toNat : Int), .bool r.old.there, .int .i64 r.old.n, .bool r.new.there, .int .i64 r.new.n]
def fixV (v : V) : V := if v.right = true then v else V.zero
def recP (tx : Int) (base : List Pr) (p : Pr) : Rc := ⟨1, tx, 0, p.key, fixV (findP base p.key), p.val⟩
def recsP (tx : Int) (base ps : List Pr) : List Rc := ps.map (recP tx base)
section
variable {α β : Type} [DecidableEq α]
theorem tget_put (k j : α) (v : β) : ∀ l : List (α × β), aget j (aput k v l) = if k = j then some v else aget j l
  | [] => by simp [aput, aget]
  | p :: l => by
    have ih := tget_put k j v l
    by_cases h : p.1 = k
    · simp only [aput, h, if_true, aget]
      by_cases h2 : k = j <;> simp [h2]
    · simp only [aput, h, if_false, aget, ih]
      by_cases h2 : p.1 = j
      · have : k ≠ j := fun e => h (e ▸ h2)
        simp [h2, this]
      · simp [h2]
theorem tget_none {k : α} : ∀ {l : List (α × β)}, aget k l = none ↔ k ∉ l.map (·.1)
  | [] => by simp [aget]
  | p :: l => by
    simp only [aget, List.map_cons, List.mem_cons, not_or]
    by_cases hp : p.1 = k
    · simp [hp]
    · rw [if_neg hp, tget_none]
      exact ⟨fun h => ⟨fun e => hp e.symm, h⟩, fun h => h.2⟩
theorem tget_del (k j : α) : ∀ l : List (α × β), (l.map (·.1)).Nodup → aget j (adel k l) = if k = j then none else aget j l
  | [], _ => by simp [adel, aget]
  | p :: l, hn => by
    simp only [List.map_cons, List.nodup_cons] at hn
    have ih := tget_del k j l hn.2
    by_cases h : p.1 = k
    · simp only [adel, h, if_true, aget]
      by_cases h2 : k = j
      · subst h2
        simp only [if_true]
        rw [tget_none, ← h]
        exact hn.1
      · simp [h2]
    · simp only [adel, h, if_false, aget, ih]
      by_cases h2 : p.1 = j
      · have : k ≠ j := fun e => h (e ▸ h2)
        simp [h2, this]
      · simp [h2]
theorem tget_mem {k : α} {v : β} : ∀ {l : List (α × β)}, aget k l = some v → (k, v) ∈ l
  | [], h => by simp [aget] at h
  | p :: l, h => by
    simp only [aget] at h
    by_cases hp : p.1 = k
    · rw [if_pos hp] at h
      obtain rfl := Option.some.inj h
      subst hp
      exact List.mem_cons_self
    · rw [if_neg hp] at h
      exact List.mem_cons_of_mem _ (tget_mem h)
theorem tget_of_mem {k : α} {v : β} : ∀ {l : List (α × β)}, (l.map (·.1)).Nodup → (k, v) ∈ l → aget k l = some v
  | p :: l, hn, h => by
    simp only [List.map_cons, List.nodup_cons] at hn
    simp only [aget]
    rcases List.mem_cons.1 h with rfl | h
    · simp
    · have hne : p.1 ≠ k := fun e => hn.1 (List.mem_map.2 ⟨_, h, e.symm⟩)
      rw [if_neg hne]
      exact tget_of_mem hn.2 h
theorem tput_keys (k : α) (v : β) : ∀ l : List (α × β), (aput k v l).map (·.1) = if (aget k l).isSome = true then l.map (·.1) else l.map (·.1) ++ [k]
  | [] => rfl
  | p :: l => by
    have ih := tput_keys k v l
    simp only [aput, aget]
    by_cases h : p.1 = k
    · simp [h]
    · simp only [h, if_false, List.map_cons, ih]
      split <;> simp
theorem tput_nodup (k : α) (v : β) (l : List (α × β)) (h : (l.map (·.1)).Nodup) : ((aput k v l).map (·.1)).Nodup := by
  rw [tput_keys]
  split
  · exact h
  · rename_i hs
    have : aget k l = none := by
      cases hg : aget k l with
      | none => rfl
      | some v => rw [hg] at hs; simp at hs
    rw [tget_none] at this
    rw [List.nodup_append]
    exact ⟨h, by simp, fun a ha b hb => by simp at hb; subst hb; exact fun e => this (e ▸ ha)⟩
theorem tdel_sub (k : α) : ∀ l : List (α × β), (adel k l).Sublist l
  | [] => List.Sublist.refl _
  | p :: l => by
    simp only [adel]
    split
    · exact List.sublist_cons_self _ _
    · exact (tdel_sub k l).cons₂ _
theorem tdel_nodup (k : α) (l : List (α × β)) (h : (l.map (·.1)).Nodup) : ((adel k l).map (·.1)).Nodup := h.sublist ((tdel_sub k l).map _)
theorem tput_none (k : α) (v : β) {l : List (α × β)} (h : aget k l = none) : aput k v l = l ++ [(k, v)] := by
  induction l with
  | nil => rfl
  | cons p l ih =>
    simp only [aget] at h
    by_cases hp : p.1 = k
    · rw [if_pos hp] at h; cases h
    · rw [if_neg hp] at h
      simp only [aput, if_neg hp, ih h, List.cons_append]
end
theorem tdel_none {α β : Type} [DecidableEq α] {k : α} : ∀ {l : List (α × β)}, aget k l = none → adel k l = l
  | [], _ => rfl
  | p :: l, h => by
    simp only [aget] at h
    by_cases hp : p.1 = k
    · rw [if_pos hp] at h; cases h
    · rw [if_neg hp] at h
      simp only [adel, if_neg hp, tdel_none h]
theorem foldl_take_succ {α β : Type} (f : β → α → β) (l : List α) (i : Nat) (hi : i < l.length) (b : β) : (l.take (i + 1)).foldl f b = f ((l.take i).foldl f b) l[i] := by
  rw [List.take_succ_eq_append_getElem hi, List.foldl_append]
  rfl
theorem tput_len {α β : Type} [DecidableEq α] (k : α) (v : β) (l : List (α × β)) : (aput k v l).length = if (aget k l).isSome = true then l.length else l.length + 1 := by
  have := congrArg List.length (tput_keys k v l)
  rw [List.length_map] at this
  rw [this]
  split <;> simp
theorem tdel_len {α β : Type} [DecidableEq α] (k : α) : ∀ (l : List (α × β)), (adel k l).length = if (aget k l).isSome = true then l.length - 1 else l.length
  | [] => by simp [adel, aget]
  | p :: l => by
    have ih := tdel_len k l
    simp only [adel, aget]
    by_cases h : p.1 = k
    · simp [h]
    · simp only [h, if_false, List.length_cons, ih]
      split
      · rename_i hs
        have : 0 < l.length := by
          cases l with
          | nil => simp [aget] at hs
          | cons q l => simp
        omega
      · rfl
theorem mem_tput {α β : Type} [DecidableEq α] (k : α) (v : β) (l : List (α × β)) (x : α) : x ∈ (aput k v l).map (·.1) ↔ x ∈ l.map (·.1) ∨ x = k := by
  rw [tput_keys]
  split
  · rename_i h
    refine ⟨.inl, fun h' => h'.elim id fun e => ?_⟩
    subst e
    exact Decidable.byContradiction fun hn => by rw [tget_none.2 hn] at h; cases h
  · rw [List.mem_append, List.mem_singleton]
def srtI (l : List Int) : List Int := l.mergeSort fun x y => decide (x ≤ y)
theorem srtI_perm (l : List Int) : (srtI l).Perm l := List.mergeSort_perm l _
theorem srtI_permeq {l l' : List Int} (h : l.Perm l') : srtI l = srtI l' := by
  unfold srtI
  refine List.Perm.eq_of_pairwise (le := fun x y => decide (x ≤ y)) ?_ (List.pairwise_mergeSort ?_ ?_ l) (List.pairwise_mergeSort ?_ ?_ l') ((List.mergeSort_perm l _).trans (h.trans (List.mergeSort_perm l' _).symm))
  all_goals simp
  all_goals omega
theorem mergeI_srt (l : List Int) (h : l.Nodup) : (l.mergeSort fun x y => decide (x ≤ y)).Pairwise (· < ·) := by
  have h1 := List.pairwise_mergeSort (le := fun x y : Int => decide (x ≤ y)) (by simp; omega) (by simp; omega) l
  have h2 : (l.mergeSort fun x y => decide (x ≤ y)).Nodup := (List.mergeSort_perm l _).nodup_iff.2 h
  refine (h1.and h2).imp ?_
  intro a b h
  have h3 : a ≤ b := by simpa using h.1
  have h4 : a ≠ b := h.2
  omega
instance instK4r : Inhabited K4 := ⟨⟨0, 0, 0, 0⟩⟩
structure Wk where
  mask : Nat
  com : Bool
  ws : List (K4 × V)
instance (l : List Pr) : Decidable (Srt l) := by unfold Srt; infer_instance
def Wk.none : Wk := ⟨0, false, []⟩
structure Pl where
  base : List Pr
  works : List (Int × Wk)
  left : Int
  taken : List Pr
structure Txp where
  n : Int
  mask : Nat
  com : Bool
  ws : List Pr
  deriving DecidableEq
structure Stp where
  base : List Pr
  txs : List Txp
  deriving DecidableEq
def Rc.zero : Rc := ⟨0, 0, 0, ⟨0, 0, 0, 0⟩, V.zero, V.zero⟩
def Rc.part (r : Rc) : Rc :=
  if r.kind = 1 then ⟨1, r.tx, 0, r.key, r.old, r.new⟩
  else if r.kind = 2 then ⟨2, r.tx, r.mask, ⟨0, 0, 0, 0⟩, V.zero, V.zero⟩
  else if r.kind = 7 then ⟨7, 0, 0, r.key, V.zero, r.new⟩
  else if r.kind = 8 then ⟨8, 0, r.mask, ⟨0, 0, 0, 0⟩, V.zero, V.zero⟩
  else ⟨r.kind, r.tx, 0, ⟨0, 0, 0, 0⟩, V.zero, V.zero⟩
def numbered (n : Int) : Bool := decide (1 ≤ n) && decide (n ≤ 1048576)
def Rc.right (r : Rc) : Bool :=
  if r.kind < 1 ∨ 8 < r.kind ∨ r.part ≠ r then false
  else if r.kind = 1 then numbered r.tx && r.old.right && r.new.right
  else if r.kind = 2 then numbered r.tx && decide (r.mask ≠ 0)
  else if r.kind = 7 then r.new.there
  else if r.kind = 8 then decide (r.mask ≤ 64)
  else numbered r.tx
def getW (works : List (Int × Wk)) (tx : Int) : Wk := (aget tx works).getD Wk.none
def commitW (base : List Pr) (w : Wk) : List Pr × Wk :=
  if w.mask = 0 ∨ w.com = true then (base, w) else (sortP (base ++ keysP (w.ws.map toPr)), ⟨w.mask, true, []⟩)
def wholeP (p : Pl) : Pl := if p.left = 0 then ⟨sortP p.taken, [], -1, p.taken⟩ else p
def writeW (w : Wk) (k : K4) (v : V) : Wk := if w.mask = 0 then ⟨w.mask, w.com, aput k v w.ws⟩ else w
def yesW (w : Wk) (m : Nat) : Wk := if w.mask = 0 then ⟨m, w.com, w.ws⟩ else w
def oneP (p : Pl) (r : Rc) : Pl :=
  if r.kind = 8 then wholeP ⟨p.base, p.works, r.mask, []⟩
  else if r.kind = 7 then (if 0 < p.left then wholeP ⟨p.base, p.works, p.left - 1, p.taken ++ [⟨r.key, r.new⟩]⟩ else p)
  else if r.kind = 1 then ⟨p.base, aput r.tx (writeW (getW p.works r.tx) r.key r.new) p.works, -1, p.taken⟩
  else if r.kind = 2 then ⟨p.base, aput r.tx (yesW (getW p.works r.tx) r.mask) p.works, -1, p.taken⟩
  else if r.kind = 4 then ⟨(commitW p.base (getW p.works r.tx)).1, aput r.tx (commitW p.base (getW p.works r.tx)).2 p.works, -1, p.taken⟩
  else if r.kind = 5 ∨ r.kind = 6 then ⟨p.base, adel r.tx p.works, -1, p.taken⟩
  else ⟨p.base, p.works, -1, p.taken⟩
def txOf (works : List (Int × Wk)) (n : Int) : Option Txp := if (getW works n).mask ≠ 0 then some ⟨n, (getW works n).mask, (getW works n).com, keysP ((getW works n).ws.map toPr)⟩ else none
def outP (p : Pl) : Stp := ⟨p.base, (srtI (p.works.map (·.1))).filterMap (txOf p.works)⟩
def p0 : Pl := ⟨[], [], -1, []⟩
def playP (p : Pl) (l : List Rc) : Pl := (l.filter Rc.right).foldl oneP p
def replayP (l : List Rc) : Stp := outP (playP p0 l)
def okV (l : List Pr) : Bool := l.all fun p => p.val.right
def Txp.right (x : Txp) (behind : Int) : Bool := decide (behind < x.n) && decide (x.n ≤ 1048576) && decide (x.mask ≠ 0) && (!x.com || decide (x.ws.length = 0)) && decide (Srt x.ws) && okV x.ws
def rightTs : Int → List Txp → Bool
  | _, [] => true
  | b, x :: l => x.right b && rightTs x.n l
def Stp.right (s : Stp) : Bool := decide (s.base.length ≤ 64) && decide (Srt s.base) && (s.base.all fun p => p.val.there) && rightTs 0 s.txs
def recsT (base : List Pr) (x : Txp) : List Rc := x.ws.map (fun p => (⟨1, x.n, 0, p.key, findP base p.key, p.val⟩ : Rc)) ++ (⟨2, x.n, x.mask, ⟨0, 0, 0, 0⟩, V.zero, V.zero⟩ :: if x.com = true then [⟨4, x.n, 0, ⟨0, 0, 0, 0⟩, V.zero, V.zero⟩] else [])
def recsS (s : Stp) : List Rc := ⟨8, 0, s.base.length, ⟨0, 0, 0, 0⟩, V.zero, V.zero⟩ :: (s.base.map (fun p => (⟨7, 0, 0, p.key, V.zero, p.val⟩ : Rc)) ++ s.txs.flatMap (recsT s.base))
def numbersS (s : Stp) (c : Bool) : List Int := (s.txs.filter fun x => x.com == c).map (·.n)
end Go.Proofs.YtpcpeoejcnndhaaGreat
namespace Go.Proofs.YtpcpeoejcnndhaaGreat
open Go.RowKit
theorem PrAt.nil (w : World) : PrAt w (.slice none 0 0) [] := ⟨⟨none, 0, rfl, by decide, rfl, fun h => absurd h (by decide)⟩, fun a n c h => (by cases h), fun n c h => (by cases h; rfl)⟩
def txF (q : Txp × Value) : List Value := [.int .i64 q.1.n, .int .u16 (q.1.mask : Int), .bool q.1.com, q.2]
structure TxsAt (w : World) (v : Value) (l : List Txp) : Prop where
  ex : ∃ L : List (Txp × Value), L.map (·.1) = l ∧ SlAt w v 4 L.length (L.flatMap txF) ∧ ∀ q ∈ L, PrAt w q.2 q.1.ws
theorem TxsAt.kept {w w' : World} {v : Value} {l : List Txp} (h : TxsAt w v l) (hk : Kept [] w w') : TxsAt w' v l := by
  obtain ⟨L, h1, h2, h3⟩ := h.ex
  exact ⟨L, h1, h2.kept hk, fun q hq => (h3 q hq).kept hk⟩
structure StAt (w : World) (bv tv : Value) (s : Stp) : Prop where
  base : PrAt w bv s.base
  txs : TxsAt w tv s.txs
theorem StAt.kept {w w' : World} {bv tv : Value} {s : Stp} (h : StAt w bv tv s) (hk : Kept [] w w') : StAt w' bv tv s := ⟨h.base.kept hk, h.txs.kept hk⟩
theorem tx_cells {w : World} {L : List (Txp × Value)} {b off k : Nat} (h : ∀ j u, (L.flatMap txF)[j]? = some u → w.cell? ⟨b, off + j, none⟩ = some u) (hk : k < L.length) :
    w.cell? ⟨b, off + k * 4, none⟩ = some (.int .i64 L[k].1.n) ∧ w.cell? ⟨b, off + k * 4 + 1, none⟩ = some (.int .u16 (L[k].1.mask : Int)) ∧ w.cell? ⟨b, off + k * 4 + 2, none⟩ = some (.bool L[k].1.com) ∧ w.cell? ⟨b, off + k * 4 + 3, none⟩ = some L[k].2 := by
  have key : ∀ j u, j < 4 → (txF L[k])[j]? = some u → w.cell? ⟨b, off + (k * 4 + j), none⟩ = some u := fun j u hj hu =>
    h _ u (by rw [flatMap_get txF (c := 4) (fun _ => rfl) L k j L[k] (by simp [hk]) hj]; exact hu)
  exact ⟨key 0 _ (by omega) rfl, key 1 _ (by omega) rfl, key 2 _ (by omega) rfl, key 3 _ (by omega) rfl⟩
theorem lastP_works (D : List (K4 × V)) (hn : (D.map (·.1)).Nodup) (k : K4) : lastP k (D.map toPr) = aget k D := by
  have h1 : getP k (D.map toPr) = aget k D := by
    clear hn
    induction D with
    | nil => rfl
    | cons p D ih => simp only [List.map_cons, getP, aget, toPr, ih]
  unfold lastP
  rw [← h1]
  exact perm_getP (List.reverse_perm _) (by rw [List.map_reverse, (List.reverse_perm _).nodup_iff, List.map_map]; exact hn) k
def foldA (l : List Pr) (d : List (K4 × V)) : List (K4 × V) := l.foldl (fun d p => aput p.key p.val d) d
theorem foldA_nodup : ∀ (l : List Pr) (d : List (K4 × V)), (d.map (·.1)).Nodup → ((foldA l d).map (·.1)).Nodup
  | [], d, h => h
  | p :: l, d, h => foldA_nodup l _ (tput_nodup p.key p.val d h)
theorem foldA_get (k : K4) : ∀ (l : List Pr) (d : List (K4 × V)), aget k (foldA l d) = (lastP k l).or (aget k d)
  | [], d => rfl
  | p :: l, d => by
    show aget k (foldA l (aput p.key p.val d)) = _
    rw [foldA_get k l, tget_put, lastP_cons]
    cases lastP k l with
    | some v => rfl
    | none =>
      by_cases e : p.key = k <;> simp [e]
theorem keysP_foldA (l : List Pr) : keysP ((foldA l []).map toPr) = keysP l := by
  refine keysP_of (keysP_srt _) fun k => ?_
  rw [keysP_get, lastP_works _ (foldA_nodup l [] List.nodup_nil), foldA_get]
  simp [aget]
theorem foldA_snoc (l : List Pr) (p : Pr) (d : List (K4 × V)) : foldA (l ++ [p]) d = aput p.key p.val (foldA l d) := by unfold foldA; rw [List.foldl_append]; rfl
theorem sortP_keys (b l : List Pr) : sortP (b ++ keysP l) = sortP (b ++ l) := by
  refine srt_ext (sortP_srt _) (sortP_srt _) fun k => ?_
  rw [sortP_get, sortP_get, lastP_append, lastP_append, srt_lastP (keysP_srt l), keysP_get]
theorem sortP_self {l : List Pr} (h : Srt l) (ht : ∀ p ∈ l, p.val.there = true) : sortP l = l := by
  unfold sortP thereP
  rw [keysP_self h, List.filter_eq_self]
  exact ht
theorem sortP_all (l : List Pr) : ∀ p ∈ sortP l, p.val.there = true := fun p hp => by
  have := (List.mem_filter.1 hp).2
  simpa using this
theorem insP_any {p : Pr} {q : Pr} : ∀ {l : List Pr}, q ∈ insP p l → q = p ∨ q ∈ l := insP_mem
theorem keysP_mem : ∀ (l : List Pr) {q : Pr}, q ∈ keysP l → q ∈ l := fun l q h => by
  have := srt_getP (keysP_srt l) h
  rw [keysP_get] at this
  unfold lastP at this
  have := getP_mem this
  simpa using this
structure WkOk (w : Wk) : Prop where
  nd : (w.ws.map (·.1)).Nodup
  vr : ∀ p ∈ w.ws, p.2.right = true
  cm : w.com = true → w.mask ≠ 0 ∧ w.ws = []
structure PlOk (p : Pl) : Prop where
  kn : (p.works.map (·.1)).Nodup
  wk : ∀ q ∈ p.works, 1 ≤ q.1 ∧ q.1 ≤ 1048576 ∧ WkOk q.2
  bs : Srt p.base
  bt : ∀ q ∈ p.base, q.val.there = true
theorem WkOk.none : WkOk Wk.none := ⟨List.nodup_nil, (fun p hp => by simp [Wk.none] at hp), (fun h => by simp [Wk.none] at h)⟩
theorem PlOk.zero : PlOk p0 := ⟨List.nodup_nil, (fun q hq => by simp [p0] at hq), List.Pairwise.nil, (fun q hq => by simp [p0] at hq)⟩
theorem numbered_iff {n : Int} : numbered n = true ↔ 1 ≤ n ∧ n ≤ 1048576 := by simp [numbered]
section
variable {p : Pl} {r : Rc}
theorem PlOk.get (H : PlOk p) (tx : Int) : WkOk (getW p.works tx) := by
  unfold getW
  cases hg : aget tx p.works with
  | none => exact WkOk.none
  | some w => exact (H.wk _ (tget_mem hg)).2.2
theorem tput_mem {α β : Type} [DecidableEq α] {k : α} {v : β} {p : α × β} : ∀ {l : List (α × β)}, p ∈ aput k v l → p = (k, v) ∨ p ∈ l
  | [], h => by simp [aput] at h; exact .inl h
  | q :: l, h => by
    simp only [aput] at h
    split at h
    · rcases List.mem_cons.1 h with h | h
      · exact .inl h
      · exact .inr (List.mem_cons_of_mem _ h)
    · rcases List.mem_cons.1 h with h | h
      · exact .inr (h ▸ List.mem_cons_self)
      · exact (tput_mem h).imp_right (List.mem_cons_of_mem _)
theorem PlOk.put (H : PlOk p) {tx : Int} {w : Wk} {b t : List Pr} {l : Int} (ht : 1 ≤ tx ∧ tx ≤ 1048576) (hw : WkOk w) (hb : Srt b) (hbt : ∀ q ∈ b, q.val.there = true) : PlOk ⟨b, aput tx w p.works, l, t⟩ :=
  ⟨tput_nodup _ _ _ H.kn, fun q hq => by
    rcases tput_mem hq with rfl | hq
    · exact ⟨ht.1, ht.2, hw⟩
    · exact H.wk q hq, hb, hbt⟩
theorem WkOk.write {w : Wk} (H : WkOk w) (k : K4) {v : V} (hv : v.right = true) : WkOk (writeW w k v) := by
  unfold writeW
  by_cases hm : w.mask = 0
  · rw [if_pos hm]
    refine ⟨tput_nodup _ _ _ H.nd, fun p hp => ?_, fun hc => absurd hm (H.cm hc).1⟩
    rcases tput_mem hp with rfl | hp
    · exact hv
    · exact H.vr p hp
  · rw [if_neg hm]; exact H
theorem WkOk.yes {w : Wk} (H : WkOk w) {m : Nat} (hm0 : m ≠ 0) : WkOk (yesW w m) := by
  unfold yesW
  by_cases hm : w.mask = 0
  · rw [if_pos hm]
    exact ⟨H.nd, H.vr, fun hc => absurd hm (H.cm hc).1⟩
  · rw [if_neg hm]; exact H
theorem WkOk.commit {w : Wk} (H : WkOk w) (b : List Pr) : WkOk (commitW b w).2 := by
  unfold commitW
  split
  · exact H
  · rename_i h
    rw [not_or] at h
    exact ⟨List.nodup_nil, (fun p hp => by cases hp), fun _ => ⟨h.1, rfl⟩⟩
theorem PlOk.whole (H : PlOk p) : PlOk (wholeP p) := by
  unfold wholeP
  split
  · exact ⟨List.nodup_nil, (fun q hq => by cases hq), sortP_srt _, sortP_all _⟩
  · exact H
theorem PlOk.like (H : PlOk p) (l : Int) (t : List Pr) : PlOk ⟨p.base, p.works, l, t⟩ := ⟨H.kn, H.wk, H.bs, H.bt⟩
theorem right_parts (h : r.right = true) : 1 ≤ r.kind ∧ r.kind ≤ 8 ∧ r.part = r ∧ (r.kind ≠ 7 → r.kind ≠ 8 → 1 ≤ r.tx ∧ r.tx ≤ 1048576) ∧ (r.kind = 1 → r.old.right = true ∧ r.new.right = true) ∧ (r.kind = 2 → r.mask ≠ 0) ∧ (r.kind = 7 → r.new.there = true) ∧ (r.kind = 8 → r.mask ≤ 64) := by
  unfold Rc.right at h
  split at h
  · cases h
  · rename_i h0
    have h1 : r.part = r := Decidable.byContradiction fun hn => h0 (.inr (.inr hn))
    have h2 : 1 ≤ r.kind := by omega
    have h3 : r.kind ≤ 8 := by omega
    refine ⟨h2, h3, h1, ?_⟩
    split at h
    · rename_i e
      rw [Bool.and_eq_true, Bool.and_eq_true] at h
      exact ⟨fun _ _ => numbered_iff.1 h.1.1, fun _ => ⟨h.1.2, h.2⟩, by omega, by omega, by omega⟩
    · split at h
      · rename_i e1 e
        rw [Bool.and_eq_true, decide_eq_true_eq] at h
        exact ⟨fun _ _ => numbered_iff.1 h.1, by omega, fun _ => h.2, by omega, by omega⟩
      · split at h
        · rename_i e1 e2 e
          exact ⟨fun h7 => absurd e h7, by omega, by omega, fun _ => h, by omega⟩
        · split at h
          · rename_i e1 e2 e3 e
            exact ⟨fun _ h8 => absurd e h8, by omega, by omega, by omega, fun _ => by simpa using h⟩
          · rename_i e1 e2 e3 e4
            exact ⟨fun _ _ => numbered_iff.1 h, fun e => absurd e e1, fun e => absurd e e2, fun e => absurd e e3, fun e => absurd e e4⟩
theorem PlOk.one (H : PlOk p) (hr : r.right = true) : PlOk (oneP p r) := by
  obtain ⟨k1, k8, _, htx, hk1, hk2, hk7, hk8⟩ := right_parts hr
  unfold oneP
  split
  · exact (H.like _ _).whole
  · rename_i e8
    split
    · split
      · exact (H.like _ _).whole
      · exact H
    · rename_i e7
      have ht := htx e7 e8
      split
      · rename_i e
        exact H.put ht ((H.get _).write _ (hk1 e).2) H.bs H.bt
      · split
        · rename_i e
          exact H.put ht ((H.get _).yes (hk2 e)) H.bs H.bt
        · split
          · refine H.put ht ((H.get _).commit _) ?_ ?_
            · unfold commitW
              split
              · exact H.bs
              · exact sortP_srt _
            · unfold commitW
              split
              · exact H.bt
              · exact sortP_all _
          · split
            · exact ⟨tdel_nodup _ _ H.kn, fun q hq => H.wk q ((tdel_sub _ _).subset hq), H.bs, H.bt⟩
            · exact H.like _ _
end
theorem fold_ok : ∀ (l : List Rc) {p : Pl}, PlOk p → (∀ r ∈ l, r.right = true) → PlOk (l.foldl oneP p)
  | [], p, H, _ => H
  | r :: l, p, H, h => fold_ok l (H.one (h r List.mem_cons_self)) fun x hx => h x (List.mem_cons_of_mem _ hx)
theorem play_ok {p : Pl} (H : PlOk p) (l : List Rc) : PlOk (playP p l) := fold_ok _ H fun r hr => (List.mem_filter.1 hr).2
theorem play_app (p : Pl) (a b : List Rc) : playP p (a ++ b) = playP (playP p a) b := by
  unfold playP
  rw [List.filter_append, List.foldl_append]
theorem play_all (p : Pl) {l : List Rc} (h : ∀ r ∈ l, r.right = true) : playP p l = l.foldl oneP p := by
  unfold playP
  rw [List.filter_eq_self.2 h]
theorem srtI_srt {l : List Int} (h : l.Nodup) : (srtI l).Pairwise (· < ·) := mergeI_srt l h
theorem srtI_self {l : List Int} (h : l.Pairwise (· < ·)) : srtI l = l := by
  unfold srtI
  refine List.mergeSort_of_pairwise (h.imp fun hab => ?_)
  simpa using Int.le_of_lt hab
theorem lt_ext {l m : List Int} (hl : l.Pairwise (· < ·)) (hm : m.Pairwise (· < ·)) (h : l.Perm m) : l = m := by
  refine List.Perm.eq_of_pairwise (le := (· < ·)) ?_ hl hm h
  intro a b _ _ h1 h2
  omega
theorem rightTs_map (f : Int → Option Txp) : ∀ (ns : List Int) (b : Int), (∀ n ∈ ns, b < n) → ns.Pairwise (· < ·) → (∀ n ∈ ns, ∀ x, f n = some x → x.n = n ∧ ∀ c, c < n → x.right c = true) → rightTs b (ns.filterMap f) = true
  | [], b, _, _, _ => rfl
  | n :: ns, b, hb, hp, hf => by
    have hp' := List.pairwise_cons.1 hp
    cases hfn : f n with
    | none =>
      rw [List.filterMap_cons_none hfn]
      exact rightTs_map f ns b (fun m hm => hb m (List.mem_cons_of_mem _ hm)) hp'.2 fun m hm => hf m (List.mem_cons_of_mem _ hm)
    | some x =>
      rw [List.filterMap_cons_some hfn]
      obtain ⟨h1, h2⟩ := hf n List.mem_cons_self x hfn
      show (x.right b && rightTs x.n _) = true
      rw [h2 b (hb n List.mem_cons_self), h1, Bool.true_and]
      exact rightTs_map f ns n hp'.1 hp'.2 fun m hm => hf m (List.mem_cons_of_mem _ hm)
theorem out_right {p : Pl} (H : PlOk p) : (outP p).right = decide (p.base.length ≤ 64) := by
  unfold Stp.right
  have h1 : decide (Srt (outP p).base) = true := decide_eq_true H.bs
  have h2 : ((outP p).base.all fun q => q.val.there) = true := List.all_eq_true.2 H.bt
  have h3 : rightTs 0 (outP p).txs = true := by
    refine rightTs_map _ _ 0 (fun n hn => ?_) (srtI_srt H.kn) fun n hn x hx => ?_
    · rw [(srtI_perm _).mem_iff] at hn
      obtain ⟨q, hq, rfl⟩ := List.mem_map.1 hn
      have := (H.wk q hq).1; omega
    · have hn' := hn
      rw [(srtI_perm _).mem_iff] at hn'
      obtain ⟨q, hq, hqn⟩ := List.mem_map.1 hn'
      have hrange := H.wk q hq
      rw [hqn] at hrange
      have hw := H.get n
      unfold txOf at hx
      split at hx
      · rename_i hm
        injection hx with hx
        subst hx
        refine ⟨rfl, fun c hc => ?_⟩
        have hs : Srt (keysP ((getW p.works n).ws.map toPr)) := keysP_srt _
        have hv : okV (keysP ((getW p.works n).ws.map toPr)) = true := List.all_eq_true.2 fun q hq => by
          obtain ⟨u, hu, rfl⟩ := List.mem_map.1 (keysP_mem _ hq)
          exact hw.vr u hu
        have hc2 : (!(getW p.works n).com || decide ((keysP ((getW p.works n).ws.map toPr)).length = 0)) = true := by
          cases hcm : (getW p.works n).com with
          | false => rfl
          | true => rw [(hw.cm hcm).2]; rfl
        unfold Txp.right
        dsimp only
        rw [hc2, hv, decide_eq_true hc, decide_eq_true hrange.2.1, decide_eq_true hm, decide_eq_true hs]
        rfl
      · cases hx
  rw [h1, h2, h3]
  rw [Bool.and_true, Bool.and_true, Bool.and_true]
  rfl
def ofPr' (p : Pr) : K4 × V := (p.key, p.val)
def wkOf (x : Txp) : Wk := ⟨x.mask, x.com, x.ws.map ofPr'⟩
theorem toPr_of (l : List Pr) : (l.map ofPr').map toPr = l := by
  rw [List.map_map]; exact List.map_id l
theorem find_right {b : List Pr} (h : ∀ p ∈ b, p.val.there = true) (k : K4) : (findP b k).right = true := by
  unfold findP
  cases hl : lastP k b with
  | none => rfl
  | some v =>
    unfold lastP at hl
    have := h _ (List.mem_reverse.1 (getP_mem hl))
    show V.right v = true
    unfold V.right
    rw [show v.there = true from this]; rfl
theorem rec_base (p : Pr) (h : p.val.there = true) : (⟨7, 0, 0, p.key, V.zero, p.val⟩ : Rc).right = true := by
  unfold Rc.right Rc.part
  simp [h]
theorem rec_start (n : Nat) (h : n ≤ 64) : (⟨8, 0, n, ⟨0, 0, 0, 0⟩, V.zero, V.zero⟩ : Rc).right = true := by
  unfold Rc.right Rc.part
  simp [h]
theorem rec_write (n : Int) (k : K4) (a b : V) (hn : 1 ≤ n ∧ n ≤ 1048576) (ha : a.right = true) (hb : b.right = true) : (⟨1, n, 0, k, a, b⟩ : Rc).right = true := by
  unfold Rc.right Rc.part
  simp [ha, hb, numbered, hn.1, hn.2]
theorem rec_yes (n : Int) (m : Nat) (hn : 1 ≤ n ∧ n ≤ 1048576) (hm : m ≠ 0) : (⟨2, n, m, ⟨0, 0, 0, 0⟩, V.zero, V.zero⟩ : Rc).right = true := by
  unfold Rc.right Rc.part
  simp [numbered, hn.1, hn.2, hm]
theorem rec_plain (c n : Int) (hc : 3 ≤ c ∧ c ≤ 6) (hn : 1 ≤ n ∧ n ≤ 1048576) : (⟨c, n, 0, ⟨0, 0, 0, 0⟩, V.zero, V.zero⟩ : Rc).right = true := by
  have h1 : ¬ c = 1 := by omega
  have h2 : ¬ c = 2 := by omega
  have h7 : ¬ c = 7 := by omega
  have h8 : ¬ c = 8 := by omega
  have ha : ¬ c < 1 := by omega
  have hb : ¬ 8 < c := by omega
  unfold Rc.right Rc.part
  simp [h1, h2, h7, h8, ha, hb, numbered, hn.1, hn.2]
theorem rec_zero : Rc.zero.right = false := rfl
theorem rightTs_mem : ∀ {l : List Txp} {b : Int}, rightTs b l = true → (∀ x ∈ l, ∃ c, b ≤ c ∧ x.right c = true) ∧ (l.map (·.n)).Pairwise (· < ·) ∧ ∀ x ∈ l, b < x.n
  | [], b, _ => ⟨(fun x hx => by cases hx), List.Pairwise.nil, (fun x hx => by cases hx)⟩
  | x :: l, b, h => by
    have h' : (x.right b && rightTs x.n l) = true := h
    rw [Bool.and_eq_true] at h'
    obtain ⟨h1, h2⟩ := h'
    have hbx : b < x.n := by
      unfold Txp.right at h1
      simp only [Bool.and_eq_true, decide_eq_true_eq] at h1
      exact h1.1.1.1.1.1
    obtain ⟨i1, i2, i3⟩ := rightTs_mem h2
    refine ⟨fun y hy => ?_, ?_, fun y hy => ?_⟩
    · rcases List.mem_cons.1 hy with rfl | hy
      · exact ⟨b, Int.le_refl _, h1⟩
      · obtain ⟨c, hc, hr⟩ := i1 y hy
        exact ⟨c, by omega, hr⟩
    · rw [List.map_cons, List.pairwise_cons]
      refine ⟨fun n hn => ?_, i2⟩
      obtain ⟨y, hy, rfl⟩ := List.mem_map.1 hn
      exact i3 y hy
    · rcases List.mem_cons.1 hy with rfl | hy
      · exact hbx
      · have := i3 y hy; omega
structure TxOk (x : Txp) : Prop where
  n : 1 ≤ x.n ∧ x.n ≤ 1048576
  m : x.mask ≠ 0
  c : x.com = true → x.ws = []
  s : Srt x.ws
  v : ∀ p ∈ x.ws, p.val.right = true
theorem TxOk.of {x : Txp} {c : Int} (hc : 0 ≤ c) (h : x.right c = true) : TxOk x := by
  unfold Txp.right at h
  simp only [Bool.and_eq_true, decide_eq_true_eq, Bool.or_eq_true, Bool.not_eq_true'] at h
  obtain ⟨⟨⟨⟨⟨h1, h2⟩, h3⟩, h4⟩, h5⟩, h6⟩ := h
  exact ⟨⟨by omega, h2⟩, h3, fun hc => by
    rcases h4 with h4 | h4
    · rw [hc] at h4; cases h4
    · exact List.eq_nil_of_length_eq_zero h4, h5, fun p hp => List.all_eq_true.1 h6 p hp⟩
structure StOk (s : Stp) : Prop where
  l : s.base.length ≤ 64
  b : Srt s.base
  t : ∀ p ∈ s.base, p.val.there = true
  x : ∀ x ∈ s.txs, TxOk x
  o : (s.txs.map (·.n)).Pairwise (· < ·)
theorem StOk.of {s : Stp} (h : s.right = true) : StOk s := by
  unfold Stp.right at h
  simp only [Bool.and_eq_true, decide_eq_true_eq] at h
  obtain ⟨⟨⟨h1, h2⟩, h3⟩, h4⟩ := h
  obtain ⟨i1, i2, i3⟩ := rightTs_mem h4
  exact ⟨h1, h2, fun p hp => List.all_eq_true.1 h3 p hp, fun x hx => by
    obtain ⟨c, hc, hr⟩ := i1 x hx
    exact TxOk.of hc hr, i2⟩
theorem recs_right {s : Stp} (H : StOk s) : ∀ r ∈ recsS s, r.right = true := by
  intro r hr
  unfold recsS at hr
  rcases List.mem_cons.1 hr with rfl | hr
  · exact rec_start _ H.l
  · rcases List.mem_append.1 hr with hr | hr
    · obtain ⟨p, hp, rfl⟩ := List.mem_map.1 hr
      exact rec_base p (H.t p hp)
    · obtain ⟨x, hx, hr⟩ := List.mem_flatMap.1 hr
      have hX := H.x x hx
      unfold recsT at hr
      rcases List.mem_append.1 hr with hr | hr
      · obtain ⟨p, hp, rfl⟩ := List.mem_map.1 hr
        exact rec_write _ _ _ _ hX.n (find_right H.t _) (hX.v p hp)
      · rcases List.mem_cons.1 hr with rfl | hr
        · exact rec_yes _ _ hX.n hX.m
        · split at hr
          · rw [List.mem_singleton] at hr
            subst hr
            exact rec_plain 4 _ (by omega) hX.n
          · cases hr
theorem fold_base (b : List Pr) (ws : List (Int × Wk)) : ∀ (l2 l1 : List Pr), l2 ≠ [] → (l2.map fun p => (⟨7, 0, 0, p.key, V.zero, p.val⟩ : Rc)).foldl oneP ⟨b, ws, (l2.length : Int), l1⟩ = ⟨sortP (l1 ++ l2), [], -1, l1 ++ l2⟩
  | [], l1, h => absurd rfl h
  | p :: l2, l1, _ => by
    rw [List.map_cons, List.foldl_cons]
    have h1 : oneP ⟨b, ws, ((p :: l2).length : Int), l1⟩ ⟨7, 0, 0, p.key, V.zero, p.val⟩ = wholeP ⟨b, ws, (l2.length : Int), l1 ++ [p]⟩ := by
      unfold oneP
      rw [if_neg (by show ¬ (7 : Int) = 8; omega), if_pos rfl]
      dsimp only
      rw [if_pos (show (0 : Int) < ((p :: l2).length : Int) by rw [List.length_cons]; omega)]
      congr 2
      rw [List.length_cons]; omega
    rw [h1]
    cases l2 with
    | nil => rfl
    | cons q l2 =>
      have h2 : wholeP ⟨b, ws, ((q :: l2).length : Int), l1 ++ [p]⟩ = ⟨b, ws, ((q :: l2).length : Int), l1 ++ [p]⟩ := by
        unfold wholeP
        rw [if_neg (by simp; omega)]
      rw [h2, fold_base b ws (q :: l2) (l1 ++ [p]) (by simp)]
      simp
theorem tput_put {α β : Type} [DecidableEq α] (k : α) (a b : β) : ∀ l : List (α × β), aput k b (aput k a l) = aput k b l
  | [] => by simp [aput]
  | p :: l => by
    by_cases h : p.1 = k
    · simp [aput, h]
    · simp only [aput, if_neg h, tput_put k a b l]
theorem getW_put (ws : List (Int × Wk)) (n : Int) (w : Wk) : getW (aput n w ws) n = w := by unfold getW; rw [tget_put, if_pos rfl]; rfl
theorem fold_writes (base tk : List Pr) (n : Int) : ∀ (l : List Pr) (d : List (K4 × V)) (ws : List (Int × Wk)) (old : Pr → V), l ≠ [] → getW ws n = ⟨0, false, d⟩ → (l.map fun p => (⟨1, n, 0, p.key, old p, p.val⟩ : Rc)).foldl oneP ⟨base, ws, -1, tk⟩ = ⟨base, aput n ⟨0, false, foldA l d⟩ ws, -1, tk⟩
  | [], d, ws, old, h, _ => absurd rfl h
  | p :: l, d, ws, old, _, hg => by
    rw [List.map_cons, List.foldl_cons]
    have h1 : oneP ⟨base, ws, -1, tk⟩ ⟨1, n, 0, p.key, old p, p.val⟩ = ⟨base, aput n ⟨0, false, aput p.key p.val d⟩ ws, -1, tk⟩ := by
      unfold oneP
      rw [if_neg (by show ¬ (1 : Int) = 8; omega), if_neg (by show ¬ (1 : Int) = 7; omega), if_pos rfl]
      dsimp only
      rw [hg]
      rfl
    rw [h1]
    cases l with
    | nil => rfl
    | cons q l =>
      rw [fold_writes base tk n (q :: l) (aput p.key p.val d) _ old (by simp) (getW_put _ _ _), tput_put]
      rfl
theorem foldA_srt : ∀ (l : List Pr) (d : List (K4 × V)), (∀ p ∈ l, aget p.key d = none) → Srt l → foldA l d = d ++ l.map ofPr'
  | [], d, _, _ => by simp [foldA]
  | p :: l, d, hd, hs => by
    show foldA l (aput p.key p.val d) = _
    rw [tput_none p.key p.val (hd p List.mem_cons_self), foldA_srt l _ (fun q hq => ?_) (Srt.tail hs)]
    · simp [ofPr']
    · have hlt := Srt.head hs q hq
      have hne : ¬ p.key = q.key := fun e => by rw [e] at hlt; omega
      have := hd q (List.mem_cons_of_mem _ hq)
      rw [← tput_none p.key p.val (hd p List.mem_cons_self), tget_put, if_neg hne]
      exact this
theorem one_yes (base tk : List Pr) (ws : List (Int × Wk)) (n : Int) (m : Nat) (d : List (K4 × V)) (hg : getW ws n = ⟨0, false, d⟩) : oneP ⟨base, ws, -1, tk⟩ ⟨2, n, m, ⟨0, 0, 0, 0⟩, V.zero, V.zero⟩ = ⟨base, aput n ⟨m, false, d⟩ ws, -1, tk⟩ := by
  unfold oneP
  rw [if_neg (by show ¬ (2 : Int) = 8; omega), if_neg (by show ¬ (2 : Int) = 7; omega), if_neg (by show ¬ (2 : Int) = 1; omega), if_pos rfl]
  dsimp only
  rw [hg]
  rfl
theorem one_commit (base tk : List Pr) (ws : List (Int × Wk)) (n : Int) (m : Nat) (d : List (K4 × V)) (hm : m ≠ 0) (hg : getW ws n = ⟨m, false, d⟩) : oneP ⟨base, ws, -1, tk⟩ ⟨4, n, 0, ⟨0, 0, 0, 0⟩, V.zero, V.zero⟩ = ⟨sortP (base ++ keysP (d.map toPr)), aput n ⟨m, true, []⟩ ws, -1, tk⟩ := by
  have hc : commitW base (⟨m, false, d⟩ : Wk) = (sortP (base ++ keysP (d.map toPr)), ⟨m, true, []⟩) := by
    unfold commitW
    rw [if_neg (by simp [hm])]
  unfold oneP
  rw [if_neg (by show ¬ (4 : Int) = 8; omega), if_neg (by show ¬ (4 : Int) = 7; omega), if_neg (by show ¬ (4 : Int) = 1; omega), if_neg (by show ¬ (4 : Int) = 2; omega), if_pos rfl]
  dsimp only
  rw [hg, hc]
theorem fold_tx (base tk : List Pr) (hb : Srt base) (hbt : ∀ p ∈ base, p.val.there = true) (ws : List (Int × Wk)) (x : Txp) (H : TxOk x) (hn : aget x.n ws = none) : (recsT base x).foldl oneP ⟨base, ws, -1, tk⟩ = ⟨base, ws ++ [(x.n, wkOf x)], -1, tk⟩ := by
  have hg0 : getW ws x.n = ⟨0, false, []⟩ := by unfold getW; rw [hn]; rfl
  have hw : ∀ rest : List Rc, ((x.ws.map (fun p => (⟨1, x.n, 0, p.key, findP base p.key, p.val⟩ : Rc))) ++ ⟨2, x.n, x.mask, ⟨0, 0, 0, 0⟩, V.zero, V.zero⟩ :: rest).foldl oneP ⟨base, ws, -1, tk⟩ = rest.foldl oneP ⟨base, aput x.n ⟨x.mask, false, x.ws.map ofPr'⟩ ws, -1, tk⟩ := fun rest => by
    rw [List.foldl_append, List.foldl_cons]
    cases hx : x.ws with
    | nil =>
      show rest.foldl oneP (oneP ⟨base, ws, -1, tk⟩ _) = _
      rw [one_yes base tk ws x.n x.mask [] hg0]; rfl
    | cons p l =>
      have hs := H.s
      rw [hx] at hs
      rw [fold_writes base tk x.n (p :: l) [] ws (fun p => findP base p.key) (by simp) hg0, foldA_srt (p :: l) [] (fun _ _ => rfl) hs, List.nil_append, one_yes base tk _ x.n x.mask _ (getW_put _ _ _), tput_put]
  unfold recsT
  rw [hw]
  cases hc : x.com with
  | false =>
    rw [if_neg (by simp)]
    show (⟨base, aput x.n ⟨x.mask, false, x.ws.map ofPr'⟩ ws, -1, tk⟩ : Pl) = _
    rw [tput_none _ _ hn]
    unfold wkOf
    rw [hc]
  | true =>
    rw [if_pos rfl]
    rw [List.foldl_cons, List.foldl_nil]
    rw [one_commit base tk _ x.n x.mask _ H.m (getW_put _ _ _), tput_put, tput_none _ _ hn, H.c hc]
    have : sortP (base ++ keysP (([] : List Pr).map ofPr' |>.map toPr)) = base := by
      show sortP (base ++ []) = base
      rw [List.append_nil, sortP_self hb hbt]
    rw [this]
    unfold wkOf
    rw [hc, H.c hc]
    rfl
theorem fold_txs (base tk : List Pr) (hb : Srt base) (hbt : ∀ p ∈ base, p.val.there = true) : ∀ (l : List Txp) (ws : List (Int × Wk)), (∀ x ∈ l, TxOk x) → (∀ x ∈ l, aget x.n ws = none) → (l.map (·.n)).Pairwise (· < ·) → (l.flatMap (recsT base)).foldl oneP ⟨base, ws, -1, tk⟩ = ⟨base, ws ++ l.map (fun x => (x.n, wkOf x)), -1, tk⟩
  | [], ws, _, _, _ => by simp
  | x :: l, ws, hx, hn, hp => by
    rw [List.flatMap_cons, List.foldl_append, fold_tx base tk hb hbt ws x (hx x List.mem_cons_self) (hn x List.mem_cons_self)]
    rw [List.map_cons, List.pairwise_cons] at hp
    rw [fold_txs base tk hb hbt l _ (fun y hy => hx y (List.mem_cons_of_mem _ hy)) (fun y hy => ?_) hp.2]
    · simp
    · have h1 := hp.1 y.n (List.mem_map.2 ⟨y, hy, rfl⟩)
      rw [← tput_none x.n (wkOf x) (hn x List.mem_cons_self), tget_put, if_neg (by omega)]
      exact hn y (List.mem_cons_of_mem _ hy)
theorem filterMap_self {α : Type} (f : α → Option α) : ∀ l : List α, (∀ x ∈ l, f x = some x) → l.filterMap f = l
  | [], _ => rfl
  | x :: l, h => by rw [List.filterMap_cons_some (h x List.mem_cons_self), filterMap_self f l fun y hy => h y (List.mem_cons_of_mem _ hy)]
theorem out_txs (base tk : List Pr) (l : List Txp) (left : Int) (hx : ∀ x ∈ l, TxOk x) (hp : (l.map (·.n)).Pairwise (· < ·)) : outP ⟨base, l.map (fun x => (x.n, wkOf x)), left, tk⟩ = ⟨base, l⟩ := by
  have hk : (l.map (fun x => (x.n, wkOf x))).map (·.1) = l.map (·.n) := by rw [List.map_map]; rfl
  have hnd : ((l.map (fun x => (x.n, wkOf x))).map (·.1)).Nodup := by rw [hk]; exact hp.imp fun h => by omega
  unfold outP
  dsimp only
  rw [hk, srtI_self hp, List.filterMap_map]
  congr 1
  refine filterMap_self _ l (fun x hxl => ?_)
  have hg : getW (l.map (fun x => (x.n, wkOf x))) x.n = wkOf x := by
    unfold getW
    rw [tget_of_mem hnd (List.mem_map.2 ⟨x, hxl, rfl⟩)]; rfl
  have H := hx x hxl
  show txOf _ x.n = some x
  unfold txOf
  rw [hg, if_pos (show (wkOf x).mask ≠ 0 from H.m)]
  show some (⟨x.n, x.mask, x.com, keysP ((x.ws.map ofPr').map toPr)⟩ : Txp) = some x
  rw [toPr_of, keysP_self H.s]
theorem law_back {s : Stp} (H : StOk s) (p : Pl) : outP (playP p (recsS s)) = s := by
  rw [play_all p (recs_right H)]
  unfold recsS
  rw [List.foldl_cons, List.foldl_append]
  have h1 : oneP p ⟨8, 0, s.base.length, ⟨0, 0, 0, 0⟩, V.zero, V.zero⟩ = wholeP ⟨p.base, p.works, (s.base.length : Int), []⟩ := rfl
  have h2 : (s.base.map (fun p => (⟨7, 0, 0, p.key, V.zero, p.val⟩ : Rc))).foldl oneP (wholeP ⟨p.base, p.works, (s.base.length : Int), []⟩) = ⟨s.base, [], -1, s.base⟩ := by
    by_cases hb : s.base = []
    · rw [hb]; rfl
    · have hl : 0 < s.base.length := List.length_pos_iff.2 hb
      have h3 : wholeP ⟨p.base, p.works, (s.base.length : Int), []⟩ = ⟨p.base, p.works, (s.base.length : Int), []⟩ := by
        unfold wholeP
        rw [if_neg (by show ¬ (s.base.length : Int) = 0; omega)]
      rw [h3, fold_base p.base p.works s.base [] hb, List.nil_append, sortP_self H.b H.t]
  rw [h1, h2, fold_txs s.base s.base H.b H.t s.txs [] H.x (fun _ _ => rfl) H.o, List.nil_append, out_txs s.base s.base s.txs (-1) H.x H.o]
section
variable {P : Program} {w : World} {o : Oper} {a : Act} {K : Act → World → Prop} {Q : Exit → Act → World → Prop}
theorem wp_append_is (s x : Operand) (t : TypeId)
    (ho : o.op = .call { callee := .builtin .append, args := #[s, x], argTypes := #[t, t] })
    (e : TypeId) (z : Value) (size bytes : Nat) (ht : P.underlying t = some (.slice e)) (hi : (P.info? e).map (fun i => (i.zero, i.size, i.bytes)) = some (some z, size, bytes))
    (hzs : z.cells.size = size) (hsz : 0 < size) (hby : 0 < bytes) (base : Nat)
    (v : Value) (n : Nat) (xs : List Value) (hs : a.eval s = v) (hown : w.ownsRow base e size v n xs)
    (ad : Addr) (m c : Nat) (news : List Value) (hx : a.eval x = .slice (some ad) m c) (hl : news.length = m * size) (hnews : ∀ j u, news[j]? = some u → w.cell? (ad.add j) = some u) (h1 : ∀ u ∈ news, u.oneCell' = true)
    (hbytes : (n + m) * bytes ≤ 140737488355328) (hbase : base ≤ w.heap.size)
    (h : ∀ v' w', w'.ownsRow base e size v' (n + m) (xs ++ news) → w.grownBy w' v.ownBlock → (v' = .slice none 0 0 ↔ v = .slice none 0 0 ∧ m = 0) → K (a.put o.dst v') w') : o.wp P a w K Q := by
  obtain ⟨i, hi, hz0, hz1, hz2⟩ := info_parts hi
  have h63 : n + m ≤ maxLen := by
    have := Nat.le_mul_of_pos_right (n + m) hby
    unfold maxLen; omega
  exact wp_append_own w s x t ho base e i z size bytes ht hi hz0 hz1 hz2 hzs hsz v n xs hs hown ad m c news hx hl hnews h1 h63 hbytes hbase h
end
end Go.Proofs.YtpcpeoejcnndhaaGreat
namespace Go.Proofs.YtpcpeoejcnndhaaGreat
open Go.RowKit Go.Shelf Go.Lib Go.Sort Go.Proofs
attribute [local go_sem] Oper.semAt_some
def prD : Pr := ⟨⟨0, 0, 0, 0⟩, V.zero⟩
def bto (ps : List Pr) (k : Nat) : List (Nat × Pr) := (List.range k).map fun j => (ps.length - 1 - j, ps[ps.length - 1 - j]?.getD prD)
theorem bto_succ (ps : List Pr) (k : Nat) : bto ps (k + 1) = bto ps k ++ [(ps.length - 1 - k, ps[ps.length - 1 - k]?.getD prD)] := by simp [bto, List.range_succ]
theorem bto_length (ps : List Pr) (k : Nat) : (bto ps k).length = k := by simp [bto]
theorem bto_fst (ps : List Pr) (k : Nat) (hk : k ≤ ps.length) : (bto ps k).map (·.2) = ps.reverse.take k := by
  apply List.ext_getElem
  · simp [bto]; omega
  · intro i h1 h2
    have hi : i < k := by simpa [bto] using h1
    simp [bto, show ps.length - 1 - i < ps.length by omega]
--@@ slices.Backward
set_option maxRecDepth 100000 in
set_option maxHeartbeats 2000000 in
theorem back1_in (n : Nat) (hn : 1 ≤ n) (l Bs n₀ : Nat) (a : Option Addr) (cap : Nat) (ps : List Pr) (w0 : World) (hS : SlAt w0 (.slice a ps.length cap) 6 ps.length (ps.flatMap Pr.f)) (h0n : w0.heap.size ≤ n₀) (hBn : Bs < n₀) (J Jx : List (Nat × Pr) → World → Prop)
    (hY : ∀ pre x W, J pre W → pre.length < ps.length → YieldAt Fence.wide (n - 1) Tryz.prog l #[.int .i64 (x.1 : Int), x.2.v] W fun e W' =>
      (e = .returned (.bool true) ∧ J (pre ++ [x]) W' ∧ Below n₀ W W') ∨ (e = .returned (.bool false) ∧ Jx (pre ++ [x]) W'))
    (W : World) (hw0 : Below w0.heap.size w0 W) (hBs : W.cell? ⟨Bs, 0, none⟩ = some (.slice a ps.length cap)) (h0 : J [] W) :
    CallsIn Fence.wide n Tryz.prog 74 #[.func (.yield l) #[] #[], .pointer (some ⟨Bs, 0, none⟩)] W fun e W' => (∃ v, e = .returned v) ∧
      ((∃ ys, ys = bto ps ps.length ∧ J ys W') ∨ (∃ pre, (∃ k, k ≤ ps.length ∧ pre = bto ps k) ∧ Jx pre W')) := by
  obtain ⟨_, _, he, hmax, _, hcs⟩ := hS.ex
  cases he
  have HC := hid hcs
  clear hcs hS
  refine callsIn_of_wp Tryz.func74 rfl trivial ?_ rfl
  simp only [Tryz.ntmps74, List.size_toArray, List.length_cons, List.length_nil, Nat.reduceAdd, Nat.reduceSub, Array.replicate_succ, Array.replicate_zero, List.push_toArray, List.append_toArray, List.nil_append, List.cons_append]
  have hlw : IntKind.i64.wrap ((ps.length : Int) - 1) = (ps.length : Int) - 1 := by rw [IntKind.wrap_i64]; omega
  gi_wp2
  gi_loopw [3] (fun i wr => ∃ (k : Nat) (z : Int), k ≤ ps.length ∧ i = .int .i64 z ∧ z = (ps.length : Int) - 1 - (k : Int) ∧ J (bto ps k) wr ∧ Below n₀ W wr)
    (fun i _ => (intOf i + 1).toNat)
  case atStart => exact ⟨0, _, Nat.zero_le _, rfl, by omega, h0, Below.refl _ _⟩
  case round =>
    obtain ⟨k, z, hk, rfl, hz, hJs, hnx⟩ := hrel
    have hbx := (hnx.cell (p := ⟨Bs, 0, none⟩) hBn).trans hBs
    by_cases hlt : k < ps.length
    · obtain ⟨i, hi⟩ : ∃ i : Nat, i = ps.length - 1 - k := ⟨_, rfl⟩
      have hil : i < ps.length := by omega
      obtain rfl : z = (i : Int) := by omega
      obtain ⟨b, off, rfl, hb, hcs⟩ := HC.out (by omega)
      have hcW : ∀ j u, (ps.flatMap Pr.f)[j]? = some u → wr.cell? ⟨b, off + j, none⟩ = some u := fun j u hj => ((hnx.cell (p := ⟨b, off + j, none⟩) (Nat.lt_of_lt_of_le hb h0n)).trans (hw0.cell (p := ⟨b, off + j, none⟩) hb)).trans (hcs j u hj)
      obtain ⟨e0, e1, e2, e3, e4, e5⟩ := pair_cells hcW hil
      clear hcW hcs
      obtain ⟨fn, tmps, assign, body, hy, hR⟩ := hY _ (i, ps[i]) wr hJs (by rw [bto_length]; exact hlt)
      have hik : i + k + 1 ≤ ps.length ∧ ps.length ≤ i + k + 1 := by omega
      have HS := hid (show bto ps (k + 1) = bto ps k ++ [(i, ps[i])] by rw [bto_succ, ← hi]; simp [hil])
      clear hi hz
      generalize ps[i] = x at *
      obtain ⟨⟨x1, x2, x3, x4⟩, ⟨x5, x6⟩⟩ := x
      simp only [Pr.v] at hy e0 e1 e2 e3 e4 e5
      have hltz : (i : Int) < (ps.length : Int) := by omega
      have hiz : (0 : Int) ≤ (i : Int) := by omega
      have hin : ((i : Int)).toNat = i := by omega
      have hiw : IntKind.i64.wrap ((i : Int) - 1) = (i : Int) - 1 := by rw [IntKind.wrap_i64]; omega
      gi_wp2
      refine hR.mono ?_
      rintro e W3 (⟨rfl, hJ3, hk3⟩ | ⟨rfl, hJx3⟩)
      · gi_wp2
        go_roundw
        case rel => exact ⟨k + 1, (i : Int) - 1, by omega, by first | rfl | go_num, by omega, by rw [HS.out]; exact hJ3, hnx.trans hk3⟩
        case measure => first | (simp [intOf]; omega) | simp [intOf]
      · gi_wp2
        refine bodyPost_ret (results_none rfl _ _ _) rfl ?_
        exact ⟨⟨_, rfl⟩, .inr ⟨_, ⟨k + 1, by omega, HS.out.symm⟩, hJx3⟩⟩
    · obtain rfl : k = ps.length := by omega
      obtain rfl : z = -1 := by omega
      gi_wp2
      go_end0
      exact ⟨⟨_, rfl⟩, .inl ⟨_, rfl, hJs⟩⟩
set_option maxHeartbeats 1000000 in
theorem back_in (n : Nat) (a : Option Addr) (len cap : Nat) (w : World) :
    CallsIn Fence.wide n Tryz.prog 65 #[.slice a len cap] w fun e w' => e = .returned (.func (.func 74) #[] #[.pointer (some ⟨w.heap.size, 0, none⟩)]) ∧ w' = w.alloc (.cells #[.slice a len cap] 29) := by
  refine callsIn_of_wp Tryz.func65 rfl trivial ?_ rfl
  simp only [Tryz.ntmps65, List.size_toArray, List.length_cons, List.length_nil, Nat.reduceAdd, Nat.reduceSub, Array.replicate_succ, Array.replicate_zero, List.push_toArray, List.append_toArray, List.nil_append, List.cons_append]
  gi_wp2
  go_ret
  exact ⟨rfl, rfl⟩
theorem back_stops (n : Nat) (hn : 1 ≤ n) (Bs n₀ : Nat) (a : Option Addr) (cap : Nat) (ps : List Pr) (w0 w : World) (hS : SlAt w0 (.slice a ps.length cap) 6 ps.length (ps.flatMap Pr.f)) (h0n : w0.heap.size ≤ n₀) (hBn : Bs < n₀) (hn₀ : n₀ ≤ w.heap.size)
    (hw : Below w0.heap.size w0 w) (hc : w.cell? ⟨Bs, 0, none⟩ = some (.slice a ps.length cap)) :
    SeqStopsK Fence.wide n Tryz.prog 74 #[.pointer (some ⟨Bs, 0, none⟩)] (fun x : Nat × Pr => #[Value.int .i64 (x.1 : Int), x.2.v]) (Below n₀) (fun ys => ys = bto ps ps.length) (fun pre => ∃ k, k ≤ ps.length ∧ pre = bto ps k) ps.length w := fun l J Jx W hW _ _ hY h0 =>
  back1_in n hn l Bs n₀ a cap ps w0 hS h0n hBn J Jx hY W (hw.trans (hW.mono (Nat.le_trans h0n hn₀))) ((hW.cell (p := ⟨Bs, 0, none⟩) (Nat.lt_of_lt_of_le hBn hn₀)).trans hc) h0
--@@ draft.Find
set_option maxRecDepth 100000 in
set_option maxHeartbeats 4000000 in
theorem find_any (v : Value) (ps : List Pr) (k : K4) (w : World) (hS : SlAt w v 6 ps.length (ps.flatMap Pr.f)) :
    Calls Tryz.prog 43 #[v, k.v] w fun e w' => e = .returned (findP ps k).v ∧ Kept [] w w' := by
  obtain ⟨a, cap, rfl, _⟩ := hS.ex
  refine (callsIn_wide (n := 6)).1 ?_
  have HS := hid hS
  clear hS
  obtain ⟨k1, k2, k3, k4⟩ := k
  simp only [K4.v]
  refine callsIn_of_wp_marks Tryz.func43 rfl trivial ?_ rfl
  simp only [Tryz.ntmps43, List.size_toArray, List.length_cons, List.length_nil, Nat.reduceAdd, Nat.reduceSub, Array.replicate_succ, Array.replicate_zero, List.push_toArray, List.append_toArray, List.nil_append, List.cons_append]
  gi_wp2_with (refine ⟨trivial, ?_⟩; gi_at_call 65; refine (back_in _ _ _ _ _).mono ?_; rintro e w' ⟨rfl, rfl⟩)
  have hB0 : Below w.heap.size w (((w.alloc (.cells #[.int .u8 (k1.toNat : Int), .int .u8 (k2.toNat : Int), .int .u8 (k3.toNat : Int), .int .u8 (k4.toNat : Int)] 49)).alloc (.cells #[.bool false, .int .i64 0] 51)).alloc (.cells #[.slice a ps.length cap] 29)) := (((Below.refl _ w).alloc (Nat.le_refl _) _).alloc (by simp) _).alloc (by simp; omega) _
  have hbox : ((((w.alloc (.cells #[.int .u8 (k1.toNat : Int), .int .u8 (k2.toNat : Int), .int .u8 (k3.toNat : Int), .int .u8 (k4.toNat : Int)] 49)).alloc (.cells #[.bool false, .int .i64 0] 51)).alloc (.cells #[.slice a ps.length cap] 29))).cell? ⟨w.heap.size + 1 + 1, 0, none⟩ = some (.slice a ps.length cap) := by
    have := new_cell ((w.alloc (.cells #[.int .u8 (k1.toNat : Int), .int .u8 (k2.toNat : Int), .int .u8 (k3.toNat : Int), .int .u8 (k4.toNat : Int)] 49)).alloc (.cells #[.bool false, .int .i64 0] 51)) [.slice a ps.length cap] 29 0 _ rfl
    simp only [World.size_alloc] at this
    exact this
  have hkb : ((((w.alloc (.cells #[.int .u8 (k1.toNat : Int), .int .u8 (k2.toNat : Int), .int .u8 (k3.toNat : Int), .int .u8 (k4.toNat : Int)] 49)).alloc (.cells #[.bool false, .int .i64 0] 51)).alloc (.cells #[.slice a ps.length cap] 29))).heap[w.heap.size]? = some (.cells #[.int .u8 (k1.toNat : Int), .int .u8 (k2.toNat : Int), .int .u8 (k3.toNat : Int), .int .u8 (k4.toNat : Int)] 49 (0, 0)) := by
    rw [Below.heap_alloc _ _ _ (by simp; omega), Below.heap_alloc _ _ _ (by simp)]; exact heap_alloc_new w _
  have hrb : ((((w.alloc (.cells #[.int .u8 (k1.toNat : Int), .int .u8 (k2.toNat : Int), .int .u8 (k3.toNat : Int), .int .u8 (k4.toNat : Int)] 49)).alloc (.cells #[.bool false, .int .i64 0] 51)).alloc (.cells #[.slice a ps.length cap] 29))).heap[w.heap.size + 1]? = some (.cells #[.bool false, .int .i64 0] 51 (0, 0)) := by
    rw [Below.heap_alloc _ _ _ (by simp)]
    have := heap_alloc_new (w.alloc (.cells #[.int .u8 (k1.toNat : Int), .int .u8 (k2.toNat : Int), .int .u8 (k3.toNat : Int), .int .u8 (k4.toNat : Int)] 49)) (.cells #[.bool false, .int .i64 0] 51)
    simpa using this
  have hsz3 : ((((w.alloc (.cells #[.int .u8 (k1.toNat : Int), .int .u8 (k2.toNat : Int), .int .u8 (k3.toNat : Int), .int .u8 (k4.toNat : Int)] 49)).alloc (.cells #[.bool false, .int .i64 0] 51)).alloc (.cells #[.slice a ps.length cap] 29))).heap.size = w.heap.size + 1 + 1 + 1 := by simp
  generalize (((w.alloc (.cells #[.int .u8 (k1.toNat : Int), .int .u8 (k2.toNat : Int), .int .u8 (k3.toNat : Int), .int .u8 (k4.toNat : Int)] 49)).alloc (.cells #[.bool false, .int .i64 0] 51)).alloc (.cells #[.slice a ps.length cap] 29)) = w3 at hB0 hbox hkb hrb hsz3 ⊢
  refine wpIn_rangeFunc_ownH rfl (by omega) (gf := 74) (lb := #[.pointer (some ⟨w.heap.size + 1 + 1, 0, none⟩)]) rfl trivial (enters_of Tryz.func74 (by kernel_rfl) rfl)
    (back_stops _ (by omega) (w.heap.size + 1 + 1) w3.heap.size a cap ps w w3 HS.out hB0.size (by omega) (Nat.le_refl _) hB0 hbox) belowK_t (belowK_b (Nat.le_refl _)) (Below.refl _ _) (fun _ => rfl)
    (fun pre W => ((∀ p ∈ pre, p.2.key ≠ (⟨k1, k2, k3, k4⟩ : K4)) ∧ W.heap[w.heap.size]? = some (.cells #[.int .u8 (k1.toNat : Int), .int .u8 (k2.toNat : Int), .int .u8 (k3.toNat : Int), .int .u8 (k4.toNat : Int)] 49 (0, 0)) ∧ W.heap[w.heap.size + 1]? = some (.cells #[.bool false, .int .i64 0] 51 (0, 0))) ∧ (Below w.heap.size w W ∧ w3.heap.size ≤ W.heap.size))
    (fun c pre W => (c = .ret ∧ ∃ ini last, pre = ini ++ [last] ∧ (∀ p ∈ ini, p.2.key ≠ (⟨k1, k2, k3, k4⟩ : K4)) ∧ last.2.key = (⟨k1, k2, k3, k4⟩ : K4) ∧ W.heap[w.heap.size + 1]? = some (.cells #[.bool last.2.val.there, .int .i64 last.2.val.n] 51 (0, 0))) ∧ (Below w.heap.size w W ∧ w3.heap.size ≤ W.heap.size))
    (OwnFrom.and (Own.from (fun s A B row hs hg hr => ⟨hs.1, (grownBy_keeps_cells hg hr hs.2.1 rfl).trans hs.2.1, (grownBy_keeps_cells hg hr hs.2.2 rfl).trans hs.2.2⟩) _) (OwnFrom.and (ownFrom_below (Nat.le_refl _) (by omega)) (fun s A B row hs hg hr => Nat.le_trans hs hg.size)))
    (fun c => OwnFrom.and (Own.from (fun s A B row hs hg hr => by obtain ⟨hc, ini, last, e1, e2, e3, e4⟩ := hs; exact ⟨hc, ini, last, e1, e2, e3, (grownBy_keeps_cells hg hr e4 rfl).trans e4⟩) _) (OwnFrom.and (ownFrom_below (Nat.le_refl _) (by omega)) (fun s A B row hs hg hr => Nat.le_trans hs hg.size)))
    ⟨⟨by simp, hkb, hrb⟩, hB0, Nat.le_refl _⟩
    (fun x a' W => ∃ Bx, w3.heap.size ≤ Bx ∧ W.heap[Bx]? = some (.cells x.2.f.toArray 57 (0, 0)) ∧ a' = { tmps := #[.slice a ps.length cap, .agg #[.int .u8 (k1.toNat : Int), .int .u8 (k2.toNat : Int), .int .u8 (k3.toNat : Int), .int .u8 (k4.toNat : Int)], undef, .pointer (some ⟨w.heap.size, 0, none⟩), .pointer (some ⟨w.heap.size + 1, 0, none⟩), undef, .pointer (some ⟨Bx, 0, none⟩), .slice a ps.length cap, .func (.func 74) #[] #[.pointer (some ⟨w.heap.size + 1 + 1, 0, none⟩)], .int .i64 (x.1 : Int), x.2.v, undef, undef, undef, undef, undef, undef, undef], defers := [] })
    (fun x a' => Own.from (fun s A B row hs hg hr => by obtain ⟨Bx, e1, e2, e3⟩ := hs; exact ⟨Bx, e1, (grownBy_keeps_cells hg hr e2 rfl).trans e2, e3⟩) _) ?assign ?body ?done ?stop
  case assign =>
    rintro l pre ⟨xi, ⟨⟨x1, x2, x3, x4⟩, ⟨x5, x6⟩⟩⟩ W K ⟨⟨hp, h1, h2⟩, hB, hsz⟩ hK
    simp only [Pr.v, Pr.f] at hK ⊢
    have lt1 := (Array.getElem?_eq_some_iff.1 h1).1
    have lt2 := (Array.getElem?_eq_some_iff.1 h2).1
    gi_wp2
    exact hK _ _ ((KeepsOthers.alloc _ _).from _) ((Below.refl _ W).alloc hsz _) ⟨⟨hp, (Below.heap_alloc _ _ _ lt1).trans h1, (Below.heap_alloc _ _ _ lt2).trans h2⟩, hB.alloc hB.size _, by simp; omega⟩ ⟨W.heap.size, hsz, heap_alloc_new W _, rfl⟩
  case body =>
    rintro l pre ⟨xi, ⟨⟨x1, x2, x3, x4⟩, ⟨x5, x6⟩⟩⟩ a' W hl ⟨r, hr⟩ ⟨⟨hp, h1, h2⟩, hB, hsz⟩ ⟨Bx, hBx, hX, rfl⟩ hlt
    simp only [Pr.f, Pr.v] at hX ⊢
    have k0 : W.cell? ⟨w.heap.size, 0, none⟩ = some (.int .u8 (k1.toNat : Int)) := by simp [World.cell?, h1]
    have k1' : W.cell? ⟨w.heap.size, 1, none⟩ = some (.int .u8 (k2.toNat : Int)) := by simp [World.cell?, h1]
    have k2' : W.cell? ⟨w.heap.size, 2, none⟩ = some (.int .u8 (k3.toNat : Int)) := by simp [World.cell?, h1]
    have k3' : W.cell? ⟨w.heap.size, 3, none⟩ = some (.int .u8 (k4.toNat : Int)) := by simp [World.cell?, h1]
    have y0 : W.cell? ⟨Bx, 0, none⟩ = some (.int .u8 (x1.toNat : Int)) := by simp [World.cell?, hX]
    have y1 : W.cell? ⟨Bx, 1, none⟩ = some (.int .u8 (x2.toNat : Int)) := by simp [World.cell?, hX]
    have y2 : W.cell? ⟨Bx, 2, none⟩ = some (.int .u8 (x3.toNat : Int)) := by simp [World.cell?, hX]
    have y3 : W.cell? ⟨Bx, 3, none⟩ = some (.int .u8 (x4.toNat : Int)) := by simp [World.cell?, hX]
    have y4 : W.cell? ⟨Bx, 4, none⟩ = some (.bool x5) := by simp [World.cell?, hX]
    have y5 : W.cell? ⟨Bx, 5, none⟩ = some (.int .i64 x6) := by simp [World.cell?, hX]
    have r0 : W.cell? ⟨w.heap.size + 1, 0, none⟩ = some (.bool false) := by simp [World.cell?, h2]
    have r1 : W.cell? ⟨w.heap.size + 1, 1, none⟩ = some (.int .i64 0) := by simp [World.cell?, h2]
    have f0 : W.frozen? ⟨w.heap.size + 1, 0, none⟩ = false := by simp [World.frozen?, h2]
    have f1 : W.frozen? ⟨w.heap.size + 1, 1, none⟩ = false := by simp [World.frozen?, h2]
    have hq := fun (w : World) => eqK w ⟨x1, x2, x3, x4⟩ ⟨k1, k2, k3, k4⟩
    simp only [K4.v] at hq
    have HX := hid hX
    have H1 := hid h1
    have H2 := hid h2
    clear h1 h2 hX
    by_cases hk : (⟨x1, x2, x3, x4⟩ : K4) = ⟨k1, k2, k3, k4⟩
    · rw [decide_eq_true hk] at hq
      have HK := hid hk
      clear hk
      gi_wp2
      refine ⟨((KeepsOthers.setCell _ _ _).trans (KeepsOthers.setCell _ _ _)).from _, ⟨rfl, pre, _, rfl, hp, HK.out, ?_⟩, ?_, ?_⟩
      · have h2 := H2.out
        simp [World.setCell, Array.getElem?_modify, h2]
      · exact (hB.setCell (p := ⟨w.heap.size + 1, 0, none⟩) (by simp) _).setCell (p := ⟨w.heap.size + 1, 1, none⟩) (by simp) _
      · simpa using hsz
    · rw [decide_eq_false hk] at hq
      have HK := hid hk
      clear hk
      gi_wp2
      refine ⟨KeepsFrom.refl _ _, Below.refl _ _, ⟨fun p hpm => ?_, H1.out, H2.out⟩, hB, hsz⟩
      rcases List.mem_append.1 hpm with hpm | hpm
      · exact hp p hpm
      · simp at hpm; subst hpm; exact HK.out
  case done =>
    rintro D ys W hD rfl ⟨⟨hne, h1, h2⟩, hB, hsz⟩ hK
    have r0 : W.cell? ⟨w.heap.size + 1, 0, none⟩ = some (.bool false) := by simp [World.cell?, h2]
    have r1 : W.cell? ⟨w.heap.size + 1, 1, none⟩ = some (.int .i64 0) := by simp [World.cell?, h2]
    have f0 : W.frozen? ⟨w.heap.size + 1, 0, none⟩ = false := by simp [World.frozen?, h2]
    have f1 : W.frozen? ⟨w.heap.size + 1, 1, none⟩ = false := by simp [World.frozen?, h2]
    have H2 := hid h2
    clear h1 h2
    gi_wp2
    have hK' := (KeepsOthers.setCell (W.setCell ⟨w.heap.size + 1, 0, none⟩ (.bool false)) ⟨w.heap.size + 1, 1, none⟩ (.int .i64 0)).same D _ ((KeepsOthers.setCell W ⟨w.heap.size + 1, 0, none⟩ (.bool false)).same D _ hK rfl) rfl
    have hB' := (hB.setCell (p := ⟨w.heap.size + 1, 0, none⟩) (by simp) (.bool false)).setCell (p := ⟨w.heap.size + 1, 1, none⟩) (by simp) (.int .i64 0)
    have h2' : ((W.setCell ⟨w.heap.size + 1, 0, none⟩ (.bool false)).setCell ⟨w.heap.size + 1, 1, none⟩ (.int .i64 0)).heap[w.heap.size + 1]? = some (.cells #[.bool false, .int .i64 0] 51 (0, 0)) := by
      have h2 := H2.out
      simp [World.setCell, Array.getElem?_modify, h2]
    generalize (W.setCell ⟨w.heap.size + 1, 0, none⟩ (.bool false)).setCell ⟨w.heap.size + 1, 1, none⟩ (.int .i64 0) = W' at hK' hB' h2' ⊢
    refine ⟨by simp, .inl ⟨_, _, rfl, run_takeDeferred hK', ?_⟩⟩
    have h2'' := (grownBy_keeps_cells (grownBy_putObj' W' D (.deferred none)) (fun r e => by cases e; exact ⟨_, hK', rfl⟩) h2' rfl).trans h2'
    have c0 : (W'.putObj D (.deferred none)).cell? ⟨w.heap.size + 1, 0, none⟩ = some (.bool false) := by simp [World.cell?, h2'']
    have c1 : (W'.putObj D (.deferred none)).cell? ⟨w.heap.size + 1, 1, none⟩ = some (.int .i64 0) := by simp [World.cell?, h2'']
    refine ⟨V.zero.v, ?_, ?_, Kept.of_below (hB'.trans (belowK_b (w := w) (Nat.le_refl _) _ D _ _ (by omega) hK' rfl rfl)) (Nat.le_refl _) []⟩
    · simp [results, Tryz.f43, go_sem, c0, c1, V.v, V.zero]
    · have : findP ps ⟨k1, k2, k3, k4⟩ = V.zero := by
        unfold findP lastP
        rw [← List.take_of_length_le (l := ps.reverse) (i := ps.length) (by simp), ← bto_fst ps ps.length (Nat.le_refl _), getP_none fun q hq => by obtain ⟨p, hp, rfl⟩ := List.mem_map.1 hq; exact hne p hp]
        rfl
      rw [this]
  case stop =>
    rintro D c pre W hD ⟨kk, hkk, hpre⟩ ⟨⟨rfl, ini, last, e1, e2, e3, e4⟩, hB, hsz⟩ hK
    gi_wp2
    refine ⟨by simp, .inl ⟨_, _, rfl, run_takeDeferred hK, ?_⟩⟩
    have h2'' := (grownBy_keeps_cells (grownBy_putObj' W D (.deferred none)) (fun r e => by cases e; exact ⟨_, hK, rfl⟩) e4 rfl).trans e4
    have c0 : (W.putObj D (.deferred none)).cell? ⟨w.heap.size + 1, 0, none⟩ = some (.bool last.2.val.there) := by simp [World.cell?, h2'']
    have c1 : (W.putObj D (.deferred none)).cell? ⟨w.heap.size + 1, 1, none⟩ = some (.int .i64 last.2.val.n) := by simp [World.cell?, h2'']
    refine ⟨last.2.val.v, ?_, ?_, Kept.of_below (hB.trans (belowK_b (w := w) (Nat.le_refl _) _ D _ _ (by omega) hK rfl rfl)) (Nat.le_refl _) []⟩
    · simp [results, Tryz.f43, go_sem, c0, c1, V.v]
    · have : findP ps ⟨k1, k2, k3, k4⟩ = last.2.val := by
        have hb := bto_fst ps kk hkk
        rw [← hpre, e1] at hb
        unfold findP lastP
        rw [← List.take_append_drop kk ps.reverse, ← hb, List.map_append, getP_append, getP_append, getP_none (l := ini.map (·.2)) (fun q hq => by obtain ⟨p, hp, rfl⟩ := List.mem_map.1 hq; exact e2 p hp)]
        simp [getP, e3]
      rw [this]
--@@ end
end Go.Proofs.YtpcpeoejcnndhaaGreat
namespace Go.Proofs.YtpcpeoejcnndhaaGreat
open Go.RowKit Go.Proofs
theorem heap_setCells_at {e : TypeId} {fr : Nat × Nat} (g : Nat) : ∀ (vs : List Value) (o : Nat) (w : World) (cur : Array Value), w.heap[g]? = some (.cells cur e fr) → o + vs.length ≤ cur.size →
    ∃ cur', (w.setCells g o vs).heap[g]? = some (.cells cur' e fr) ∧ cur'.size = cur.size ∧ cur'.toList = cur.toList.take o ++ (vs ++ cur.toList.drop (o + vs.length))
  | [], o, w, cur, h, _ => ⟨cur, h, rfl, by simp⟩
  | v :: vs, o, w, cur, h, hl => by
    have h1 : (w.setCell ⟨g, o, none⟩ v).heap[g]? = some (.cells (cur.setIfInBounds o v) e fr) := by simp [World.setCell, Array.getElem?_modify, h]
    simp only [List.length_cons] at hl
    obtain ⟨cur', a1, a2, a3⟩ := heap_setCells_at g vs (o + 1) _ _ h1 (by simp; omega)
    refine ⟨cur', a1, by simpa using a2, ?_⟩
    rw [a3, Array.toList_setIfInBounds]
    have ho : o < cur.toList.length := by simp; omega
    rw [List.take_set, List.drop_set_of_lt (by omega)]
    rw [List.take_succ_eq_append_getElem ho]
    rw [List.set_append]
    have hlt : (cur.toList.take o).length = o := by rw [List.length_take]; omega
    rw [hlt, if_neg (Nat.lt_irrefl _), Nat.sub_self]
    simp only [List.set_cons_zero, List.append_assoc, List.cons_append, List.nil_append, List.length_cons]
    rw [show o + 1 + vs.length = o + (vs.length + 1) by omega]
theorem ownsRow_put {w : World} {base n size g cap : Nat} {e : TypeId} {xs : List Value} (h : w.ownsRow base e size (.slice (some ⟨g, 0, none⟩) n cap) n xs) (i : Nat) (hi : i < n) (us : List Value) (hu : us.length = size) :
    (w.setCells g (i * size) us).ownsRow base e size (.slice (some ⟨g, 0, none⟩) n cap) n (xs.take (i * size) ++ (us ++ xs.drop (i * size + size))) ∧ w.there g (i * size) size ∧ base ≤ g := by
  rcases h.2 with ⟨h0, _⟩ | ⟨g', cap', cur, hv, hb, hg, hn, hc, hs, ht⟩
  · cases h0
  cases hv
  have hle : i * size + size ≤ n * size := by rw [← Nat.succ_mul]; exact Nat.mul_le_mul_right _ hi
  have hle2 : n * size ≤ cap * size := Nat.mul_le_mul_right _ hn
  obtain ⟨cur', a1, a2, a3⟩ := heap_setCells_at g us (i * size) w cur hg (by omega)
  refine ⟨⟨?_, .inr ⟨g, cap, cur', rfl, hb, a1, hn, hc, by rw [a2, hs], ?_⟩⟩, fun j hj => ⟨?_, ?_⟩, hb⟩
  · have := h.1
    simp only [List.length_append, List.length_take, List.length_drop]
    omega
  · rw [a3, hu, ← ht]
    have l1 : (cur.toList.take (i * size)).length = i * size := by rw [List.length_take]; simp; omega
    rw [List.take_append, l1, List.take_append, hu, List.take_of_length_le (l := cur.toList.take (i * size)) (by rw [l1]; omega), List.take_of_length_le (l := us) (by omega)]
    rw [List.take_take, Nat.min_eq_left (by omega), List.take_drop]
    rw [show i * size + size + (n * size - i * size - size) = n * size by omega]
  · rw [cell_of_row w g _ cur e (0, 0) hg, Array.getElem?_eq_getElem (by omega)]; rfl
  · simp [World.frozen?, hg]
theorem ownsRow_base {w : World} {base base' n size : Nat} {e : TypeId} {v : Value} {xs : List Value} (h : w.ownsRow base e size v n xs) (hb : base' ≤ base) : w.ownsRow base' e size v n xs := by
  refine ⟨h.1, ?_⟩
  rcases h.2 with hn | ⟨g, cap, cur, h1, h2, h3⟩
  · exact .inl hn
  · exact .inr ⟨g, cap, cur, h1, Nat.le_trans hb h2, h3⟩
theorem Kept.setCells {S : List Nat} {a : World} (g : Nat) (hg : g ∈ S ∨ a.heap.size ≤ g) : ∀ (vs : List Value) (o : Nat) {w : World}, Kept S a w → Kept S a (w.setCells g o vs)
  | [], _, _, h => h
  | v :: vs, o, w, h => Kept.setCells g hg vs (o + 1) (h.setCell (p := ⟨g, o, none⟩) hg v)
section
variable {P : Program} {w : World} {o : Oper} {a : Act} {K : Act → World → Prop} {Q : Exit → Act → World → Prop}
theorem wp_append_part (s x : Operand) (t : TypeId)
    (ho : o.op = .call { callee := .builtin .append, args := #[s, x], argTypes := #[t, t] })
    (e : TypeId) (z : Value) (size bytes : Nat) (ht : P.underlying t = some (.slice e)) (hi : (P.info? e).map (fun i => (i.zero, i.size, i.bytes)) = some (some z, size, bytes))
    (hzs : z.cells.size = size) (hsz : 0 < size) (hby : 0 < bytes) (base : Nat)
    (b : Addr) (n : Nat) (xs : List Value) (hs : a.eval s = .slice (some b) n n) (hlx : xs.length = n * size) (hxs : ∀ j u, xs[j]? = some u → w.cell? (b.add j) = some u)
    (ad : Addr) (m c : Nat) (news : List Value) (hm : 0 < m) (hx : a.eval x = .slice (some ad) m c) (hl : news.length = m * size) (hnews : ∀ j u, news[j]? = some u → w.cell? (ad.add j) = some u)
    (hbytes : (n + m) * bytes ≤ 140737488355328) (hbase : base ≤ w.heap.size)
    (h : ∀ v' w', w'.ownsRow base e size v' (n + m) (xs ++ news) → Kept [] w w' → v' ≠ .slice none 0 0 → K (a.put o.dst v') w') : o.wp P a w K Q := by
  obtain ⟨i, hi, hz0, hz1, hz2⟩ := info_parts hi
  have h63 : n + m ≤ 140737488355328 := by
    have := Nat.le_mul_of_pos_right (n + m) hby
    omega
  have hfit := growslice_fits (need := n + m) (old := n) (bytes := i.bytes) (by omega) (by rw [hz2]; exact hbytes)
  have hr := run_append_grow (P := P) (w := w) t o.type e i z ht hi hz0 b n n xs (by rw [hlx, hz1]) hxs ad m c news (by rw [hl, hz1]) hnews (by omega) (by omega) hfit
  unfold Oper.wp execOp
  simp only [ho, resolve, invoke, builtin, Sem.run_bind, Sem.run_pure, Result.andThen_ok, List.map_toArray, List.map_cons, List.map_nil, hs, hx, hr]
  have hlen : (xs ++ news).length = (n + m) * size := by rw [List.length_append, hlx, hl, Nat.add_mul]
  have hge := grownCap_ge w (n + m) n e
  have hcm : grownCap w (n + m) n e ≤ maxLen := grownCap_le_maxLen w (n + m) n e (by unfold maxLen; omega)
  refine h _ _ ⟨hlen, .inr ⟨w.heap.size, _, _, rfl, hbase, heap_alloc_new w.drew _, hge, hcm, ?_, ?_⟩⟩ (((Kept.refl [] w).drew).alloc _) (fun e => by cases e)
  · simp only [Array.size_append, List.size_toArray, size_zeroCells, hzs, hlx, hl, ← Nat.add_mul]
    congr 1
    omega
  · simp only [Array.toList_append, List.append_assoc]
    rw [← List.append_assoc, ← hlen]
    exact List.take_left
end
def wsum (l : List (Int × Wk)) : Nat := (l.map fun q => q.2.ws.length).sum
structure PlLe (p : Pl) (k : Nat) : Prop where
  a : p.base.length + wsum p.works ≤ k
  t : p.taken.length ≤ k
  l : p.left ≤ 65535
  n : p.works.length ≤ k
theorem PlLe.zero : PlLe p0 0 := ⟨Nat.le_refl _, Nat.le_refl _, by decide, Nat.le_refl _⟩
theorem wsum_mem : ∀ {l : List (Int × Wk)} {q : Int × Wk}, q ∈ l → q.2.ws.length ≤ wsum l
  | p :: l, q, h => by
    simp only [wsum, List.map_cons, List.sum_cons]
    rcases List.mem_cons.1 h with rfl | h
    · omega
    · have := wsum_mem h
      simp only [wsum] at this; omega
theorem PlLe.base {p : Pl} {k : Nat} (H : PlLe p k) : p.base.length ≤ k := by have := H.a; omega
theorem PlLe.work {p : Pl} {k : Nat} (H : PlLe p k) : ∀ q ∈ p.works, q.2.ws.length ≤ k := fun q hq => by have := H.a; have := wsum_mem hq; omega
theorem wsum_put (tx : Int) (w : Wk) : ∀ l : List (Int × Wk), wsum (aput tx w l) + (getW l tx).ws.length = wsum l + w.ws.length
  | [] => by simp [aput, wsum, getW, aget, Wk.none]
  | p :: l => by
    have ih := wsum_put tx w l
    simp only [aput]
    by_cases h : p.1 = tx
    · simp only [h, if_true, wsum, List.map_cons, List.sum_cons, getW, aget, Option.getD_some]; omega
    · simp only [if_neg h, wsum, List.map_cons, List.sum_cons, getW, aget] at ih ⊢; omega
theorem wsum_del (tx : Int) : ∀ l : List (Int × Wk), wsum (adel tx l) ≤ wsum l
  | [] => Nat.le_refl _
  | p :: l => by
    have ih := wsum_del tx l
    simp only [adel]
    split
    · simp [wsum]
    · simp only [wsum, List.map_cons, List.sum_cons] at ih ⊢; omega
theorem keysP_length (l : List Pr) : (keysP l).length ≤ l.length := by
  have ins : ∀ (p : Pr) (l : List Pr), (insP p l).length ≤ l.length + 1 := fun p l => by
    induction l with
    | nil => simp [insP]
    | cons q l ih =>
      unfold insP
      split
      · simp; omega
      · split <;> simp
  have key : ∀ (l m : List Pr), (l.foldl (fun out p => insP p out) m).length ≤ m.length + l.length := fun l => by
    induction l with
    | nil => intro m; simp
    | cons p l ih => intro m; have h1 := ih (insP p m); have h2 := ins p m; simp only [List.foldl_cons, List.length_cons]; omega
  have := key l []
  simpa [keysP] using this
theorem sortP_length (l : List Pr) : (sortP l).length ≤ l.length := Nat.le_trans (List.length_filter_le _ _) (keysP_length l)
theorem aput_length {α β : Type} [DecidableEq α] (k : α) (v : β) : ∀ l : List (α × β), (aput k v l).length ≤ l.length + 1
  | [] => by simp [aput]
  | p :: l => by
    simp only [aput]
    split
    · simp
    · have := aput_length k v l
      simp only [List.length_cons]; omega
theorem whole_le {p : Pl} {k : Nat} (H : PlLe p k) : PlLe (wholeP p) k := by
  unfold wholeP
  split
  · refine ⟨?_, H.t, (show (-1 : Int) ≤ 65535 by decide), Nat.zero_le _⟩
    have := sortP_length p.taken
    have := H.t
    simp [wsum]; omega
  · exact H
theorem PlLe.put {p : Pl} {k : Nat} (H : PlLe p k) {tx : Int} {w : Wk} {j : Nat} (hw : w.ws.length ≤ (getW p.works tx).ws.length + j) {l : Int} (hl : l ≤ 65535) (hj : 1 ≤ j) : PlLe ⟨p.base, aput tx w p.works, l, p.taken⟩ (k + j) := by
  refine ⟨?_, Nat.le_trans H.t (Nat.le_add_right _ _), hl, by have := aput_length tx w p.works; have := H.n; dsimp only; omega⟩
  have := wsum_put tx w p.works
  have := H.a
  dsimp only; omega
theorem one_le {p : Pl} {r : Rc} {k : Nat} (H : PlLe p k) (hm : r.mask ≤ 65535) : PlLe (oneP p r) (k + 1) := by
  unfold oneP
  split
  · refine whole_le ⟨?_, by simp, ?_, Nat.le_succ_of_le H.n⟩
    · have := H.a; dsimp only; omega
    · dsimp only; omega
  · split
    · split
      · refine whole_le ⟨?_, ?_, ?_, Nat.le_succ_of_le H.n⟩
        · have := H.a; dsimp only; omega
        · have := H.t; simp; omega
        · have := H.l; dsimp only; omega
      · exact ⟨Nat.le_succ_of_le H.a, Nat.le_succ_of_le H.t, H.l, Nat.le_succ_of_le H.n⟩
    · split
      · refine H.put ?_ (by decide) (Nat.le_refl 1)
        unfold writeW
        split
        · exact aput_length _ _ _
        · omega
      · split
        · refine H.put (j := 1) ?_ (by decide) (Nat.le_refl 1)
          unfold yesW
          split <;> (try dsimp only) <;> omega
        · split
          · have h1 := wsum_put r.tx (commitW p.base (getW p.works r.tx)).2 p.works
            have h2 := H.a
            refine ⟨?_, Nat.le_succ_of_le H.t, (show (-1 : Int) ≤ 65535 by decide), by have := aput_length r.tx (commitW p.base (getW p.works r.tx)).2 p.works; have := H.n; dsimp only; omega⟩
            dsimp only
            unfold commitW at h1 ⊢
            split
            · rename_i h
              rw [if_pos h] at h1
              dsimp only at h1 ⊢; omega
            · rename_i h
              rw [if_neg h] at h1
              dsimp only at h1 ⊢
              have h3 := sortP_length (p.base ++ keysP ((getW p.works r.tx).ws.map toPr))
              have h4 := keysP_length ((getW p.works r.tx).ws.map toPr)
              rw [List.length_append] at h3
              rw [List.length_map] at h4
              simp only [List.length_nil] at h1
              omega
          · split
            · refine ⟨?_, Nat.le_succ_of_le H.t, (show (-1 : Int) ≤ 65535 by decide), Nat.le_succ_of_le (Nat.le_trans (tdel_sub r.tx p.works).length_le H.n)⟩
              have := wsum_del r.tx p.works
              have := H.a
              dsimp only; omega
            · exact ⟨Nat.le_succ_of_le H.a, Nat.le_succ_of_le H.t, (show (-1 : Int) ≤ 65535 by decide), Nat.le_succ_of_le H.n⟩
def stepP (p : Pl) (r : Rc) : Pl := if r.right = true then oneP p r else p
theorem play_step (p : Pl) : ∀ l : List Rc, playP p l = l.foldl stepP p := fun l => by
  induction l generalizing p with
  | nil => rfl
  | cons r l ih =>
    rw [List.foldl_cons, ← ih]
    unfold playP stepP
    by_cases h : r.right = true
    · rw [List.filter_cons_of_pos h, if_pos h]; rfl
    · rw [List.filter_cons_of_neg h, if_neg h]
theorem play_take {p : Pl} {l : List Rc} {k : Nat} (hk : k < l.length) : playP p (l.take (k + 1)) = stepP (playP p (l.take k)) l[k] := by
  rw [play_step, play_step, List.take_succ_eq_append_getElem hk, List.foldl_append]; rfl
theorem play_le {p : Pl} {k : Nat} (H : PlLe p k) : ∀ l : List Rc, (∀ r ∈ l, r.mask ≤ 65535) → PlLe (playP p l) (k + l.length) := fun l => by
  induction l generalizing p k with
  | nil => intro _; exact H
  | cons r l ih =>
    intro h
    rw [play_step, List.foldl_cons, ← play_step]
    have h1 : PlLe (stepP p r) (k + 1) := by
      unfold stepP
      split
      · exact one_le H (h r List.mem_cons_self)
      · exact ⟨Nat.le_succ_of_le H.a, Nat.le_succ_of_le H.t, H.l, Nat.le_succ_of_le H.n⟩
    have := ih h1 fun x hx => h x (List.mem_cons_of_mem _ hx)
    rw [List.length_cons, show k + (l.length + 1) = k + 1 + l.length by omega]
    exact this
theorem perm_sum {l m : List Nat} (h : l.Perm m) : l.sum = m.sum := by
  induction h with
  | nil => rfl
  | cons x _ ih => simp [ih]
  | swap x y l => simp only [List.sum_cons]; omega
  | trans _ _ a b => exact a.trans b
theorem txOf_len {ws : List (Int × Wk)} {n : Int} {x : Txp} (h : txOf ws n = some x) : x.ws.length ≤ (getW ws n).ws.length := by
  unfold txOf at h
  split at h
  · injection h with h; rw [← h]
    have := keysP_length ((getW ws n).ws.map toPr)
    rw [List.length_map] at this
    exact this
  · cases h
theorem sum_txs (ws : List (Int × Wk)) : ∀ ns : List Int, ((ns.filterMap (txOf ws)).map fun x => x.ws.length).sum ≤ (ns.map fun n => (getW ws n).ws.length).sum ∧ (ns.filterMap (txOf ws)).length ≤ ns.length
  | [] => ⟨Nat.le_refl _, Nat.le_refl _⟩
  | n :: ns => by
    have ih := sum_txs ws ns
    cases hx : txOf ws n with
    | none => rw [List.filterMap_cons_none hx, List.map_cons, List.sum_cons, List.length_cons]; omega
    | some x =>
      have := txOf_len hx
      rw [List.filterMap_cons_some hx, List.map_cons, List.sum_cons, List.map_cons, List.sum_cons, List.length_cons, List.length_cons]; omega
theorem out_len {p : Pl} (hn : (p.works.map (·.1)).Nodup) : ((outP p).txs.map fun x => x.ws.length).sum ≤ wsum p.works ∧ (outP p).txs.length ≤ p.works.length := by
  have h := sum_txs p.works (srtI (p.works.map (·.1)))
  have hp := srtI_perm (p.works.map (·.1))
  rw [perm_sum (hp.map _), hp.length_eq, List.length_map, List.map_map] at h
  have he : (p.works.map ((fun n => (getW p.works n).ws.length) ∘ fun x => x.1)) = p.works.map fun q => q.2.ws.length := by
    refine List.map_congr_left fun q hq => ?_
    show (getW p.works q.1).ws.length = _
    unfold getW
    rw [tget_of_mem (v := q.2) hn hq]; rfl
  rw [he] at h
  exact h
theorem recsT_len (b : List Pr) (x : Txp) : (recsT b x).length ≤ x.ws.length + 2 := by
  unfold recsT
  split <;> simp
theorem flat_len (b : List Pr) : ∀ l : List Txp, (l.flatMap (recsT b)).length ≤ (l.map fun x => x.ws.length).sum + 2 * l.length
  | [] => by simp
  | x :: l => by
    have := flat_len b l
    have := recsT_len b x
    rw [List.flatMap_cons, List.length_append, List.map_cons, List.sum_cons, List.length_cons]; omega
theorem recs_len (s : Stp) : (recsS s).length ≤ 1 + s.base.length + (s.txs.map fun x => x.ws.length).sum + 2 * s.txs.length := by
  have := flat_len s.base s.txs
  unfold recsS
  rw [List.length_cons, List.length_append, List.length_map]; omega
theorem replay_le (l : List Rc) (hm : ∀ r ∈ l, r.mask ≤ 65535) : (replayP l).base.length + ((replayP l).txs.map fun x => x.ws.length).sum ≤ l.length ∧ (replayP l).txs.length ≤ l.length := by
  have h := play_le PlLe.zero l hm
  rw [Nat.zero_add] at h
  have h2 := out_len (play_ok PlOk.zero l).kn
  have h3 := h.a
  have h4 := h.n
  refine ⟨?_, Nat.le_trans h2.2 h4⟩
  have : (replayP l).base = (playP p0 l).base := rfl
  rw [this]
  have h5 : ((replayP l).txs.map fun x => x.ws.length).sum ≤ wsum (playP p0 l).works := h2.1
  omega
theorem replay_recs_le (l : List Rc) (hm : ∀ r ∈ l, r.mask ≤ 65535) : (recsS (replayP l)).length ≤ 1 + 3 * l.length := by
  have := recs_len (replayP l)
  have := replay_le l hm
  omega
def MsLe (p : Pl) : Prop := ∀ q ∈ p.works, q.2.mask ≤ 65535
theorem MsLe.get {p : Pl} (H : MsLe p) (tx : Int) : (getW p.works tx).mask ≤ 65535 := by
  unfold getW
  cases h : aget tx p.works with
  | none => exact Nat.zero_le _
  | some w => exact H _ (tget_mem h)
theorem MsLe.put {p : Pl} (H : MsLe p) {tx : Int} {w : Wk} (hw : w.mask ≤ 65535) {b t : List Pr} {l : Int} : MsLe ⟨b, aput tx w p.works, l, t⟩ := fun q hq => by
  rcases tput_mem hq with rfl | hq
  · exact hw
  · exact H q hq
theorem MsLe.whole {p : Pl} (H : MsLe p) : MsLe (wholeP p) := by
  unfold wholeP
  split
  · exact fun q hq => (by cases hq)
  · exact H
theorem MsLe.one {p : Pl} (H : MsLe p) {r : Rc} (hr : r.mask ≤ 65535) : MsLe (oneP p r) := by
  have hg := H.get r.tx
  unfold oneP
  split
  · exact MsLe.whole (p := ⟨_, p.works, _, _⟩) H
  · split
    · split
      · exact MsLe.whole (p := ⟨_, p.works, _, _⟩) H
      · exact H
    · split
      · refine H.put ?_
        unfold writeW
        split
        · exact hg
        · exact hg
      · split
        · refine H.put ?_
          unfold yesW
          split
          · exact hr
          · exact hg
        · split
          · refine H.put ?_
            unfold commitW
            split
            · exact hg
            · exact hg
          · split
            · exact fun q hq => H q ((tdel_sub r.tx p.works).subset hq)
            · exact H
theorem play_ms {p : Pl} (H : MsLe p) : ∀ l : List Rc, (∀ r ∈ l, r.mask ≤ 65535) → MsLe (playP p l) := fun l => by
  induction l generalizing p with
  | nil => intro _; exact H
  | cons r l ih =>
    intro h
    rw [play_step, List.foldl_cons, ← play_step]
    refine ih ?_ fun x hx => h x (List.mem_cons_of_mem _ hx)
    unfold stepP
    split
    · exact H.one (h r List.mem_cons_self)
    · exact H
theorem replay_ms (l : List Rc) (hm : ∀ r ∈ l, r.mask ≤ 65535) : ∀ x ∈ (replayP l).txs, x.mask ≤ 65535 := fun x hx => by
  have H := play_ms (p := p0) (fun q hq => by cases hq) l hm
  obtain ⟨n, _, hn⟩ := List.mem_filterMap.1 hx
  unfold txOf at hn
  split at hn
  · injection hn with hn
    rw [← hn]
    exact H.get n
  · cases hn
theorem recs_ms {s : Stp} (hb : s.base.length ≤ 65535) (hx : ∀ x ∈ s.txs, x.mask ≤ 65535) : ∀ r ∈ recsS s, r.mask ≤ 65535 := fun r hr => by
  unfold recsS at hr
  rcases List.mem_cons.1 hr with rfl | hr
  · exact hb
  · rcases List.mem_append.1 hr with hr | hr
    · obtain ⟨p, _, rfl⟩ := List.mem_map.1 hr
      exact Nat.zero_le _
    · obtain ⟨x, hx', hr⟩ := List.mem_flatMap.1 hr
      unfold recsT at hr
      rcases List.mem_append.1 hr with hr | hr
      · obtain ⟨p, _, rfl⟩ := List.mem_map.1 hr
        exact Nat.zero_le _
      · rcases List.mem_cons.1 hr with rfl | hr
        · exact hx x hx'
        · split at hr
          · rw [List.mem_singleton] at hr
            subst hr
            exact Nat.zero_le _
          · cases hr
end Go.Proofs.YtpcpeoejcnndhaaGreat
namespace Go.Proofs.YtpcpeoejcnndhaaGreat
open Go.RowKit Go.Shelf Go.Lib Go.Sort Go.Proofs
theorem PrAt.kept_of {S : List Nat} {w w' : World} {v : Value} {l : List Pr} (h : PrAt w v l) (hk : Kept S w w') (hS : ∀ a n c, v = .slice (some a) n c → 0 < n → a.block ∉ S) : PrAt w' v l := by
  refine ⟨?_, h.sp, h.nl⟩
  obtain ⟨a, cap, h1, h2, h3, h4⟩ := h.at'.ex
  refine ⟨a, cap, h1, h2, h3, fun hn => ?_⟩
  obtain ⟨b, off, h5, h6, h7⟩ := h4 hn
  subst h5
  exact ⟨b, off, rfl, Nat.lt_of_lt_of_le h6 hk.size, fun j u hu => hk.cell (h7 j u hu) (hS _ _ _ h1 hn)⟩
theorem own_from {w : World} {base n : Nat} {e : TypeId} {size : Nat} {v : Value} {xs : List Value} (h : w.ownsRow base e size v n xs) : ∀ a m c, v = .slice (some a) m c → 0 < m → base ≤ a.block := fun a m c hv hm => by
  rcases h.2 with ⟨h1, _⟩ | ⟨g, cap, cur, h1, hb, _⟩
  · rw [h1] at hv; cases hv
  · rw [h1] at hv; cases hv; exact hb
structure PrF (lo : Nat) (w : World) (v : Value) (l : List Pr) : Prop extends PrAt w v l where
  fr : ∀ a n c, v = .slice (some a) n c → 0 < n → lo ≤ a.block
theorem PrF.kept {lo : Nat} {w w' : World} {v : Value} {l : List Pr} (h : PrF lo w v l) (hk : Kept [] w w') : PrF lo w' v l := ⟨h.toPrAt.kept hk, h.fr⟩
theorem PrF.kept_of {lo : Nat} {S : List Nat} {w w' : World} {v : Value} {l : List Pr} (h : PrF lo w v l) (hk : Kept S w w') (hS : ∀ a n c, v = .slice (some a) n c → 0 < n → a.block ∉ S) : PrF lo w' v l := ⟨h.toPrAt.kept_of hk hS, h.fr⟩
theorem PrF.mono {lo lo' : Nat} {w : World} {v : Value} {l : List Pr} (h : PrF lo w v l) (hl : lo' ≤ lo) : PrF lo' w v l := ⟨h.toPrAt, fun a n c hv hn => Nat.le_trans hl (h.fr a n c hv hn)⟩
theorem PrAt.far {w : World} {v : Value} {l : List Pr} (h : PrAt w v l) {b : Nat} (hb : ∀ o, 4 ≤ o → w.cell? ⟨b, o, none⟩ = none) : ∀ a n c, v = .slice (some a) n c → 0 < n → a.block ≠ b := by
  rintro a n c rfl hn rfl
  obtain ⟨a', cap, h1, h2, h3, h4⟩ := h.at'.ex
  cases h1
  obtain ⟨b, off, h5, h6, h7⟩ := h4 hn
  cases h5
  have hl : 4 < (l.flatMap Pr.f).length := by rw [h3]; omega
  have := h7 4 _ (List.getElem?_eq_getElem hl)
  rw [hb _ (by omega)] at this
  cases this
theorem PrAt.lt {w : World} {v : Value} {l : List Pr} (h : PrAt w v l) : ∀ a n c, v = .slice (some a) n c → 0 < n → a.block < w.heap.size := by
  rintro a n c rfl hn
  obtain ⟨a', cap, h1, h2, h3, h4⟩ := h.at'.ex
  cases h1
  obtain ⟨b, off, h5, h6, h7⟩ := h4 hn
  cases h5
  exact h6
theorem small_map {w : World} {b : Nat} {α : Type} {ek : α → Value} {l : List (α × Value)} (h : MapIs w b ek l) : ∀ o, 4 ≤ o → w.cell? ⟨b, o, none⟩ = none := fun o _ => by
  obtain ⟨es, clock, hb, _⟩ := h.ex
  simp [World.cell?, hb]
theorem small_cells {w : World} {b : Nat} {cs : Array Value} {t : TypeId} {fr : Nat × Nat} (h : w.heap[b]? = some (.cells cs t fr)) (hs : cs.size ≤ 4) : ∀ o, 4 ≤ o → w.cell? ⟨b, o, none⟩ = none := fun o ho => by
  simp [World.cell?, h]
  omega
theorem MapIs.run_clear {α : Type} {P : Program} {w : World} {b : Nat} {ek : α → Value} {l : List (α × Value)} {t kt et : TypeId} (h : MapIs w b ek l) (ht : P.underlying t = some (.map kt et)) :
    ∃ w', (∀ ty, (Builtin.clear_ #[t] ty #[.map (some b)]).run P w = .ok (.tuple #[]) w') ∧ MapIs w' b ek [] ∧ Kept [b] w w' := by
  obtain ⟨es, clock, hb, he, _⟩ := h.ex
  have hlt := (Array.getElem?_eq_some_iff.1 hb).1
  refine ⟨{ w with heap := w.heap.setIfInBounds b (.map #[] clock) }, fun ty => ?_, ⟨#[], clock, by simp [hlt], rfl, by simp, by simp⟩, kept_set w b _⟩
  unfold Builtin.clear_
  simp only [List.getElem?_toArray, List.getElem?_cons_zero, Sem.run_bind, run_underlying ht, Result.andThen_ok, getObj_map hb, setObj_map hb, Sem.run_pure]
theorem wpList_clear_st {α : Type} {P : Program} {ek : α → Value} {w : World} {ops : Array Oper} {rest : List Oper} {o : Oper} {a : Act} {Q : Exit → Act → World → Prop}
    (hg : o.guard = none) (m : Operand) (t : TypeId) (hop : o.op = .call { callee := .builtin .clear, args := #[m], argTypes := #[t] })
    (kt et : TypeId) (ht : P.underlying t = some (.map kt et))
    (h : ∃ b l, a.eval m = .map (some b) ∧ MapIs w b ek l ∧ ∀ w', MapIs w' b ek [] → Kept [b] w w' → wpList P ops Q rest (a.put o.dst (.tuple #[])) w') :
    wpList P ops Q (o :: rest) a w := by
  obtain ⟨b, l, hm, hM, hK⟩ := h
  refine wpList_plain hg fun K' hK' => ?_
  obtain ⟨w', hrun, r1, r2⟩ := hM.run_clear ht
  unfold Oper.wp execOp
  simp only [hop, resolve, invoke, builtin, Sem.run_bind, Sem.run_pure, Result.andThen_ok, List.map_toArray, List.map_cons, List.map_nil, hm, hrun]
  exact hK' _ _ (hK w' r1 r2)
theorem mem_aputK {α β : Type} [DecidableEq α] {k : α} {v : β} {p : α × β} : ∀ {l : List (α × β)}, (l.map (·.1)).Nodup → p ∈ aput k v l → p = (k, v) ∨ (p ∈ l ∧ p.1 ≠ k)
  | [], _, h => by simp [aput] at h; exact .inl h
  | q :: l, hn, h => by
    simp only [List.map_cons, List.nodup_cons] at hn
    simp only [aput] at h
    by_cases hq : q.1 = k
    · rw [if_pos hq] at h
      rcases List.mem_cons.1 h with h | h
      · exact .inl h
      · exact .inr ⟨List.mem_cons_of_mem _ h, fun e => hn.1 (List.mem_map.2 ⟨p, h, e.trans hq.symm⟩)⟩
    · rw [if_neg hq] at h
      rcases List.mem_cons.1 h with h | h
      · exact .inr ⟨h ▸ List.mem_cons_self, h ▸ hq⟩
      · exact (mem_aputK hn.2 h).imp_right fun h => ⟨List.mem_cons_of_mem _ h.1, h.2⟩
theorem aput_sameK {α β : Type} [DecidableEq α] {k : α} {v : β} : ∀ {l : List (α × β)}, aget k l = some v → aput k v l = l
  | [], h => by simp [aget] at h
  | q :: l, h => by
    simp only [aget] at h
    simp only [aput]
    by_cases hq : q.1 = k
    · rw [if_pos hq] at h ⊢
      obtain rfl := Option.some.inj h
      subst hq
      rfl
    · rw [if_neg hq] at h ⊢
      rw [aput_sameK h]
structure Wo where
  b : Nat
  m : Nat
  k : Wk
def wsP (ws : List (Int × Wo)) : List (Int × Value) := ws.map fun x => (x.1, Value.pointer (some ⟨x.2.b, 0, none⟩))
def wsK (ws : List (Int × Wo)) : List (Int × Wk) := ws.map fun x => (x.1, x.2.k)
def Wo.bs (x : Wo) : List Nat := [x.b, x.m]
def playBs (A m : Nat) (ws : List (Int × Wo)) : List Nat := A :: m :: ws.flatMap fun x => x.2.bs
--@@ redo.player
structure WorkIs (w : World) (x : Wo) : Prop where
  blk : w.heap[x.b]? = some (.cells #[.int .u16 (x.k.mask : Int), .bool x.k.com, .map (some x.m)] 81 (0, 0))
  map : MapIs w x.m K4.v (dl x.k.ws)
  nd : (x.k.ws.map (·.1)).Nodup
theorem WorkIs.kept {S : List Nat} {w w' : World} {x : Wo} (H : WorkIs w x) (hk : Kept S w w') (h1 : x.b ∉ S) (h2 : x.m ∉ S) : WorkIs w' x :=
  ⟨(hk.block x.b (Array.getElem?_eq_some_iff.1 H.blk).1 h1).trans H.blk, H.map.kept hk h2, H.nd⟩
theorem WorkIs.lt {w : World} {x : Wo} (H : WorkIs w x) : x.b < w.heap.size ∧ x.m < w.heap.size := ⟨(Array.getElem?_eq_some_iff.1 H.blk).1, H.map.lt⟩
theorem WorkIs.ne {w : World} {x : Wo} (H : WorkIs w x) : x.b ≠ x.m := fun e => by
  obtain ⟨es, clock, hb, _⟩ := H.map.ex
  have := H.blk
  rw [e, hb] at this; cases this
theorem WorkIs.frz {w : World} {x : Wo} (H : WorkIs w x) (o : Nat) : w.frozen? ⟨x.b, o, none⟩ = false := by simp [World.frozen?, H.blk]
theorem WorkIs.cells {w : World} {x : Wo} (H : WorkIs w x) : w.cell? ⟨x.b, 0, none⟩ = some (.int .u16 (x.k.mask : Int)) ∧ w.cell? ⟨x.b, 1, none⟩ = some (.bool x.k.com) ∧ w.cell? ⟨x.b, 2, none⟩ = some (.map (some x.m)) := by
  refine ⟨?_, ?_, ?_⟩ <;> simp [World.cell?, H.blk]
structure TakenIs (w : World) (n0 lo : Nat) (bv tv : Value) (l : List Pr) : Prop where
  own : w.ownsRow lo 57 6 tv l.length (l.flatMap Pr.f)
  low : n0 ≤ lo
  far : ∀ a n c, bv = .slice (some a) n c → 0 < n → a.block < lo
  hi : lo ≤ w.heap.size
structure PlayIs (w : World) (n0 A m : Nat) (bv tv : Value) (lo : Nat) (ws : List (Int × Wo)) (p : Pl) : Prop where
  blk : w.heap[A]? = some (.cells #[bv, .map (some m), .int .i64 p.left, tv] 71 (0, 0))
  base : PrF n0 w bv p.base
  tk : 0 ≤ p.left → TakenIs w n0 lo bv tv p.taken
  map : MapIs w m (Value.int .i64) (wsP ws)
  each : ∀ x ∈ ws, WorkIs w x.2
  eq : p.works = wsK ws
  nd : (playBs A m ws).Nodup
  low : ∀ b ∈ playBs A m ws, n0 ≤ b
  kn : (ws.map (·.1)).Nodup
section
variable {w w' : World} {n0 A m lo : Nat} {bv tv : Value} {ws : List (Int × Wo)} {p : Pl}
theorem PlayIs.cells (H : PlayIs w n0 A m bv tv lo ws p) : w.cell? ⟨A, 0, none⟩ = some bv ∧ w.cell? ⟨A, 1, none⟩ = some (.map (some m)) ∧ w.cell? ⟨A, 2, none⟩ = some (.int .i64 p.left) ∧ w.cell? ⟨A, 3, none⟩ = some tv := by
  refine ⟨?_, ?_, ?_, ?_⟩ <;> simp [World.cell?, H.blk]
theorem PlayIs.frz (H : PlayIs w n0 A m bv tv lo ws p) (o : Nat) : w.frozen? ⟨A, o, none⟩ = false := by simp [World.frozen?, H.blk]
theorem mem_bs {ws : List (Int × Wo)} {x : Int × Wo} (hx : x ∈ ws) {A m : Nat} : x.2.b ∈ playBs A m ws ∧ x.2.m ∈ playBs A m ws := by
  simp only [playBs, List.mem_cons, List.mem_flatMap]
  exact ⟨.inr (.inr ⟨x, hx, by simp [Wo.bs]⟩), .inr (.inr ⟨x, hx, by simp [Wo.bs]⟩)⟩
theorem PlayIs.small (H : PlayIs w n0 A m bv tv lo ws p) : ∀ b ∈ playBs A m ws, ∀ o, 4 ≤ o → w.cell? ⟨b, o, none⟩ = none := fun b hb => by
  simp only [playBs, List.mem_cons, List.mem_flatMap] at hb
  rcases hb with rfl | rfl | ⟨x, hx, hb⟩
  · exact small_cells H.blk (by simp)
  · exact small_map H.map
  · simp only [Wo.bs, List.mem_cons, List.not_mem_nil, or_false] at hb
    rcases hb with rfl | rfl
    · exact small_cells (H.each x hx).blk (by simp)
    · exact small_map (H.each x hx).map
theorem PlayIs.lt (H : PlayIs w n0 A m bv tv lo ws p) : ∀ b ∈ playBs A m ws, b < w.heap.size := fun b hb => by
  simp only [playBs, List.mem_cons, List.mem_flatMap] at hb
  rcases hb with rfl | rfl | ⟨x, hx, hb⟩
  · exact (Array.getElem?_eq_some_iff.1 H.blk).1
  · exact H.map.lt
  · simp only [Wo.bs, List.mem_cons, List.not_mem_nil, or_false] at hb
    rcases hb with rfl | rfl
    · exact (H.each x hx).lt.1
    · exact (H.each x hx).lt.2
theorem PlayIs.base_far (H : PlayIs w n0 A m bv tv lo ws p) {S : List Nat} (hS : ∀ b ∈ S, b ∈ playBs A m ws) : ∀ a n c, bv = .slice (some a) n c → 0 < n → a.block ∉ S := fun a n c hv hn hb =>
  H.base.far (H.small _ (hS _ hb)) a n c hv hn rfl
theorem own_far {w : World} {base n size : Nat} {e : TypeId} {v : Value} {xs : List Value} (h : w.ownsRow base e size v n xs) {b : Nat} (hb : ∀ cs fr, w.heap[b]? ≠ some (.cells cs e fr)) : v.ownBlock ≠ some b := by
  rcases h.2 with ⟨rfl, _⟩ | ⟨g, cap, cur, rfl, _, hg, _⟩
  · intro e; cases e
  · intro e
    cases e
    exact hb _ _ hg
theorem PlayIs.not_pairs (H : PlayIs w n0 A m bv tv lo ws p) : ∀ b ∈ playBs A m ws, ∀ cs fr, w.heap[b]? ≠ some (.cells cs 57 fr) := fun b hb cs fr e => by
  simp only [playBs, List.mem_cons, List.mem_flatMap] at hb
  rcases hb with rfl | rfl | ⟨x, hx, hb⟩
  · rw [H.blk] at e; cases e
  · obtain ⟨es, clock, hb, _⟩ := H.map.ex
    rw [hb] at e; cases e
  · simp only [Wo.bs, List.mem_cons, List.not_mem_nil, or_false] at hb
    rcases hb with rfl | rfl
    · rw [(H.each x hx).blk] at e; cases e
    · obtain ⟨es, clock, hb, _⟩ := (H.each x hx).map.ex
      rw [hb] at e; cases e
theorem ownK_kept {S : List Nat} {w w' : World} {base n size : Nat} {e : TypeId} {v : Value} {xs : List Value} (h : w.ownsRow base e size v n xs) (hk : Kept S w w') (hS : ∀ x, v.ownBlock = some x → x ∉ S) : w'.ownsRow base e size v n xs := by
  refine ⟨h.1, ?_⟩
  rcases h.2 with h1 | ⟨g, cap, cur, rfl, hb, hg, r⟩
  · exact .inl h1
  · exact .inr ⟨g, cap, cur, rfl, hb, (hk.block g (Array.getElem?_eq_some_iff.1 hg).1 (hS g rfl)).trans hg, r⟩
theorem TakenIs.kept {S : List Nat} {l : List Pr} (h : TakenIs w n0 lo bv tv l) (hk : Kept S w w') (hS : ∀ x, tv.ownBlock = some x → x ∉ S) : TakenIs w' n0 lo bv tv l := ⟨ownK_kept h.own hk hS, h.low, h.far, Nat.le_trans h.hi hk.size⟩
theorem PlayIs.taken_far (H : PlayIs w n0 A m bv tv lo ws p) (hl : 0 ≤ p.left) {S : List Nat} (hS : ∀ b ∈ S, b ∈ playBs A m ws) : ∀ x, tv.ownBlock = some x → x ∉ S := fun x hx hb =>
  own_far (H.tk hl).own (H.not_pairs x (hS x hb)) hx
theorem PlayIs.kept (H : PlayIs w n0 A m bv tv lo ws p) (hk : Kept [] w w') : PlayIs w' n0 A m bv tv lo ws p where
  blk := (hk.block A (H.lt A (by simp [playBs])) (by simp)).trans H.blk
  base := H.base.kept hk
  tk := fun hl => (H.tk hl).kept hk (by simp)
  map := H.map.kept hk (by simp)
  each := fun x hx => (H.each x hx).kept hk (by simp) (by simp)
  eq := H.eq
  nd := H.nd
  low := H.low
  kn := H.kn
theorem PlayIs.ne_A (H : PlayIs w n0 A m bv tv lo ws p) : m ≠ A ∧ ∀ x ∈ ws, x.2.b ≠ A ∧ x.2.m ≠ A := by
  have := List.nodup_cons.1 H.nd
  refine ⟨fun e => this.1 (by rw [e]; simp), fun x hx => ⟨fun e => this.1 ?_, fun e => this.1 ?_⟩⟩
  · simp only [List.mem_cons, List.mem_flatMap]; exact .inr ⟨x, hx, by simp [Wo.bs, e]⟩
  · simp only [List.mem_cons, List.mem_flatMap]; exact .inr ⟨x, hx, by simp [Wo.bs, e]⟩
theorem PlayIs.ne_m (H : PlayIs w n0 A m bv tv lo ws p) : ∀ x ∈ ws, x.2.b ≠ m ∧ x.2.m ≠ m := by
  have := List.nodup_cons.1 (List.nodup_cons.1 H.nd).2
  refine fun x hx => ⟨fun e => this.1 ?_, fun e => this.1 ?_⟩
  · simp only [List.mem_flatMap]; exact ⟨x, hx, by simp [Wo.bs, e]⟩
  · simp only [List.mem_flatMap]; exact ⟨x, hx, by simp [Wo.bs, e]⟩
theorem PlayIs.reA (H : PlayIs w n0 A m bv tv lo ws p) {bv' tv' : Value} {lo' : Nat} {b' t' : List Pr} {l' : Int} (hk : Kept [A] w w') (hA : w'.heap[A]? = some (.cells #[bv', .map (some m), .int .i64 l', tv'] 71 (0, 0))) (hb : PrF n0 w' bv' b')
    (ht : 0 ≤ l' → TakenIs w' n0 lo' bv' tv' t') : PlayIs w' n0 A m bv' tv' lo' ws ⟨b', p.works, l', t'⟩ where
  blk := hA
  base := hb
  tk := ht
  map := H.map.kept hk (by simp [H.ne_A.1])
  each := fun x hx => (H.each x hx).kept hk (by simp [(H.ne_A.2 x hx).1]) (by simp [(H.ne_A.2 x hx).2])
  eq := H.eq
  nd := H.nd
  low := H.low
  kn := H.kn
theorem PlayIs.cleared (H : PlayIs w n0 A m bv tv lo ws p) (hk : Kept [m] w w') (hm : MapIs w' m (Value.int .i64) []) : PlayIs w' n0 A m bv tv lo [] ⟨p.base, [], p.left, p.taken⟩ where
  blk := (hk.block A (H.lt A (by simp [playBs])) (by simp [H.ne_A.1.symm])).trans H.blk
  base := H.base.kept_of hk (H.base_far (by simp [playBs]))
  tk := fun hl => (H.tk hl).kept hk (H.taken_far hl (by simp [playBs]))
  map := hm
  each := fun x hx => by cases hx
  eq := rfl
  nd := by simp [playBs, H.ne_A.1.symm]
  low := fun b hb => H.low b (by simp [playBs] at hb ⊢; rcases hb with h | h <;> simp [h])
  kn := List.nodup_nil
theorem bs_aput {tx : Int} {x x' : Wo} (h1 : x'.b = x.b) (h2 : x'.m = x.m) : ∀ {ws : List (Int × Wo)}, aget tx ws = some x → (aput tx x' ws).flatMap (fun x => x.2.bs) = ws.flatMap fun x => x.2.bs
  | [], h => by simp [aget] at h
  | q :: l, h => by
    simp only [aget] at h
    simp only [aput]
    by_cases hq : q.1 = tx
    · rw [if_pos hq] at h ⊢
      obtain rfl := Option.some.inj h
      simp [Wo.bs, h1, h2]
    · rw [if_neg hq] at h ⊢
      simp only [List.flatMap_cons]
      rw [bs_aput h1 h2 h]
theorem wsP_aput {tx : Int} {x x' : Wo} (h1 : x'.b = x.b) {ws : List (Int × Wo)} (h : aget tx ws = some x) : wsP (aput tx x' ws) = wsP ws := by
  unfold wsP
  rw [← aput_map (fun x : Wo => Value.pointer (some ⟨x.b, 0, none⟩))]
  refine aput_sameK ?_
  rw [aget_map (fun x : Wo => Value.pointer (some ⟨x.b, 0, none⟩)), h, h1]
  rfl
theorem wsK_aput (tx : Int) (x : Wo) (ws : List (Int × Wo)) : wsK (aput tx x ws) = aput tx x.k (wsK ws) := (aput_map (fun x : Wo => x.k) tx x ws).symm
theorem wsK_get (tx : Int) (ws : List (Int × Wo)) : aget tx (wsK ws) = (aget tx ws).map (·.k) := aget_map (fun x : Wo => x.k) tx ws
theorem wsP_get (tx : Int) (ws : List (Int × Wo)) : aget tx (wsP ws) = (aget tx ws).map fun x => Value.pointer (some ⟨x.b, 0, none⟩) := aget_map (fun x : Wo => Value.pointer (some ⟨x.b, 0, none⟩)) tx ws
theorem bs_dis {A m : Nat} : ∀ {ws : List (Int × Wo)}, (ws.flatMap fun x => x.2.bs).Nodup → (ws.map (·.1)).Nodup → ∀ x ∈ ws, ∀ y ∈ ws, x.1 ≠ y.1 → ∀ b ∈ x.2.bs, b ∉ y.2.bs
  | [], _, _, x, hx, _, _, _ => by cases hx
  | z :: ws, h, hn, x, hx, y, hy, hxy => by
    rw [List.flatMap_cons, List.nodup_append] at h
    rw [List.map_cons, List.nodup_cons] at hn
    intro b hb hb'
    rcases List.mem_cons.1 hx with e1 | hx1
    · rcases List.mem_cons.1 hy with e2 | hy1
      · exact hxy (by rw [e1, e2])
      · rw [e1] at hb
        exact h.2.2 b hb b (List.mem_flatMap.2 ⟨y, hy1, hb'⟩) rfl
    · rcases List.mem_cons.1 hy with e2 | hy1
      · rw [e2] at hb'
        exact h.2.2 b hb' b (List.mem_flatMap.2 ⟨x, hx1, hb⟩) rfl
      · exact bs_dis h.2.1 hn.2 (A := A) (m := m) x hx1 y hy1 hxy b hb hb'
theorem PlayIs.turn (H : PlayIs w n0 A m bv tv lo ws p) {tx : Int} {x x' : Wo} (hx : aget tx ws = some x) (h1 : x'.b = x.b) (h2 : x'.m = x.m) (hW : WorkIs w' x') (hk : Kept x.bs w w') :
    PlayIs w' n0 A m bv tv lo (aput tx x' ws) ⟨p.base, aput tx x'.k p.works, p.left, p.taken⟩ := by
  have hmem := tget_mem hx
  have hsub : ∀ b ∈ x.bs, b ∈ playBs A m ws := fun b hb => by simp only [playBs, List.mem_cons, List.mem_flatMap]; exact .inr (.inr ⟨_, hmem, hb⟩)
  have hnd := (List.nodup_cons.1 (List.nodup_cons.1 H.nd).2).2
  refine ⟨(hk.block A (H.lt A (by simp [playBs])) ?_).trans H.blk, H.base.kept_of hk (H.base_far hsub), fun hl => (H.tk hl).kept hk (H.taken_far hl hsub), ?_, fun y hy => ?_, ?_, ?_, ?_, tput_nodup _ _ _ H.kn⟩
  · have := H.ne_A.2 _ hmem
    simp [Wo.bs, this.1.symm, this.2.symm]
  · rw [wsP_aput h1 hx]
    refine H.map.kept hk ?_
    have := H.ne_m _ hmem
    simp [Wo.bs, this.1.symm, this.2.symm]
  · rcases mem_aputK H.kn hy with rfl | ⟨hy, hne⟩
    · exact hW
    · have hd := bs_dis (A := A) (m := m) hnd H.kn y hy (tx, x) hmem hne
      exact (H.each y hy).kept hk (hd _ (by simp [Wo.bs])) (hd _ (by simp [Wo.bs]))
  · dsimp only
    rw [H.eq, wsK_aput]
  · unfold playBs
    rw [bs_aput h1 h2 hx]
    exact H.nd
  · unfold playBs
    rw [bs_aput h1 h2 hx]
    exact H.low
theorem PlayIs.push {W : World} (H : PlayIs W n0 A m bv tv lo ws p) {tx : Int} {x : Wo} (hx : aget tx ws = none) (hW : WorkIs W x) (hb : x.b ∉ playBs A m ws) (hm : x.m ∉ playBs A m ws) (hb0 : n0 ≤ x.b) (hm0 : n0 ≤ x.m) (hk : Kept [m] W w')
    (hM : MapIs w' m (Value.int .i64) (aput tx (.pointer (some ⟨x.b, 0, none⟩)) (wsP ws))) : PlayIs w' n0 A m bv tv lo (ws ++ [(tx, x)]) ⟨p.base, aput tx x.k p.works, p.left, p.taken⟩ := by
  have hbm : x.b ≠ m := fun e => hb (by rw [e]; simp [playBs])
  have hmm : x.m ≠ m := fun e => hm (by rw [e]; simp [playBs])
  have hbs : playBs A m (ws ++ [(tx, x)]) = playBs A m ws ++ [x.b, x.m] := by simp [playBs, Wo.bs]
  refine ⟨(hk.block A (H.lt A (by simp [playBs])) (by simp [H.ne_A.1.symm])).trans H.blk, H.base.kept_of hk (H.base_far (by simp [playBs])), fun hl => (H.tk hl).kept hk (H.taken_far hl (by simp [playBs])), ?_, fun y hy => ?_, ?_, ?_, ?_, ?_⟩
  · rw [tput_none _ _ (by rw [wsP_get, hx]; rfl)] at hM
    simpa [wsP] using hM
  · rcases List.mem_append.1 hy with hy | hy
    · have := H.ne_m y hy
      exact (H.each y hy).kept hk (by simp [this.1]) (by simp [this.2])
    · simp only [List.mem_singleton] at hy
      subst hy
      exact hW.kept hk (by simp [hbm]) (by simp [hmm])
  · dsimp only
    rw [H.eq, tput_none _ _ (by rw [wsK_get, hx]; rfl)]
    simp [wsK]
  · rw [hbs, List.nodup_append]
    refine ⟨H.nd, by simp [hW.ne], fun a ha b hb' e => ?_⟩
    subst e
    simp only [List.mem_cons, List.not_mem_nil, or_false] at hb'
    rcases hb' with rfl | rfl
    · exact hb ha
    · exact hm ha
  · rw [hbs]
    intro b hb'
    rcases List.mem_append.1 hb' with h | h
    · exact H.low b h
    · simp only [List.mem_cons, List.not_mem_nil, or_false] at h
      rcases h with rfl | rfl
      · exact hb0
      · exact hm0
  · rw [List.map_append, List.nodup_append]
    refine ⟨H.kn, by simp, fun a ha b hb' e => ?_⟩
    simp only [List.map_cons, List.map_nil, List.mem_singleton] at hb'
    subst hb'
    subst e
    exact (tget_none.1 hx) ha
theorem adel_mem {α β : Type} [DecidableEq α] {k : α} {p : α × β} : ∀ {l : List (α × β)}, p ∈ adel k l → p ∈ l := fun h => (tdel_sub k _).subset h
theorem wsP_adel (tx : Int) (ws : List (Int × Wo)) : wsP (adel tx ws) = adel tx (wsP ws) := (adel_map (fun x : Wo => Value.pointer (some ⟨x.b, 0, none⟩)) tx ws).symm
theorem wsK_adel (tx : Int) (ws : List (Int × Wo)) : wsK (adel tx ws) = adel tx (wsK ws) := (adel_map (fun x : Wo => x.k) tx ws).symm
theorem bs_adel (tx : Int) : ∀ ws : List (Int × Wo), ((adel tx ws).flatMap fun x => x.2.bs).Sublist (ws.flatMap fun x => x.2.bs)
  | [] => List.Sublist.refl _
  | q :: l => by
    simp only [adel]
    split
    · rw [List.flatMap_cons]; exact List.sublist_append_right _ _
    · simp only [List.flatMap_cons]; exact List.Sublist.append (List.Sublist.refl _) (bs_adel tx l)
theorem PlayIs.gone (H : PlayIs w n0 A m bv tv lo ws p) (tx : Int) (hk : Kept [m] w w') (hM : MapIs w' m (Value.int .i64) (adel tx (wsP ws))) : PlayIs w' n0 A m bv tv lo (adel tx ws) ⟨p.base, adel tx p.works, p.left, p.taken⟩ := by
  have hs : (playBs A m (adel tx ws)).Sublist (playBs A m ws) := ((bs_adel tx ws).cons₂ m).cons₂ A
  refine ⟨(hk.block A (H.lt A (by simp [playBs])) (by simp [H.ne_A.1.symm])).trans H.blk, H.base.kept_of hk (H.base_far (by simp [playBs])), fun hl => (H.tk hl).kept hk (H.taken_far hl (by simp [playBs])), by rw [wsP_adel]; exact hM, fun y hy => ?_, ?_, H.nd.sublist hs, fun b hb => H.low b (hs.subset hb), tdel_nodup _ _ H.kn⟩
  · have hy := adel_mem hy
    have := H.ne_m y hy
    exact (H.each y hy).kept hk (by simp [this.1]) (by simp [this.2])
  · dsimp only
    rw [H.eq, wsK_adel]
end
def PlayAt (w : World) (n0 A : Nat) (p : Pl) : Prop := ∃ m bv tv lo ws, PlayIs w n0 A m bv tv lo ws p
--@@ end
def woP (o : Option Wo) : Value := match o with | none => .pointer none | some x => .pointer (some ⟨x.b, 0, none⟩)
theorem wk_get {ws : List (Int × Wo)} {tx : Int} {x : Wo} (h : aget tx ws = some x) : getW (wsK ws) tx = x.k := by
  unfold getW; rw [wsK_get, h]; rfl
theorem wk_none {ws : List (Int × Wo)} {tx : Int} (h : aget tx ws = none) : getW (wsK ws) tx = Wk.none := by
  unfold getW; rw [wsK_get, h]; rfl
theorem aget_snocK {α β : Type} [DecidableEq α] (k : α) (v : β) : ∀ {l : List (α × β)}, aget k l = none → aget k (l ++ [(k, v)]) = some v
  | [], _ => by simp [aget]
  | p :: l, h => by
    simp only [aget] at h
    by_cases hp : p.1 = k
    · rw [if_pos hp] at h; cases h
    · rw [if_neg hp] at h
      simp only [List.cons_append, aget, if_neg hp]
      exact aget_snocK k v h
--@@ (*redo.player).of
theorem zeroWork : ∀ w, (zeroValue 78).run Tryz.prog w = .ok (.pointer none) w := fun w => by kernel_rfl
section
variable {w w' : World} {n0 A m lo : Nat} {bv tv : Value} {ws : List (Int × Wo)} {p : Pl}
theorem PlayIs.look (H : PlayIs w n0 A m bv tv lo ws p) (tx : Int) (ok : Bool) :
    (Instr.lookup 69 (.map (some m)) (.int .i64 tx) ok).run Tryz.prog w = .ok (if ok then .tuple #[woP (aget tx ws), .bool (aget tx ws).isSome] else woP (aget tx ws)) w := by
  have := H.map.run_lookup (KeyOK.int (k := .i64) Tryz.underlying3) Tryz.underlying69 (zeroWork w) tx ok
  rw [wsP_get] at this
  rw [this]
  cases aget tx ws <;> rfl
theorem PlayIs.n0_le (H : PlayIs w n0 A m bv tv lo ws p) : n0 ≤ w.heap.size := by
  have h1 := H.low A (by simp [playBs])
  have h2 := H.lt A (by simp [playBs])
  omega
theorem PlayIs.below (H : PlayIs w n0 A m bv tv lo ws p) {S : List Nat} (hk : Kept S w w') (hS : ∀ b ∈ S, b ∈ playBs A m ws) : Below n0 w w' := hk.below H.n0_le fun b hb => H.low b (hS b hb)
end
set_option maxHeartbeats 2000000 in
set_option maxRecDepth 100000 in
theorem of_any {n0 A m lo : Nat} {bv tv : Value} {ws : List (Int × Wo)} {p : Pl} (tx : Int) (w : World) (H : PlayIs w n0 A m bv tv lo ws p) :
    Calls Tryz.prog 51 #[.pointer (some ⟨A, 0, none⟩), .int .i64 tx] w fun e w' => ∃ x, e = .returned (.pointer (some ⟨x.b, 0, none⟩)) ∧ ∃ ws', PlayIs w' n0 A m bv tv lo ws' ⟨p.base, aput tx (getW p.works tx) p.works, p.left, p.taken⟩ ∧ aget tx ws' = some x ∧ x.k = getW p.works tx ∧ Kept [m] w w' := by
  obtain ⟨a0, a1, a2, a3⟩ := H.cells
  have hL := H.look tx true
  cases hx : aget tx ws with
  | some x =>
    rw [hx] at hL
    simp only [woP, Option.isSome_some, if_true] at hL
    have HX := hid hx
    have HH := hid H
    clear hx H a0 a2 a3
    go_enter Tryz.func51, Tryz.ntmps51
    go_wp2
    go_returns
    have hg := wk_get HX.out
    rw [← HH.out.eq] at hg
    refine ⟨x, rfl, ws, ?_, HX.out, hg.symm, Kept.refl _ _⟩
    rw [hg, aput_sameK (by rw [HH.out.eq, wsK_get, HX.out]; rfl)]
    exact HH.out
  | none =>
    rw [hx] at hL
    simp only [woP, Option.isSome_none, if_true] at hL
    have HX := hid hx
    have HH := hid H
    have hmm := @run_makeMap Tryz.prog
    have hk := ((Kept.refl [] w).alloc (.map #[] 0)).alloc (.cells #[.int .u16 0, .bool false, .map (some w.heap.size)] 81)
    have b1 := hk.cell a1 (by simp)
    have HK := hid hk
    have HLT := hid H.lt
    clear hx H a0 a2 a3 hk
    go_enter Tryz.func51, Tryz.ntmps51
    go_wp2_with (at_mapUpdate; refine Here.mk ?_)
    refine Here.of ?_
    have hB : ((w.alloc (.map #[] 0)).alloc (.cells #[.int .u16 0, .bool false, .map (some w.heap.size)] 81)).heap[w.heap.size + 1]? = some (.cells #[.int .u16 0, .bool false, .map (some w.heap.size)] 81 (0, 0)) := by
      have := heap_alloc_new (w.alloc (.map #[] 0)) (.cells #[.int .u16 0, .bool false, .map (some w.heap.size)] 81)
      simpa using this
    have hW : WorkIs ((w.alloc (.map #[] 0)).alloc (.cells #[.int .u16 0, .bool false, .map (some w.heap.size)] 81)) ⟨w.heap.size + 1, w.heap.size, Wk.none⟩ := ⟨hB, (MapIs.made w K4.v).alloc _, List.nodup_nil⟩
    have H2 := hid (HH.out.kept HK.out)
    refine wpList_mapUpdate_is rfl _ _ _ 69 rfl 3 78 (KeyOK.int (k := .i64) Tryz.underlying3) Tryz.underlying69 rfl tx rfl _ rfl H2.out.map ?_
    intro w5 hM5 hK5
    have hg := wk_none HX.out
    rw [← HH.out.eq] at hg
    have hn0 := HH.out.n0_le
    have hP := H2.out.push HX.out hW (fun hb => by have := HLT.out _ hb; simp at this; omega) (fun hb => by have := HLT.out _ hb; simp at this) (by dsimp only; omega) hn0 hK5 hM5
    have hBl : Kept [m] w w5 := (HK.out.mono (T := [m]) (by simp)).trans hK5 (fun x hx => .inl hx)
    have HP := hid hP
    have HBl := hid hBl
    have HG := hid hg
    clear hP hBl hM5 hK5 hB hW H2 HK b1 a1 hL hg
    go_wp2
    go_returns
    refine ⟨⟨w.heap.size + 1, w.heap.size, Wk.none⟩, rfl, ws ++ [(tx, ⟨w.heap.size + 1, w.heap.size, Wk.none⟩)], ?_, aget_snocK _ _ HX.out, HG.out.symm, HBl.out⟩
    rw [HG.out]
    exact HP.out
--@@ end
end Go.Proofs.YtpcpeoejcnndhaaGreat
namespace Go.Proofs.YtpcpeoejcnndhaaGreat
open Go.Sort
section
variable {α : Type} [Inhabited α]
def swapLoop (a b n i : Nat) (d : Array α) : Array α := if i < n then swapLoop a b n (i + 1) (swp d (a + i) (b + i)) else d
termination_by n - i
theorem size_swapLoop (a b n i : Nat) (d : Array α) : (swapLoop a b n i d).size = d.size := by
  unfold swapLoop
  split
  · rw [size_swapLoop a b n (i + 1)]; exact size_swp _ _ _
  · rfl
termination_by n - i
def rotLoop (m i j : Nat) (d : Array α) : Array α :=
  if i = j ∨ i = 0 ∨ j = 0 then swapLoop (m - i) m i 0 d
  else if j < i then rotLoop m (i - j) j (swapLoop (m - i) m j 0 d)
  else rotLoop m i (j - i) (swapLoop (m - i) (m + j - i) i 0 d)
termination_by i + j
theorem size_rotLoop (m i j : Nat) (d : Array α) : (rotLoop m i j d).size = d.size := by
  unfold rotLoop
  split
  · exact size_swapLoop _ _ _ _ _
  · split
    · rw [size_rotLoop m (i - j) j]; exact size_swapLoop _ _ _ _ _
    · rw [size_rotLoop m i (j - i)]; exact size_swapLoop _ _ _ _ _
termination_by i + j
end
section
variable {α : Type} [Inhabited α]
def bs (p : Nat → Bool) (i j : Nat) : Nat := if i < j then (if p ((i + j) / 2) = true then bs p ((i + j) / 2 + 1) j else bs p i ((i + j) / 2)) else i
termination_by j - i
def upLoop (e x : Nat) (d : Array α) : Array α := if x < e then upLoop e (x + 1) (swp d x (x + 1)) else d
termination_by e - x
def dnLoop (i x : Nat) (d : Array α) : Array α := if i < x then dnLoop i (x - 1) (swp d x (x - 1)) else d
termination_by x
def symM (lt : α → α → Bool) : Nat → Array α → Nat → Nat → Nat → Array α
  | 0, d, _, _, _ => d
  | f + 1, d, a, m, b =>
    if m - a = 1 then upLoop (bs (fun h => lt d[h]! d[a]!) m b - 1) a d
    else if b - m = 1 then dnLoop (bs (fun h => !lt d[m]! d[h]!) a m) m d
    else
      let mid := (a + b) / 2
      let n := mid + m
      let s := bs (fun c => !lt d[n - 1 - c]! d[c]!) (if mid < m then n - b else a) (if mid < m then mid else m)
      let e := n - s
      let d1 := if s < m ∧ m < e then rotLoop m (m - s) (e - m) d else d
      let d2 := if a < s ∧ s < mid then symM lt f d1 a s mid else d1
      if mid < e ∧ e < b then symM lt f d2 mid e b else d2
theorem size_upLoop (e x : Nat) (d : Array α) : (upLoop e x d).size = d.size := by
  unfold upLoop
  split
  · rw [size_upLoop e (x + 1)]; exact size_swp _ _ _
  · rfl
termination_by e - x
theorem size_dnLoop (i x : Nat) (d : Array α) : (dnLoop i x d).size = d.size := by
  unfold dnLoop
  split
  · rw [size_dnLoop i (x - 1)]; exact size_swp _ _ _
  · rfl
termination_by x
theorem size_symM (lt : α → α → Bool) : ∀ (f : Nat) (d : Array α) (a m b : Nat), (symM lt f d a m b).size = d.size
  | 0, d, _, _, _ => rfl
  | f + 1, d, a, m, b => by
    unfold symM
    split
    · exact size_upLoop _ _ _
    · split
      · exact size_dnLoop _ _ _
      · simp only
        have h1 : ∀ (c : Prop) [Decidable c] (x y z : Nat) (d : Array α), (if c then symM lt f d x y z else d).size = d.size := fun c _ x y z d => by
          split
          · exact size_symM lt f d x y z
          · rfl
        have h2 : ∀ (c : Prop) [Decidable c] (x y z : Nat) (d : Array α), (if c then rotLoop x y z d else d).size = d.size := fun c _ x y z d => by
          split
          · exact size_rotLoop x y z d
          · rfl
        rw [h1, h1, h2]
end
theorem bs_le (p : Nat → Bool) (i j : Nat) (h : i ≤ j) : i ≤ bs p i j ∧ bs p i j ≤ j := by
  unfold bs
  split
  · split
    · have := bs_le p ((i + j) / 2 + 1) j (by omega); omega
    · have := bs_le p i ((i + j) / 2) (by omega); omega
  · omega
termination_by j - i
theorem symM_rest {α : Type} [Inhabited α] (lt : α → α → Bool) (f : Nat) (d : Array α) (a m b : Nat) (h1 : ¬ m - a = 1) (h2 : ¬ b - m = 1) (mid n s e : Nat) (hmid : mid = (a + b) / 2) (hn : n = mid + m)
    (hs : s = bs (fun c => !lt d[n - 1 - c]! d[c]!) (if mid < m then n - b else a) (if mid < m then mid else m)) (he : e = n - s) (d1 d2 : Array α)
    (hd1 : d1 = if s < m ∧ m < e then rotLoop m (m - s) (e - m) d else d) (hd2 : d2 = if a < s ∧ s < mid then symM lt f d1 a s mid else d1) :
    symM lt (f + 1) d a m b = if mid < e ∧ e < b then symM lt f d2 mid e b else d2 := by
  subst hd2 hd1 he hs hn hmid
  rw [symM, if_neg h1, if_neg h2]
section
variable {α : Type} [Inhabited α]
def blkLoop (lt : α → α → Bool) (n a : Nat) (d : Array α) : Array α := if a + 20 ≤ n then blkLoop lt n (a + 20) (insertionSort lt d a (a + 20)) else insertionSort lt d a n
termination_by n - a
def mergePass (lt : α → α → Bool) (s n a : Nat) (d : Array α) : Array α :=
  if 0 < s ∧ a + 2 * s ≤ n then mergePass lt s n (a + 2 * s) (symM lt (2 * s) d a (a + s) (a + 2 * s)) else if a + s < n then symM lt (n - a) d a (a + s) n else d
termination_by n - a
def mergeLoop (lt : α → α → Bool) (n s : Nat) (d : Array α) : Array α := if 0 < s ∧ s < n then mergeLoop lt n (2 * s) (mergePass lt s n 0 d) else d
termination_by n - s
def stab (lt : α → α → Bool) (n : Nat) (d : Array α) : Array α := mergeLoop lt n 20 (blkLoop lt n 0 d)
theorem size_insInner (lt : α → α → Bool) (a : Nat) : ∀ (j : Nat) (d : Array α), (insInner lt a j d).size = d.size
  | 0, d => rfl
  | j + 1, d => by
    unfold insInner
    split
    · rw [size_insInner lt a j]; exact size_swp _ _ _
    · rfl
theorem size_insOuter (lt : α → α → Bool) (a b i : Nat) (d : Array α) : (insOuter lt a b i d).size = d.size := by
  unfold insOuter
  split
  · rw [size_insOuter lt a b (i + 1)]; exact size_insInner _ _ _ _
  · rfl
termination_by b - i
theorem size_insertionSort' (lt : α → α → Bool) (d : Array α) (a b : Nat) : (insertionSort lt d a b).size = d.size := size_insOuter _ _ _ _ _
theorem size_blkLoop (lt : α → α → Bool) (n a : Nat) (d : Array α) : (blkLoop lt n a d).size = d.size := by
  unfold blkLoop
  split
  · rw [size_blkLoop lt n (a + 20)]; exact size_insertionSort' _ _ _ _
  · exact size_insertionSort' _ _ _ _
termination_by n - a
theorem size_mergePass (lt : α → α → Bool) (s n a : Nat) (d : Array α) : (mergePass lt s n a d).size = d.size := by
  unfold mergePass
  split
  · rw [size_mergePass lt s n (a + 2 * s)]; exact size_symM _ _ _ _ _ _
  · split
    · exact size_symM _ _ _ _ _ _
    · rfl
termination_by n - a
theorem size_mergeLoop (lt : α → α → Bool) (n s : Nat) (d : Array α) : (mergeLoop lt n s d).size = d.size := by
  unfold mergeLoop
  split
  · rw [size_mergeLoop lt n (2 * s)]; exact size_mergePass _ _ _ _ _
  · rfl
termination_by n - s
theorem size_stab (lt : α → α → Bool) (n : Nat) (d : Array α) : (stab lt n d).size = d.size := by
  unfold stab; rw [size_mergeLoop, size_blkLoop]
end
end Go.Proofs.YtpcpeoejcnndhaaGreat
namespace Go.Proofs.YtpcpeoejcnndhaaGreat
open Go.RowKit Go.Shelf Go.Lib Go.Sort Go.Proofs
--@@ slices.stable facts
structure SFacts (P : Program) : Prop where
  mixed : P.follows .mixedOrders = true
  t0 : P.underlying 0 = some (TypeDesc.tuple #[])
  a0 : ∀ w, (isAgg 0).run P w = .ok false w
  z0 : ∀ w, (Go.sizeOf 0).run P w = .ok 1 w
  v0 : ∀ w, (zeroValue 0).run P w = .ok (Value.tuple #[]) w
  t3 : P.underlying 3 = some (TypeDesc.int IntKind.i64)
  a3 : ∀ w, (isAgg 3).run P w = .ok false w
  z3 : ∀ w, (Go.sizeOf 3).run P w = .ok 1 w
  v3 : ∀ w, (zeroValue 3).run P w = .ok (Value.int IntKind.i64 0) w
  t4 : P.underlying 4 = some (TypeDesc.bool)
  a4 : ∀ w, (isAgg 4).run P w = .ok false w
  z4 : ∀ w, (Go.sizeOf 4).run P w = .ok 1 w
  v4 : ∀ w, (zeroValue 4).run P w = .ok (Value.bool false) w
  t38 : P.underlying 29 = some (TypeDesc.slice 57)
  a38 : ∀ w, (isAgg 29).run P w = .ok false w
  z38 : ∀ w, (Go.sizeOf 29).run P w = .ok 1 w
  v38 : ∀ w, (zeroValue 29).run P w = .ok (Value.slice none 0 0) w
  t69 : P.underlying 104 = some (TypeDesc.func #[57, 57] #[3] false)
  a69 : ∀ w, (isAgg 104).run P w = .ok false w
  z69 : ∀ w, (Go.sizeOf 104).run P w = .ok 1 w
  v69 : ∀ w, (zeroValue 104).run P w = .ok (Value.nilFunc) w
  t81 : P.underlying 120 = some (TypeDesc.int IntKind.u64)
  a81 : ∀ w, (isAgg 120).run P w = .ok false w
  z81 : ∀ w, (Go.sizeOf 120).run P w = .ok 1 w
  v81 : ∀ w, (zeroValue 120).run P w = .ok (Value.int IntKind.u64 0) w
theorem sfacts : SFacts Tryz.prog where
  mixed := by kernel_rfl
  t0 := by kernel_rfl
  a0 := fun w => by kernel_rfl
  z0 := fun w => by kernel_rfl
  v0 := fun w => by kernel_rfl
  t3 := by kernel_rfl
  a3 := fun w => by kernel_rfl
  z3 := fun w => by kernel_rfl
  v3 := fun w => by kernel_rfl
  t4 := by kernel_rfl
  a4 := fun w => by kernel_rfl
  z4 := fun w => by kernel_rfl
  v4 := fun w => by kernel_rfl
  t38 := by kernel_rfl
  a38 := fun w => by kernel_rfl
  z38 := fun w => by kernel_rfl
  v38 := fun w => by kernel_rfl
  t69 := by kernel_rfl
  a69 := fun w => by kernel_rfl
  z69 := fun w => by kernel_rfl
  v69 := fun w => by kernel_rfl
  t81 := by kernel_rfl
  a81 := fun w => by kernel_rfl
  z81 := fun w => by kernel_rfl
  v81 := fun w => by kernel_rfl
--@@ slices.swapRangeCmpFunc
set_option maxHeartbeats 4000000 in
set_option maxRecDepth 1000000 in
theorem swapRange_gen {P : Program} (L : SFacts P) (FG : P.funcs[120]? = some Tryz.f120) (k : Nat) (aE : ∀ w, (isAgg 57).run P w = .ok true w) (zE : ∀ w, (Go.sizeOf 57).run P w = .ok k w) {α : Type} [Inhabited α] (enc : α → List Value) (cf : Value) (blk off cap a b n : Nat) (d0 d : Array α) (w0 w : World)
    (R : RowK enc k w0 blk off d0) (hs : d0.size = d.size) (S : SWK enc k w0 blk off d w) (ha : a + n ≤ d.size) (hb : b + n ≤ d.size) (hsz : d.size < 4611686018427387904) :
    Calls P 120 #[.slice (some ⟨blk, off, none⟩) d.size cap, .int .i64 a, .int .i64 b, .int .i64 n, cf] w fun e w' => e = .returned (.tuple #[]) ∧ SWK enc k w0 blk off (swapLoop a b n 0 d) w' := by
  have mixed := L.mixed; have t0 := L.t0; have a0 := L.a0; have z0 := L.z0; have v0 := L.v0; have t3 := L.t3; have a3 := L.a3; have z3 := L.z3; have v3 := L.v3; have t4 := L.t4; have a4 := L.a4; have z4 := L.z4; have v4 := L.v4; have t38 := L.t38; have a38 := L.a38; have z38 := L.z38; have v38 := L.v38; have t69 := L.t69; have a69 := L.a69; have z69 := L.z69; have v69 := L.v69; have t81 := L.t81; have a81 := L.a81; have z81 := L.z81; have v81 := L.v81
  have S0 : Aside (SWK enc k w0 blk off d w) := S
  clear S
  go_enter FG, Tryz.ntmps120
  go_wp2
  go_loopg [10] n (fun kx s10 wr => ∃ (i : Nat) (dk : Array α), s10 = .int .i64 i ∧ i ≤ n ∧ n - i ≤ kx ∧ dk.size = d.size ∧ Aside (SWK enc k w0 blk off dk wr) ∧ swapLoop a b n i dk = swapLoop a b n 0 d)
  case atStart => exact ⟨0, d, rfl, by omega, by omega, rfl, S0, rfl⟩
  case round =>
    clear S0
    obtain ⟨i, dk, rfl, hi, hkx, hds, S1, heq⟩ := hrel
    by_cases hlt : i < n
    · have hltz : (i : Int) < (n : Int) := by omega
      go_wp2_with fail
      have ea1 : ((a : Int) + (i : Int)).toNat = a + i := by omega
      have pa1 : (0 : Int) ≤ (a : Int) + (i : Int) := by omega
      have ba1 : (a : Int) + (i : Int) < (d.size : Int) := by omega
      have ra1 : IntKind.i64.wrap ((a : Int) + (i : Int)) = (a : Int) + (i : Int) := by rw [IntKind.wrap_i64]; omega
      have ec1 : ((b : Int) + (i : Int)).toNat = b + i := by omega
      have pc1 : (0 : Int) ≤ (b : Int) + (i : Int) := by omega
      have bc1 : (b : Int) + (i : Int) < (d.size : Int) := by omega
      have rc1 : IntKind.i64.wrap ((b : Int) + (i : Int)) = (b : Int) + (i : Int) := by rw [IntKind.wrap_i64]; omega
      have S2 : Aside (SWK enc k w0 blk off (swp dk (a + i) (b + i)) ((wr.drew.setCells blk (off + (a + i) * k) (enc dk[b + i]!)).setCells blk (off + (b + i) * k) (enc dk[a + i]!))) := S1.out.swapped R (a + i) (b + i) (by omega) (by omega)
      have l1a := S1.out.ld1 R (by omega) P (a + i) (by omega)
      have l1b := S1.out.ld1 R (by omega) P (b + i) (by omega)
      have s1a := S1.out.st1 R (by omega) P (a + i) (by omega) dk[b + i]!
      have s1b := S1.out.st2 R (by omega) P (a + i) (b + i) (by omega) (by omega) dk[b + i]! dk[a + i]!
      have n1a : (enc dk[a + i]!).length = k := R.hk _
      have n1b : (enc dk[b + i]!).length = k := R.hk _
      generalize enc dk[a + i]! = cI1 at S2 l1a s1b n1a
      generalize enc dk[b + i]! = cJ1 at S2 l1b s1a s1b n1b
      clear S1
      go_wp2_with fail
      go_big_region_o
      clear l1a l1b s1a s1b
      generalize (wr.drew.setCells blk (off + (a + i) * k) cJ1).setCells blk (off + (b + i) * k) cI1 = w2 at S2 ⊢
      go_wp2
      go_roundg (n - (i + 1))
      case measure => omega
      case rel =>
        rw [swapLoop, if_pos hlt] at heq
        exact ⟨i + 1, swp dk (a + i) (b + i), by go_num, by omega, by omega, by rw [size_swp]; exact hds, S2, heq⟩
    · have hnot : ¬ (i : Int) < (n : Int) := by omega
      go_wp2
      go_end0
      refine ⟨rfl, ?_⟩
      rw [swapLoop, if_neg hlt] at heq
      rw [← heq]
      exact S1.out
--@@ slices.rotateCmpFunc
set_option maxHeartbeats 4000000 in
set_option maxRecDepth 1000000 in
theorem rotate_gen {P : Program} (L : SFacts P) (FG : P.funcs[119]? = some Tryz.f119) (FS : P.funcs[120]? = some Tryz.f120)
    (k : Nat) (aE : ∀ w, (isAgg 57).run P w = .ok true w) (zE : ∀ w, (Go.sizeOf 57).run P w = .ok k w) {α : Type} [Inhabited α] (enc : α → List Value) (cf : Value) (blk off cap a m b : Nat) (d0 d : Array α) (w0 w : World)
    (R : RowK enc k w0 blk off d0) (hs : d0.size = d.size) (S : SWK enc k w0 blk off d w) (ham : a < m) (hmb : m < b) (hb : b ≤ d.size) (hsz : d.size < 4611686018427387904) :
    Calls P 119 #[.slice (some ⟨blk, off, none⟩) d.size cap, .int .i64 a, .int .i64 m, .int .i64 b, cf] w fun e w' => e = .returned (.tuple #[]) ∧ SWK enc k w0 blk off (rotLoop m (m - a) (b - m) d) w' := by
  have hsw : Hid (∀ (x y n : Nat) (dk : Array α) (w : World), dk.size = d.size → SWK enc k w0 blk off dk w → x + n ≤ d.size → y + n ≤ d.size →
      Calls P 120 #[.slice (some ⟨blk, off, none⟩) d.size cap, .int .i64 x, .int .i64 y, .int .i64 n, cf] w fun e w' => e = .returned (.tuple #[]) ∧ SWK enc k w0 blk off (swapLoop x y n 0 dk) w') := fun x y n dk w h1 h2 h3 h4 => by
    have := swapRange_gen L FS k aE zE enc cf blk off cap x y n d0 dk w0 w R (by omega) h2 (by omega) (by omega) (by omega)
    rw [h1] at this; exact this
  have eS : ∀ args w, (callFunc 120 args).run P w = .ok (.enter 120 args) w := enters_of FS (by kernel_rfl) rfl
  have mixed := L.mixed; have t0 := L.t0; have a0 := L.a0; have z0 := L.z0; have v0 := L.v0; have t3 := L.t3; have a3 := L.a3; have z3 := L.z3; have v3 := L.v3; have t4 := L.t4; have a4 := L.a4; have z4 := L.z4; have v4 := L.v4; have t38 := L.t38; have a38 := L.a38; have z38 := L.z38; have v38 := L.v38; have t69 := L.t69; have a69 := L.a69; have z69 := L.z69; have v69 := L.v69; have t81 := L.t81; have a81 := L.a81; have z81 := L.z81; have v81 := L.v81
  have S0 : Aside (SWK enc k w0 blk off d w) := S
  clear S
  have hwa : IntKind.i64.wrap ((m : Int) - (a : Int)) = ((m - a : Nat) : Int) := by rw [IntKind.wrap_i64]; omega
  have hwb : IntKind.i64.wrap ((b : Int) - (m : Int)) = ((b - m : Nat) : Int) := by rw [IntKind.wrap_i64]; omega
  go_enter FG, Tryz.ntmps119
  go_wp2
  go_loopg [10, 11] b (fun kx s10 s11 wr => ∃ (i j : Nat) (dk : Array α), s10 = .int .i64 i ∧ s11 = .int .i64 j ∧ 0 < i ∧ 0 < j ∧ i ≤ m ∧ m + j ≤ b ∧ i + j ≤ kx ∧ dk.size = d.size ∧ Aside (SWK enc k w0 blk off dk wr) ∧ Aside (rotLoop m i j dk = rotLoop m (m - a) (b - m) d))
  case atStart => exact ⟨m - a, b - m, d, by first | rfl | go_num, by first | rfl | go_num, by omega, by omega, by omega, by omega, by omega, rfl, S0, rfl⟩
  case round =>
    clear S0
    obtain ⟨i, j, dk, rfl, rfl, hi, hj, him, hjb, hkx, hds, S1, heq⟩ := hrel
    clear hwa hwb
    have hw1 : IntKind.i64.wrap ((m : Int) - (i : Int)) = ((m - i : Nat) : Int) := by rw [IntKind.wrap_i64]; omega
    rcases Nat.lt_trichotomy i j with hlt | hlt | hlt
    · have hne : ¬ (i : Int) = (j : Int) := by omega
      have hng : (i : Int) ≤ (j : Int) := by omega
      have hw2 : (m : Int) + (j : Int) - (i : Int) = ((m + j - i : Nat) : Int) := by omega
      have hw3 : IntKind.i64.wrap ((j : Int) - (i : Int)) = ((j - i : Nat) : Int) := by rw [IntKind.wrap_i64]; omega
      go_wp2_with (go_at_fn 120; refine (hsw.out (m - i) (m + j - i) i dk _ hds S1.out (by omega) (by omega)).mono ?_; rintro e w2 ⟨rfl, S2⟩; have S3 : Aside _ := S2; clear S2)
      go_roundg (i + (j - i))
      case measure => omega
      case rel =>
        have he := heq.out
        rw [rotLoop, if_neg (by omega), if_neg (by omega)] at he
        exact ⟨i, j - i, _, rfl, rfl, hi, by omega, him, by omega, Nat.le_refl _, by rw [size_swapLoop]; exact hds, S3, he⟩
    · subst hlt
      go_wp2_with (go_at_fn 120; refine (hsw.out (m - i) m i dk _ hds S1.out (by omega) (by omega)).mono ?_; rintro e w2 ⟨rfl, S2⟩)
      go_end0
      refine ⟨rfl, ?_⟩
      have he := heq.out
      rw [rotLoop, if_pos (.inl rfl)] at he
      rw [← he]; exact S2
    · have hne : ¬ (i : Int) = (j : Int) := by omega
      have hng : (j : Int) < (i : Int) := by omega
      have hw3 : IntKind.i64.wrap ((i : Int) - (j : Int)) = ((i - j : Nat) : Int) := by rw [IntKind.wrap_i64]; omega
      have hw4 : (i : Int) - (j : Int) = ((i - j : Nat) : Int) := by omega
      go_wp2_with (go_at_fn 120; refine (hsw.out (m - i) m j dk _ hds S1.out (by omega) (by omega)).mono ?_; rintro e w2 ⟨rfl, S2⟩; have S3 : Aside _ := S2; clear S2)
      go_roundg (i - j + j)
      case measure => omega
      case rel =>
        have he := heq.out
        rw [rotLoop, if_neg (by omega), if_pos hlt] at he
        exact ⟨i - j, j, _, rfl, rfl, by omega, hj, by omega, by omega, Nat.le_refl _, by rw [size_swapLoop]; exact hds, S3, he⟩
--@@ end
--@@ slices.stableCmpFunc
set_option maxHeartbeats 8000000 in
set_option maxRecDepth 1000000 in
theorem stableCmp_gen {P : Program} (L : SFacts P) (FG : P.funcs[104]? = some Tryz.f104)
    (eI : ∀ args w, (callFunc 95 args).run P w = .ok (.enter 95 args) w)
    (eM : ∀ args w, (callFunc 115 args).run P w = .ok (.enter 115 args) w)
    (k : Nat) {α : Type} [Inhabited α] (enc : α → List Value) (lt : α → α → Bool) (fv : Value) (blk off cap n : Nat) (d : Array α) (w0 w : World)
    (S : SWK enc k w0 blk off d w) (hn : n ≤ d.size) (hsz : d.size < 1000000000000)
    (hin : Hid (∀ (a b : Nat) (dk : Array α) (w' : World), dk.size = d.size → SWK enc k w0 blk off dk w' → a ≤ b → b ≤ d.size →
      Calls P 95 #[.slice (some ⟨blk, off, none⟩) d.size cap, .int .i64 a, .int .i64 b, fv] w' fun e w'' => e = .returned (.tuple #[]) ∧ SWK enc k w0 blk off (insertionSort lt dk a b) w''))
    (hsy : Hid (∀ (f a m b : Nat) (dk : Array α) (w' : World), dk.size = d.size → SWK enc k w0 blk off dk w' → a < m → m < b → b ≤ d.size → b - a ≤ f →
      Calls P 115 #[.slice (some ⟨blk, off, none⟩) d.size cap, .int .i64 a, .int .i64 m, .int .i64 b, fv] w' fun e w'' => e = .returned (.tuple #[]) ∧ SWK enc k w0 blk off (symM lt f dk a m b) w'')) :
    Calls P 104 #[.slice (some ⟨blk, off, none⟩) d.size cap, .int .i64 n, fv] w fun e w' => e = .returned (.tuple #[]) ∧ SWK enc k w0 blk off (stab lt n d) w' := by
  have mixed := L.mixed; have t0 := L.t0; have a0 := L.a0; have z0 := L.z0; have v0 := L.v0; have t3 := L.t3; have a3 := L.a3; have z3 := L.z3; have v3 := L.v3; have t4 := L.t4; have a4 := L.a4; have z4 := L.z4; have v4 := L.v4; have t38 := L.t38; have a38 := L.a38; have z38 := L.z38; have v38 := L.v38; have t69 := L.t69; have a69 := L.a69; have z69 := L.z69; have v69 := L.v69; have t81 := L.t81; have a81 := L.a81; have z81 := L.z81; have v81 := L.v81
  have S0 : Aside (SWK enc k w0 blk off d w) := S
  clear S
  go_enter FG, Tryz.ntmps104
  go_wp2
  go_loopg [7, 8] n (fun kx sa sb wr => ∃ (a : Nat) (dk : Array α), sa = .int .i64 a ∧ sb = .int .i64 ((a + 20 : Nat) : Int) ∧ a ≤ n ∧ n - a ≤ kx ∧ dk.size = d.size ∧ Aside (SWK enc k w0 blk off dk wr) ∧ Aside (blkLoop lt n a dk = blkLoop lt n 0 d))
  case atStart => exact ⟨0, d, by first | rfl | go_num, by first | rfl | go_num, by omega, by omega, rfl, S0, rfl⟩
  case round =>
    clear S0
    obtain ⟨a, dk, rfl, rfl, han, hkx, hds, S1, heq⟩ := hrel
    by_cases hlt : a + 20 ≤ n
    · have hltz : ((a + 20 : Nat) : Int) ≤ (n : Int) := by omega
      go_wp2_with (go_at_fn 95; refine (hin.out a (a + 20) dk _ hds S1.out (by omega) (by omega)).mono ?_; rintro e w2 ⟨rfl, S2⟩; have S3 : Aside _ := S2; clear S2)
      go_roundg (n - (a + 20))
      case measure => omega
      case rel =>
        have he := heq.out
        rw [blkLoop, if_pos hlt] at he
        exact ⟨a + 20, _, rfl, by first | rfl | go_num | (congr 1; omega), hlt, Nat.le_refl _, by rw [size_insertionSort']; exact hds, S3, he⟩
    · have hltz : (n : Int) < ((a + 20 : Nat) : Int) := by omega
      have he := heq.out
      rw [blkLoop, if_neg hlt] at he
      have HE : Aside (insertionSort lt dk a n = blkLoop lt n 0 d) := he
      clear he heq
      go_wp2_with (go_at_fn 95; refine (hin.out a n dk _ hds S1.out (by omega) hn).mono ?_; rintro e w2 ⟨rfl, S2⟩)
      rw [HE.out] at S2
      have S3 : Aside _ := S2
      clear S2 HE hltz hlt S1 hkx hds
      go_loopg [6, 7, 8, 9] n (fun kx ss sa sb sm wr => ∃ (s : Nat) (dj : Array α), ss = .int .i64 s ∧ 0 < s ∧ s ≤ n + n + 20 ∧ n - s ≤ kx ∧ dj.size = d.size ∧ Aside (SWK enc k w0 blk off dj wr) ∧ Aside (mergeLoop lt n s dj = stab lt n d))
      case atStart => exact ⟨20, blkLoop lt n 0 d, by first | rfl | go_num, by omega, by omega, by omega, size_blkLoop _ _ _ _, S3, rfl⟩
      case round =>
        clear S3
        obtain ⟨s, dj, rfl, hs0, hsn, hkx, hds, S4, heq2⟩ := hrel
        by_cases hlt : s < n
        · have hltz : (s : Int) < (n : Int) := by omega
          have h2s : IntKind.i64.wrap (2 * (s : Int)) = 2 * (s : Int) := by rw [IntKind.wrap_i64]; omega
          go_wp2
          go_loopg [7, 8] n (fun kx sa sb wr => ∃ (a b : Nat) (dk : Array α), sa = .int .i64 a ∧ sb = .int .i64 b ∧ (b ≤ a + 2 * s ∧ a + 2 * s ≤ b) ∧ a ≤ n ∧ n - a ≤ kx ∧ dk.size = d.size ∧ Aside (SWK enc k w0 blk off dk wr) ∧ Aside (mergePass lt s n a dk = mergePass lt s n 0 dj))
          case atStart => exact ⟨0, 2 * s, dj, by first | rfl | go_num, by first | rfl | go_num | (congr 1; omega), by omega, by omega, by omega, hds, S4, rfl⟩
          case round =>
            clear S4
            obtain ⟨a, b, dk, rfl, rfl, hab, han, hkx3, hds3, S5, heq3⟩ := hrel
            obtain ⟨q, hq⟩ : ∃ q : Nat, q = a + s := ⟨_, rfl⟩
            have has : (a : Int) + (s : Int) = (q : Int) := by omega
            have hqs : a + s ≤ q ∧ q ≤ a + s := by omega
            have HQ : Aside (q = a + s) := hq
            clear hq
            have HB : Aside (b = a + 2 * s) := by show _ = _; omega
            by_cases hlt3 : b ≤ n
            · have hltz3 : (b : Int) ≤ (n : Int) := by omega
              go_wp2_with (go_at_fn 115; refine (hsy.out (2 * s) a q b dk _ hds3 S5.out (by omega) (by omega) (by omega) (by omega)).mono ?_; rintro e w2 ⟨rfl, S6⟩; have S7 : Aside _ := S6; clear S6)
              go_roundg (n - b)
              case measure => omega
              case rel =>
                have he := heq3.out
                rw [mergePass, if_pos ⟨hs0, by omega⟩, ← HB.out, ← HQ.out] at he
                exact ⟨b, b + 2 * s, _, rfl, by first | rfl | go_num | (congr 1; omega), by omega, hlt3, Nat.le_refl _, by rw [size_symM]; exact hds3, S7, he⟩
            · have hltz3 : (n : Int) < (b : Int) := by omega
              by_cases hm : q < n
              · have hmz : (q : Int) < (n : Int) := by omega
                go_wp2_with (go_at_fn 115; refine (hsy.out (n - a) a q n dk _ hds3 S5.out (by omega) (by omega) (by omega) (by omega)).mono ?_; rintro e w2 ⟨rfl, S6⟩; have S7 : Aside _ := S6; clear S6)
                go_roundg (n - 2 * s)
                case measure => omega
                case rel =>
                  have he := heq3.out
                  rw [mergePass, if_neg (by omega), ← HQ.out, if_pos hm] at he
                  have he2 := heq2.out
                  rw [mergeLoop, if_pos ⟨hs0, hlt⟩, ← he] at he2
                  exact ⟨2 * s, _, by first | rfl | go_num | (congr 1; omega), by omega, by omega, Nat.le_refl _, by rw [size_symM]; exact hds3, S7, he2⟩
              · have hmz : (n : Int) ≤ (q : Int) := by omega
                go_wp2
                go_roundg (n - 2 * s)
                case measure => omega
                case rel =>
                  have he := heq3.out
                  rw [mergePass, if_neg (by omega), ← HQ.out, if_neg hm] at he
                  have he2 := heq2.out
                  rw [mergeLoop, if_pos ⟨hs0, hlt⟩, ← he] at he2
                  exact ⟨2 * s, _, by first | rfl | go_num | (congr 1; omega), by omega, by omega, Nat.le_refl _, hds3, S5, he2⟩
        · have hltz : (n : Int) ≤ (s : Int) := by omega
          go_wp2
          go_end0
          refine ⟨rfl, ?_⟩
          have he := heq2.out
          rw [mergeLoop, if_neg (fun h => hlt h.2)] at he
          rw [← he]
          exact S4.out
--@@ end
end Go.Proofs.YtpcpeoejcnndhaaGreat
