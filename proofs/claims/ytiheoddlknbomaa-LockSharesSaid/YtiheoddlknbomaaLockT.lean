/- A table of locks as plain data. No program text. -/
import Derived.Test.YtiheoddlknbomaaPairs
set_option linter.all false
namespace Go.Proofs.Ytiheoddlknbomaa
set_option linter.unusedVariables false
set_option linter.unusedSimpArgs false

/-! rows of pairs, by their keys -/
section
variable {α β : Type} [DecidableEq α]
theorem tget_put (k j : α) (v : β) : ∀ l : List (α × β), aget j (aput k v l) = if k = j then some v else aget j l
  | [] => by simp [aput, aget]
  | p :: l => by
    have ih := tget_put k j v l
    by_cases h : p.1 = k
    · simp only [aput, h, if_true, aget]
      by_cases h2 : k = j <;> simp [h2]
    · simp only [aput, h, if_false, aget, ih]
      by_cases h2 : p.1 = j
      · have : k ≠ j := fun e => h (e ▸ h2)
        simp [h2, this]
      · simp [h2]
theorem tget_none {k : α} : ∀ {l : List (α × β)}, aget k l = none ↔ k ∉ l.map (·.1)
  | [] => by simp [aget]
  | p :: l => by
    simp only [aget, List.map_cons, List.mem_cons, not_or]
    by_cases hp : p.1 = k
    · simp [hp]
    · rw [if_neg hp, tget_none]
      exact ⟨fun h => ⟨fun e => hp e.symm, h⟩, fun h => h.2⟩
theorem tget_del (k j : α) : ∀ l : List (α × β), (l.map (·.1)).Nodup → aget j (adel k l) = if k = j then none else aget j l
  | [], _ => by simp [adel, aget]
  | p :: l, hn => by
    simp only [List.map_cons, List.nodup_cons] at hn
    have ih := tget_del k j l hn.2
    by_cases h : p.1 = k
    · simp only [adel, h, if_true, aget]
      by_cases h2 : k = j
      · subst h2
        simp only [if_true]
        rw [tget_none, ← h]
        exact hn.1
      · simp [h2]
    · simp only [adel, h, if_false, aget, ih]
      by_cases h2 : p.1 = j
      · have : k ≠ j := fun e => h (e ▸ h2)
        simp [h2, this]
      · simp [h2]
theorem tget_mem {k : α} {v : β} : ∀ {l : List (α × β)}, aget k l = some v → (k, v) ∈ l
  | [], h => by simp [aget] at h
  | p :: l, h => by
    simp only [aget] at h
    by_cases hp : p.1 = k
    · rw [if_pos hp] at h
      obtain rfl := Option.some.inj h
      subst hp
      exact List.mem_cons_self
    · rw [if_neg hp] at h
      exact List.mem_cons_of_mem _ (tget_mem h)
theorem tget_of_mem {k : α} {v : β} : ∀ {l : List (α × β)}, (l.map (·.1)).Nodup → (k, v) ∈ l → aget k l = some v
  | p :: l, hn, h => by
    simp only [List.map_cons, List.nodup_cons] at hn
    simp only [aget]
    rcases List.mem_cons.1 h with rfl | h
    · simp
    · have hne : p.1 ≠ k := fun e => hn.1 (List.mem_map.2 ⟨_, h, e.symm⟩)
      rw [if_neg hne]
      exact tget_of_mem hn.2 h
theorem tput_keys (k : α) (v : β) : ∀ l : List (α × β), (aput k v l).map (·.1) = if (aget k l).isSome = true then l.map (·.1) else l.map (·.1) ++ [k]
  | [] => rfl
  | p :: l => by
    have ih := tput_keys k v l
    simp only [aput, aget]
    by_cases h : p.1 = k
    · simp [h]
    · simp only [h, if_false, List.map_cons, ih]
      split <;> simp
theorem tput_nodup (k : α) (v : β) (l : List (α × β)) (h : (l.map (·.1)).Nodup) : ((aput k v l).map (·.1)).Nodup := by
  rw [tput_keys]
  split
  · exact h
  · rename_i hs
    have : aget k l = none := by
      cases hg : aget k l with
      | none => rfl
      | some v => rw [hg] at hs; simp at hs
    rw [tget_none] at this
    rw [List.nodup_append]
    exact ⟨h, by simp, fun a ha b hb => by simp at hb; subst hb; exact fun e => this (e ▸ ha)⟩
theorem tdel_sub (k : α) : ∀ l : List (α × β), (adel k l).Sublist l
  | [] => List.Sublist.refl _
  | p :: l => by
    simp only [adel]
    split
    · exact List.sublist_cons_self _ _
    · exact (tdel_sub k l).cons₂ _
theorem tdel_nodup (k : α) (l : List (α × β)) (h : (l.map (·.1)).Nodup) : ((adel k l).map (·.1)).Nodup := h.sublist ((tdel_sub k l).map _)
theorem tput_none (k : α) (v : β) {l : List (α × β)} (h : aget k l = none) : aput k v l = l ++ [(k, v)] := by
  induction l with
  | nil => rfl
  | cons p l ih =>
    simp only [aget] at h
    by_cases hp : p.1 = k
    · rw [if_pos hp] at h; cases h
    · rw [if_neg hp] at h
      simp only [aput, if_neg hp, ih h, List.cons_append]
end

/-! wishes, rows, the table -/
structure Wi where
  tx : Int
  ex : Bool
  since : Int
  ri : Bool
  deriving DecidableEq, Inhabited
structure Ro where
  h : List Wi
  q : List Wi
  deriving DecidableEq, Inhabited
structure Ta where
  lim : Int
  rows : List (K4 × Ro)
  waits : List (Int × K4)
/-- the place of a transaction among wishes -/
def heldAt (l : List Wi) (tx : Int) : Option Nat := l.findIdx? fun w => decide (w.tx = tx)
def mayR (h : List Wi) (w : Wi) : Bool := !h.any fun x => decide (x.tx ≠ w.tx) && (x.ex || w.ex)
def setEx (w : Wi) : Wi := ⟨w.tx, true, w.since, w.ri⟩
def grantR (h : List Wi) (w : Wi) : List Wi :=
  match heldAt h w.tx with
  | some i => h.modify i setEx
  | none => h ++ [w]
def waitAt (q : List Wi) (w : Wi) : Nat := if w.ri = true then (q.findIdx? fun x => !x.ri).getD q.length else q.length
def waitR (q : List Wi) (w : Wi) : List Wi := q.take (waitAt q w) ++ (w :: q.drop (waitAt q w))
/-- the key goes on: who holds it then, and who still waits -/
def onR : List Wi → List Wi → List Wi × List Wi
  | h, [] => (h, [])
  | h, q :: qs => if mayR h q = true then onR (grantR h q) qs else (h, q :: qs)
def dropR (l : List Wi) (tx : Int) : List Wi := l.filter fun w => decide (w.tx ≠ tx)
namespace Ta
def row (t : Ta) (k : K4) : Ro := (aget k t.rows).getD ⟨[], []⟩
/-- a key's row, a new one if there is none -/
def need (t : Ta) (k : K4) : Ta := if (aget k t.rows).isSome = true then t else { t with rows := t.rows ++ [(k, ⟨[], []⟩)] }
def setRow (t : Ta) (k : K4) (r : Ro) : Ta := { t with rows := aput k r t.rows }
def on (t : Ta) (k : K4) : Ta :=
  let r := t.row k
  let o := onR r.h r.q
  let n := r.q.length - o.2.length
  let t1 := (t.need k).setRow k ⟨o.1, o.2⟩
  { t1 with rows := if o.1.length + o.2.length = 0 then adel k t1.rows else t1.rows, waits := (r.q.take n).foldl (fun ws w => adel w.tx ws) t.waits }
def holds (t : Ta) (tx : Int) (k : K4) : Int :=
  match aget k t.rows with
  | none => 0
  | some r => match heldAt r.h tx with
    | none => 0
    | some i => if (r.h[i]!).ex = true then 2 else 1
def ask (t : Ta) (tx : Int) (k : K4) (ex : Bool) (now : Int) : Int × Ta :=
  if tx < 1 ∨ tx > 1048576 ∨ now < 0 ∨ now > 1099511627776 then (11, t)
  else
    let how := t.holds tx k
    if how = 2 ∨ (how = 1 ∧ ex = false) then (0, t)
    else match aget tx t.waits with
      | some other => if other = k then (17, t) else (13, t)
      | none =>
        let w : Wi := ⟨tx, ex, now, decide (how = 1)⟩
        let r := t.row k
        if mayR r.h w = true ∧ (r.q = [] ∨ w.ri = true) then (0, (t.need k).setRow k ⟨grantR r.h w, r.q⟩)
        else (17, { (t.need k).setRow k ⟨r.h, waitR r.q w⟩ with waits := aput tx k t.waits })
def quit (t : Ta) (tx : Int) : Bool × Ta :=
  match aget tx t.waits with
  | none => (false, t)
  | some k =>
    let t1 : Ta := { t with waits := adel tx t.waits }
    let r := t1.row k
    (true, ((t1.need k).setRow k ⟨r.h, dropR r.q tx⟩).on k)
/-- keys, sorted -/
def keysOf (t : Ta) (p : Ro → Bool) : List K4 := ((keysP ((t.rows.filter fun x => p x.2).map fun x => ⟨x.1, ⟨true, 0⟩⟩)).map (·.key))
def keys (t : Ta) (tx : Int) : List K4 := t.keysOf fun r => (heldAt r.h tx).isSome
def held (t : Ta) : List K4 := t.keysOf fun r => !r.h.isEmpty
/-- the keys that a transaction holds or waits for, each once, sorted -/
def own (t : Ta) (tx : Int) : List K4 :=
  match aget tx t.waits with
  | none => t.keys tx
  | some k => (keysP ((t.keys tx ++ [k]).map fun x => ⟨x, ⟨true, 0⟩⟩)).map (·.key)
def drop1 (tx : Int) (t : Ta) (k : K4) : Ta := (t.need k).setRow k ⟨dropR (t.row k).h tx, dropR (t.row k).q tx⟩
def free (t : Ta) (tx : Int) : Ta :=
  let ks := t.own tx
  let t1 : Ta := { t with waits := adel tx t.waits }
  ks.foldl on (ks.foldl (drop1 tx) t1)
end Ta
end Go.Proofs.Ytiheoddlknbomaa
