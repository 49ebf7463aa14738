/- Rows of elements of k cells: one element put, the rest cleared; what a row is to those that read it. -/
import Derived.Test.YtiheoddlknbomaaRef00
import Derived.Shelf.SlSortCmp.KitK
set_option linter.all false
namespace Go.Proofs.Ytiheoddlknbomaa
open Go.RowKit Go.Shelf Go.Lib Go.Sort Go.Proofs
set_option linter.unusedVariables false
set_option linter.unusedSimpArgs false

section
variable {P : Program} {α : Type} [Inhabited α] {enc : α → List Value} {k : Nat} {w0 W : World} {blk off : Nat} {dk d0 : Array α}
theorem get_setIf (d : Array α) (i : Nat) (y : α) (hi : i < d.size) (x : Nat) : (d.setIfInBounds i y)[x]! = if x = i then y else d[x]! := by
  by_cases h : x = i
  · subst h; rw [if_pos rfl]; simp [hi]
  · rw [if_neg h]
    by_cases hx : x < d.size
    · simp [Array.getElem!_eq_getD, Array.getD, Array.getElem_setIfInBounds, hx, Ne.symm h]
    · simp [hx]
theorem setMany_put (hk : ∀ x, (enc x).length = k) (d : Array α) (i : Nat) (y : α) (hi : i < d.size) : setMany (flatK enc k d) (i * k) (enc y) = flatK enc k (d.setIfInBounds i y) := by
  refine ext_get! (by simp) fun t ht => ?_
  have ht' : t < d.size * k := by simpa using ht
  have k0 : 0 < k := by rcases Nat.eq_zero_or_pos k with h | h; · subst h; simp at ht'
                        · exact h
  rw [get_setMany _ _ _ t (by simpa using ht'), get_flatK _ _ _ t ht', get_flatK _ _ _ t (by simpa using ht'), hk, get_setIf _ _ _ hi]
  have m : ∀ q, t / k = q → t - q * k = t % k := fun q h => by subst h; rw [Nat.mod_eq_sub_div_mul]
  by_cases a : t / k = i
  · rw [if_pos ((blk_iff k i t k0).2 a), m i a, if_pos a]
  · rw [if_neg (fun h => a ((blk_iff k i t k0).1 h)), if_neg a]
theorem swk_put (h : SWK enc k w0 blk off dk W) (R : RowK enc k w0 blk off d0) (i : Nat) (y : α) (hi : i < dk.size) :
    SWK enc k w0 blk off (dk.setIfInBounds i y) (W.setCells blk (off + i * k) (enc y)) := by
  obtain ⟨n, os, rfl⟩ := h
  refine ⟨n, os, ?_⟩
  unfold sortWorldK
  rw [← putRowK_grow enc k (Sort.ahead w0 n) os blk off dk R.hblk, ← putRowK_grow enc k (Sort.ahead w0 n) os blk off _ R.hblk]
  unfold putRowK
  rw [setCells_putRow _ _ _ _ _ _ (by rw [R.hk, size_flatK]; exact rowK_bnd dk k i hi), setMany_put R.hk dk i y hi]
theorem swk_st (h : SWK enc k w0 blk off dk W) (R : RowK enc k w0 blk off d0) (hs : dk.size = d0.size) (P : Program) (i : Nat) (hi : i < dk.size) (y : α) :
    Sem.run P (storeCells ⟨blk, off + i * k, none⟩ (enc y) 0) W = .ok () (W.setCells blk (off + i * k) (enc y)) :=
  stores_of_holds P (h.holds R.hblk R.hH hs) (i * k) _ (by rw [R.hk, size_flatK]; exact rowK_bnd dk k i hi) (R.h1 _)
def zfill (zr : α) (i : Nat) (d : Array α) : Array α := (d.toList.take i ++ List.replicate (d.size - i) zr).toArray
theorem size_zfill (zr : α) (i : Nat) (d : Array α) (hi : i ≤ d.size) : (zfill zr i d).size = d.size := by simp [zfill]; omega
theorem get_zfill (zr : α) (i : Nat) (d : Array α) (hi : i ≤ d.size) (x : Nat) (hx : x < d.size) : (zfill zr i d)[x]! = if x < i then d[x]! else zr := by
  unfold zfill
  by_cases h : x < i
  · rw [if_pos h, getElem!_pos _ _ (by simp; omega), getElem!_pos d x hx, List.getElem_toArray, List.getElem_append_left (by simp; omega), List.getElem_take]
    simp
  · rw [if_neg h, getElem!_pos _ _ (by simp; omega), List.getElem_toArray, List.getElem_append_right (by simp; omega)]
    simp
theorem zeroCells_flat (zr : α) (hk : ∀ x, (enc x).length = k) (n : Nat) : (Builtin.zeroCells (enc zr).toArray n).toList = (flatK enc k (Array.replicate n zr)).toList := by
  congr 1
  refine ext_get! (by simp [Builtin.zeroCells, hk]) fun t ht => ?_
  have ht' : t < n * k := by simpa [Builtin.zeroCells, hk] using ht
  rw [get_flatK _ _ _ t (by simpa using ht')]
  have k0 : 0 < k := by rcases Nat.eq_zero_or_pos k with h | h; · subst h; simp at ht'
                        · exact h
  have q : t / k < n := (Nat.div_lt_iff_lt_mul k0).2 ht'
  rw [getElem!_pos _ t ht]
  simp [Builtin.zeroCells, hk, q]
theorem setMany_fill (hk : ∀ x, (enc x).length = k) (d : Array α) (zr : α) (i : Nat) (hi : i ≤ d.size) : setMany (flatK enc k d) (i * k) (flatK enc k (Array.replicate (d.size - i) zr)).toList = flatK enc k (zfill zr i d) := by
  have hz := size_zfill zr i d hi
  refine ext_get! (by simp [hz]) fun t ht => ?_
  have ht' : t < d.size * k := by simpa using ht
  have k0 : 0 < k := by rcases Nat.eq_zero_or_pos k with h | h; · subst h; simp at ht'
                        · exact h
  have q : t / k < d.size := (Nat.div_lt_iff_lt_mul k0).2 ht'
  rw [get_setMany _ _ _ t (by simpa using ht'), get_flatK enc k (zfill zr i d) t (by rw [hz]; exact ht'), get_zfill zr i d hi _ q]
  by_cases a : t / k < i
  · have : t < i * k := (Nat.div_lt_iff_lt_mul k0).1 a
    rw [if_neg (by omega), if_pos a, get_flatK _ _ _ t ht']
  · have h1 : i * k ≤ t := (Nat.le_div_iff_mul_le k0).1 (by omega)
    have h2 : (d.size - i) * k = d.size * k - i * k := Nat.sub_mul _ _ _
    rw [if_pos ⟨h1, by simp; omega⟩, if_neg a]
    have h3 : t - i * k < (d.size - i) * k := by omega
    have h4 := get_flatK enc k (Array.replicate (d.size - i) zr) (t - i * k) (by simpa using h3)
    have h5 : (t - i * k) / k < d.size - i := (Nat.div_lt_iff_lt_mul k0).2 h3
    have h6 : (t - i * k) % k = t % k := by rw [Nat.mul_comm, Nat.sub_mul_mod (by rw [Nat.mul_comm]; exact h1)]
    have e : (flatK enc k (Array.replicate (d.size - i) zr)).toList[t - i * k]! = (flatK enc k (Array.replicate (d.size - i) zr))[t - i * k]! := by
      rw [getElem!_pos _ _ (by simpa using h3), getElem!_pos _ _ (by simpa using h3)]; simp
    rw [e, h4, h6]
    simp [h5]
theorem flat_one (h1 : ∀ x, ∀ v ∈ enc x, v.oneCell' = true) (hk : ∀ x, (enc x).length = k) (d : Array α) : ∀ v ∈ (flatK enc k d).toList, v.oneCell' = true := fun v hv => by
  obtain ⟨t, ht, rfl⟩ := List.mem_iff_getElem.1 hv
  have ht' : t < d.size * k := by simpa using ht
  have k0 : 0 < k := by rcases Nat.eq_zero_or_pos k with h | h; · subst h; simp at ht'
                        · exact h
  have e : (flatK enc k d).toList[t] = (enc d[t / k]!)[t % k]! := by
    rw [← get_flatK enc k d t ht', getElem!_pos _ t (by simpa using ht')]; simp
  rw [e]
  have hm : t % k < (enc d[t / k]!).length := by rw [hk]; exact Nat.mod_lt _ k0
  rw [getElem!_pos (enc d[t / k]!) (t % k) hm]
  exact h1 (d[t / k]!) _ (List.getElem_mem hm)
/-- 'clear' of a row's end. -/
theorem swk_clear (h : SWK enc k w0 blk off dk W) (R : RowK enc k w0 blk off d0) (hs : dk.size = d0.size) {t e : TypeId} (ht : P.underlying t = some (.slice e)) {zr : α} (hv : ∀ w, (zeroValue e).run P w = .ok (.agg (enc zr).toArray) w) (i c : Nat) (hi : i < dk.size) :
    ∃ W', (∀ ty, (Builtin.clear_ #[t] ty #[.slice (some ⟨blk, off + i * k, none⟩) (dk.size - i) c]).run P W = .ok (.tuple #[]) W') ∧ SWK enc k w0 blk off (zfill zr i dk) W' := by
  have hH := h.holds R.hblk R.hH hs
  have hst := stores_of_holds P hH (i * k) (flatK enc k (Array.replicate (dk.size - i) zr)).toList (by
    have : (dk.size - i) * k = dk.size * k - i * k := Nat.sub_mul _ _ _
    have h2 : i * k ≤ dk.size * k := Nat.mul_le_mul_right k (by omega)
    simp; omega) (flat_one R.h1 R.hk _)
  refine ⟨W.setCells blk (off + i * k) (flatK enc k (Array.replicate (dk.size - i) zr)).toList, fun ty => ?_, ?_⟩
  · obtain ⟨m, hm⟩ : ∃ m, dk.size - i = m + 1 := ⟨dk.size - i - 1, by omega⟩
    rw [hm] at hst ⊢
    have hz := zeroCells_flat zr R.hk (m + 1) (enc := enc)
    simp [Builtin.clear_, run_underlying ht, hv, Value.cells, hz, hst]
  · obtain ⟨n, os, rfl⟩ := h
    refine ⟨n, os, ?_⟩
    unfold sortWorldK
    rw [← putRowK_grow enc k (Sort.ahead w0 n) os blk off dk R.hblk, ← putRowK_grow enc k (Sort.ahead w0 n) os blk off _ R.hblk]
    unfold putRowK
    rw [setCells_putRow _ _ _ _ _ _ (by
      have : (dk.size - i) * k = dk.size * k - i * k := Nat.sub_mul _ _ _
      have h2 : i * k ≤ dk.size * k := Nat.mul_le_mul_right k (by omega)
      simp; omega), setMany_fill R.hk dk zr i (by omega)]
theorem kept_mapBlock (w : World) (b : Nat) (f : Array Value → Array Value) : Kept [b] w (mapBlock w b f) := by
  refine ⟨rfl, rfl, rfl, by simp [mapBlock], fun x hx hS => ?_⟩
  have hne : x ≠ b := fun e => hS (by simp [e])
  simp [mapBlock, Array.getElem?_modify, Ne.symm hne]
theorem kept_grow {S : List Nat} {a w : World} (h : Kept S a w) (os : Array Obj) : Kept S a (grow w os) := by
  refine ⟨h.os, h.tape, h.output, Nat.le_trans h.size (by rw [size_grow]; omega), fun x hx hS => ?_⟩
  rw [← h.block x hx hS]
  have : x < w.heap.size := Nat.lt_of_lt_of_le hx h.size
  simp [grow, Array.getElem?_append, this]
theorem swk_kept (h : SWK enc k w0 blk off dk W) : Kept [blk] w0 W := by
  obtain ⟨n, os, rfl⟩ := h
  unfold sortWorldK putRowK putRow
  exact kept_grow (((Kept.refl [blk] w0).drewN n).trans (kept_mapBlock _ _ _) fun x hx => .inl hx) os
theorem rowK_at (hk : ∀ x, (enc x).length = k) : ∀ (m : List α) (j : Nat), j < m.length * k → (m.flatMap enc)[j]? = (enc m[j / k]!)[j % k]? := fun m => by
  induction m with
  | nil => intro j h; simp at h
  | cons x m ih =>
    intro j h
    have k0 : 0 < k := by rcases Nat.eq_zero_or_pos k with h' | h'; · subst h'; simp at h
                          · exact h'
    rw [List.flatMap_cons]
    by_cases c : j < k
    · rw [List.getElem?_append_left (by rw [hk]; exact c), Nat.div_eq_of_lt c, Nat.mod_eq_of_lt c]; rfl
    · have e1 : j / k = (j - k) / k + 1 := by rw [Nat.div_eq_sub_div k0 (by omega)]
      have e2 : j % k = (j - k) % k := Nat.mod_eq_sub_mod (by omega)
      rw [List.getElem?_append_right (by rw [hk]; omega), hk, e1, e2, ih (j - k) (by simp [Nat.add_mul] at h; omega)]
      simp
theorem rowK_len (hk : ∀ x, (enc x).length = k) (m : List α) : (m.flatMap enc).length = m.length * k := by
  induction m with
  | nil => simp
  | cons x m ih => simp [ih, hk, Nat.add_mul]; omega
/-- a row of the kit's, as it may be read -/
theorem holdsK_slAt {w : World} (hk : ∀ x, (enc x).length = k) {d : Array α} (hH : HoldsK enc k w blk off d) (hb : blk < w.heap.size) (l : List α) (cap : Nat) (hl : l.length ≤ d.size) (he : ∀ x, x < l.length → d[x]! = l[x]!) (hm : l.length ≤ 9223372036854775807) :
    SlAt w (.slice (some ⟨blk, off, none⟩) l.length cap) k l.length (l.flatMap enc) := by
  have hlen := rowK_len hk
  refine ⟨_, cap, rfl, hm, hlen l, fun hn => ⟨blk, off, rfl, hb, fun j u hu => ?_⟩⟩
  have hj : j < l.length * k := by rw [← hlen]; exact (List.getElem?_eq_some_iff.1 hu).1
  have k0 : 0 < k := by rcases Nat.eq_zero_or_pos k with h | h; · subst h; simp at hj
                        · exact h
  have q : j / k < l.length := (Nat.div_lt_iff_lt_mul k0).2 hj
  have hcell := rowK_at hk
  rw [hcell l j hj] at hu
  rw [← he _ q] at hu
  have hjm : j % k < k := Nat.mod_lt _ k0
  have := HoldsK.cells hH hk (i := j / k) (by omega) (j % k) u hu
  have e3 : off + j / k * k + j % k = off + j := by have := Nat.div_add_mod j k; rw [Nat.mul_comm] at this; omega
  rw [Addr.add_lit, e3] at this
  exact this
theorem holds_of_cells (hk : ∀ x, (enc x).length = k) {w : World} (d : Array α) (hc : ∀ i, i < d.size → ∀ j u, (enc d[i]!)[j]? = some u → w.cell? ⟨blk, off + i * k + j, none⟩ = some u) (hf : ∀ j, w.frozen? ⟨blk, j, none⟩ = false) : HoldsK enc k w blk off d := by
  intro j hj
  have hj' : j < d.size * k := by simpa using hj
  have k0 : 0 < k := by rcases Nat.eq_zero_or_pos k with h | h; · subst h; simp at hj'
                        · exact h
  refine ⟨?_, hf _⟩
  have q : j / k < d.size := (Nat.div_lt_iff_lt_mul k0).2 hj'
  have m : j % k < (enc d[j / k]!).length := by rw [hk]; exact Nat.mod_lt _ k0
  have := hc (j / k) q (j % k) _ (List.getElem?_eq_getElem m)
  rw [get_flatK enc k d j hj', getElem!_pos (enc d[j / k]!) (j % k) m]
  have e3 : off + j / k * k + j % k = off + j := by have := Nat.div_add_mod j k; rw [Nat.mul_comm] at this; omega
  rw [e3] at this
  exact this
theorem holdsK_laid {w : World} (hk : ∀ x, (enc x).length = k) {d : Array α} (hH : HoldsK enc k w blk off d) (l : List α) (hl : l.length ≤ d.size) (he : ∀ x, x < l.length → d[x]! = l[x]!) : HoldsK enc k w blk off l.toArray := by
  intro j hj
  have hj' : j < l.length * k := by simpa using hj
  have k0 : 0 < k := by rcases Nat.eq_zero_or_pos k with h | h; · subst h; simp at hj'
                        · exact h
  have q : j / k < l.length := (Nat.div_lt_iff_lt_mul k0).2 hj'
  have hb : l.length * k ≤ d.size * k := Nat.mul_le_mul_right k hl
  have h := hH j (by simp; omega)
  rw [get_flatK enc k d j (by omega), he _ q] at h
  rw [get_flatK enc k l.toArray j (by simpa using hj')]
  have : l.toArray[j / k]! = l[j / k]! := by simp
  rw [this]; exact h
end
end Go.Proofs.Ytiheoddlknbomaa
