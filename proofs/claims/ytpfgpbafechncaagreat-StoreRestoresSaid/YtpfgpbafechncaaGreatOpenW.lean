/- How data come in whose structs hold slices: what is said of a cell may speak of the world. No program text. -/
import Derived.Test.YtpfgpbafechncaaGreatM1
set_option linter.all false
namespace Go.Proofs.YtpfgpbafechncaaGreat
open Go.RowKit Go.ChangeShapes Go.WideShapes Go.ChangeAt
def FlatW (P : Program) (W : World) (t : TypeId) (ps : List (Value → Prop)) : Prop :=
  P.cellsOf t = ps.length ∧ ∀ (H : Type) (enc : TypeId × Value → H) (base : Nat) (spare : Nat → Bool) (held : Bool) (fuel : Nat) (cs : List Value) (x : DataW H × List MemPlace),
    DataW.trod enc P W base spare held fuel t cs = some x → All2 ps cs
section
variable {P : Program} {W : World}
theorem Flat.w {t : TypeId} {ps : List (Value → Prop)} (h : Flat P t ps) : FlatW P W t ps := ⟨h.1, fun H enc base spare held fuel cs x hx => h.2 _ _ _ _ _ _ _ _ _ hx⟩
def FlatFieldsW (P : Program) (W : World) : List Field → Nat → List (List (Value → Prop)) → Prop
  | [], _, [] => True
  | f :: fs, off, ps :: r => f.offset = off ∧ FlatW P W f.type ps ∧ FlatFieldsW P W fs (off + ps.length) r
  | _, _, _ => False
theorem flat_fieldsW {H : Type} {enc : TypeId × Value → H} {base : Nat} {spare : Nat → Bool} {held : Bool} {n : Nat} {cs : List Value} :
    ∀ (fs : List Field) (off : Nat) (pss : List (List (Value → Prop))), FlatFieldsW P W fs off pss → (∀ (i : Nat) (f : Field), fs[i]? = some f → ∃ x, DataW.trod enc P W base spare held n f.type ((cs.drop f.offset).take (P.cellsOf f.type)) = some x) →
      cs.length = off + pss.flatten.length → All2 pss.flatten (cs.drop off)
  | [], off, [], _, _, hl => by
    simp at hl
    rw [List.drop_of_length_le (by omega)]; trivial
  | f :: fs, off, ps :: r, h, hx, hl => by
    obtain ⟨h1, h2, h3⟩ := h
    obtain ⟨x, hx0⟩ := hx 0 f rfl
    have a1 := h2.2 _ _ _ _ _ _ _ _ hx0
    rw [h1, h2.1] at a1
    have a2 := flat_fieldsW fs (off + ps.length) r h3 (fun i g hg => hx (i + 1) g (by simpa using hg)) (by simp at hl ⊢; omega)
    have e : cs.drop off = (cs.drop off).take ps.length ++ cs.drop (off + ps.length) := by
      rw [← List.drop_drop, List.take_append_drop]
    rw [e, List.flatten_cons]
    exact All2.append a1 a2
  | [], _, _ :: _, h, _, _ => h.elim
  | _ :: _, _, [], h, _, _ => h.elim
theorem FlatW.struct {t : TypeId} {fs : List Field} {pss : List (List (Value → Prop))} (ht : P.underlying t = some (.struct fs.toArray)) (hc : P.cellsOf t = pss.flatten.length) (hf : FlatFieldsW P W fs 0 pss) : FlatW P W t pss.flatten :=
  ⟨hc, fun H enc base spare held fuel cs x h => by
    obtain ⟨xs, n, _, _, hl, hlen, hx⟩ := DataW.trod_struct ht h
    have := flat_fieldsW (enc := enc) (base := base) (spare := spare) (held := held) (n := n) (cs := cs) fs 0 pss hf (fun i f hi => by
      have h2 := hx i f (by simpa using hi)
      have hlt : i < xs.length := by
        rw [hlen]
        have := (List.getElem?_eq_some_iff.1 hi).1
        simpa using this
      rw [List.getElem?_eq_getElem hlt] at h2
      exact ⟨_, h2⟩) (by rw [hl, hc]; simp)
    simpa using this⟩
def IsSl {α : Type} (W : World) (c : Nat) (f : α → List Value) (ok : α → Prop) (v : Value) : Prop := ∃ l : List α, SlAt W v c l.length (l.flatMap f) ∧ ∀ x ∈ l, ok x
theorem trod_sl {α : Type} {H : Type} {enc : TypeId × Value → H} {base : Nat} {spare : Nat → Bool} {held : Bool} {fuel : Nat} {t e : TypeId} {cs : List Value} {x : DataW H × List MemPlace} {ps : List (Value → Prop)}
    (ht : P.underlying t = some (.slice e)) (hf : FlatW P W e ps) (hpos : 0 < ps.length) (f : α → List Value) (ok : α → Prop) (hdec : ∀ cs, All2 ps cs → ∃ x, cs = f x ∧ ok x) (hlen : ∀ x, (f x).length = ps.length)
    (h : DataW.trod enc P W base spare held fuel t cs = some x) : ∃ v, cs = [v] ∧ IsSl W ps.length f ok v := by
  rcases Go.Deep.open_slice ht h with ⟨hcs, _⟩ | ⟨a, len, cap, m, n, D, Pl, hcs, hb, hl, hm, hmm, hx, hall⟩
  · exact ⟨_, hcs, [], ⟨none, 0, rfl, by simp, by simp, by simp⟩, by simp⟩
  · refine ⟨_, hcs, ?_⟩
    show ∃ l : List α, _
    have hlm : len ≤ m := by rw [hmm]; split <;> omega
    obtain ⟨l, hl1, hl2⟩ := list_choose (n := len) (R := fun i x => ok x ∧ ∀ j u, (f x)[j]? = some u → W.cell? ((a.add (i * ps.length)).add j) = some u) (fun i hi => by
      obtain ⟨cs', h1, h2⟩ := hall i (by omega)
      have a1 := hf.2 _ _ _ _ _ _ _ _ h2
      obtain ⟨x, rfl, hok⟩ := hdec cs' a1
      refine ⟨x, hok, fun j u hj => ?_⟩
      rw [hf.1] at h1
      obtain ⟨_, hl', hc'⟩ := World.cells?_some h1
      have hjl := (List.getElem?_eq_some_iff.1 hj).1
      rw [hlen] at hjl
      rw [hc' j hjl]; exact hj)
    have key : ∀ i x j u, l[i]? = some x → (f x)[j]? = some u → W.cell? ((a.add (i * ps.length)).add j) = some u := fun i x j u hi hj => (hl2 i x hi).2 j u hj
    refine ⟨l, ⟨some a, cap, by rw [hl1], by unfold maxLen at hm; omega, flatMap_len f hlen l, fun hpos' => ?_⟩, fun x hx => ?_⟩
    · obtain ⟨b, off, sp⟩ := a
      have h0 : ∃ x, l[0]? = some x := ⟨l[0], by simp [hpos']⟩
      obtain ⟨x0, hx0⟩ := h0
      have hlt0 : 0 < (f x0).length := by rw [hlen]; exact hpos
      have c0 := key 0 x0 0 (f x0)[0] hx0 (by simp [hlt0])
      have hsp : sp = none := by
        cases sp with
        | none => rfl
        | some s =>
          simp [World.cell?, Addr.add] at c0
          split at c0 <;> simp_all
      subst hsp
      have hadd : ∀ o j, (⟨b, o, none⟩ : Addr).add j = ⟨b, o + j, none⟩ := fun o j => by unfold Addr.add; split <;> simp_all
      refine ⟨b, off, rfl, ?_, fun j u hj => ?_⟩
      · rw [hadd, hadd] at c0
        exact World.block_lt_of_cell? W _ c0
      · have hjl : j < l.length * ps.length := by
          have := (List.getElem?_eq_some_iff.1 hj).1
          rwa [flatMap_len f hlen] at this
        have hq : j / ps.length < l.length := Nat.div_lt_of_lt_mul (by rw [Nat.mul_comm]; exact hjl)
        have hr : j % ps.length < ps.length := Nat.mod_lt _ hpos
        have hj' : j / ps.length * ps.length + j % ps.length = j := by rw [Nat.mul_comm]; exact Nat.div_add_mod _ _
        have e := flatMap_get f hlen l (j / ps.length) (j % ps.length) l[j / ps.length] (by simp [hq]) hr
        rw [hj', hj] at e
        have := key (j / ps.length) l[j / ps.length] (j % ps.length) u (by simp [hq]) e.symm
        rw [hadd, hadd, Nat.add_assoc, hj'] at this
        exact this
    · obtain ⟨i, hi⟩ := List.mem_iff_getElem?.1 hx
      exact (hl2 i x hi).1
theorem FlatW.slice {α : Type} {t e : TypeId} {ps : List (Value → Prop)} (ht : P.underlying t = some (.slice e)) (hc : P.cellsOf t = 1) (hf : FlatW P W e ps) (hpos : 0 < ps.length) (f : α → List Value) (ok : α → Prop) (hdec : ∀ cs, All2 ps cs → ∃ x, cs = f x ∧ ok x) (hlen : ∀ x, (f x).length = ps.length) : FlatW P W t [IsSl W ps.length f ok] :=
  ⟨hc, fun H enc base spare held fuel cs x h => by
    obtain ⟨v, rfl, hv⟩ := trod_sl ht hf hpos f ok hdec hlen h
    exact ⟨hv, trivial⟩⟩
theorem open_flatsW {α : Type} {H : Type} {enc : TypeId × Value → H} {w : World} {base b0 : Nat} {spare : Nat → Bool} {held : Bool} {r : Reach} {t e : TypeId} {v : Value} {d : DataW H} {p : List MemPlace} {ps : List (Value → Prop)}
    (ht : P.underlying t = some (.slice e)) (hf : FlatW P W e ps) (hpos : 0 < ps.length) (f : α → List Value) (ok : α → Prop) (hdec : ∀ cs, All2 ps cs → ∃ x, cs = f x ∧ ok x) (hlen : ∀ x, (f x).length = ps.length)
    (hv : Value.okWide P w r b0 t v) (h : DataW.Trod enc P W base spare held t v d p) : ∃ l : List α, SlAt W v ps.length l.length (l.flatMap f) ∧ ∀ x ∈ l, ok x := by
  obtain ⟨a0, len, cap, rfl⟩ := okWide_slice ht hv
  obtain ⟨fuel, hf'⟩ := h
  obtain ⟨v, hv', hsl⟩ := trod_sl ht hf hpos f ok hdec hlen hf'
  simp [Value.cells] at hv'
  subst hv'
  exact hsl
end
end Go.Proofs.YtpfgpbafechncaaGreat
