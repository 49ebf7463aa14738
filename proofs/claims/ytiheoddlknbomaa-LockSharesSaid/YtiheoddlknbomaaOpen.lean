/- How flat data (ints, bools, strings, structs and arrays of these; slices of such) come in. No program text. -/
import Derived.Test.YtiheoddlknbomaaRef00
import Derived.ProofKit
import Derived.OpenShut
import Derived.Lib.SmallJoins
import Derived.Deep.Slices
set_option linter.all false
namespace Go.Proofs.Ytiheoddlknbomaa
open Go.RowKit Go.ChangeShapes Go.WideShapes Go.ChangeAt
set_option linter.unusedVariables false
set_option linter.unusedSimpArgs false

def All2 : List (Value → Prop) → List Value → Prop
  | [], [] => True
  | p :: ps, v :: vs => p v ∧ All2 ps vs
  | _, _ => False
theorem All2.len : ∀ {ps : List (Value → Prop)} {vs : List Value}, All2 ps vs → vs.length = ps.length
  | [], [], _ => rfl
  | _ :: ps, _ :: vs, h => by simp [All2.len h.2]
  | [], _ :: _, h => h.elim
  | _ :: _, [], h => h.elim
theorem All2.append : ∀ {ps qs : List (Value → Prop)} {vs us : List Value}, All2 ps vs → All2 qs us → All2 (ps ++ qs) (vs ++ us)
  | [], _, [], _, _, h => h
  | _ :: ps, _, _ :: vs, _, h, h' => ⟨h.1, All2.append h.2 h'⟩
  | [], _, _ :: _, _, h, _ => h.elim
  | _ :: _, _, [], _, h, _ => h.elim
theorem All2.cons {p : Value → Prop} {ps : List (Value → Prop)} : ∀ {cs : List Value}, All2 (p :: ps) cs → ∃ v vs, cs = v :: vs ∧ p v ∧ All2 ps vs
  | [], h => h.elim
  | v :: vs, h => ⟨v, vs, rfl, h.1, h.2⟩
theorem All2.nil : ∀ {cs : List Value}, All2 [] cs → cs = []
  | [], _ => rfl
  | _ :: _, h => h.elim
def IsI (k : IntKind) (v : Value) : Prop := ∃ n, v = .int k n ∧ k.min ≤ n ∧ n ≤ k.max
def IsB (v : Value) : Prop := ∃ b, v = .bool b
def IsS (v : Value) : Prop := ∃ s, v = .string s ∧ s.size ≤ maxLen

/-- whatever of type t is read has cells of these kinds -/
def Flat (P : Program) (t : TypeId) (ps : List (Value → Prop)) : Prop :=
  P.cellsOf t = ps.length ∧ ∀ (H : Type) (enc : TypeId × Value → H) (w : World) (base : Nat) (spare : Nat → Bool) (held : Bool) (fuel : Nat) (cs : List Value) (x : DataW H × List MemPlace),
    DataW.trod enc P w base spare held fuel t cs = some x → All2 ps cs
section
variable {P : Program}
theorem wf_range {k : IntKind} {n : Int} (h : (Lit.int k n).wf = true) : k.min ≤ n ∧ n ≤ k.max := by simpa [Lit.wf] using h
theorem Flat.int {t : TypeId} {k : IntKind} (ht : P.underlying t = some (.int k)) (hc : P.cellsOf t = 1) : Flat P t [IsI k] :=
  ⟨hc, fun H enc w base spare held fuel cs x h => by
    obtain ⟨n, rfl, _, hw⟩ := DataW.trod_int ht h
    exact ⟨⟨n, rfl, wf_range hw⟩, trivial⟩⟩
theorem Flat.bool {t : TypeId} (ht : P.underlying t = some .bool) (hc : P.cellsOf t = 1) : Flat P t [IsB] :=
  ⟨hc, fun H enc w base spare held fuel cs x h => by
    cases fuel with
    | zero => simp [DataW.trod] at h
    | succ n =>
      unfold DataW.trod at h
      rw [ht] at h
      split at h <;> simp_all [All2, IsB]⟩
theorem Flat.string {t : TypeId} (ht : P.underlying t = some .string) (hc : P.cellsOf t = 1) : Flat P t [IsS] :=
  ⟨hc, fun H enc w base spare held fuel cs x h => by
    cases fuel with
    | zero => simp [DataW.trod] at h
    | succ n =>
      unfold DataW.trod at h
      rw [ht] at h
      split at h <;> simp_all [All2, IsS]⟩
/-- a struct's fields, one behind the other -/
def FlatFields (P : Program) : List Field → Nat → List (List (Value → Prop)) → Prop
  | [], _, [] => True
  | f :: fs, off, ps :: r => f.offset = off ∧ Flat P f.type ps ∧ FlatFields P fs (off + ps.length) r
  | _, _, _ => False
theorem flat_fields {H : Type} {enc : TypeId × Value → H} {w : World} {base : Nat} {spare : Nat → Bool} {held : Bool} {n : Nat} {cs : List Value} :
    ∀ (fs : List Field) (off : Nat) (pss : List (List (Value → Prop))), FlatFields P fs off pss → (∀ (i : Nat) (f : Field), fs[i]? = some f → ∃ x, DataW.trod enc P w base spare held n f.type ((cs.drop f.offset).take (P.cellsOf f.type)) = some x) →
      cs.length = off + pss.flatten.length → All2 pss.flatten (cs.drop off)
  | [], off, [], _, _, hl => by
    simp at hl
    rw [List.drop_of_length_le (by omega)]; trivial
  | f :: fs, off, ps :: r, h, hx, hl => by
    obtain ⟨h1, h2, h3⟩ := h
    obtain ⟨x, hx0⟩ := hx 0 f rfl
    have a1 := h2.2 _ _ _ _ _ _ _ _ _ hx0
    rw [h1, h2.1] at a1
    have a2 := flat_fields fs (off + ps.length) r h3 (fun i g hg => hx (i + 1) g (by simpa using hg)) (by simp at hl ⊢; omega)
    have e : cs.drop off = (cs.drop off).take ps.length ++ cs.drop (off + ps.length) := by
      rw [← List.drop_drop, List.take_append_drop]
    rw [e, List.flatten_cons]
    exact All2.append a1 a2
  | [], _, _ :: _, h, _, _ => h.elim
  | _ :: _, _, [], h, _, _ => h.elim
theorem Flat.struct {t : TypeId} {fs : List Field} {pss : List (List (Value → Prop))} (ht : P.underlying t = some (.struct fs.toArray)) (hc : P.cellsOf t = pss.flatten.length) (hf : FlatFields P fs 0 pss) : Flat P t pss.flatten :=
  ⟨hc, fun H enc w base spare held fuel cs x h => by
    obtain ⟨xs, n, _, _, hl, hlen, hx⟩ := DataW.trod_struct ht h
    have := flat_fields (enc := enc) (w := w) (base := base) (spare := spare) (held := held) (n := n) (cs := cs) fs 0 pss hf (fun i f hi => by
      have h2 := hx i f (by simpa using hi)
      have hlt : i < xs.length := by
        rw [hlen]
        have := (List.getElem?_eq_some_iff.1 hi).1
        simpa using this
      rw [List.getElem?_eq_getElem hlt] at h2
      exact ⟨_, h2⟩) (by rw [hl, hc]; simp)
    simpa using this⟩
theorem flat_rows {H : Type} {enc : TypeId × Value → H} {w : World} {base : Nat} {spare : Nat → Bool} {held : Bool} {m : Nat} {e : TypeId} {ps : List (Value → Prop)} (hf : Flat P e ps) :
    ∀ (n : Nat) (cs : List Value), cs.length = n * ps.length → (∀ i, i < n → ∃ x, DataW.trod enc P w base spare held m e ((cs.drop (i * ps.length)).take ps.length) = some x) → All2 (List.replicate n ps).flatten cs
  | 0, cs, hl, _ => by
    have : cs = [] := List.eq_nil_of_length_eq_zero (by simpa using hl)
    subst this; trivial
  | n + 1, cs, hl, hx => by
    obtain ⟨x, h0⟩ := hx 0 (by omega)
    simp only [Nat.zero_mul, List.drop_zero] at h0
    have a1 := hf.2 _ _ _ _ _ _ _ _ _ h0
    have a2 := flat_rows hf n (cs.drop ps.length) (by rw [List.length_drop, hl, Nat.succ_mul]; omega) (fun i hi => by
      obtain ⟨y, hy⟩ := hx (i + 1) (by omega)
      rw [List.drop_drop]
      rw [Nat.succ_mul, Nat.add_comm] at hy
      exact ⟨y, hy⟩)
    rw [← List.take_append_drop ps.length cs, List.replicate_succ, List.flatten_cons]
    exact All2.append a1 a2
theorem Flat.array {t e : TypeId} {n : Nat} {ps : List (Value → Prop)} (ht : P.underlying t = some (.array n e)) (hc : P.cellsOf t = n * ps.length) (hf : Flat P e ps) : Flat P t (List.replicate n ps).flatten :=
  ⟨by rw [hc]; simp, fun H enc w base spare held fuel cs x h => by
    obtain ⟨xs, m, _, _, hl, hlen, hx⟩ := DataW.trod_array ht h
    refine flat_rows (enc := enc) (w := w) (base := base) (spare := spare) (held := held) (m := m) hf n cs (by rw [hl, hc]) fun i hi => ?_
    have h2 := hx i hi
    rw [hf.1, List.getElem?_eq_getElem (by omega)] at h2
    exact ⟨_, h2⟩⟩

/-- a value that is a struct or an array: the aggregate of its cells -/
theorem open_agg {H : Type} {enc : TypeId × Value → H} {w W : World} {base b0 : Nat} {spare : Nat → Bool} {held : Bool} {r : Reach} {t : TypeId} {v : Value} {d : DataW H} {p : List MemPlace} {ps : List (Value → Prop)} {ds : TypeDesc}
    (hd : P.underlying t = some ds) (ha : (match ds with | .struct _ => true | .array _ _ => true | _ => false) = true) (hf : Flat P t ps)
    (hv : Value.okWide P w r b0 t v) (h : DataW.Trod enc P W base spare held t v d p) : ∃ cs : List Value, v = .agg cs.toArray ∧ All2 ps cs := by
  obtain ⟨fuel, hf'⟩ := h
  have a := hf.2 _ _ _ _ _ _ _ _ _ hf'
  unfold Value.okWide at hv
  rw [hd] at hv
  have : ∃ cs, v = .agg cs := by
    cases ds <;> simp at ha <;> exact ⟨_, hv.choose_spec.1⟩
  obtain ⟨cs, rfl⟩ := this
  exact ⟨cs.toList, by simp, by simpa [Value.cells] using a⟩
theorem list_choose {α : Type} {n : Nat} {R : Nat → α → Prop} (h : ∀ i, i < n → ∃ x, R i x) : ∃ l : List α, l.length = n ∧ ∀ i x, l[i]? = some x → R i x := by
  induction n with
  | zero => exact ⟨[], rfl, by simp⟩
  | succ n ih =>
    obtain ⟨l, h1, h2⟩ := ih fun i hi => h i (by omega)
    obtain ⟨x, hx⟩ := h n (by omega)
    refine ⟨l ++ [x], by simp [h1], fun i y hy => ?_⟩
    by_cases hi : i < l.length
    · rw [List.getElem?_append_left hi] at hy; exact h2 i y hy
    · rw [List.getElem?_append_right (by omega)] at hy
      have hi' : i - l.length = 0 := by
        have := (List.getElem?_eq_some_iff.1 hy).1
        simp at this; omega
      rw [hi'] at hy
      simp at hy
      subst hy
      have : i = n := by omega
      subst this; exact hx
theorem flatMap_get {α : Type} {c : Nat} (f : α → List Value) (hc : ∀ x, (f x).length = c) : ∀ (l : List α) (i j : Nat) (x : α), l[i]? = some x → j < c → (l.flatMap f)[i * c + j]? = (f x)[j]?
  | [], _, _, _, h, _ => by simp at h
  | y :: l, 0, j, x, h, hj => by
    simp at h; subst h
    simp only [List.flatMap_cons, Nat.zero_mul, Nat.zero_add]
    rw [List.getElem?_append_left (by rw [hc]; omega)]
  | y :: l, i + 1, j, x, h, hj => by
    have := flatMap_get f hc l i j x (by simpa using h) hj
    simp only [List.flatMap_cons]
    rw [List.getElem?_append_right (by rw [hc, Nat.succ_mul]; omega), hc, ← this]
    congr 1; rw [Nat.succ_mul]; omega
theorem flatMap_len {α : Type} {c : Nat} (f : α → List Value) (hc : ∀ x, (f x).length = c) : ∀ (l : List α), (l.flatMap f).length = l.length * c
  | [] => by simp
  | y :: l => by simp only [List.flatMap_cons, List.length_append, hc, flatMap_len f hc l, List.length_cons, Nat.succ_mul]; omega
/-- a slice of such that comes in -/
theorem open_flats {α : Type} {H : Type} {enc : TypeId × Value → H} {w W : World} {base b0 : Nat} {spare : Nat → Bool} {held : Bool} {r : Reach} {t e : TypeId} {v : Value} {d : DataW H} {p : List MemPlace} {ps : List (Value → Prop)}
    (ht : P.underlying t = some (.slice e)) (hf : Flat P e ps) (hpos : 0 < ps.length) (f : α → List Value) (ok : α → Prop) (hdec : ∀ cs, All2 ps cs → ∃ x, cs = f x ∧ ok x) (hlen : ∀ x, (f x).length = ps.length)
    (hv : Value.okWide P w r b0 t v) (h : DataW.Trod enc P W base spare held t v d p) : ∃ l : List α, SlAt W v ps.length l.length (l.flatMap f) ∧ ∀ x ∈ l, ok x := by
  obtain ⟨a0, len, cap, rfl⟩ := okWide_slice ht hv
  obtain ⟨fuel, hf'⟩ := h
  rcases Go.Deep.open_slice ht hf' with ⟨hcs, _⟩ | ⟨a, len', cap', m, n, D, Pl, hcs, hb, hl, hm, hmm, hx, hall⟩
  · simp [Value.cells] at hcs
    obtain ⟨rfl, rfl, rfl⟩ := hcs
    exact ⟨[], ⟨none, 0, rfl, by simp, by simp, by simp⟩, by simp⟩
  · simp [Value.cells] at hcs
    obtain ⟨rfl, rfl, rfl⟩ := hcs
    have hlm : len ≤ m := by rw [hmm]; split <;> omega
    obtain ⟨l, hl1, hl2⟩ := list_choose (n := len) (R := fun i x => ok x ∧ ∀ j u, (f x)[j]? = some u → W.cell? ((a.add (i * ps.length)).add j) = some u) (fun i hi => by
      obtain ⟨cs', h1, h2⟩ := hall i (by omega)
      have a1 := hf.2 _ _ _ _ _ _ _ _ _ h2
      obtain ⟨x, rfl, hok⟩ := hdec cs' a1
      refine ⟨x, hok, fun j u hj => ?_⟩
      rw [hf.1] at h1
      obtain ⟨_, hl', hc'⟩ := World.cells?_some h1
      have hjl := (List.getElem?_eq_some_iff.1 hj).1
      rw [hlen] at hjl
      rw [hc' j hjl]; exact hj)
    have key : ∀ i x j u, l[i]? = some x → (f x)[j]? = some u → W.cell? ((a.add (i * ps.length)).add j) = some u := fun i x j u hi hj => (hl2 i x hi).2 j u hj
    refine ⟨l, ⟨some a, cap, by rw [hl1], by unfold maxLen at hm; omega, flatMap_len f hlen l, fun hpos' => ?_⟩, fun x hx => ?_⟩
    · obtain ⟨b, off, sp⟩ := a
      have h0 : ∃ x, l[0]? = some x := ⟨l[0], by simp [hpos']⟩
      obtain ⟨x0, hx0⟩ := h0
      have hlt0 : 0 < (f x0).length := by rw [hlen]; exact hpos
      have c0 := key 0 x0 0 (f x0)[0] hx0 (by simp [hlt0])
      have hsp : sp = none := by
        cases sp with
        | none => rfl
        | some s =>
          simp [World.cell?, Addr.add] at c0
          split at c0 <;> simp_all
      subst hsp
      have hadd : ∀ o j, (⟨b, o, none⟩ : Addr).add j = ⟨b, o + j, none⟩ := fun o j => by unfold Addr.add; split <;> simp_all
      refine ⟨b, off, rfl, ?_, fun j u hj => ?_⟩
      · rw [hadd, hadd] at c0
        exact World.block_lt_of_cell? W _ c0
      · have hjl : j < l.length * ps.length := by
          have := (List.getElem?_eq_some_iff.1 hj).1
          rwa [flatMap_len f hlen] at this
        have hq : j / ps.length < l.length := Nat.div_lt_of_lt_mul (by rw [Nat.mul_comm]; exact hjl)
        have hr : j % ps.length < ps.length := Nat.mod_lt _ hpos
        have hj' : j / ps.length * ps.length + j % ps.length = j := by rw [Nat.mul_comm]; exact Nat.div_add_mod _ _
        have e := flatMap_get f hlen l (j / ps.length) (j % ps.length) l[j / ps.length] (by simp [hq]) hr
        rw [hj', hj] at e
        have := key (j / ps.length) l[j / ps.length] (j % ps.length) u (by simp [hq]) e.symm
        rw [hadd, hadd, Nat.add_assoc, hj'] at this
        exact this
    · obtain ⟨i, hi⟩ := List.mem_iff_getElem?.1 hx
      exact (hl2 i x hi).1
end
end Go.Proofs.Ytiheoddlknbomaa
