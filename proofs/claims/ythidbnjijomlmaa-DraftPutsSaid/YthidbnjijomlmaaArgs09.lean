/- The statements' arguments as data, and plain laws of drafts. -/
import Derived.Test.YthidbnjijomlmaaRef09
import Derived.Test.YthidbnjijomlmaaOpen
set_option linter.all false
namespace Go.Proofs.Ythidbnjijomlmaa
open Go.RowKit Go.ChangeShapes Go.WideShapes
set_option linter.unusedVariables false
set_option linter.unusedSimpArgs false

namespace K4
def ok (k : K4) : Prop := True
def ps : List (Value → Prop) := [IsI .u8, IsI .u8, IsI .u8, IsI .u8]
theorem len (k : K4) : k.f.length = ps.length := rfl
theorem pos : 0 < ps.length := by decide
theorem dec (cs : List Value) (h : All2 ps cs) : ∃ k : K4, cs = k.f ∧ k.ok := by
  obtain ⟨_, _, rfl, ⟨a, rfl, ha⟩, h1⟩ := All2.cons h
  obtain ⟨_, _, rfl, ⟨b, rfl, hb⟩, h2⟩ := All2.cons h1
  obtain ⟨_, _, rfl, ⟨c, rfl, hc⟩, h3⟩ := All2.cons h2
  obtain ⟨_, _, rfl, ⟨d, rfl, hd⟩, h4⟩ := All2.cons h3
  obtain rfl := All2.nil h4
  obtain ⟨a', rfl⟩ := u8_of ha
  obtain ⟨b', rfl⟩ := u8_of hb
  obtain ⟨c', rfl⟩ := u8_of hc
  obtain ⟨d', rfl⟩ := u8_of hd
  exact ⟨⟨a', b', c', d'⟩, rfl, trivial⟩
--@@ key flat
theorem flat : Flat Try.prog 24 ps :=
  Flat.array (P := Try.prog) (t := 24) (n := 4) Try.underlying24 (by kernel_rfl) (Flat.int Try.underlying5 (by kernel_rfl))
--@@ key end
end K4
namespace V
def ps : List (Value → Prop) := [IsB, IsI .i64]
--@@ val flat
theorem flat : Flat Try.prog 32 ps := by
  have h := Flat.struct (P := Try.prog) (t := 32) (pss := [[IsB], [IsI .i64]]) Try.underlying32 (by kernel_rfl)
    ⟨rfl, Flat.bool Try.underlying4 (by kernel_rfl), rfl, Flat.int Try.underlying3 (by kernel_rfl), trivial⟩
  exact h
--@@ val end
end V
namespace Pr
def ok (p : Pr) : Prop := True
def ps : List (Value → Prop) := [IsI .u8, IsI .u8, IsI .u8, IsI .u8, IsB, IsI .i64]
theorem len (p : Pr) : p.f.length = ps.length := rfl
theorem pos : 0 < ps.length := by decide
theorem dec (cs : List Value) (h : All2 ps cs) : ∃ p : Pr, cs = p.f ∧ p.ok := by
  obtain ⟨_, _, rfl, ⟨a, rfl, ha⟩, h1⟩ := All2.cons h
  obtain ⟨_, _, rfl, ⟨b, rfl, hb⟩, h2⟩ := All2.cons h1
  obtain ⟨_, _, rfl, ⟨c, rfl, hc⟩, h3⟩ := All2.cons h2
  obtain ⟨_, _, rfl, ⟨d, rfl, hd⟩, h4⟩ := All2.cons h3
  obtain ⟨_, _, rfl, ⟨t, rfl⟩, h5⟩ := All2.cons h4
  obtain ⟨_, _, rfl, ⟨n, rfl, hn⟩, h6⟩ := All2.cons h5
  obtain rfl := All2.nil h6
  obtain ⟨a', rfl⟩ := u8_of ha
  obtain ⟨b', rfl⟩ := u8_of hb
  obtain ⟨c', rfl⟩ := u8_of hc
  obtain ⟨d', rfl⟩ := u8_of hd
  exact ⟨⟨⟨a', b', c', d'⟩, ⟨t, n⟩⟩, rfl, trivial⟩
--@@ pair flat
theorem flat : Flat Try.prog 34 ps := by
  have h := Flat.struct (P := Try.prog) (t := 34) (pss := [K4.ps, V.ps]) Try.underlying34 (by kernel_rfl)
    ⟨rfl, K4.flat, rfl, V.flat, trivial⟩
  exact h
--@@ pair end
end Pr

/-! drafts, as lists -/
theorem aput_keys (k : K4) (v : V) : ∀ l : List (K4 × V), (aput k v l).map (·.1) = if (aget k l).isSome = true then l.map (·.1) else l.map (·.1) ++ [k]
  | [] => rfl
  | p :: l => by
    obtain ⟨q, u⟩ := p
    have ih := aput_keys k v l
    simp only [aput, aget]
    by_cases h : q = k
    · subst h; simp
    · simp only [h, if_false]
      rw [List.map_cons, ih]
      split <;> simp
theorem aget_none_iff (k : K4) : ∀ l : List (K4 × V), aget k l = none ↔ k ∉ l.map (·.1)
  | [] => by simp [aget]
  | p :: l => by
    obtain ⟨q, u⟩ := p
    simp only [aget, List.map_cons, List.mem_cons, not_or]
    by_cases h : q = k
    · subst h; simp
    · simp only [h, if_false]
      rw [aget_none_iff k l]
      exact ⟨fun h' => ⟨fun e => h e.symm, h'⟩, fun h' => h'.2⟩
theorem aput_nodup (k : K4) (v : V) (l : List (K4 × V)) (h : (l.map (·.1)).Nodup) : ((aput k v l).map (·.1)).Nodup := by
  rw [aput_keys]
  split
  · exact h
  · rename_i hs
    have : aget k l = none := by
      cases hg : aget k l with
      | none => rfl
      | some v => rw [hg] at hs; simp at hs
    rw [aget_none_iff] at this
    rw [List.nodup_append]
    exact ⟨h, by simp, fun a ha b hb => by simp at hb; subst hb; exact fun e => this (e ▸ ha)⟩
theorem aput_len (k : K4) (v : V) (l : List (K4 × V)) : (aput k v l).length = if (aget k l).isSome = true then l.length else l.length + 1 := by
  have := congrArg List.length (aput_keys k v l)
  simp only [List.length_map] at this
  rw [this]; split <;> simp
theorem aget_aput (k j : K4) (v : V) : ∀ l : List (K4 × V), aget j (aput k v l) = if k = j then some v else aget j l
  | [] => by simp [aput, aget]
  | p :: l => by
    obtain ⟨q, u⟩ := p
    have ih := aget_aput k j v l
    simp only [aput, aget]
    by_cases h : q = k
    · subst h
      by_cases h2 : q = j <;> simp [aget, h2]
    · simp only [h, if_false, aget, ih]
      by_cases h2 : q = j
      · subst h2; rw [if_pos rfl, if_pos rfl, if_neg (fun e => h e.symm)]
      · simp [h2]
def putsD (d : List (K4 × V)) (l : List Pr) : List (K4 × V) := l.foldl (fun d p => (dPut d p.key p.val).2) d
theorem putsD_snoc (d : List (K4 × V)) (l : List Pr) (p : Pr) : putsD d (l ++ [p]) = (dPut (putsD d l) p.key p.val).2 := by simp [putsD, List.foldl_append]
theorem dPut_ok (d : List (K4 × V)) (k : K4) (v : V) (h : (d.map (·.1)).Nodup ∧ d.length ≤ 16) : ((dPut d k v).2.map (·.1)).Nodup ∧ (dPut d k v).2.length ≤ 16 := by
  unfold dPut
  split
  · exact h
  · split
    · exact h
    · rename_i h1 h2
      refine ⟨aput_nodup _ _ _ h.1, ?_⟩
      rw [aput_len]
      split
      · exact h.2
      · rename_i h3
        have : (aget k d).isNone = true := by cases hg : aget k d with
          | none => rfl
          | some v => rw [hg] at h3; simp at h3
        have : ¬ 16 ≤ d.length := fun h4 => h2 ⟨this, h4⟩
        show d.length + 1 ≤ 16
        omega
theorem putsD_ok (l : List Pr) : ((putsD [] l).map (·.1)).Nodup ∧ (putsD [] l).length ≤ 16 := by
  have key : ∀ (l : List Pr) (d : List (K4 × V)), ((d.map (·.1)).Nodup ∧ d.length ≤ 16) → (((putsD d l).map (·.1)).Nodup ∧ (putsD d l).length ≤ 16) := fun l => by
    induction l with
    | nil => intro d h; exact h
    | cons p l ih => intro d h; exact ih _ (dPut_ok d p.key p.val h)
  exact key l [] ⟨by simp, by simp⟩
/-- the keys once each: as many as there are -/
theorem keysP_nodup_len (l : List (K4 × V)) (h : (l.map (·.1)).Nodup) : (keysP (l.map toPr)).length = l.length := by
  have hk : ((l.map toPr).map (·.key)).Nodup := by rw [List.map_map]; exact h
  have ins : ∀ (p : Pr) (m : List Pr), (∀ q ∈ m, q.key ≠ p.key) → (insP p m).length = m.length + 1 := fun p m => by
    induction m with
    | nil => intro _; simp [insP]
    | cons q m ih =>
      intro hq
      have h1 := hq q List.mem_cons_self
      have h2 := ih fun x hx => hq x (List.mem_cons_of_mem _ hx)
      unfold insP
      split
      · simp [h2]
      · simp [h1]
  have gen : ∀ (l m : List Pr), (l.map (·.key)).Nodup → (∀ p ∈ l, ∀ q ∈ m, q.key ≠ p.key) → (l.foldl (fun out p => insP p out) m).length = m.length + l.length := fun l => by
    induction l with
    | nil => intro m _ _; simp
    | cons p l ih =>
      intro m h1 h2
      simp only [List.map_cons, List.nodup_cons] at h1
      simp only [List.foldl_cons, List.length_cons]
      rw [ih (insP p m) h1.2 (fun x hx q hq => by
        rcases insP_mem hq with rfl | hq
        · exact fun e => h1.1 (by rw [e]; exact List.mem_map.2 ⟨x, hx, rfl⟩)
        · exact h2 x (List.mem_cons_of_mem _ hx) q hq), ins p m (h2 p List.mem_cons_self)]
      omega
  have := gen (l.map toPr) [] hk (fun p _ q hq => by cases hq)
  simpa [keysP] using this
end Go.Proofs.Ythidbnjijomlmaa
