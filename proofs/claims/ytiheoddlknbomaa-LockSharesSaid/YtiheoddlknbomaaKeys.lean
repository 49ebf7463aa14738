/- A map keyed by ints, for the kit's contracts on its sorted keys. -/
import Derived.Test.YtiheoddlknbomaaMem
import Derived.Test.YtiheoddlknbomaaIter
set_option linter.all false
namespace Go.Proofs.Ytiheoddlknbomaa
open Go.RowKit Go.Maps
open Go.WideElems (rd rg)
set_option linter.unusedVariables false
set_option linter.unusedSimpArgs false

abbrev anyR : Value → Option (DataW Unit × List MemPlace) := fun _ => some (.nil, [])
theorem MapIs.owns {P : Program} {k : TypeId} {w : World} {b : Nat} {l : List (Int × Value)} (h : MapIs w b (Value.int .i64) l) (hk : P.underlying k = some (.int .i64))
    (hn : (l.map (·.1)).Nodup) (hw : ∀ p, p ∈ l → (Lit.int .i64 p.1).wf = true) (hs : l.length ≤ maxLen) :
    ∃ D : DataW Unit, w.ownsMap P k anyR b l.length D ∧ (intKeys D).Perm (l.map (·.1)) ∧ Maps.size D = l.length := by
  obtain ⟨es, clock, hb, he, hp, hc⟩ := h.ex
  have hl : es.size = l.length := by have := congrArg List.length he; simpa using this
  have hkeys : es.toList.map (·.key) = (l.map (·.1)).map (Value.int .i64) := by
    have := congrArg (List.map (·.1)) he
    simpa [List.map_map, Function.comp_def] using this
  have hrg : es.toList.map (rg P k anyR) = l.map fun p => (Lit.int .i64 p.1, DataW.nil) := by
    refine List.ext_getElem? fun i => ?_
    have hi := congrArg (fun m => m[i]?) he
    simp only [List.getElem?_map] at hi ⊢
    cases h1 : es.toList[i]? with
    | none =>
      rw [h1] at hi
      cases h2 : l[i]? with
      | none => rfl
      | some p => rw [h2] at hi; simp at hi
    | some e =>
      rw [h1] at hi
      cases h2 : l[i]? with
      | none => rw [h2] at hi; simp at hi
      | some p =>
        rw [h2] at hi
        simp at hi
        have hwp := hw p (List.mem_iff_getElem?.2 ⟨i, h2⟩)
        simp [rg, rd, hi.1, keyOf_int_mk hk hwp]
  refine ⟨.map ((es.toList.map (rg P k anyR)).foldr DataW.insert []), ⟨es, clock, hb, ⟨by omega, ⟨hc, ?_, ?_⟩, ?_⟩, by omega, rfl⟩, ?_, ?_⟩
  · exact List.pairwise_map.2 hp
  · rw [hkeys]
    exact List.pairwise_map.2 (hn.imp fun hne e => hne (by cases e; rfl))
  · intro e hm
    obtain ⟨i, hi⟩ := List.mem_iff_getElem?.1 hm
    have hi' := congrArg (fun m => m[i]?) he
    simp only [List.getElem?_map, hi] at hi'
    cases h2 : l[i]? with
    | none => rw [h2] at hi'; simp at hi'
    | some p =>
      rw [h2] at hi'
      simp at hi'
      have hwp := hw p (List.mem_iff_getElem?.2 ⟨i, h2⟩)
      exact ⟨_, by simp [rd, hi'.1, keyOf_int_mk hk hwp]; rfl⟩
  · have h2 := (WideShapes.sorted_perm (es.toList.map (rg P k anyR))).map fun p => _root_.Go.intOf p.1
    simp only [intKeys]
    refine h2.trans ?_
    rw [hrg]
    simp [List.map_map, Function.comp_def, _root_.Go.intOf]
  · simp [Maps.size, length_sorted, hl]
end Go.Proofs.Ytiheoddlknbomaa
