/-
  No cell of these rows narrows 'for every input' (looked for: loops, veiled, ifaces, maps, wideKeys, modest, calm, conditions, laid).
  DERIVED. THE GIVEN ROWS OF THIS SEAT. 5 by the template 'for every input the law returns true; each argument reads behind the call as it read before'; 0 by the template 'total and deterministic' (their statements: YthidbnjijomlmaaTotals.lean).
  GIVEN WITH THE SEED: the statements are not yours to turn. If you find one false, say at which input.
  Laid BY PROGRAM, IN A SANDBOX (cutbox-rows.mjs): the forced cells as the released guide's own fill.sh prints them over the translation f2e9d6b83dda4cee… (all of the seat's roots in one cut). By AI agents, Wed Nov 11 2026. No macro, syntax, notation, axiom, sorry.
-/
import Derived.Test.YthidbnjijomlmaaChecked
import GoSem.Claim
import GoSem.ClaimJoined
import GoSem.ClaimMapViews
import Derived.JoinedTies
import Derived.KernelRfl
namespace Go.Proofs.Ythidbnjijomlmaa
/- THE CELL 'sum', in the pinned program and in every row, IS THE sha256 OF THE DUMP (.gsa) THAT YthidbnjijomlmaaProg.lean LOADS. Nothing in Lean hashes anything: it is a label: what it is worth is what the hold of that sum in a sandbox is worth. -/
noncomputable def Try.pinned : Pinned := { name := "ythidbnjijomlmaa", sum := "f2e9d6b83dda4cee0334f48cd7001a06a24b73dceabc29cc0820f9e8d906b368", checked := Try.checked }
namespace Rows
def none {H : Type} : Left H := { results := [], args := [] }

/-- 'concordatlaw09.DraftPuts': WHATEVER THE INPUT: true; the input reads as it did. -/
def draftPutsSpec : ChangeSpec := { name := "draftPuts", fn := fun _ => fun
  | [d1, d2, d3, d4] => { results := [.lit (.bool true)], args := [d1, d2, d3, d4] }
  | _ => none }
def draftPutsRow : OpenClaim := { program := "ythidbnjijomlmaa", sum := "f2e9d6b83dda4cee0334f48cd7001a06a24b73dceabc29cc0820f9e8d906b368", func := "concordat/concordatlaw09.DraftPuts", spec := "draftPuts", inPlace := ["internal/bytealg.Compare"], unfollowed := true, recurses := true, plainKeys := false, apart := false }
def DraftPutsSaid : Prop := draftPutsRow.holds Try.pinned (OpenSpec.ofChange draftPutsSpec)

/-- ITS FALSE NEIGHBOUR: 'it returns false'. Refute it at one input. -/
def draftPutsWrong : ChangeSpec := { name := "draftPuts", fn := fun _ => fun
  | [d1, d2, d3, d4] => { results := [.lit (.bool false)], args := [d1, d2, d3, d4] }
  | _ => none }
def DraftPutsWrongFalsely : Prop := draftPutsRow.holds Try.pinned (OpenSpec.ofChange draftPutsWrong)

/-- 'concordatlaw09.DraftOver': WHATEVER THE INPUT: true; the input reads as it did. -/
def draftOverSpec : ChangeSpec := { name := "draftOver", fn := fun _ => fun
  | [d1, d2, d3] => { results := [.lit (.bool true)], args := [d1, d2, d3] }
  | _ => none }
def draftOverRow : OpenClaim := { program := "ythidbnjijomlmaa", sum := "f2e9d6b83dda4cee0334f48cd7001a06a24b73dceabc29cc0820f9e8d906b368", func := "concordat/concordatlaw09.DraftOver", spec := "draftOver", inPlace := ["internal/bytealg.Compare"], unfollowed := true, recurses := true, plainKeys := false, apart := false }
def DraftOverSaid : Prop := draftOverRow.holds Try.pinned (OpenSpec.ofChange draftOverSpec)

/-- ITS FALSE NEIGHBOUR: 'it returns false'. Refute it at one input. -/
def draftOverWrong : ChangeSpec := { name := "draftOver", fn := fun _ => fun
  | [d1, d2, d3] => { results := [.lit (.bool false)], args := [d1, d2, d3] }
  | _ => none }
def DraftOverWrongFalsely : Prop := draftOverRow.holds Try.pinned (OpenSpec.ofChange draftOverWrong)

/-- 'concordatlaw09.DraftRecs': WHATEVER THE INPUT: true; the input reads as it did. -/
def draftRecsSpec : ChangeSpec := { name := "draftRecs", fn := fun _ => fun
  | [d1, d2, d3] => { results := [.lit (.bool true)], args := [d1, d2, d3] }
  | _ => none }
def draftRecsRow : OpenClaim := { program := "ythidbnjijomlmaa", sum := "f2e9d6b83dda4cee0334f48cd7001a06a24b73dceabc29cc0820f9e8d906b368", func := "concordat/concordatlaw09.DraftRecs", spec := "draftRecs", inPlace := ["internal/bytealg.Compare"], unfollowed := true, recurses := true, plainKeys := false, apart := false }
def DraftRecsSaid : Prop := draftRecsRow.holds Try.pinned (OpenSpec.ofChange draftRecsSpec)

/-- ITS FALSE NEIGHBOUR: 'it returns false'. Refute it at one input. -/
def draftRecsWrong : ChangeSpec := { name := "draftRecs", fn := fun _ => fun
  | [d1, d2, d3] => { results := [.lit (.bool false)], args := [d1, d2, d3] }
  | _ => none }
def DraftRecsWrongFalsely : Prop := draftRecsRow.holds Try.pinned (OpenSpec.ofChange draftRecsWrong)

/-- 'concordatlaw09.DraftBounds': WHATEVER THE INPUT: true; the input reads as it did. -/
def draftBoundsSpec : ChangeSpec := { name := "draftBounds", fn := fun _ => fun
  | [d1, d2] => { results := [.lit (.bool true)], args := [d1, d2] }
  | _ => none }
def draftBoundsRow : OpenClaim := { program := "ythidbnjijomlmaa", sum := "f2e9d6b83dda4cee0334f48cd7001a06a24b73dceabc29cc0820f9e8d906b368", func := "concordat/concordatlaw09.DraftBounds", spec := "draftBounds", inPlace := ["internal/bytealg.Compare"], unfollowed := true, recurses := true, plainKeys := false, apart := false }
def DraftBoundsSaid : Prop := draftBoundsRow.holds Try.pinned (OpenSpec.ofChange draftBoundsSpec)

/-- ITS FALSE NEIGHBOUR: 'it returns false'. Refute it at one input. -/
def draftBoundsWrong : ChangeSpec := { name := "draftBounds", fn := fun _ => fun
  | [d1, d2] => { results := [.lit (.bool false)], args := [d1, d2] }
  | _ => none }
def DraftBoundsWrongFalsely : Prop := draftBoundsRow.holds Try.pinned (OpenSpec.ofChange draftBoundsWrong)

/-- 'concordatlaw09.DraftSorts': WHATEVER THE INPUT: true; the input reads as it did. -/
def draftSortsSpec : ChangeSpec := { name := "draftSorts", fn := fun _ => fun
  | [d1, d2, d3] => { results := [.lit (.bool true)], args := [d1, d2, d3] }
  | _ => none }
def draftSortsRow : OpenClaim := { program := "ythidbnjijomlmaa", sum := "f2e9d6b83dda4cee0334f48cd7001a06a24b73dceabc29cc0820f9e8d906b368", func := "concordat/concordatlaw09.DraftSorts", spec := "draftSorts", inPlace := ["internal/bytealg.Compare"], unfollowed := true, recurses := true, plainKeys := false, apart := false }
def DraftSortsSaid : Prop := draftSortsRow.holds Try.pinned (OpenSpec.ofChange draftSortsSpec)

/-- ITS FALSE NEIGHBOUR: 'it returns false'. Refute it at one input. -/
def draftSortsWrong : ChangeSpec := { name := "draftSorts", fn := fun _ => fun
  | [d1, d2, d3] => { results := [.lit (.bool false)], args := [d1, d2, d3] }
  | _ => none }
def DraftSortsWrongFalsely : Prop := draftSortsRow.holds Try.pinned (OpenSpec.ofChange draftSortsWrong)

/- THE SECOND FORM. 'bulk': how many values and letters a reading holds, each counted each time it is reached (what is shared counts as often as it is met; a slice's spare places count too). A statement '..UptoSaid' is the law's where the arguments, and the package variables that the reading takes, are together of bulk at most 1048576: NARROWER than '..Said'. Prove '..Said' where nothing that the law and all that it calls make is longer than what came in: it says more and counts as full. Else prove '..UptoSaid'. A law counts once. -/
mutual
def uptoBulk {H : Type} : DataW H → Nat
  | .lit (.string bytes) => bytes.length + 1
  | .lit _ => 1
  | .nil => 1
  | .ptr d => uptoBulk d + 1
  | .slice elems spare => uptoBulkAll elems + uptoBulkAll spare + 1
  | .agg parts => uptoBulkAll parts + 1
  | .iface _ d => uptoBulk d + 1
  | .map entries => uptoBulkEntries entries + 1
  | .held _ => 1
def uptoBulkAll {H : Type} : List (DataW H) → Nat
  | [] => 0
  | d :: r => uptoBulk d + uptoBulkAll r
def uptoBulkEntries {H : Type} : List (Lit × DataW H) → Nat
  | [] => 0
  | x :: r => uptoBulkEntry x + uptoBulkEntries r
def uptoBulkEntry {H : Type} : Lit × DataW H → Nat
  | (.string bytes, d) => bytes.length + uptoBulk d + 1
  | (_, d) => uptoBulk d + 1
 end
def uptoSmall : (H : Type) → List (DataW H) → Bool := fun _ ds => decide (uptoBulkAll ds ≤ 1048576)
def OpenSpec.upto (s : _root_.Go.ChangeSpec) : _root_.Go.OpenSpec := { _root_.Go.OpenSpec.ofChange s with cond := some uptoSmall }

/-- 'concordatlaw09.DraftPuts', WHERE WHAT IT READS IS OF BULK AT MOST 1048576: true; the input reads as it did. -/
def draftPutsUptoRow : OpenClaim := { program := "ythidbnjijomlmaa", sum := "f2e9d6b83dda4cee0334f48cd7001a06a24b73dceabc29cc0820f9e8d906b368", func := "concordat/concordatlaw09.DraftPuts", spec := "draftPuts", inPlace := ["internal/bytealg.Compare"], unfollowed := true, recurses := true, plainKeys := false, apart := false, narrowed := true }
def DraftPutsUptoSaid : Prop := draftPutsUptoRow.holds Try.pinned (OpenSpec.upto draftPutsSpec)

/-- 'concordatlaw09.DraftOver', WHERE WHAT IT READS IS OF BULK AT MOST 1048576: true; the input reads as it did. -/
def draftOverUptoRow : OpenClaim := { program := "ythidbnjijomlmaa", sum := "f2e9d6b83dda4cee0334f48cd7001a06a24b73dceabc29cc0820f9e8d906b368", func := "concordat/concordatlaw09.DraftOver", spec := "draftOver", inPlace := ["internal/bytealg.Compare"], unfollowed := true, recurses := true, plainKeys := false, apart := false, narrowed := true }
def DraftOverUptoSaid : Prop := draftOverUptoRow.holds Try.pinned (OpenSpec.upto draftOverSpec)

/-- 'concordatlaw09.DraftRecs', WHERE WHAT IT READS IS OF BULK AT MOST 1048576: true; the input reads as it did. -/
def draftRecsUptoRow : OpenClaim := { program := "ythidbnjijomlmaa", sum := "f2e9d6b83dda4cee0334f48cd7001a06a24b73dceabc29cc0820f9e8d906b368", func := "concordat/concordatlaw09.DraftRecs", spec := "draftRecs", inPlace := ["internal/bytealg.Compare"], unfollowed := true, recurses := true, plainKeys := false, apart := false, narrowed := true }
def DraftRecsUptoSaid : Prop := draftRecsUptoRow.holds Try.pinned (OpenSpec.upto draftRecsSpec)

/-- 'concordatlaw09.DraftBounds', WHERE WHAT IT READS IS OF BULK AT MOST 1048576: true; the input reads as it did. -/
def draftBoundsUptoRow : OpenClaim := { program := "ythidbnjijomlmaa", sum := "f2e9d6b83dda4cee0334f48cd7001a06a24b73dceabc29cc0820f9e8d906b368", func := "concordat/concordatlaw09.DraftBounds", spec := "draftBounds", inPlace := ["internal/bytealg.Compare"], unfollowed := true, recurses := true, plainKeys := false, apart := false, narrowed := true }
def DraftBoundsUptoSaid : Prop := draftBoundsUptoRow.holds Try.pinned (OpenSpec.upto draftBoundsSpec)

/-- 'concordatlaw09.DraftSorts', WHERE WHAT IT READS IS OF BULK AT MOST 1048576: true; the input reads as it did. -/
def draftSortsUptoRow : OpenClaim := { program := "ythidbnjijomlmaa", sum := "f2e9d6b83dda4cee0334f48cd7001a06a24b73dceabc29cc0820f9e8d906b368", func := "concordat/concordatlaw09.DraftSorts", spec := "draftSorts", inPlace := ["internal/bytealg.Compare"], unfollowed := true, recurses := true, plainKeys := false, apart := false, narrowed := true }
def DraftSortsUptoSaid : Prop := draftSortsUptoRow.holds Try.pinned (OpenSpec.upto draftSortsSpec)

end Rows
end Go.Proofs.Ythidbnjijomlmaa
