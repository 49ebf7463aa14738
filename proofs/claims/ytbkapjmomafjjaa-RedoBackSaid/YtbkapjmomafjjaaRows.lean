/-
  No cell of these rows narrows 'for every input' (looked for: loops, veiled, ifaces, maps, wideKeys, modest, calm, conditions, laid).
  DERIVED. THE GIVEN ROWS OF THIS SEAT. 6 by the template 'for every input the law returns true; each argument reads behind the call as it read before'; 0 by the template 'total and deterministic' (their statements: YtbkapjmomafjjaaTotals.lean).
  GIVEN WITH THE SEED: the statements are not yours to turn. If you find one false, say at which input.
  Laid BY PROGRAM, IN A SANDBOX (cutbox-rows.mjs): the forced cells as the released guide's own fill.sh prints them over the translation 4cc0e9542badbe34… (all of the seat's roots in one cut). By AI agents, Wed Nov 11 2026. No macro, syntax, notation, axiom, sorry.
-/
import Derived.Test.YtbkapjmomafjjaaChecked
import GoSem.Claim
import GoSem.ClaimJoined
import GoSem.ClaimMapViews
import Derived.JoinedTies
import Derived.KernelRfl
namespace Go.Proofs.Ytbkapjmomafjjaa
/- THE CELL 'sum', in the pinned program and in every row, IS THE sha256 OF THE DUMP (.gsa) THAT YtbkapjmomafjjaaProg.lean LOADS. Nothing in Lean hashes anything: it is a label: what it is worth is what the hold of that sum in a sandbox is worth. -/
noncomputable def Try.pinned : Pinned := { name := "ytbkapjmomafjjaa", sum := "4cc0e9542badbe34e8f123ac905e1900f127328fbab4e496e3f9baaea95a4123", checked := Try.checked }
namespace Rows
def none {H : Type} : Left H := { results := [], args := [] }

/-- 'concordatlaw11.RedoBack': WHATEVER THE INPUT: true; the input reads as it did. -/
def redoBackSpec : ChangeSpec := { name := "redoBack", fn := fun _ => fun
  | [d1, d2] => { results := [.lit (.bool true)], args := [d1, d2] }
  | _ => none }
def redoBackRow : OpenClaim := { program := "ytbkapjmomafjjaa", sum := "4cc0e9542badbe34e8f123ac905e1900f127328fbab4e496e3f9baaea95a4123", func := "concordat/concordatlaw11.RedoBack", spec := "redoBack", inPlace := ["internal/bytealg.Compare"], unfollowed := true, recurses := true, plainKeys := false, apart := false }
def RedoBackSaid : Prop := redoBackRow.holds Try.pinned (OpenSpec.ofChange redoBackSpec)

/-- ITS FALSE NEIGHBOUR: 'it returns false'. Refute it at one input. -/
def redoBackWrong : ChangeSpec := { name := "redoBack", fn := fun _ => fun
  | [d1, d2] => { results := [.lit (.bool false)], args := [d1, d2] }
  | _ => none }
def RedoBackWrongFalsely : Prop := redoBackRow.holds Try.pinned (OpenSpec.ofChange redoBackWrong)

/-- 'concordatlaw11.RedoTwice': WHATEVER THE INPUT: true; the input reads as it did. -/
def redoTwiceSpec : ChangeSpec := { name := "redoTwice", fn := fun _ => fun
  | [d] => { results := [.lit (.bool true)], args := [d] }
  | _ => none }
def redoTwiceRow : OpenClaim := { program := "ytbkapjmomafjjaa", sum := "4cc0e9542badbe34e8f123ac905e1900f127328fbab4e496e3f9baaea95a4123", func := "concordat/concordatlaw11.RedoTwice", spec := "redoTwice", inPlace := ["internal/bytealg.Compare"], unfollowed := true, recurses := true, plainKeys := false, apart := false }
def RedoTwiceSaid : Prop := redoTwiceRow.holds Try.pinned (OpenSpec.ofChange redoTwiceSpec)

/-- ITS FALSE NEIGHBOUR: 'it returns false'. Refute it at one input. -/
def redoTwiceWrong : ChangeSpec := { name := "redoTwice", fn := fun _ => fun
  | [d] => { results := [.lit (.bool false)], args := [d] }
  | _ => none }
def RedoTwiceWrongFalsely : Prop := redoTwiceRow.holds Try.pinned (OpenSpec.ofChange redoTwiceWrong)

/-- 'concordatlaw11.RedoDoubt': WHATEVER THE INPUT: true; the input reads as it did. -/
def redoDoubtSpec : ChangeSpec := { name := "redoDoubt", fn := fun _ => fun
  | [d] => { results := [.lit (.bool true)], args := [d] }
  | _ => none }
def redoDoubtRow : OpenClaim := { program := "ytbkapjmomafjjaa", sum := "4cc0e9542badbe34e8f123ac905e1900f127328fbab4e496e3f9baaea95a4123", func := "concordat/concordatlaw11.RedoDoubt", spec := "redoDoubt", inPlace := ["internal/bytealg.Compare"], unfollowed := true, recurses := true, plainKeys := false, apart := false }
def RedoDoubtSaid : Prop := redoDoubtRow.holds Try.pinned (OpenSpec.ofChange redoDoubtSpec)

/-- ITS FALSE NEIGHBOUR: 'it returns false'. Refute it at one input. -/
def redoDoubtWrong : ChangeSpec := { name := "redoDoubt", fn := fun _ => fun
  | [d] => { results := [.lit (.bool false)], args := [d] }
  | _ => none }
def RedoDoubtWrongFalsely : Prop := redoDoubtRow.holds Try.pinned (OpenSpec.ofChange redoDoubtWrong)

/-- 'concordatlaw11.RedoCommits': WHATEVER THE INPUT: true; the input reads as it did. -/
def redoCommitsSpec : ChangeSpec := { name := "redoCommits", fn := fun _ => fun
  | [d1, d2, d3, d4] => { results := [.lit (.bool true)], args := [d1, d2, d3, d4] }
  | _ => none }
def redoCommitsRow : OpenClaim := { program := "ytbkapjmomafjjaa", sum := "4cc0e9542badbe34e8f123ac905e1900f127328fbab4e496e3f9baaea95a4123", func := "concordat/concordatlaw11.RedoCommits", spec := "redoCommits", inPlace := ["internal/bytealg.Compare"], unfollowed := true, recurses := true, plainKeys := false, apart := false }
def RedoCommitsSaid : Prop := redoCommitsRow.holds Try.pinned (OpenSpec.ofChange redoCommitsSpec)

/-- ITS FALSE NEIGHBOUR: 'it returns false'. Refute it at one input. -/
def redoCommitsWrong : ChangeSpec := { name := "redoCommits", fn := fun _ => fun
  | [d1, d2, d3, d4] => { results := [.lit (.bool false)], args := [d1, d2, d3, d4] }
  | _ => none }
def RedoCommitsWrongFalsely : Prop := redoCommitsRow.holds Try.pinned (OpenSpec.ofChange redoCommitsWrong)

/-- 'concordatlaw11.RedoEnds': WHATEVER THE INPUT: true; the input reads as it did. -/
def redoEndsSpec : ChangeSpec := { name := "redoEnds", fn := fun _ => fun
  | [d1, d2] => { results := [.lit (.bool true)], args := [d1, d2] }
  | _ => none }
def redoEndsRow : OpenClaim := { program := "ytbkapjmomafjjaa", sum := "4cc0e9542badbe34e8f123ac905e1900f127328fbab4e496e3f9baaea95a4123", func := "concordat/concordatlaw11.RedoEnds", spec := "redoEnds", inPlace := ["internal/bytealg.Compare"], unfollowed := true, recurses := true, plainKeys := false, apart := false }
def RedoEndsSaid : Prop := redoEndsRow.holds Try.pinned (OpenSpec.ofChange redoEndsSpec)

/-- ITS FALSE NEIGHBOUR: 'it returns false'. Refute it at one input. -/
def redoEndsWrong : ChangeSpec := { name := "redoEnds", fn := fun _ => fun
  | [d1, d2] => { results := [.lit (.bool false)], args := [d1, d2] }
  | _ => none }
def RedoEndsWrongFalsely : Prop := redoEndsRow.holds Try.pinned (OpenSpec.ofChange redoEndsWrong)

/-- 'concordatlaw11.RedoRests': WHATEVER THE INPUT: true; the input reads as it did. -/
def redoRestsSpec : ChangeSpec := { name := "redoRests", fn := fun _ => fun
  | [d1, d2] => { results := [.lit (.bool true)], args := [d1, d2] }
  | _ => none }
def redoRestsRow : OpenClaim := { program := "ytbkapjmomafjjaa", sum := "4cc0e9542badbe34e8f123ac905e1900f127328fbab4e496e3f9baaea95a4123", func := "concordat/concordatlaw11.RedoRests", spec := "redoRests", inPlace := ["internal/bytealg.Compare"], unfollowed := true, recurses := true, plainKeys := false, apart := false }
def RedoRestsSaid : Prop := redoRestsRow.holds Try.pinned (OpenSpec.ofChange redoRestsSpec)

/-- ITS FALSE NEIGHBOUR: 'it returns false'. Refute it at one input. -/
def redoRestsWrong : ChangeSpec := { name := "redoRests", fn := fun _ => fun
  | [d1, d2] => { results := [.lit (.bool false)], args := [d1, d2] }
  | _ => none }
def RedoRestsWrongFalsely : Prop := redoRestsRow.holds Try.pinned (OpenSpec.ofChange redoRestsWrong)

/- THE SECOND FORM. 'bulk': how many values and letters a reading holds, each counted each time it is reached (what is shared counts as often as it is met; a slice's spare places count too). A statement '..UptoSaid' is the law's where the arguments, and the package variables that the reading takes, are together of bulk at most 1048576: NARROWER than '..Said'. Prove '..Said' where nothing that the law and all that it calls make is longer than what came in: it says more and counts as full. Else prove '..UptoSaid'. A law counts once. -/
mutual
def uptoBulk {H : Type} : DataW H → Nat
  | .lit (.string bytes) => bytes.length + 1
  | .lit _ => 1
  | .nil => 1
  | .ptr d => uptoBulk d + 1
  | .slice elems spare => uptoBulkAll elems + uptoBulkAll spare + 1
  | .agg parts => uptoBulkAll parts + 1
  | .iface _ d => uptoBulk d + 1
  | .map entries => uptoBulkEntries entries + 1
  | .held _ => 1
def uptoBulkAll {H : Type} : List (DataW H) → Nat
  | [] => 0
  | d :: r => uptoBulk d + uptoBulkAll r
def uptoBulkEntries {H : Type} : List (Lit × DataW H) → Nat
  | [] => 0
  | x :: r => uptoBulkEntry x + uptoBulkEntries r
def uptoBulkEntry {H : Type} : Lit × DataW H → Nat
  | (.string bytes, d) => bytes.length + uptoBulk d + 1
  | (_, d) => uptoBulk d + 1
 end
def uptoSmall : (H : Type) → List (DataW H) → Bool := fun _ ds => decide (uptoBulkAll ds ≤ 1048576)
def OpenSpec.upto (s : _root_.Go.ChangeSpec) : _root_.Go.OpenSpec := { _root_.Go.OpenSpec.ofChange s with cond := some uptoSmall }

/-- 'concordatlaw11.RedoBack', WHERE WHAT IT READS IS OF BULK AT MOST 1048576: true; the input reads as it did. -/
def redoBackUptoRow : OpenClaim := { program := "ytbkapjmomafjjaa", sum := "4cc0e9542badbe34e8f123ac905e1900f127328fbab4e496e3f9baaea95a4123", func := "concordat/concordatlaw11.RedoBack", spec := "redoBack", inPlace := ["internal/bytealg.Compare"], unfollowed := true, recurses := true, plainKeys := false, apart := false, narrowed := true }
def RedoBackUptoSaid : Prop := redoBackUptoRow.holds Try.pinned (OpenSpec.upto redoBackSpec)

/-- 'concordatlaw11.RedoTwice', WHERE WHAT IT READS IS OF BULK AT MOST 1048576: true; the input reads as it did. -/
def redoTwiceUptoRow : OpenClaim := { program := "ytbkapjmomafjjaa", sum := "4cc0e9542badbe34e8f123ac905e1900f127328fbab4e496e3f9baaea95a4123", func := "concordat/concordatlaw11.RedoTwice", spec := "redoTwice", inPlace := ["internal/bytealg.Compare"], unfollowed := true, recurses := true, plainKeys := false, apart := false, narrowed := true }
def RedoTwiceUptoSaid : Prop := redoTwiceUptoRow.holds Try.pinned (OpenSpec.upto redoTwiceSpec)

/-- 'concordatlaw11.RedoDoubt', WHERE WHAT IT READS IS OF BULK AT MOST 1048576: true; the input reads as it did. -/
def redoDoubtUptoRow : OpenClaim := { program := "ytbkapjmomafjjaa", sum := "4cc0e9542badbe34e8f123ac905e1900f127328fbab4e496e3f9baaea95a4123", func := "concordat/concordatlaw11.RedoDoubt", spec := "redoDoubt", inPlace := ["internal/bytealg.Compare"], unfollowed := true, recurses := true, plainKeys := false, apart := false, narrowed := true }
def RedoDoubtUptoSaid : Prop := redoDoubtUptoRow.holds Try.pinned (OpenSpec.upto redoDoubtSpec)

/-- 'concordatlaw11.RedoCommits', WHERE WHAT IT READS IS OF BULK AT MOST 1048576: true; the input reads as it did. -/
def redoCommitsUptoRow : OpenClaim := { program := "ytbkapjmomafjjaa", sum := "4cc0e9542badbe34e8f123ac905e1900f127328fbab4e496e3f9baaea95a4123", func := "concordat/concordatlaw11.RedoCommits", spec := "redoCommits", inPlace := ["internal/bytealg.Compare"], unfollowed := true, recurses := true, plainKeys := false, apart := false, narrowed := true }
def RedoCommitsUptoSaid : Prop := redoCommitsUptoRow.holds Try.pinned (OpenSpec.upto redoCommitsSpec)

/-- 'concordatlaw11.RedoEnds', WHERE WHAT IT READS IS OF BULK AT MOST 1048576: true; the input reads as it did. -/
def redoEndsUptoRow : OpenClaim := { program := "ytbkapjmomafjjaa", sum := "4cc0e9542badbe34e8f123ac905e1900f127328fbab4e496e3f9baaea95a4123", func := "concordat/concordatlaw11.RedoEnds", spec := "redoEnds", inPlace := ["internal/bytealg.Compare"], unfollowed := true, recurses := true, plainKeys := false, apart := false, narrowed := true }
def RedoEndsUptoSaid : Prop := redoEndsUptoRow.holds Try.pinned (OpenSpec.upto redoEndsSpec)

/-- 'concordatlaw11.RedoRests', WHERE WHAT IT READS IS OF BULK AT MOST 1048576: true; the input reads as it did. -/
def redoRestsUptoRow : OpenClaim := { program := "ytbkapjmomafjjaa", sum := "4cc0e9542badbe34e8f123ac905e1900f127328fbab4e496e3f9baaea95a4123", func := "concordat/concordatlaw11.RedoRests", spec := "redoRests", inPlace := ["internal/bytealg.Compare"], unfollowed := true, recurses := true, plainKeys := false, apart := false, narrowed := true }
def RedoRestsUptoSaid : Prop := redoRestsUptoRow.holds Try.pinned (OpenSpec.upto redoRestsSpec)

end Rows
end Go.Proofs.Ytbkapjmomafjjaa
