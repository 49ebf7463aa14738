/-
  No cell of these rows narrows 'for every input' (looked for: loops, veiled, ifaces, maps, wideKeys, modest, calm, conditions, laid).
  DERIVED. THE GIVEN ROWS OF THIS SEAT. 5 by the template 'for every input the law returns true; each argument reads behind the call as it read before'; 0 by the template 'total and deterministic' (their statements: YtdaipbaclccodaaTotals.lean).
  GIVEN WITH THE SEED: the statements are not yours to turn. If you find one false, say at which input.
  Laid BY PROGRAM, IN A SANDBOX (cutbox-rows.mjs): the forced cells as the released guide's own fill.sh prints them over the translation 1d4c7292ed52aa90… (all of the seat's roots in one cut). By AI agents, Wed Nov 11 2026. No macro, syntax, notation, axiom, sorry.
-/
import Derived.Test.YtdaipbaclccodaaChecked
import GoSem.Claim
import GoSem.ClaimJoined
import GoSem.ClaimMapViews
import Derived.JoinedTies
import Derived.KernelRfl
namespace Go.Proofs.Ytdaipbaclccodaa
/- THE CELL 'sum', in the pinned program and in every row, IS THE sha256 OF THE DUMP (.gsa) THAT YtdaipbaclccodaaProg.lean LOADS. Nothing in Lean hashes anything: it is a label: what it is worth is what the hold of that sum in a sandbox is worth. -/
noncomputable def Try.pinned : Pinned := { name := "ytdaipbaclccodaa", sum := "1d4c7292ed52aa90e0af875ef8f4ee400b931fde4284a6b7363c587cf38518d6", checked := Try.checked }
namespace Rows
def none {H : Type} : Left H := { results := [], args := [] }

/-- 'concordatlaw14.GateCalls': WHATEVER THE INPUT: true; the input reads as it did. -/
def gateCallsSpec : ChangeSpec := { name := "gateCalls", fn := fun _ => fun
  | [d1, d2, d3, d4, d5, d6] => { results := [.lit (.bool true)], args := [d1, d2, d3, d4, d5, d6] }
  | _ => none }
def gateCallsRow : OpenClaim := { program := "ytdaipbaclccodaa", sum := "1d4c7292ed52aa90e0af875ef8f4ee400b931fde4284a6b7363c587cf38518d6", func := "concordat/concordatlaw14.GateCalls", spec := "gateCalls", unfollowed := true, recurses := true, apart := false }
def GateCallsSaid : Prop := gateCallsRow.holds Try.pinned (OpenSpec.ofChange gateCallsSpec)

/-- ITS FALSE NEIGHBOUR: 'it returns false'. Refute it at one input. -/
def gateCallsWrong : ChangeSpec := { name := "gateCalls", fn := fun _ => fun
  | [d1, d2, d3, d4, d5, d6] => { results := [.lit (.bool false)], args := [d1, d2, d3, d4, d5, d6] }
  | _ => none }
def GateCallsWrongFalsely : Prop := gateCallsRow.holds Try.pinned (OpenSpec.ofChange gateCallsWrong)

/-- 'concordatlaw14.GateBlind': WHATEVER THE INPUT: true; the input reads as it did. -/
def gateBlindSpec : ChangeSpec := { name := "gateBlind", fn := fun _ => fun
  | [d1, d2, d3, d4, d5, d6] => { results := [.lit (.bool true)], args := [d1, d2, d3, d4, d5, d6] }
  | _ => none }
def gateBlindRow : OpenClaim := { program := "ytdaipbaclccodaa", sum := "1d4c7292ed52aa90e0af875ef8f4ee400b931fde4284a6b7363c587cf38518d6", func := "concordat/concordatlaw14.GateBlind", spec := "gateBlind", unfollowed := true, recurses := true, apart := false }
def GateBlindSaid : Prop := gateBlindRow.holds Try.pinned (OpenSpec.ofChange gateBlindSpec)

/-- ITS FALSE NEIGHBOUR: 'it returns false'. Refute it at one input. -/
def gateBlindWrong : ChangeSpec := { name := "gateBlind", fn := fun _ => fun
  | [d1, d2, d3, d4, d5, d6] => { results := [.lit (.bool false)], args := [d1, d2, d3, d4, d5, d6] }
  | _ => none }
def GateBlindWrongFalsely : Prop := gateBlindRow.holds Try.pinned (OpenSpec.ofChange gateBlindWrong)

/-- 'concordatlaw14.GateOnce': WHATEVER THE INPUT: true; the input reads as it did. -/
def gateOnceSpec : ChangeSpec := { name := "gateOnce", fn := fun _ => fun
  | [d1, d2, d3, d4, d5] => { results := [.lit (.bool true)], args := [d1, d2, d3, d4, d5] }
  | _ => none }
def gateOnceRow : OpenClaim := { program := "ytdaipbaclccodaa", sum := "1d4c7292ed52aa90e0af875ef8f4ee400b931fde4284a6b7363c587cf38518d6", func := "concordat/concordatlaw14.GateOnce", spec := "gateOnce", unfollowed := true, recurses := true, apart := false }
def GateOnceSaid : Prop := gateOnceRow.holds Try.pinned (OpenSpec.ofChange gateOnceSpec)

/-- ITS FALSE NEIGHBOUR: 'it returns false'. Refute it at one input. -/
def gateOnceWrong : ChangeSpec := { name := "gateOnce", fn := fun _ => fun
  | [d1, d2, d3, d4, d5] => { results := [.lit (.bool false)], args := [d1, d2, d3, d4, d5] }
  | _ => none }
def GateOnceWrongFalsely : Prop := gateOnceRow.holds Try.pinned (OpenSpec.ofChange gateOnceWrong)

/-- 'concordatlaw14.GateGives': WHATEVER THE INPUT: true; the input reads as it did. -/
def gateGivesSpec : ChangeSpec := { name := "gateGives", fn := fun _ => fun
  | [d1, d2, d3] => { results := [.lit (.bool true)], args := [d1, d2, d3] }
  | _ => none }
def gateGivesRow : OpenClaim := { program := "ytdaipbaclccodaa", sum := "1d4c7292ed52aa90e0af875ef8f4ee400b931fde4284a6b7363c587cf38518d6", func := "concordat/concordatlaw14.GateGives", spec := "gateGives", unfollowed := true, recurses := true, apart := false }
def GateGivesSaid : Prop := gateGivesRow.holds Try.pinned (OpenSpec.ofChange gateGivesSpec)

/-- ITS FALSE NEIGHBOUR: 'it returns false'. Refute it at one input. -/
def gateGivesWrong : ChangeSpec := { name := "gateGives", fn := fun _ => fun
  | [d1, d2, d3] => { results := [.lit (.bool false)], args := [d1, d2, d3] }
  | _ => none }
def GateGivesWrongFalsely : Prop := gateGivesRow.holds Try.pinned (OpenSpec.ofChange gateGivesWrong)

/-- 'concordatlaw14.GateParts': WHATEVER THE INPUT: true; the input reads as it did. -/
def gatePartsSpec : ChangeSpec := { name := "gateParts", fn := fun _ => fun
  | [d1, d2, d3, d4, d5] => { results := [.lit (.bool true)], args := [d1, d2, d3, d4, d5] }
  | _ => none }
def gatePartsRow : OpenClaim := { program := "ytdaipbaclccodaa", sum := "1d4c7292ed52aa90e0af875ef8f4ee400b931fde4284a6b7363c587cf38518d6", func := "concordat/concordatlaw14.GateParts", spec := "gateParts", unfollowed := true, recurses := true, apart := false }
def GatePartsSaid : Prop := gatePartsRow.holds Try.pinned (OpenSpec.ofChange gatePartsSpec)

/-- ITS FALSE NEIGHBOUR: 'it returns false'. Refute it at one input. -/
def gatePartsWrong : ChangeSpec := { name := "gateParts", fn := fun _ => fun
  | [d1, d2, d3, d4, d5] => { results := [.lit (.bool false)], args := [d1, d2, d3, d4, d5] }
  | _ => none }
def GatePartsWrongFalsely : Prop := gatePartsRow.holds Try.pinned (OpenSpec.ofChange gatePartsWrong)

/- THE SECOND FORM. 'bulk': how many values and letters a reading holds, each counted each time it is reached (what is shared counts as often as it is met; a slice's spare places count too). A statement '..UptoSaid' is the law's where the arguments, and the package variables that the reading takes, are together of bulk at most 1048576: NARROWER than '..Said'. Prove '..Said' where nothing that the law and all that it calls make is longer than what came in: it says more and counts as full. Else prove '..UptoSaid'. A law counts once. -/
mutual
def uptoBulk {H : Type} : DataW H → Nat
  | .lit (.string bytes) => bytes.length + 1
  | .lit _ => 1
  | .nil => 1
  | .ptr d => uptoBulk d + 1
  | .slice elems spare => uptoBulkAll elems + uptoBulkAll spare + 1
  | .agg parts => uptoBulkAll parts + 1
  | .iface _ d => uptoBulk d + 1
  | .map entries => uptoBulkEntries entries + 1
  | .held _ => 1
def uptoBulkAll {H : Type} : List (DataW H) → Nat
  | [] => 0
  | d :: r => uptoBulk d + uptoBulkAll r
def uptoBulkEntries {H : Type} : List (Lit × DataW H) → Nat
  | [] => 0
  | x :: r => uptoBulkEntry x + uptoBulkEntries r
def uptoBulkEntry {H : Type} : Lit × DataW H → Nat
  | (.string bytes, d) => bytes.length + uptoBulk d + 1
  | (_, d) => uptoBulk d + 1
 end
def uptoSmall : (H : Type) → List (DataW H) → Bool := fun _ ds => decide (uptoBulkAll ds ≤ 1048576)
def OpenSpec.upto (s : _root_.Go.ChangeSpec) : _root_.Go.OpenSpec := { _root_.Go.OpenSpec.ofChange s with cond := some uptoSmall }

/-- 'concordatlaw14.GateCalls', WHERE WHAT IT READS IS OF BULK AT MOST 1048576: true; the input reads as it did. -/
def gateCallsUptoRow : OpenClaim := { program := "ytdaipbaclccodaa", sum := "1d4c7292ed52aa90e0af875ef8f4ee400b931fde4284a6b7363c587cf38518d6", func := "concordat/concordatlaw14.GateCalls", spec := "gateCalls", unfollowed := true, recurses := true, apart := false, narrowed := true }
def GateCallsUptoSaid : Prop := gateCallsUptoRow.holds Try.pinned (OpenSpec.upto gateCallsSpec)

/-- 'concordatlaw14.GateBlind', WHERE WHAT IT READS IS OF BULK AT MOST 1048576: true; the input reads as it did. -/
def gateBlindUptoRow : OpenClaim := { program := "ytdaipbaclccodaa", sum := "1d4c7292ed52aa90e0af875ef8f4ee400b931fde4284a6b7363c587cf38518d6", func := "concordat/concordatlaw14.GateBlind", spec := "gateBlind", unfollowed := true, recurses := true, apart := false, narrowed := true }
def GateBlindUptoSaid : Prop := gateBlindUptoRow.holds Try.pinned (OpenSpec.upto gateBlindSpec)

/-- 'concordatlaw14.GateOnce', WHERE WHAT IT READS IS OF BULK AT MOST 1048576: true; the input reads as it did. -/
def gateOnceUptoRow : OpenClaim := { program := "ytdaipbaclccodaa", sum := "1d4c7292ed52aa90e0af875ef8f4ee400b931fde4284a6b7363c587cf38518d6", func := "concordat/concordatlaw14.GateOnce", spec := "gateOnce", unfollowed := true, recurses := true, apart := false, narrowed := true }
def GateOnceUptoSaid : Prop := gateOnceUptoRow.holds Try.pinned (OpenSpec.upto gateOnceSpec)

/-- 'concordatlaw14.GateGives', WHERE WHAT IT READS IS OF BULK AT MOST 1048576: true; the input reads as it did. -/
def gateGivesUptoRow : OpenClaim := { program := "ytdaipbaclccodaa", sum := "1d4c7292ed52aa90e0af875ef8f4ee400b931fde4284a6b7363c587cf38518d6", func := "concordat/concordatlaw14.GateGives", spec := "gateGives", unfollowed := true, recurses := true, apart := false, narrowed := true }
def GateGivesUptoSaid : Prop := gateGivesUptoRow.holds Try.pinned (OpenSpec.upto gateGivesSpec)

/-- 'concordatlaw14.GateParts', WHERE WHAT IT READS IS OF BULK AT MOST 1048576: true; the input reads as it did. -/
def gatePartsUptoRow : OpenClaim := { program := "ytdaipbaclccodaa", sum := "1d4c7292ed52aa90e0af875ef8f4ee400b931fde4284a6b7363c587cf38518d6", func := "concordat/concordatlaw14.GateParts", spec := "gateParts", unfollowed := true, recurses := true, apart := false, narrowed := true }
def GatePartsUptoSaid : Prop := gatePartsUptoRow.holds Try.pinned (OpenSpec.upto gatePartsSpec)

end Rows
end Go.Proofs.Ytdaipbaclccodaa
