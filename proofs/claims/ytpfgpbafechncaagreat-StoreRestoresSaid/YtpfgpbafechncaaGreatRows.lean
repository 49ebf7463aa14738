/-
  No cell of these rows narrows 'for every input' (looked for: loops, veiled, ifaces, maps, wideKeys, modest, calm, conditions, laid).
  DERIVED. THE GIVEN ROWS OF THIS SEAT. 6 by the template 'for every input the law returns true; each argument reads behind the call as it read before'; 0 by the template 'total and deterministic' (their statements: YtpfgpbafechncaaGreatTotals.lean).
  GIVEN WITH THE SEED: the statements are not yours to turn. If you find one false, say at which input.
  Laid BY PROGRAM, IN A SANDBOX (cutbox-rows.mjs): the forced cells as the released guide's own fill.sh prints them over the translation 407d7333a36bb55a… (all of the seat's roots in one cut). By AI agents, Wed Nov 11 2026. No macro, syntax, notation, axiom, sorry.
-/
import Derived.Test.YtpfgpbafechncaaGreatChecked
import GoSem.Claim
import GoSem.ClaimJoined
import GoSem.ClaimMapViews
import Derived.JoinedTies
import Derived.KernelRfl
namespace Go.Proofs.YtpfgpbafechncaaGreat
/- THE CELL 'sum', in the pinned program and in every row, IS THE sha256 OF THE DUMP (.gsa) THAT YtpfgpbafechncaaGreatProg.lean LOADS. Nothing in Lean hashes anything: it is a label: what it is worth is what the hold of that sum in a sandbox is worth. -/
noncomputable def Tryz.pinned : Pinned := { name := "ytpfgpbafechncaagreat", sum := "407d7333a36bb55ab5cd7ccfb2555d727d2ddbc3bfcd007800772c8bb99adae6", checked := Tryz.checked }
namespace Rows
def none {H : Type} : Left H := { results := [], args := [] }

/-- 'concordatlaw10.StoreHidden': WHATEVER THE INPUT: true; the input reads as it did. -/
def storeHiddenSpec : ChangeSpec := { name := "storeHidden", fn := fun _ => fun
  | [d1, d2] => { results := [.lit (.bool true)], args := [d1, d2] }
  | _ => none }
def storeHiddenRow : OpenClaim := { program := "ytpfgpbafechncaagreat", sum := "407d7333a36bb55ab5cd7ccfb2555d727d2ddbc3bfcd007800772c8bb99adae6", func := "concordat/concordatlaw10.StoreHidden", spec := "storeHidden", inPlace := ["internal/bytealg.Compare", "slices.overlaps[concordat/lock.wish]"], unfollowed := true, recurses := true, plainKeys := false, apart := false }
def StoreHiddenSaid : Prop := storeHiddenRow.holds Tryz.pinned (OpenSpec.ofChange storeHiddenSpec)

/-- ITS FALSE NEIGHBOUR: 'it returns false'. Refute it at one input. -/
def storeHiddenWrong : ChangeSpec := { name := "storeHidden", fn := fun _ => fun
  | [d1, d2] => { results := [.lit (.bool false)], args := [d1, d2] }
  | _ => none }
def StoreHiddenWrongFalsely : Prop := storeHiddenRow.holds Tryz.pinned (OpenSpec.ofChange storeHiddenWrong)

/-- 'concordatlaw10.StoreStrict': WHATEVER THE INPUT: true; the input reads as it did. -/
def storeStrictSpec : ChangeSpec := { name := "storeStrict", fn := fun _ => fun
  | [d1, d2] => { results := [.lit (.bool true)], args := [d1, d2] }
  | _ => none }
def storeStrictRow : OpenClaim := { program := "ytpfgpbafechncaagreat", sum := "407d7333a36bb55ab5cd7ccfb2555d727d2ddbc3bfcd007800772c8bb99adae6", func := "concordat/concordatlaw10.StoreStrict", spec := "storeStrict", inPlace := ["internal/bytealg.Compare", "slices.overlaps[concordat/lock.wish]"], unfollowed := true, recurses := true, plainKeys := false, apart := false }
def StoreStrictSaid : Prop := storeStrictRow.holds Tryz.pinned (OpenSpec.ofChange storeStrictSpec)

/-- ITS FALSE NEIGHBOUR: 'it returns false'. Refute it at one input. -/
def storeStrictWrong : ChangeSpec := { name := "storeStrict", fn := fun _ => fun
  | [d1, d2] => { results := [.lit (.bool false)], args := [d1, d2] }
  | _ => none }
def StoreStrictWrongFalsely : Prop := storeStrictRow.holds Tryz.pinned (OpenSpec.ofChange storeStrictWrong)

/-- 'concordatlaw10.StoreVotes': WHATEVER THE INPUT: true; the input reads as it did. -/
def storeVotesSpec : ChangeSpec := { name := "storeVotes", fn := fun _ => fun
  | [d1, d2, d3] => { results := [.lit (.bool true)], args := [d1, d2, d3] }
  | _ => none }
def storeVotesRow : OpenClaim := { program := "ytpfgpbafechncaagreat", sum := "407d7333a36bb55ab5cd7ccfb2555d727d2ddbc3bfcd007800772c8bb99adae6", func := "concordat/concordatlaw10.StoreVotes", spec := "storeVotes", inPlace := ["internal/bytealg.Compare", "slices.overlaps[concordat/lock.wish]"], unfollowed := true, recurses := true, plainKeys := false, apart := false }
def StoreVotesSaid : Prop := storeVotesRow.holds Tryz.pinned (OpenSpec.ofChange storeVotesSpec)

/-- ITS FALSE NEIGHBOUR: 'it returns false'. Refute it at one input. -/
def storeVotesWrong : ChangeSpec := { name := "storeVotes", fn := fun _ => fun
  | [d1, d2, d3] => { results := [.lit (.bool false)], args := [d1, d2, d3] }
  | _ => none }
def StoreVotesWrongFalsely : Prop := storeVotesRow.holds Tryz.pinned (OpenSpec.ofChange storeVotesWrong)

/-- 'concordatlaw10.StoreRestores': WHATEVER THE INPUT: true; the input reads as it did. -/
def storeRestoresSpec : ChangeSpec := { name := "storeRestores", fn := fun _ => fun
  | [d1, d2, d3] => { results := [.lit (.bool true)], args := [d1, d2, d3] }
  | _ => none }
def storeRestoresRow : OpenClaim := { program := "ytpfgpbafechncaagreat", sum := "407d7333a36bb55ab5cd7ccfb2555d727d2ddbc3bfcd007800772c8bb99adae6", func := "concordat/concordatlaw10.StoreRestores", spec := "storeRestores", inPlace := ["internal/bytealg.Compare", "slices.overlaps[concordat/lock.wish]"], unfollowed := true, recurses := true, plainKeys := false, apart := false }
def StoreRestoresSaid : Prop := storeRestoresRow.holds Tryz.pinned (OpenSpec.ofChange storeRestoresSpec)

/-- ITS FALSE NEIGHBOUR: 'it returns false'. Refute it at one input. -/
def storeRestoresWrong : ChangeSpec := { name := "storeRestores", fn := fun _ => fun
  | [d1, d2, d3] => { results := [.lit (.bool false)], args := [d1, d2, d3] }
  | _ => none }
def StoreRestoresWrongFalsely : Prop := storeRestoresRow.holds Tryz.pinned (OpenSpec.ofChange storeRestoresWrong)

/-- 'concordatlaw10.StoreGone': WHATEVER THE INPUT: true; the input reads as it did. -/
def storeGoneSpec : ChangeSpec := { name := "storeGone", fn := fun _ => fun
  | [d1, d2] => { results := [.lit (.bool true)], args := [d1, d2] }
  | _ => none }
def storeGoneRow : OpenClaim := { program := "ytpfgpbafechncaagreat", sum := "407d7333a36bb55ab5cd7ccfb2555d727d2ddbc3bfcd007800772c8bb99adae6", func := "concordat/concordatlaw10.StoreGone", spec := "storeGone", inPlace := ["internal/bytealg.Compare", "slices.overlaps[concordat/lock.wish]"], unfollowed := true, recurses := true, plainKeys := false, apart := false }
def StoreGoneSaid : Prop := storeGoneRow.holds Tryz.pinned (OpenSpec.ofChange storeGoneSpec)

/-- ITS FALSE NEIGHBOUR: 'it returns false'. Refute it at one input. -/
def storeGoneWrong : ChangeSpec := { name := "storeGone", fn := fun _ => fun
  | [d1, d2] => { results := [.lit (.bool false)], args := [d1, d2] }
  | _ => none }
def StoreGoneWrongFalsely : Prop := storeGoneRow.holds Tryz.pinned (OpenSpec.ofChange storeGoneWrong)

/-- 'concordatlaw10.StoreDooms': WHATEVER THE INPUT: true; the input reads as it did. -/
def storeDoomsSpec : ChangeSpec := { name := "storeDooms", fn := fun _ => fun
  | [d1, d2, d3] => { results := [.lit (.bool true)], args := [d1, d2, d3] }
  | _ => none }
def storeDoomsRow : OpenClaim := { program := "ytpfgpbafechncaagreat", sum := "407d7333a36bb55ab5cd7ccfb2555d727d2ddbc3bfcd007800772c8bb99adae6", func := "concordat/concordatlaw10.StoreDooms", spec := "storeDooms", inPlace := ["internal/bytealg.Compare", "slices.overlaps[concordat/lock.wish]"], unfollowed := true, recurses := true, plainKeys := false, apart := false }
def StoreDoomsSaid : Prop := storeDoomsRow.holds Tryz.pinned (OpenSpec.ofChange storeDoomsSpec)

/-- ITS FALSE NEIGHBOUR: 'it returns false'. Refute it at one input. -/
def storeDoomsWrong : ChangeSpec := { name := "storeDooms", fn := fun _ => fun
  | [d1, d2, d3] => { results := [.lit (.bool false)], args := [d1, d2, d3] }
  | _ => none }
def StoreDoomsWrongFalsely : Prop := storeDoomsRow.holds Tryz.pinned (OpenSpec.ofChange storeDoomsWrong)

/- THE SECOND FORM. 'bulk': how many values and letters a reading holds, each counted each time it is reached (what is shared counts as often as it is met; a slice's spare places count too). A statement '..UptoSaid' is the law's where the arguments, and the package variables that the reading takes, are together of bulk at most 1048576: NARROWER than '..Said'. Prove '..Said' where nothing that the law and all that it calls make is longer than what came in: it says more and counts as full. Else prove '..UptoSaid'. A law counts once. -/
mutual
def uptoBulk {H : Type} : DataW H → Nat
  | .lit (.string bytes) => bytes.length + 1
  | .lit _ => 1
  | .nil => 1
  | .ptr d => uptoBulk d + 1
  | .slice elems spare => uptoBulkAll elems + uptoBulkAll spare + 1
  | .agg parts => uptoBulkAll parts + 1
  | .iface _ d => uptoBulk d + 1
  | .map entries => uptoBulkEntries entries + 1
  | .held _ => 1
def uptoBulkAll {H : Type} : List (DataW H) → Nat
  | [] => 0
  | d :: r => uptoBulk d + uptoBulkAll r
def uptoBulkEntries {H : Type} : List (Lit × DataW H) → Nat
  | [] => 0
  | x :: r => uptoBulkEntry x + uptoBulkEntries r
def uptoBulkEntry {H : Type} : Lit × DataW H → Nat
  | (.string bytes, d) => bytes.length + uptoBulk d + 1
  | (_, d) => uptoBulk d + 1
 end
def uptoSmall : (H : Type) → List (DataW H) → Bool := fun _ ds => decide (uptoBulkAll ds ≤ 1048576)
def OpenSpec.upto (s : _root_.Go.ChangeSpec) : _root_.Go.OpenSpec := { _root_.Go.OpenSpec.ofChange s with cond := some uptoSmall }

/-- 'concordatlaw10.StoreHidden', WHERE WHAT IT READS IS OF BULK AT MOST 1048576: true; the input reads as it did. -/
def storeHiddenUptoRow : OpenClaim := { program := "ytpfgpbafechncaagreat", sum := "407d7333a36bb55ab5cd7ccfb2555d727d2ddbc3bfcd007800772c8bb99adae6", func := "concordat/concordatlaw10.StoreHidden", spec := "storeHidden", inPlace := ["internal/bytealg.Compare", "slices.overlaps[concordat/lock.wish]"], unfollowed := true, recurses := true, plainKeys := false, apart := false, narrowed := true }
def StoreHiddenUptoSaid : Prop := storeHiddenUptoRow.holds Tryz.pinned (OpenSpec.upto storeHiddenSpec)

/-- 'concordatlaw10.StoreStrict', WHERE WHAT IT READS IS OF BULK AT MOST 1048576: true; the input reads as it did. -/
def storeStrictUptoRow : OpenClaim := { program := "ytpfgpbafechncaagreat", sum := "407d7333a36bb55ab5cd7ccfb2555d727d2ddbc3bfcd007800772c8bb99adae6", func := "concordat/concordatlaw10.StoreStrict", spec := "storeStrict", inPlace := ["internal/bytealg.Compare", "slices.overlaps[concordat/lock.wish]"], unfollowed := true, recurses := true, plainKeys := false, apart := false, narrowed := true }
def StoreStrictUptoSaid : Prop := storeStrictUptoRow.holds Tryz.pinned (OpenSpec.upto storeStrictSpec)

/-- 'concordatlaw10.StoreVotes', WHERE WHAT IT READS IS OF BULK AT MOST 1048576: true; the input reads as it did. -/
def storeVotesUptoRow : OpenClaim := { program := "ytpfgpbafechncaagreat", sum := "407d7333a36bb55ab5cd7ccfb2555d727d2ddbc3bfcd007800772c8bb99adae6", func := "concordat/concordatlaw10.StoreVotes", spec := "storeVotes", inPlace := ["internal/bytealg.Compare", "slices.overlaps[concordat/lock.wish]"], unfollowed := true, recurses := true, plainKeys := false, apart := false, narrowed := true }
def StoreVotesUptoSaid : Prop := storeVotesUptoRow.holds Tryz.pinned (OpenSpec.upto storeVotesSpec)

/-- 'concordatlaw10.StoreRestores', WHERE WHAT IT READS IS OF BULK AT MOST 1048576: true; the input reads as it did. -/
def storeRestoresUptoRow : OpenClaim := { program := "ytpfgpbafechncaagreat", sum := "407d7333a36bb55ab5cd7ccfb2555d727d2ddbc3bfcd007800772c8bb99adae6", func := "concordat/concordatlaw10.StoreRestores", spec := "storeRestores", inPlace := ["internal/bytealg.Compare", "slices.overlaps[concordat/lock.wish]"], unfollowed := true, recurses := true, plainKeys := false, apart := false, narrowed := true }
def StoreRestoresUptoSaid : Prop := storeRestoresUptoRow.holds Tryz.pinned (OpenSpec.upto storeRestoresSpec)

/-- 'concordatlaw10.StoreGone', WHERE WHAT IT READS IS OF BULK AT MOST 1048576: true; the input reads as it did. -/
def storeGoneUptoRow : OpenClaim := { program := "ytpfgpbafechncaagreat", sum := "407d7333a36bb55ab5cd7ccfb2555d727d2ddbc3bfcd007800772c8bb99adae6", func := "concordat/concordatlaw10.StoreGone", spec := "storeGone", inPlace := ["internal/bytealg.Compare", "slices.overlaps[concordat/lock.wish]"], unfollowed := true, recurses := true, plainKeys := false, apart := false, narrowed := true }
def StoreGoneUptoSaid : Prop := storeGoneUptoRow.holds Tryz.pinned (OpenSpec.upto storeGoneSpec)

/-- 'concordatlaw10.StoreDooms', WHERE WHAT IT READS IS OF BULK AT MOST 1048576: true; the input reads as it did. -/
def storeDoomsUptoRow : OpenClaim := { program := "ytpfgpbafechncaagreat", sum := "407d7333a36bb55ab5cd7ccfb2555d727d2ddbc3bfcd007800772c8bb99adae6", func := "concordat/concordatlaw10.StoreDooms", spec := "storeDooms", inPlace := ["internal/bytealg.Compare", "slices.overlaps[concordat/lock.wish]"], unfollowed := true, recurses := true, plainKeys := false, apart := false, narrowed := true }
def StoreDoomsUptoSaid : Prop := storeDoomsUptoRow.holds Tryz.pinned (OpenSpec.upto storeDoomsSpec)

end Rows
end Go.Proofs.YtpfgpbafechncaaGreat
