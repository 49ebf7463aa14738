/-
  No cell of these rows narrows 'for every input' (looked for: loops, veiled, ifaces, maps, wideKeys, modest, calm, conditions, laid).
  DERIVED. THE GIVEN ROWS OF THIS SEAT. 6 by the template 'for every input the law returns true; each argument reads behind the call as it read before'; 0 by the template 'total and deterministic' (their statements: YtiheoddlknbomaaTotals.lean).
  GIVEN WITH THE SEED: the statements are not yours to turn. If you find one false, say at which input.
  Laid BY PROGRAM, IN A SANDBOX (cutbox-rows.mjs): the forced cells as the released guide's own fill.sh prints them over the translation 4cd7fe6231181fa9… (all of the seat's roots in one cut). By AI agents, Wed Nov 11 2026. No macro, syntax, notation, axiom, sorry.
-/
import Derived.Test.YtiheoddlknbomaaChecked
import GoSem.Claim
import GoSem.ClaimJoined
import GoSem.ClaimMapViews
import Derived.JoinedTies
import Derived.KernelRfl
namespace Go.Proofs.Ytiheoddlknbomaa
/- THE CELL 'sum', in the pinned program and in every row, IS THE sha256 OF THE DUMP (.gsa) THAT YtiheoddlknbomaaProg.lean LOADS. Nothing in Lean hashes anything: it is a label: what it is worth is what the hold of that sum in a sandbox is worth. -/
noncomputable def Try.pinned : Pinned := { name := "ytiheoddlknbomaa", sum := "4cd7fe6231181fa9a1732c011f9815da12860b5856e3d443efd17690d3a9c4eb", checked := Try.checked }
namespace Rows
def none {H : Type} : Left H := { results := [], args := [] }

/-- 'concordatlaw08.LockSafe': WHATEVER THE INPUT: true; the input reads as it did. -/
def lockSafeSpec : ChangeSpec := { name := "lockSafe", fn := fun _ => fun
  | [d] => { results := [.lit (.bool true)], args := [d] }
  | _ => none }
def lockSafeRow : OpenClaim := { program := "ytiheoddlknbomaa", sum := "4cd7fe6231181fa9a1732c011f9815da12860b5856e3d443efd17690d3a9c4eb", func := "concordat/concordatlaw08.LockSafe", spec := "lockSafe", inPlace := ["slices.overlaps[concordat/lock.wish]", "internal/bytealg.Compare"], unfollowed := true, recurses := true, plainKeys := false, apart := false }
def LockSafeSaid : Prop := lockSafeRow.holds Try.pinned (OpenSpec.ofChange lockSafeSpec)

/-- ITS FALSE NEIGHBOUR: 'it returns false'. Refute it at one input. -/
def lockSafeWrong : ChangeSpec := { name := "lockSafe", fn := fun _ => fun
  | [d] => { results := [.lit (.bool false)], args := [d] }
  | _ => none }
def LockSafeWrongFalsely : Prop := lockSafeRow.holds Try.pinned (OpenSpec.ofChange lockSafeWrong)

/-- 'concordatlaw08.LockStrict': WHATEVER THE INPUT: true; the input reads as it did. -/
def lockStrictSpec : ChangeSpec := { name := "lockStrict", fn := fun _ => fun
  | [d1, d2, d3] => { results := [.lit (.bool true)], args := [d1, d2, d3] }
  | _ => none }
def lockStrictRow : OpenClaim := { program := "ytiheoddlknbomaa", sum := "4cd7fe6231181fa9a1732c011f9815da12860b5856e3d443efd17690d3a9c4eb", func := "concordat/concordatlaw08.LockStrict", spec := "lockStrict", inPlace := ["slices.overlaps[concordat/lock.wish]", "internal/bytealg.Compare"], unfollowed := true, recurses := true, plainKeys := false, apart := false }
def LockStrictSaid : Prop := lockStrictRow.holds Try.pinned (OpenSpec.ofChange lockStrictSpec)

/-- ITS FALSE NEIGHBOUR: 'it returns false'. Refute it at one input. -/
def lockStrictWrong : ChangeSpec := { name := "lockStrict", fn := fun _ => fun
  | [d1, d2, d3] => { results := [.lit (.bool false)], args := [d1, d2, d3] }
  | _ => none }
def LockStrictWrongFalsely : Prop := lockStrictRow.holds Try.pinned (OpenSpec.ofChange lockStrictWrong)

/-- 'concordatlaw08.LockAll': WHATEVER THE INPUT: true; the input reads as it did. -/
def lockAllSpec : ChangeSpec := { name := "lockAll", fn := fun _ => fun
  | [d] => { results := [.lit (.bool true)], args := [d] }
  | _ => none }
def lockAllRow : OpenClaim := { program := "ytiheoddlknbomaa", sum := "4cd7fe6231181fa9a1732c011f9815da12860b5856e3d443efd17690d3a9c4eb", func := "concordat/concordatlaw08.LockAll", spec := "lockAll", inPlace := ["slices.overlaps[concordat/lock.wish]", "internal/bytealg.Compare"], unfollowed := true, recurses := true, plainKeys := false, apart := false }
def LockAllSaid : Prop := lockAllRow.holds Try.pinned (OpenSpec.ofChange lockAllSpec)

/-- ITS FALSE NEIGHBOUR: 'it returns false'. Refute it at one input. -/
def lockAllWrong : ChangeSpec := { name := "lockAll", fn := fun _ => fun
  | [d] => { results := [.lit (.bool false)], args := [d] }
  | _ => none }
def LockAllWrongFalsely : Prop := lockAllRow.holds Try.pinned (OpenSpec.ofChange lockAllWrong)

/-- 'concordatlaw08.LockWaits': WHATEVER THE INPUT: true; the input reads as it did. -/
def lockWaitsSpec : ChangeSpec := { name := "lockWaits", fn := fun _ => fun
  | [d] => { results := [.lit (.bool true)], args := [d] }
  | _ => none }
def lockWaitsRow : OpenClaim := { program := "ytiheoddlknbomaa", sum := "4cd7fe6231181fa9a1732c011f9815da12860b5856e3d443efd17690d3a9c4eb", func := "concordat/concordatlaw08.LockWaits", spec := "lockWaits", inPlace := ["slices.overlaps[concordat/lock.wish]", "internal/bytealg.Compare"], unfollowed := true, recurses := true, plainKeys := false, apart := false }
def LockWaitsSaid : Prop := lockWaitsRow.holds Try.pinned (OpenSpec.ofChange lockWaitsSpec)

/-- ITS FALSE NEIGHBOUR: 'it returns false'. Refute it at one input. -/
def lockWaitsWrong : ChangeSpec := { name := "lockWaits", fn := fun _ => fun
  | [d] => { results := [.lit (.bool false)], args := [d] }
  | _ => none }
def LockWaitsWrongFalsely : Prop := lockWaitsRow.holds Try.pinned (OpenSpec.ofChange lockWaitsWrong)

/-- 'concordatlaw08.LockOrder': WHATEVER THE INPUT: true; the input reads as it did. -/
def lockOrderSpec : ChangeSpec := { name := "lockOrder", fn := fun _ => fun
  | [d1, d2] => { results := [.lit (.bool true)], args := [d1, d2] }
  | _ => none }
def lockOrderRow : OpenClaim := { program := "ytiheoddlknbomaa", sum := "4cd7fe6231181fa9a1732c011f9815da12860b5856e3d443efd17690d3a9c4eb", func := "concordat/concordatlaw08.LockOrder", spec := "lockOrder", inPlace := ["slices.overlaps[concordat/lock.wish]", "internal/bytealg.Compare"], unfollowed := true, recurses := true, plainKeys := false, apart := false }
def LockOrderSaid : Prop := lockOrderRow.holds Try.pinned (OpenSpec.ofChange lockOrderSpec)

/-- ITS FALSE NEIGHBOUR: 'it returns false'. Refute it at one input. -/
def lockOrderWrong : ChangeSpec := { name := "lockOrder", fn := fun _ => fun
  | [d1, d2] => { results := [.lit (.bool false)], args := [d1, d2] }
  | _ => none }
def LockOrderWrongFalsely : Prop := lockOrderRow.holds Try.pinned (OpenSpec.ofChange lockOrderWrong)

/-- 'concordatlaw08.LockShares': WHATEVER THE INPUT: true; the input reads as it did. -/
def lockSharesSpec : ChangeSpec := { name := "lockShares", fn := fun _ => fun
  | [d1, d2] => { results := [.lit (.bool true)], args := [d1, d2] }
  | _ => none }
def lockSharesRow : OpenClaim := { program := "ytiheoddlknbomaa", sum := "4cd7fe6231181fa9a1732c011f9815da12860b5856e3d443efd17690d3a9c4eb", func := "concordat/concordatlaw08.LockShares", spec := "lockShares", inPlace := ["slices.overlaps[concordat/lock.wish]", "internal/bytealg.Compare"], unfollowed := true, recurses := true, plainKeys := false, apart := false }
def LockSharesSaid : Prop := lockSharesRow.holds Try.pinned (OpenSpec.ofChange lockSharesSpec)

/-- ITS FALSE NEIGHBOUR: 'it returns false'. Refute it at one input. -/
def lockSharesWrong : ChangeSpec := { name := "lockShares", fn := fun _ => fun
  | [d1, d2] => { results := [.lit (.bool false)], args := [d1, d2] }
  | _ => none }
def LockSharesWrongFalsely : Prop := lockSharesRow.holds Try.pinned (OpenSpec.ofChange lockSharesWrong)

/- THE SECOND FORM. 'bulk': how many values and letters a reading holds, each counted each time it is reached (what is shared counts as often as it is met; a slice's spare places count too). A statement '..UptoSaid' is the law's where the arguments, and the package variables that the reading takes, are together of bulk at most 1048576: NARROWER than '..Said'. Prove '..Said' where nothing that the law and all that it calls make is longer than what came in: it says more and counts as full. Else prove '..UptoSaid'. A law counts once. -/
mutual
def uptoBulk {H : Type} : DataW H → Nat
  | .lit (.string bytes) => bytes.length + 1
  | .lit _ => 1
  | .nil => 1
  | .ptr d => uptoBulk d + 1
  | .slice elems spare => uptoBulkAll elems + uptoBulkAll spare + 1
  | .agg parts => uptoBulkAll parts + 1
  | .iface _ d => uptoBulk d + 1
  | .map entries => uptoBulkEntries entries + 1
  | .held _ => 1
def uptoBulkAll {H : Type} : List (DataW H) → Nat
  | [] => 0
  | d :: r => uptoBulk d + uptoBulkAll r
def uptoBulkEntries {H : Type} : List (Lit × DataW H) → Nat
  | [] => 0
  | x :: r => uptoBulkEntry x + uptoBulkEntries r
def uptoBulkEntry {H : Type} : Lit × DataW H → Nat
  | (.string bytes, d) => bytes.length + uptoBulk d + 1
  | (_, d) => uptoBulk d + 1
 end
def uptoSmall : (H : Type) → List (DataW H) → Bool := fun _ ds => decide (uptoBulkAll ds ≤ 1048576)
def OpenSpec.upto (s : _root_.Go.ChangeSpec) : _root_.Go.OpenSpec := { _root_.Go.OpenSpec.ofChange s with cond := some uptoSmall }

/-- 'concordatlaw08.LockSafe', WHERE WHAT IT READS IS OF BULK AT MOST 1048576: true; the input reads as it did. -/
def lockSafeUptoRow : OpenClaim := { program := "ytiheoddlknbomaa", sum := "4cd7fe6231181fa9a1732c011f9815da12860b5856e3d443efd17690d3a9c4eb", func := "concordat/concordatlaw08.LockSafe", spec := "lockSafe", inPlace := ["slices.overlaps[concordat/lock.wish]", "internal/bytealg.Compare"], unfollowed := true, recurses := true, plainKeys := false, apart := false, narrowed := true }
def LockSafeUptoSaid : Prop := lockSafeUptoRow.holds Try.pinned (OpenSpec.upto lockSafeSpec)

/-- 'concordatlaw08.LockStrict', WHERE WHAT IT READS IS OF BULK AT MOST 1048576: true; the input reads as it did. -/
def lockStrictUptoRow : OpenClaim := { program := "ytiheoddlknbomaa", sum := "4cd7fe6231181fa9a1732c011f9815da12860b5856e3d443efd17690d3a9c4eb", func := "concordat/concordatlaw08.LockStrict", spec := "lockStrict", inPlace := ["slices.overlaps[concordat/lock.wish]", "internal/bytealg.Compare"], unfollowed := true, recurses := true, plainKeys := false, apart := false, narrowed := true }
def LockStrictUptoSaid : Prop := lockStrictUptoRow.holds Try.pinned (OpenSpec.upto lockStrictSpec)

/-- 'concordatlaw08.LockAll', WHERE WHAT IT READS IS OF BULK AT MOST 1048576: true; the input reads as it did. -/
def lockAllUptoRow : OpenClaim := { program := "ytiheoddlknbomaa", sum := "4cd7fe6231181fa9a1732c011f9815da12860b5856e3d443efd17690d3a9c4eb", func := "concordat/concordatlaw08.LockAll", spec := "lockAll", inPlace := ["slices.overlaps[concordat/lock.wish]", "internal/bytealg.Compare"], unfollowed := true, recurses := true, plainKeys := false, apart := false, narrowed := true }
def LockAllUptoSaid : Prop := lockAllUptoRow.holds Try.pinned (OpenSpec.upto lockAllSpec)

/-- 'concordatlaw08.LockWaits', WHERE WHAT IT READS IS OF BULK AT MOST 1048576: true; the input reads as it did. -/
def lockWaitsUptoRow : OpenClaim := { program := "ytiheoddlknbomaa", sum := "4cd7fe6231181fa9a1732c011f9815da12860b5856e3d443efd17690d3a9c4eb", func := "concordat/concordatlaw08.LockWaits", spec := "lockWaits", inPlace := ["slices.overlaps[concordat/lock.wish]", "internal/bytealg.Compare"], unfollowed := true, recurses := true, plainKeys := false, apart := false, narrowed := true }
def LockWaitsUptoSaid : Prop := lockWaitsUptoRow.holds Try.pinned (OpenSpec.upto lockWaitsSpec)

/-- 'concordatlaw08.LockOrder', WHERE WHAT IT READS IS OF BULK AT MOST 1048576: true; the input reads as it did. -/
def lockOrderUptoRow : OpenClaim := { program := "ytiheoddlknbomaa", sum := "4cd7fe6231181fa9a1732c011f9815da12860b5856e3d443efd17690d3a9c4eb", func := "concordat/concordatlaw08.LockOrder", spec := "lockOrder", inPlace := ["slices.overlaps[concordat/lock.wish]", "internal/bytealg.Compare"], unfollowed := true, recurses := true, plainKeys := false, apart := false, narrowed := true }
def LockOrderUptoSaid : Prop := lockOrderUptoRow.holds Try.pinned (OpenSpec.upto lockOrderSpec)

/-- 'concordatlaw08.LockShares', WHERE WHAT IT READS IS OF BULK AT MOST 1048576: true; the input reads as it did. -/
def lockSharesUptoRow : OpenClaim := { program := "ytiheoddlknbomaa", sum := "4cd7fe6231181fa9a1732c011f9815da12860b5856e3d443efd17690d3a9c4eb", func := "concordat/concordatlaw08.LockShares", spec := "lockShares", inPlace := ["slices.overlaps[concordat/lock.wish]", "internal/bytealg.Compare"], unfollowed := true, recurses := true, plainKeys := false, apart := false, narrowed := true }
def LockSharesUptoSaid : Prop := lockSharesUptoRow.holds Try.pinned (OpenSpec.upto lockSharesSpec)

end Rows
end Go.Proofs.Ytiheoddlknbomaa
