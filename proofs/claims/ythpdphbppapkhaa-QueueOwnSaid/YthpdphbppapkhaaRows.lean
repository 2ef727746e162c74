/-
  No cell of these rows narrows 'for every input' (looked for: loops, veiled, ifaces, maps, wideKeys, modest, calm, conditions, laid).
  DERIVED. THE GIVEN ROWS OF THIS SEAT. 6 by the template 'for every input the law returns true; each argument reads behind the call as it read before'; 0 by the template 'total and deterministic' (their statements: YthpdphbppapkhaaTotals.lean).
  GIVEN WITH THE SEED: the statements are not yours to turn. If you find one false, say at which input.
  Laid BY PROGRAM, IN A SANDBOX (cutbox-rows.mjs): the forced cells as the released guide's own fill.sh prints them over the translation e16883a9e1f35543… (all of the seat's roots in one cut). By AI agents, Wed Nov 11 2026. No macro, syntax, notation, axiom, sorry.
-/
import Derived.Test.YthpdphbppapkhaaChecked
import GoSem.Claim
import GoSem.ClaimJoined
import GoSem.ClaimMapViews
import Derived.JoinedTies
import Derived.KernelRfl
namespace Go.Proofs.Ythpdphbppapkhaa
/- THE CELL 'sum', in the pinned program and in every row, IS THE sha256 OF THE DUMP (.gsa) THAT YthpdphbppapkhaaProg.lean LOADS. Nothing in Lean hashes anything: it is a label: what it is worth is what the hold of that sum in a sandbox is worth. -/
noncomputable def Try.pinned : Pinned := { name := "ythpdphbppapkhaa", sum := "e16883a9e1f35543b3041564e96f57ed179ffaa29c6c784e06cc98ee1e2b4b61", checked := Try.checked }
namespace Rows
def none {H : Type} : Left H := { results := [], args := [] }

/-- 'cuecardlaw01.QueueKinds': WHATEVER THE INPUT: true; the input reads as it did. -/
def queueKindsSpec : ChangeSpec := { name := "queueKinds", fn := fun _ => fun
  | [d1, d2] => { results := [.lit (.bool true)], args := [d1, d2] }
  | _ => none }
def queueKindsRow : OpenClaim := { program := "ythpdphbppapkhaa", sum := "e16883a9e1f35543b3041564e96f57ed179ffaa29c6c784e06cc98ee1e2b4b61", func := "cuecard/cuecardlaw01.QueueKinds", spec := "queueKinds", unfollowed := true, recurses := true, apart := false }
def QueueKindsSaid : Prop := queueKindsRow.holds Try.pinned (OpenSpec.ofChange queueKindsSpec)

/-- ITS FALSE NEIGHBOUR: 'it returns false'. Refute it at one input. -/
def queueKindsWrong : ChangeSpec := { name := "queueKinds", fn := fun _ => fun
  | [d1, d2] => { results := [.lit (.bool false)], args := [d1, d2] }
  | _ => none }
def QueueKindsWrongFalsely : Prop := queueKindsRow.holds Try.pinned (OpenSpec.ofChange queueKindsWrong)

/-- 'cuecardlaw01.QueueRooms': WHATEVER THE INPUT: true; the input reads as it did. -/
def queueRoomsSpec : ChangeSpec := { name := "queueRooms", fn := fun _ => fun
  | [d1, d2, d3] => { results := [.lit (.bool true)], args := [d1, d2, d3] }
  | _ => none }
def queueRoomsRow : OpenClaim := { program := "ythpdphbppapkhaa", sum := "e16883a9e1f35543b3041564e96f57ed179ffaa29c6c784e06cc98ee1e2b4b61", func := "cuecard/cuecardlaw01.QueueRooms", spec := "queueRooms", apart := false }
def QueueRoomsSaid : Prop := queueRoomsRow.holds Try.pinned (OpenSpec.ofChange queueRoomsSpec)

/-- ITS FALSE NEIGHBOUR: 'it returns false'. Refute it at one input. -/
def queueRoomsWrong : ChangeSpec := { name := "queueRooms", fn := fun _ => fun
  | [d1, d2, d3] => { results := [.lit (.bool false)], args := [d1, d2, d3] }
  | _ => none }
def QueueRoomsWrongFalsely : Prop := queueRoomsRow.holds Try.pinned (OpenSpec.ofChange queueRoomsWrong)

/-- 'cuecardlaw01.QueueOnce': WHATEVER THE INPUT: true; the input reads as it did. -/
def queueOnceSpec : ChangeSpec := { name := "queueOnce", fn := fun _ => fun
  | [d1, d2] => { results := [.lit (.bool true)], args := [d1, d2] }
  | _ => none }
def queueOnceRow : OpenClaim := { program := "ythpdphbppapkhaa", sum := "e16883a9e1f35543b3041564e96f57ed179ffaa29c6c784e06cc98ee1e2b4b61", func := "cuecard/cuecardlaw01.QueueOnce", spec := "queueOnce", unfollowed := true, recurses := true, apart := false }
def QueueOnceSaid : Prop := queueOnceRow.holds Try.pinned (OpenSpec.ofChange queueOnceSpec)

/-- ITS FALSE NEIGHBOUR: 'it returns false'. Refute it at one input. -/
def queueOnceWrong : ChangeSpec := { name := "queueOnce", fn := fun _ => fun
  | [d1, d2] => { results := [.lit (.bool false)], args := [d1, d2] }
  | _ => none }
def QueueOnceWrongFalsely : Prop := queueOnceRow.holds Try.pinned (OpenSpec.ofChange queueOnceWrong)

/-- 'cuecardlaw01.QueueOwn': WHATEVER THE INPUT: true; the input reads as it did. -/
def queueOwnSpec : ChangeSpec := { name := "queueOwn", fn := fun _ => fun
  | [d1, d2] => { results := [.lit (.bool true)], args := [d1, d2] }
  | _ => none }
def queueOwnRow : OpenClaim := { program := "ythpdphbppapkhaa", sum := "e16883a9e1f35543b3041564e96f57ed179ffaa29c6c784e06cc98ee1e2b4b61", func := "cuecard/cuecardlaw01.QueueOwn", spec := "queueOwn", unfollowed := true, recurses := true, apart := false }
def QueueOwnSaid : Prop := queueOwnRow.holds Try.pinned (OpenSpec.ofChange queueOwnSpec)

/-- ITS FALSE NEIGHBOUR: 'it returns false'. Refute it at one input. -/
def queueOwnWrong : ChangeSpec := { name := "queueOwn", fn := fun _ => fun
  | [d1, d2] => { results := [.lit (.bool false)], args := [d1, d2] }
  | _ => none }
def QueueOwnWrongFalsely : Prop := queueOwnRow.holds Try.pinned (OpenSpec.ofChange queueOwnWrong)

/-- 'cuecardlaw01.QueueActs': WHATEVER THE INPUT: true; the input reads as it did. -/
def queueActsSpec : ChangeSpec := { name := "queueActs", fn := fun _ => fun
  | [d1, d2] => { results := [.lit (.bool true)], args := [d1, d2] }
  | _ => none }
def queueActsRow : OpenClaim := { program := "ythpdphbppapkhaa", sum := "e16883a9e1f35543b3041564e96f57ed179ffaa29c6c784e06cc98ee1e2b4b61", func := "cuecard/cuecardlaw01.QueueActs", spec := "queueActs", unfollowed := true, recurses := true, apart := false }
def QueueActsSaid : Prop := queueActsRow.holds Try.pinned (OpenSpec.ofChange queueActsSpec)

/-- ITS FALSE NEIGHBOUR: 'it returns false'. Refute it at one input. -/
def queueActsWrong : ChangeSpec := { name := "queueActs", fn := fun _ => fun
  | [d1, d2] => { results := [.lit (.bool false)], args := [d1, d2] }
  | _ => none }
def QueueActsWrongFalsely : Prop := queueActsRow.holds Try.pinned (OpenSpec.ofChange queueActsWrong)

/-- 'cuecardlaw01.QueueNews': WHATEVER THE INPUT: true; the input reads as it did. -/
def queueNewsSpec : ChangeSpec := { name := "queueNews", fn := fun _ => fun
  | [d] => { results := [.lit (.bool true)], args := [d] }
  | _ => none }
def queueNewsRow : OpenClaim := { program := "ythpdphbppapkhaa", sum := "e16883a9e1f35543b3041564e96f57ed179ffaa29c6c784e06cc98ee1e2b4b61", func := "cuecard/cuecardlaw01.QueueNews", spec := "queueNews", unfollowed := true, recurses := true, apart := false }
def QueueNewsSaid : Prop := queueNewsRow.holds Try.pinned (OpenSpec.ofChange queueNewsSpec)

/-- ITS FALSE NEIGHBOUR: 'it returns false'. Refute it at one input. -/
def queueNewsWrong : ChangeSpec := { name := "queueNews", fn := fun _ => fun
  | [d] => { results := [.lit (.bool false)], args := [d] }
  | _ => none }
def QueueNewsWrongFalsely : Prop := queueNewsRow.holds Try.pinned (OpenSpec.ofChange queueNewsWrong)

/- THE SECOND FORM. 'bulk': how many values and letters a reading holds, each counted each time it is reached (what is shared counts as often as it is met; a slice's spare places count too). A statement '..UptoSaid' is the law's where the arguments, and the package variables that the reading takes, are together of bulk at most 1048576: NARROWER than '..Said'. Prove '..Said' where nothing that the law and all that it calls make is longer than what came in: it says more and counts as full. Else prove '..UptoSaid'. A law counts once. -/
mutual
def uptoBulk {H : Type} : DataW H → Nat
  | .lit (.string bytes) => bytes.length + 1
  | .lit _ => 1
  | .nil => 1
  | .ptr d => uptoBulk d + 1
  | .slice elems spare => uptoBulkAll elems + uptoBulkAll spare + 1
  | .agg parts => uptoBulkAll parts + 1
  | .iface _ d => uptoBulk d + 1
  | .map entries => uptoBulkEntries entries + 1
  | .held _ => 1
def uptoBulkAll {H : Type} : List (DataW H) → Nat
  | [] => 0
  | d :: r => uptoBulk d + uptoBulkAll r
def uptoBulkEntries {H : Type} : List (Lit × DataW H) → Nat
  | [] => 0
  | x :: r => uptoBulkEntry x + uptoBulkEntries r
def uptoBulkEntry {H : Type} : Lit × DataW H → Nat
  | (.string bytes, d) => bytes.length + uptoBulk d + 1
  | (_, d) => uptoBulk d + 1
 end
def uptoSmall : (H : Type) → List (DataW H) → Bool := fun _ ds => decide (uptoBulkAll ds ≤ 1048576)
def OpenSpec.upto (s : _root_.Go.ChangeSpec) : _root_.Go.OpenSpec := { _root_.Go.OpenSpec.ofChange s with cond := some uptoSmall }

/-- 'cuecardlaw01.QueueKinds', WHERE WHAT IT READS IS OF BULK AT MOST 1048576: true; the input reads as it did. -/
def queueKindsUptoRow : OpenClaim := { program := "ythpdphbppapkhaa", sum := "e16883a9e1f35543b3041564e96f57ed179ffaa29c6c784e06cc98ee1e2b4b61", func := "cuecard/cuecardlaw01.QueueKinds", spec := "queueKinds", unfollowed := true, recurses := true, apart := false, narrowed := true }
def QueueKindsUptoSaid : Prop := queueKindsUptoRow.holds Try.pinned (OpenSpec.upto queueKindsSpec)

/-- 'cuecardlaw01.QueueRooms', WHERE WHAT IT READS IS OF BULK AT MOST 1048576: true; the input reads as it did. -/
def queueRoomsUptoRow : OpenClaim := { program := "ythpdphbppapkhaa", sum := "e16883a9e1f35543b3041564e96f57ed179ffaa29c6c784e06cc98ee1e2b4b61", func := "cuecard/cuecardlaw01.QueueRooms", spec := "queueRooms", apart := false, narrowed := true }
def QueueRoomsUptoSaid : Prop := queueRoomsUptoRow.holds Try.pinned (OpenSpec.upto queueRoomsSpec)

/-- 'cuecardlaw01.QueueOnce', WHERE WHAT IT READS IS OF BULK AT MOST 1048576: true; the input reads as it did. -/
def queueOnceUptoRow : OpenClaim := { program := "ythpdphbppapkhaa", sum := "e16883a9e1f35543b3041564e96f57ed179ffaa29c6c784e06cc98ee1e2b4b61", func := "cuecard/cuecardlaw01.QueueOnce", spec := "queueOnce", unfollowed := true, recurses := true, apart := false, narrowed := true }
def QueueOnceUptoSaid : Prop := queueOnceUptoRow.holds Try.pinned (OpenSpec.upto queueOnceSpec)

/-- 'cuecardlaw01.QueueOwn', WHERE WHAT IT READS IS OF BULK AT MOST 1048576: true; the input reads as it did. -/
def queueOwnUptoRow : OpenClaim := { program := "ythpdphbppapkhaa", sum := "e16883a9e1f35543b3041564e96f57ed179ffaa29c6c784e06cc98ee1e2b4b61", func := "cuecard/cuecardlaw01.QueueOwn", spec := "queueOwn", unfollowed := true, recurses := true, apart := false, narrowed := true }
def QueueOwnUptoSaid : Prop := queueOwnUptoRow.holds Try.pinned (OpenSpec.upto queueOwnSpec)

/-- 'cuecardlaw01.QueueActs', WHERE WHAT IT READS IS OF BULK AT MOST 1048576: true; the input reads as it did. -/
def queueActsUptoRow : OpenClaim := { program := "ythpdphbppapkhaa", sum := "e16883a9e1f35543b3041564e96f57ed179ffaa29c6c784e06cc98ee1e2b4b61", func := "cuecard/cuecardlaw01.QueueActs", spec := "queueActs", unfollowed := true, recurses := true, apart := false, narrowed := true }
def QueueActsUptoSaid : Prop := queueActsUptoRow.holds Try.pinned (OpenSpec.upto queueActsSpec)

/-- 'cuecardlaw01.QueueNews', WHERE WHAT IT READS IS OF BULK AT MOST 1048576: true; the input reads as it did. -/
def queueNewsUptoRow : OpenClaim := { program := "ythpdphbppapkhaa", sum := "e16883a9e1f35543b3041564e96f57ed179ffaa29c6c784e06cc98ee1e2b4b61", func := "cuecard/cuecardlaw01.QueueNews", spec := "queueNews", unfollowed := true, recurses := true, apart := false, narrowed := true }
def QueueNewsUptoSaid : Prop := queueNewsUptoRow.holds Try.pinned (OpenSpec.upto queueNewsSpec)

end Rows
end Go.Proofs.Ythpdphbppapkhaa
