/-
  No cell of these rows narrows 'for every input' (looked for: loops, veiled, ifaces, maps, wideKeys, modest, calm, conditions, laid).
  DERIVED. THE GIVEN ROWS OF THIS SEAT. 9 by the template 'for every input the law returns true; each argument reads behind the call as it read before'; 0 by the template 'total and deterministic' (their statements: YtgnebofjfmbccaaTotals.lean).
  GIVEN WITH THE SEED: the statements are not yours to turn. If you find one false, say at which input.
  Laid BY PROGRAM, IN A SANDBOX (cutbox-rows.mjs): the forced cells as the released guide's own fill.sh prints them over the translation d16500e5239bf5e7… (all of the seat's roots in one cut). By AI agents, Wed Nov 11 2026. No macro, syntax, notation, axiom, sorry.
-/
import Derived.Test.YtgnebofjfmbccaaChecked
import GoSem.Claim
import GoSem.ClaimJoined
import GoSem.ClaimMapViews
import Derived.JoinedTies
import Derived.KernelRfl
namespace Go.Proofs.Ytgnebofjfmbccaa
/- THE CELL 'sum', in the pinned program and in every row, IS THE sha256 OF THE DUMP (.gsa) THAT YtgnebofjfmbccaaProg.lean LOADS. Nothing in Lean hashes anything: it is a label: what it is worth is what the hold of that sum in a sandbox is worth. -/
noncomputable def Try.pinned : Pinned := { name := "ytgnebofjfmbccaa", sum := "d16500e5239bf5e7cc3f31d289f33b2ce5e8e8b7ead06102f3dd5f1166a1775e", checked := Try.checked }
namespace Rows
def none {H : Type} : Left H := { results := [], args := [] }

/-- 'estreatlaw11.HistoryMay': WHATEVER THE INPUT: true; the input reads as it did. -/
def historyMaySpec : ChangeSpec := { name := "historyMay", fn := fun _ => fun
  | [d1, d2, d3, d4] => { results := [.lit (.bool true)], args := [d1, d2, d3, d4] }
  | _ => none }
def historyMayRow : OpenClaim := { program := "ytgnebofjfmbccaa", sum := "d16500e5239bf5e7cc3f31d289f33b2ce5e8e8b7ead06102f3dd5f1166a1775e", func := "estreat/estreatlaw11.HistoryMay", spec := "historyMay", unfollowed := true, recurses := true, apart := false }
def HistoryMaySaid : Prop := historyMayRow.holds Try.pinned (OpenSpec.ofChange historyMaySpec)

/-- ITS FALSE NEIGHBOUR: 'it returns false'. Refute it at one input. -/
def historyMayWrong : ChangeSpec := { name := "historyMay", fn := fun _ => fun
  | [d1, d2, d3, d4] => { results := [.lit (.bool false)], args := [d1, d2, d3, d4] }
  | _ => none }
def HistoryMayWrongFalsely : Prop := historyMayRow.holds Try.pinned (OpenSpec.ofChange historyMayWrong)

/-- 'estreatlaw11.HistoryOld': WHATEVER THE INPUT: true; the input reads as it did. -/
def historyOldSpec : ChangeSpec := { name := "historyOld", fn := fun _ => fun
  | [d] => { results := [.lit (.bool true)], args := [d] }
  | _ => none }
def historyOldRow : OpenClaim := { program := "ytgnebofjfmbccaa", sum := "d16500e5239bf5e7cc3f31d289f33b2ce5e8e8b7ead06102f3dd5f1166a1775e", func := "estreat/estreatlaw11.HistoryOld", spec := "historyOld", unfollowed := true, recurses := true, apart := false }
def HistoryOldSaid : Prop := historyOldRow.holds Try.pinned (OpenSpec.ofChange historyOldSpec)

/-- ITS FALSE NEIGHBOUR: 'it returns false'. Refute it at one input. -/
def historyOldWrong : ChangeSpec := { name := "historyOld", fn := fun _ => fun
  | [d] => { results := [.lit (.bool false)], args := [d] }
  | _ => none }
def HistoryOldWrongFalsely : Prop := historyOldRow.holds Try.pinned (OpenSpec.ofChange historyOldWrong)

/-- 'estreatlaw08.EntryClaims': WHATEVER THE INPUT: true; the input reads as it did. -/
def entryClaimsSpec : ChangeSpec := { name := "entryClaims", fn := fun _ => fun
  | [d] => { results := [.lit (.bool true)], args := [d] }
  | _ => none }
def entryClaimsRow : OpenClaim := { program := "ytgnebofjfmbccaa", sum := "d16500e5239bf5e7cc3f31d289f33b2ce5e8e8b7ead06102f3dd5f1166a1775e", func := "estreat/estreatlaw08.EntryClaims", spec := "entryClaims", unfollowed := true, recurses := true, apart := false }
def EntryClaimsSaid : Prop := entryClaimsRow.holds Try.pinned (OpenSpec.ofChange entryClaimsSpec)

/-- ITS FALSE NEIGHBOUR: 'it returns false'. Refute it at one input. -/
def entryClaimsWrong : ChangeSpec := { name := "entryClaims", fn := fun _ => fun
  | [d] => { results := [.lit (.bool false)], args := [d] }
  | _ => none }
def EntryClaimsWrongFalsely : Prop := entryClaimsRow.holds Try.pinned (OpenSpec.ofChange entryClaimsWrong)

/-- 'estreatlaw07.HeadBytes': WHATEVER THE INPUT: true; the input reads as it did. -/
def headBytesSpec : ChangeSpec := { name := "headBytes", fn := fun _ => fun
  | [d] => { results := [.lit (.bool true)], args := [d] }
  | _ => none }
def headBytesRow : OpenClaim := { program := "ytgnebofjfmbccaa", sum := "d16500e5239bf5e7cc3f31d289f33b2ce5e8e8b7ead06102f3dd5f1166a1775e", func := "estreat/estreatlaw07.HeadBytes", spec := "headBytes", unfollowed := true, recurses := true, apart := false }
def HeadBytesSaid : Prop := headBytesRow.holds Try.pinned (OpenSpec.ofChange headBytesSpec)

/-- ITS FALSE NEIGHBOUR: 'it returns false'. Refute it at one input. -/
def headBytesWrong : ChangeSpec := { name := "headBytes", fn := fun _ => fun
  | [d] => { results := [.lit (.bool false)], args := [d] }
  | _ => none }
def HeadBytesWrongFalsely : Prop := headBytesRow.holds Try.pinned (OpenSpec.ofChange headBytesWrong)

/-- 'estreatlaw15.KeepChecks': WHATEVER THE INPUT: true; the input reads as it did. -/
def keepChecksSpec : ChangeSpec := { name := "keepChecks", fn := fun _ => fun
  | [d] => { results := [.lit (.bool true)], args := [d] }
  | _ => none }
def keepChecksRow : OpenClaim := { program := "ytgnebofjfmbccaa", sum := "d16500e5239bf5e7cc3f31d289f33b2ce5e8e8b7ead06102f3dd5f1166a1775e", func := "estreat/estreatlaw15.KeepChecks", spec := "keepChecks", inPlace := ["slices.overlaps[estreat/api.Claim]"], unfollowed := true, recurses := true, apart := false }
def KeepChecksSaid : Prop := keepChecksRow.holds Try.pinned (OpenSpec.ofChange keepChecksSpec)

/-- ITS FALSE NEIGHBOUR: 'it returns false'. Refute it at one input. -/
def keepChecksWrong : ChangeSpec := { name := "keepChecks", fn := fun _ => fun
  | [d] => { results := [.lit (.bool false)], args := [d] }
  | _ => none }
def KeepChecksWrongFalsely : Prop := keepChecksRow.holds Try.pinned (OpenSpec.ofChange keepChecksWrong)

/-- 'estreatlaw15.KeepFolds': WHATEVER THE INPUT: true; the input reads as it did. -/
def keepFoldsSpec : ChangeSpec := { name := "keepFolds", fn := fun _ => fun
  | [d1, d2] => { results := [.lit (.bool true)], args := [d1, d2] }
  | _ => none }
def keepFoldsRow : OpenClaim := { program := "ytgnebofjfmbccaa", sum := "d16500e5239bf5e7cc3f31d289f33b2ce5e8e8b7ead06102f3dd5f1166a1775e", func := "estreat/estreatlaw15.KeepFolds", spec := "keepFolds", inPlace := ["slices.overlaps[estreat/api.Claim]"], unfollowed := true, recurses := true, apart := false }
def KeepFoldsSaid : Prop := keepFoldsRow.holds Try.pinned (OpenSpec.ofChange keepFoldsSpec)

/-- ITS FALSE NEIGHBOUR: 'it returns false'. Refute it at one input. -/
def keepFoldsWrong : ChangeSpec := { name := "keepFolds", fn := fun _ => fun
  | [d1, d2] => { results := [.lit (.bool false)], args := [d1, d2] }
  | _ => none }
def KeepFoldsWrongFalsely : Prop := keepFoldsRow.holds Try.pinned (OpenSpec.ofChange keepFoldsWrong)

/-- 'estreatlaw15.KeepRight': WHATEVER THE INPUT: true; the input reads as it did. -/
def keepRightSpec : ChangeSpec := { name := "keepRight", fn := fun _ => fun
  | [d1, d2] => { results := [.lit (.bool true)], args := [d1, d2] }
  | _ => none }
def keepRightRow : OpenClaim := { program := "ytgnebofjfmbccaa", sum := "d16500e5239bf5e7cc3f31d289f33b2ce5e8e8b7ead06102f3dd5f1166a1775e", func := "estreat/estreatlaw15.KeepRight", spec := "keepRight", inPlace := ["slices.overlaps[estreat/api.Claim]"], unfollowed := true, recurses := true, apart := false }
def KeepRightSaid : Prop := keepRightRow.holds Try.pinned (OpenSpec.ofChange keepRightSpec)

/-- ITS FALSE NEIGHBOUR: 'it returns false'. Refute it at one input. -/
def keepRightWrong : ChangeSpec := { name := "keepRight", fn := fun _ => fun
  | [d1, d2] => { results := [.lit (.bool false)], args := [d1, d2] }
  | _ => none }
def KeepRightWrongFalsely : Prop := keepRightRow.holds Try.pinned (OpenSpec.ofChange keepRightWrong)

/-- 'estreatlaw15.KeepClaims': WHATEVER THE INPUT: true; the input reads as it did. -/
def keepClaimsSpec : ChangeSpec := { name := "keepClaims", fn := fun _ => fun
  | [d1, d2, d3] => { results := [.lit (.bool true)], args := [d1, d2, d3] }
  | _ => none }
def keepClaimsRow : OpenClaim := { program := "ytgnebofjfmbccaa", sum := "d16500e5239bf5e7cc3f31d289f33b2ce5e8e8b7ead06102f3dd5f1166a1775e", func := "estreat/estreatlaw15.KeepClaims", spec := "keepClaims", inPlace := ["slices.overlaps[estreat/api.Claim]"], unfollowed := true, recurses := true, apart := false }
def KeepClaimsSaid : Prop := keepClaimsRow.holds Try.pinned (OpenSpec.ofChange keepClaimsSpec)

/-- ITS FALSE NEIGHBOUR: 'it returns false'. Refute it at one input. -/
def keepClaimsWrong : ChangeSpec := { name := "keepClaims", fn := fun _ => fun
  | [d1, d2, d3] => { results := [.lit (.bool false)], args := [d1, d2, d3] }
  | _ => none }
def KeepClaimsWrongFalsely : Prop := keepClaimsRow.holds Try.pinned (OpenSpec.ofChange keepClaimsWrong)

/-- 'estreatlaw15.KeepEpochs': WHATEVER THE INPUT: true; the input reads as it did. -/
def keepEpochsSpec : ChangeSpec := { name := "keepEpochs", fn := fun _ => fun
  | [d1, d2, d3] => { results := [.lit (.bool true)], args := [d1, d2, d3] }
  | _ => none }
def keepEpochsRow : OpenClaim := { program := "ytgnebofjfmbccaa", sum := "d16500e5239bf5e7cc3f31d289f33b2ce5e8e8b7ead06102f3dd5f1166a1775e", func := "estreat/estreatlaw15.KeepEpochs", spec := "keepEpochs", inPlace := ["slices.overlaps[estreat/api.Claim]"], unfollowed := true, recurses := true, apart := false }
def KeepEpochsSaid : Prop := keepEpochsRow.holds Try.pinned (OpenSpec.ofChange keepEpochsSpec)

/-- ITS FALSE NEIGHBOUR: 'it returns false'. Refute it at one input. -/
def keepEpochsWrong : ChangeSpec := { name := "keepEpochs", fn := fun _ => fun
  | [d1, d2, d3] => { results := [.lit (.bool false)], args := [d1, d2, d3] }
  | _ => none }
def KeepEpochsWrongFalsely : Prop := keepEpochsRow.holds Try.pinned (OpenSpec.ofChange keepEpochsWrong)

/- THE SECOND FORM. 'bulk': how many values and letters a reading holds, each counted each time it is reached (what is shared counts as often as it is met; a slice's spare places count too). A statement '..UptoSaid' is the law's where the arguments, and the package variables that the reading takes, are together of bulk at most 1048576: NARROWER than '..Said'. Prove '..Said' where nothing that the law and all that it calls make is longer than what came in: it says more and counts as full. Else prove '..UptoSaid'. A law counts once. -/
mutual
def uptoBulk {H : Type} : DataW H → Nat
  | .lit (.string bytes) => bytes.length + 1
  | .lit _ => 1
  | .nil => 1
  | .ptr d => uptoBulk d + 1
  | .slice elems spare => uptoBulkAll elems + uptoBulkAll spare + 1
  | .agg parts => uptoBulkAll parts + 1
  | .iface _ d => uptoBulk d + 1
  | .map entries => uptoBulkEntries entries + 1
  | .held _ => 1
def uptoBulkAll {H : Type} : List (DataW H) → Nat
  | [] => 0
  | d :: r => uptoBulk d + uptoBulkAll r
def uptoBulkEntries {H : Type} : List (Lit × DataW H) → Nat
  | [] => 0
  | x :: r => uptoBulkEntry x + uptoBulkEntries r
def uptoBulkEntry {H : Type} : Lit × DataW H → Nat
  | (.string bytes, d) => bytes.length + uptoBulk d + 1
  | (_, d) => uptoBulk d + 1
 end
def uptoSmall : (H : Type) → List (DataW H) → Bool := fun _ ds => decide (uptoBulkAll ds ≤ 1048576)
def OpenSpec.upto (s : _root_.Go.ChangeSpec) : _root_.Go.OpenSpec := { _root_.Go.OpenSpec.ofChange s with cond := some uptoSmall }

/-- 'estreatlaw11.HistoryMay', WHERE WHAT IT READS IS OF BULK AT MOST 1048576: true; the input reads as it did. -/
def historyMayUptoRow : OpenClaim := { program := "ytgnebofjfmbccaa", sum := "d16500e5239bf5e7cc3f31d289f33b2ce5e8e8b7ead06102f3dd5f1166a1775e", func := "estreat/estreatlaw11.HistoryMay", spec := "historyMay", unfollowed := true, recurses := true, apart := false, narrowed := true }
def HistoryMayUptoSaid : Prop := historyMayUptoRow.holds Try.pinned (OpenSpec.upto historyMaySpec)

/-- 'estreatlaw11.HistoryOld', WHERE WHAT IT READS IS OF BULK AT MOST 1048576: true; the input reads as it did. -/
def historyOldUptoRow : OpenClaim := { program := "ytgnebofjfmbccaa", sum := "d16500e5239bf5e7cc3f31d289f33b2ce5e8e8b7ead06102f3dd5f1166a1775e", func := "estreat/estreatlaw11.HistoryOld", spec := "historyOld", unfollowed := true, recurses := true, apart := false, narrowed := true }
def HistoryOldUptoSaid : Prop := historyOldUptoRow.holds Try.pinned (OpenSpec.upto historyOldSpec)

/-- 'estreatlaw08.EntryClaims', WHERE WHAT IT READS IS OF BULK AT MOST 1048576: true; the input reads as it did. -/
def entryClaimsUptoRow : OpenClaim := { program := "ytgnebofjfmbccaa", sum := "d16500e5239bf5e7cc3f31d289f33b2ce5e8e8b7ead06102f3dd5f1166a1775e", func := "estreat/estreatlaw08.EntryClaims", spec := "entryClaims", unfollowed := true, recurses := true, apart := false, narrowed := true }
def EntryClaimsUptoSaid : Prop := entryClaimsUptoRow.holds Try.pinned (OpenSpec.upto entryClaimsSpec)

/-- 'estreatlaw07.HeadBytes', WHERE WHAT IT READS IS OF BULK AT MOST 1048576: true; the input reads as it did. -/
def headBytesUptoRow : OpenClaim := { program := "ytgnebofjfmbccaa", sum := "d16500e5239bf5e7cc3f31d289f33b2ce5e8e8b7ead06102f3dd5f1166a1775e", func := "estreat/estreatlaw07.HeadBytes", spec := "headBytes", unfollowed := true, recurses := true, apart := false, narrowed := true }
def HeadBytesUptoSaid : Prop := headBytesUptoRow.holds Try.pinned (OpenSpec.upto headBytesSpec)

/-- 'estreatlaw15.KeepChecks', WHERE WHAT IT READS IS OF BULK AT MOST 1048576: true; the input reads as it did. -/
def keepChecksUptoRow : OpenClaim := { program := "ytgnebofjfmbccaa", sum := "d16500e5239bf5e7cc3f31d289f33b2ce5e8e8b7ead06102f3dd5f1166a1775e", func := "estreat/estreatlaw15.KeepChecks", spec := "keepChecks", inPlace := ["slices.overlaps[estreat/api.Claim]"], unfollowed := true, recurses := true, apart := false, narrowed := true }
def KeepChecksUptoSaid : Prop := keepChecksUptoRow.holds Try.pinned (OpenSpec.upto keepChecksSpec)

/-- 'estreatlaw15.KeepFolds', WHERE WHAT IT READS IS OF BULK AT MOST 1048576: true; the input reads as it did. -/
def keepFoldsUptoRow : OpenClaim := { program := "ytgnebofjfmbccaa", sum := "d16500e5239bf5e7cc3f31d289f33b2ce5e8e8b7ead06102f3dd5f1166a1775e", func := "estreat/estreatlaw15.KeepFolds", spec := "keepFolds", inPlace := ["slices.overlaps[estreat/api.Claim]"], unfollowed := true, recurses := true, apart := false, narrowed := true }
def KeepFoldsUptoSaid : Prop := keepFoldsUptoRow.holds Try.pinned (OpenSpec.upto keepFoldsSpec)

/-- 'estreatlaw15.KeepRight', WHERE WHAT IT READS IS OF BULK AT MOST 1048576: true; the input reads as it did. -/
def keepRightUptoRow : OpenClaim := { program := "ytgnebofjfmbccaa", sum := "d16500e5239bf5e7cc3f31d289f33b2ce5e8e8b7ead06102f3dd5f1166a1775e", func := "estreat/estreatlaw15.KeepRight", spec := "keepRight", inPlace := ["slices.overlaps[estreat/api.Claim]"], unfollowed := true, recurses := true, apart := false, narrowed := true }
def KeepRightUptoSaid : Prop := keepRightUptoRow.holds Try.pinned (OpenSpec.upto keepRightSpec)

/-- 'estreatlaw15.KeepClaims', WHERE WHAT IT READS IS OF BULK AT MOST 1048576: true; the input reads as it did. -/
def keepClaimsUptoRow : OpenClaim := { program := "ytgnebofjfmbccaa", sum := "d16500e5239bf5e7cc3f31d289f33b2ce5e8e8b7ead06102f3dd5f1166a1775e", func := "estreat/estreatlaw15.KeepClaims", spec := "keepClaims", inPlace := ["slices.overlaps[estreat/api.Claim]"], unfollowed := true, recurses := true, apart := false, narrowed := true }
def KeepClaimsUptoSaid : Prop := keepClaimsUptoRow.holds Try.pinned (OpenSpec.upto keepClaimsSpec)

/-- 'estreatlaw15.KeepEpochs', WHERE WHAT IT READS IS OF BULK AT MOST 1048576: true; the input reads as it did. -/
def keepEpochsUptoRow : OpenClaim := { program := "ytgnebofjfmbccaa", sum := "d16500e5239bf5e7cc3f31d289f33b2ce5e8e8b7ead06102f3dd5f1166a1775e", func := "estreat/estreatlaw15.KeepEpochs", spec := "keepEpochs", inPlace := ["slices.overlaps[estreat/api.Claim]"], unfollowed := true, recurses := true, apart := false, narrowed := true }
def KeepEpochsUptoSaid : Prop := keepEpochsUptoRow.holds Try.pinned (OpenSpec.upto keepEpochsSpec)

end Rows
end Go.Proofs.Ytgnebofjfmbccaa
