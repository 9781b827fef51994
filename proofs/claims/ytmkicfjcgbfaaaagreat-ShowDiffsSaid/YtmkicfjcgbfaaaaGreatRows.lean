/-
  NARROWER THAN 'FOR EVERY INPUT', by the rows' own cells (each row's printed sentence says how): TopTree: loops · TreeHistories: loops · ShowDiffs: loops · TopUndone: loops · TreeMoves: loops · TreeOutlines: loops.
  DERIVED. THE GIVEN ROWS OF THIS SEAT. 6 by the template 'for every input the law returns true; each argument reads behind the call as it read before'; 0 by the template 'total and deterministic' (their statements: YtmkicfjcgbfaaaaGreatTotals.lean).
  GIVEN WITH THE SEED: the statements are not yours to turn. If you find one false, say at which input.
  Laid BY PROGRAM, IN A SANDBOX (cutbox-rows.mjs): the forced cells as the released guide's own fill.sh prints them over the translation b84f793fc15301e9… (all of the seat's roots in one cut). By AI agents, Wed Nov 11 2026. No macro, syntax, notation, axiom, sorry.
-/
import Derived.Test.YtmkicfjcgbfaaaaGreatChecked
import GoSem.Claim
import GoSem.ClaimJoined
import GoSem.ClaimMapViews
import Derived.JoinedTies
import Derived.KernelRfl
namespace Go.Proofs.YtmkicfjcgbfaaaaGreat
/- THE CELL 'sum', in the pinned program and in every row, IS THE sha256 OF THE DUMP (.gsa) THAT YtmkicfjcgbfaaaaGreatProg.lean LOADS. Nothing in Lean hashes anything: it is a label: what it is worth is what the hold of that sum in a sandbox is worth. -/
noncomputable def Tryz.pinned : Pinned := { name := "ytmkicfjcgbfaaaagreat", sum := "b84f793fc15301e9bc03e024994c657d72e8b83b4532addd1da71f43d2cb28b3", checked := Tryz.checked }
namespace Rows
def none {H : Type} : Left H := { results := [], args := [] }

/-- 'florkeep1.TopTree': WHATEVER THE INPUT: true; the input reads as it did. -/
def topTreeSpec : ChangeSpec := { name := "topTree", fn := fun _ => fun
  | [d1, d2] => { results := [.lit (.bool true)], args := [d1, d2] }
  | _ => none }
def topTreeRow : OpenClaim := { program := "ytmkicfjcgbfaaaagreat", sum := "b84f793fc15301e9bc03e024994c657d72e8b83b4532addd1da71f43d2cb28b3", func := "florilegium/florkeep1.TopTree", spec := "topTree", inPlace := ["internal/bytealg.IndexByteString", "internal/bytealg.IndexString", "slices.overlaps[florilegium/api.Block]", "slices.overlaps[int]", "internal/bytealg.abigen_runtime_cmpstring"], unfollowed := true, recurses := true, named := ["internal/bytealg.MaxLen"], loops := true, apart := false }
def TopTreeSaid : Prop := topTreeRow.holds Tryz.pinned (OpenSpec.ofChange topTreeSpec)

/-- ITS FALSE NEIGHBOUR: 'it returns false'. Refute it at one input. -/
def topTreeWrong : ChangeSpec := { name := "topTree", fn := fun _ => fun
  | [d1, d2] => { results := [.lit (.bool false)], args := [d1, d2] }
  | _ => none }
def TopTreeWrongFalsely : Prop := topTreeRow.holds Tryz.pinned (OpenSpec.ofChange topTreeWrong)

/-- 'florlaw1.TreeHistories': WHATEVER THE INPUT: true; the input reads as it did. -/
def treeHistoriesSpec : ChangeSpec := { name := "treeHistories", fn := fun _ => fun
  | [d1, d2, d3] => { results := [.lit (.bool true)], args := [d1, d2, d3] }
  | _ => none }
def treeHistoriesRow : OpenClaim := { program := "ytmkicfjcgbfaaaagreat", sum := "b84f793fc15301e9bc03e024994c657d72e8b83b4532addd1da71f43d2cb28b3", func := "florilegium/florlaw1.TreeHistories", spec := "treeHistories", inPlace := ["internal/bytealg.IndexByteString", "internal/bytealg.IndexString", "slices.overlaps[florilegium/api.Block]", "slices.overlaps[int]", "internal/bytealg.abigen_runtime_cmpstring"], unfollowed := true, recurses := true, named := ["internal/bytealg.MaxLen"], loops := true, apart := false }
def TreeHistoriesSaid : Prop := treeHistoriesRow.holds Tryz.pinned (OpenSpec.ofChange treeHistoriesSpec)

/-- ITS FALSE NEIGHBOUR: 'it returns false'. Refute it at one input. -/
def treeHistoriesWrong : ChangeSpec := { name := "treeHistories", fn := fun _ => fun
  | [d1, d2, d3] => { results := [.lit (.bool false)], args := [d1, d2, d3] }
  | _ => none }
def TreeHistoriesWrongFalsely : Prop := treeHistoriesRow.holds Tryz.pinned (OpenSpec.ofChange treeHistoriesWrong)

/-- 'florlaw1.ShowDiffs': WHATEVER THE INPUT: true; the input reads as it did. -/
def showDiffsSpec : ChangeSpec := { name := "showDiffs", fn := fun _ => fun
  | [d1, d2] => { results := [.lit (.bool true)], args := [d1, d2] }
  | _ => none }
def showDiffsRow : OpenClaim := { program := "ytmkicfjcgbfaaaagreat", sum := "b84f793fc15301e9bc03e024994c657d72e8b83b4532addd1da71f43d2cb28b3", func := "florilegium/florlaw1.ShowDiffs", spec := "showDiffs", inPlace := ["internal/bytealg.IndexByteString", "internal/bytealg.IndexString", "slices.overlaps[florilegium/api.Block]", "slices.overlaps[int]", "internal/bytealg.abigen_runtime_cmpstring"], unfollowed := true, recurses := true, named := ["internal/bytealg.MaxLen"], loops := true, apart := false }
def ShowDiffsSaid : Prop := showDiffsRow.holds Tryz.pinned (OpenSpec.ofChange showDiffsSpec)

/-- ITS FALSE NEIGHBOUR: 'it returns false'. Refute it at one input. -/
def showDiffsWrong : ChangeSpec := { name := "showDiffs", fn := fun _ => fun
  | [d1, d2] => { results := [.lit (.bool false)], args := [d1, d2] }
  | _ => none }
def ShowDiffsWrongFalsely : Prop := showDiffsRow.holds Tryz.pinned (OpenSpec.ofChange showDiffsWrong)

/-- 'florkeep1.TopUndone': WHATEVER THE INPUT: true; the input reads as it did. -/
def topUndoneSpec : ChangeSpec := { name := "topUndone", fn := fun _ => fun
  | [d1, d2] => { results := [.lit (.bool true)], args := [d1, d2] }
  | _ => none }
def topUndoneRow : OpenClaim := { program := "ytmkicfjcgbfaaaagreat", sum := "b84f793fc15301e9bc03e024994c657d72e8b83b4532addd1da71f43d2cb28b3", func := "florilegium/florkeep1.TopUndone", spec := "topUndone", inPlace := ["internal/bytealg.IndexByteString", "internal/bytealg.IndexString", "slices.overlaps[florilegium/api.Block]", "slices.overlaps[int]", "internal/bytealg.abigen_runtime_cmpstring"], unfollowed := true, recurses := true, named := ["internal/bytealg.MaxLen"], loops := true, apart := false }
def TopUndoneSaid : Prop := topUndoneRow.holds Tryz.pinned (OpenSpec.ofChange topUndoneSpec)

/-- ITS FALSE NEIGHBOUR: 'it returns false'. Refute it at one input. -/
def topUndoneWrong : ChangeSpec := { name := "topUndone", fn := fun _ => fun
  | [d1, d2] => { results := [.lit (.bool false)], args := [d1, d2] }
  | _ => none }
def TopUndoneWrongFalsely : Prop := topUndoneRow.holds Tryz.pinned (OpenSpec.ofChange topUndoneWrong)

/-- 'florlaw1.TreeMoves': WHATEVER THE INPUT: true; the input reads as it did. -/
def treeMovesSpec : ChangeSpec := { name := "treeMoves", fn := fun _ => fun
  | [d1, d2, d3] => { results := [.lit (.bool true)], args := [d1, d2, d3] }
  | _ => none }
def treeMovesRow : OpenClaim := { program := "ytmkicfjcgbfaaaagreat", sum := "b84f793fc15301e9bc03e024994c657d72e8b83b4532addd1da71f43d2cb28b3", func := "florilegium/florlaw1.TreeMoves", spec := "treeMoves", inPlace := ["internal/bytealg.IndexByteString", "internal/bytealg.IndexString", "slices.overlaps[florilegium/api.Block]", "slices.overlaps[int]", "internal/bytealg.abigen_runtime_cmpstring"], unfollowed := true, recurses := true, named := ["internal/bytealg.MaxLen"], loops := true, apart := false }
def TreeMovesSaid : Prop := treeMovesRow.holds Tryz.pinned (OpenSpec.ofChange treeMovesSpec)

/-- ITS FALSE NEIGHBOUR: 'it returns false'. Refute it at one input. -/
def treeMovesWrong : ChangeSpec := { name := "treeMoves", fn := fun _ => fun
  | [d1, d2, d3] => { results := [.lit (.bool false)], args := [d1, d2, d3] }
  | _ => none }
def TreeMovesWrongFalsely : Prop := treeMovesRow.holds Tryz.pinned (OpenSpec.ofChange treeMovesWrong)

/-- 'florlaw1.TreeOutlines': WHATEVER THE INPUT: true; the input reads as it did. -/
def treeOutlinesSpec : ChangeSpec := { name := "treeOutlines", fn := fun _ => fun
  | [d1, d2, d3, d4] => { results := [.lit (.bool true)], args := [d1, d2, d3, d4] }
  | _ => none }
def treeOutlinesRow : OpenClaim := { program := "ytmkicfjcgbfaaaagreat", sum := "b84f793fc15301e9bc03e024994c657d72e8b83b4532addd1da71f43d2cb28b3", func := "florilegium/florlaw1.TreeOutlines", spec := "treeOutlines", inPlace := ["internal/bytealg.IndexByteString", "internal/bytealg.IndexString", "internal/abi.NoEscape", "internal/bytealg.MakeNoZero", "slices.overlaps[florilegium/api.Block]", "slices.overlaps[int]", "internal/bytealg.abigen_runtime_cmpstring"], unfollowed := true, recurses := true, named := ["internal/bytealg.MaxLen"], loops := true, apart := false }
def TreeOutlinesSaid : Prop := treeOutlinesRow.holds Tryz.pinned (OpenSpec.ofChange treeOutlinesSpec)

/-- ITS FALSE NEIGHBOUR: 'it returns false'. Refute it at one input. -/
def treeOutlinesWrong : ChangeSpec := { name := "treeOutlines", fn := fun _ => fun
  | [d1, d2, d3, d4] => { results := [.lit (.bool false)], args := [d1, d2, d3, d4] }
  | _ => none }
def TreeOutlinesWrongFalsely : Prop := treeOutlinesRow.holds Tryz.pinned (OpenSpec.ofChange treeOutlinesWrong)

/- THE SECOND FORM. 'bulk': how many values and letters a reading holds, each counted each time it is reached (what is shared counts as often as it is met; a slice's spare places count too). A statement '..UptoSaid' is the law's where the arguments, and the package variables that the reading takes, are together of bulk at most 1048576: NARROWER than '..Said'. Prove '..Said' where nothing that the law and all that it calls make is longer than what came in: it says more and counts as full. Else prove '..UptoSaid'. A law counts once. -/
mutual
def uptoBulk {H : Type} : DataW H → Nat
  | .lit (.string bytes) => bytes.length + 1
  | .lit _ => 1
  | .nil => 1
  | .ptr d => uptoBulk d + 1
  | .slice elems spare => uptoBulkAll elems + uptoBulkAll spare + 1
  | .agg parts => uptoBulkAll parts + 1
  | .iface _ d => uptoBulk d + 1
  | .map entries => uptoBulkEntries entries + 1
  | .held _ => 1
def uptoBulkAll {H : Type} : List (DataW H) → Nat
  | [] => 0
  | d :: r => uptoBulk d + uptoBulkAll r
def uptoBulkEntries {H : Type} : List (Lit × DataW H) → Nat
  | [] => 0
  | x :: r => uptoBulkEntry x + uptoBulkEntries r
def uptoBulkEntry {H : Type} : Lit × DataW H → Nat
  | (.string bytes, d) => bytes.length + uptoBulk d + 1
  | (_, d) => uptoBulk d + 1
 end
def uptoSmall : (H : Type) → List (DataW H) → Bool := fun _ ds => decide (uptoBulkAll ds ≤ 1048576)
def OpenSpec.upto (s : _root_.Go.ChangeSpec) : _root_.Go.OpenSpec := { _root_.Go.OpenSpec.ofChange s with cond := some uptoSmall }

/-- 'florkeep1.TopTree', WHERE WHAT IT READS IS OF BULK AT MOST 1048576: true; the input reads as it did. -/
def topTreeUptoRow : OpenClaim := { program := "ytmkicfjcgbfaaaagreat", sum := "b84f793fc15301e9bc03e024994c657d72e8b83b4532addd1da71f43d2cb28b3", func := "florilegium/florkeep1.TopTree", spec := "topTree", inPlace := ["internal/bytealg.IndexByteString", "internal/bytealg.IndexString", "slices.overlaps[florilegium/api.Block]", "slices.overlaps[int]", "internal/bytealg.abigen_runtime_cmpstring"], unfollowed := true, recurses := true, named := ["internal/bytealg.MaxLen"], loops := true, apart := false, narrowed := true }
def TopTreeUptoSaid : Prop := topTreeUptoRow.holds Tryz.pinned (OpenSpec.upto topTreeSpec)

/-- 'florlaw1.TreeHistories', WHERE WHAT IT READS IS OF BULK AT MOST 1048576: true; the input reads as it did. -/
def treeHistoriesUptoRow : OpenClaim := { program := "ytmkicfjcgbfaaaagreat", sum := "b84f793fc15301e9bc03e024994c657d72e8b83b4532addd1da71f43d2cb28b3", func := "florilegium/florlaw1.TreeHistories", spec := "treeHistories", inPlace := ["internal/bytealg.IndexByteString", "internal/bytealg.IndexString", "slices.overlaps[florilegium/api.Block]", "slices.overlaps[int]", "internal/bytealg.abigen_runtime_cmpstring"], unfollowed := true, recurses := true, named := ["internal/bytealg.MaxLen"], loops := true, apart := false, narrowed := true }
def TreeHistoriesUptoSaid : Prop := treeHistoriesUptoRow.holds Tryz.pinned (OpenSpec.upto treeHistoriesSpec)

/-- 'florlaw1.ShowDiffs', WHERE WHAT IT READS IS OF BULK AT MOST 1048576: true; the input reads as it did. -/
def showDiffsUptoRow : OpenClaim := { program := "ytmkicfjcgbfaaaagreat", sum := "b84f793fc15301e9bc03e024994c657d72e8b83b4532addd1da71f43d2cb28b3", func := "florilegium/florlaw1.ShowDiffs", spec := "showDiffs", inPlace := ["internal/bytealg.IndexByteString", "internal/bytealg.IndexString", "slices.overlaps[florilegium/api.Block]", "slices.overlaps[int]", "internal/bytealg.abigen_runtime_cmpstring"], unfollowed := true, recurses := true, named := ["internal/bytealg.MaxLen"], loops := true, apart := false, narrowed := true }
def ShowDiffsUptoSaid : Prop := showDiffsUptoRow.holds Tryz.pinned (OpenSpec.upto showDiffsSpec)

/-- 'florkeep1.TopUndone', WHERE WHAT IT READS IS OF BULK AT MOST 1048576: true; the input reads as it did. -/
def topUndoneUptoRow : OpenClaim := { program := "ytmkicfjcgbfaaaagreat", sum := "b84f793fc15301e9bc03e024994c657d72e8b83b4532addd1da71f43d2cb28b3", func := "florilegium/florkeep1.TopUndone", spec := "topUndone", inPlace := ["internal/bytealg.IndexByteString", "internal/bytealg.IndexString", "slices.overlaps[florilegium/api.Block]", "slices.overlaps[int]", "internal/bytealg.abigen_runtime_cmpstring"], unfollowed := true, recurses := true, named := ["internal/bytealg.MaxLen"], loops := true, apart := false, narrowed := true }
def TopUndoneUptoSaid : Prop := topUndoneUptoRow.holds Tryz.pinned (OpenSpec.upto topUndoneSpec)

/-- 'florlaw1.TreeMoves', WHERE WHAT IT READS IS OF BULK AT MOST 1048576: true; the input reads as it did. -/
def treeMovesUptoRow : OpenClaim := { program := "ytmkicfjcgbfaaaagreat", sum := "b84f793fc15301e9bc03e024994c657d72e8b83b4532addd1da71f43d2cb28b3", func := "florilegium/florlaw1.TreeMoves", spec := "treeMoves", inPlace := ["internal/bytealg.IndexByteString", "internal/bytealg.IndexString", "slices.overlaps[florilegium/api.Block]", "slices.overlaps[int]", "internal/bytealg.abigen_runtime_cmpstring"], unfollowed := true, recurses := true, named := ["internal/bytealg.MaxLen"], loops := true, apart := false, narrowed := true }
def TreeMovesUptoSaid : Prop := treeMovesUptoRow.holds Tryz.pinned (OpenSpec.upto treeMovesSpec)

/-- 'florlaw1.TreeOutlines', WHERE WHAT IT READS IS OF BULK AT MOST 1048576: true; the input reads as it did. -/
def treeOutlinesUptoRow : OpenClaim := { program := "ytmkicfjcgbfaaaagreat", sum := "b84f793fc15301e9bc03e024994c657d72e8b83b4532addd1da71f43d2cb28b3", func := "florilegium/florlaw1.TreeOutlines", spec := "treeOutlines", inPlace := ["internal/bytealg.IndexByteString", "internal/bytealg.IndexString", "internal/abi.NoEscape", "internal/bytealg.MakeNoZero", "slices.overlaps[florilegium/api.Block]", "slices.overlaps[int]", "internal/bytealg.abigen_runtime_cmpstring"], unfollowed := true, recurses := true, named := ["internal/bytealg.MaxLen"], loops := true, apart := false, narrowed := true }
def TreeOutlinesUptoSaid : Prop := treeOutlinesUptoRow.holds Tryz.pinned (OpenSpec.upto treeOutlinesSpec)

end Rows
end Go.Proofs.YtmkicfjcgbfaaaaGreat
