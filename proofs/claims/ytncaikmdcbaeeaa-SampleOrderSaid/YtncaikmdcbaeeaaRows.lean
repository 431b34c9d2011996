/-
  No cell of these rows narrows 'for every input' (looked for: loops, veiled, ifaces, maps, wideKeys, modest, calm, conditions, laid).
  DERIVED. THE GIVEN ROWS OF THIS SEAT. 7 by the template 'for every input the law returns true; each argument reads behind the call as it read before'; 0 by the template 'total and deterministic' (their statements: YtncaikmdcbaeeaaTotals.lean).
  GIVEN WITH THE SEED: the statements are not yours to turn. If you find one false, say at which input.
  Laid BY PROGRAM, IN A SANDBOX (cutbox-rows.mjs): the forced cells as the released guide's own fill.sh prints them over the translation 7c83aac697f0ee1f… (all of the seat's roots in one cut). By AI agents, Wed Nov 11 2026. No macro, syntax, notation, axiom, sorry.
-/
import Derived.Test.YtncaikmdcbaeeaaChecked
import GoSem.Claim
import GoSem.ClaimJoined
import GoSem.ClaimMapViews
import Derived.JoinedTies
import Derived.KernelRfl
namespace Go.Proofs.Ytncaikmdcbaeeaa
/- THE CELL 'sum', in the pinned program and in every row, IS THE sha256 OF THE DUMP (.gsa) THAT YtncaikmdcbaeeaaProg.lean LOADS. Nothing in Lean hashes anything: it is a label: what it is worth is what the hold of that sum in a sandbox is worth. -/
noncomputable def Try.pinned : Pinned := { name := "ytncaikmdcbaeeaa", sum := "7c83aac697f0ee1f1eb0102007d2d39179229ff24fd2ecb2af556fcbbef1916b", checked := Try.checked }
namespace Rows
def none {H : Type} : Left H := { results := [], args := [] }

/-- 'postroomlaw4.SampleOrder': WHATEVER THE INPUT: true; the input reads as it did. -/
def sampleOrderSpec : ChangeSpec := { name := "sampleOrder", fn := fun _ => fun
  | [d1, d2, d3] => { results := [.lit (.bool true)], args := [d1, d2, d3] }
  | _ => none }
def sampleOrderRow : OpenClaim := { program := "ytncaikmdcbaeeaa", sum := "7c83aac697f0ee1f1eb0102007d2d39179229ff24fd2ecb2af556fcbbef1916b", func := "postroom/postroomlaw4.SampleOrder", spec := "sampleOrder", inPlace := ["internal/abi.NoEscape"], unfollowed := true, recurses := true, apart := false }
def SampleOrderSaid : Prop := sampleOrderRow.holds Try.pinned (OpenSpec.ofChange sampleOrderSpec)

/-- ITS FALSE NEIGHBOUR: 'it returns false'. Refute it at one input. -/
def sampleOrderWrong : ChangeSpec := { name := "sampleOrder", fn := fun _ => fun
  | [d1, d2, d3] => { results := [.lit (.bool false)], args := [d1, d2, d3] }
  | _ => none }
def SampleOrderWrongFalsely : Prop := sampleOrderRow.holds Try.pinned (OpenSpec.ofChange sampleOrderWrong)

/-- 'postroomlaw4.SampleEven': WHATEVER THE INPUT: true; the input reads as it did. -/
def sampleEvenSpec : ChangeSpec := { name := "sampleEven", fn := fun _ => fun
  | [d1, d2, d3, d4] => { results := [.lit (.bool true)], args := [d1, d2, d3, d4] }
  | _ => none }
def sampleEvenRow : OpenClaim := { program := "ytncaikmdcbaeeaa", sum := "7c83aac697f0ee1f1eb0102007d2d39179229ff24fd2ecb2af556fcbbef1916b", func := "postroom/postroomlaw4.SampleEven", spec := "sampleEven", inPlace := ["internal/abi.NoEscape"], unfollowed := true, recurses := true, apart := false }
def SampleEvenSaid : Prop := sampleEvenRow.holds Try.pinned (OpenSpec.ofChange sampleEvenSpec)

/-- ITS FALSE NEIGHBOUR: 'it returns false'. Refute it at one input. -/
def sampleEvenWrong : ChangeSpec := { name := "sampleEven", fn := fun _ => fun
  | [d1, d2, d3, d4] => { results := [.lit (.bool false)], args := [d1, d2, d3, d4] }
  | _ => none }
def SampleEvenWrongFalsely : Prop := sampleEvenRow.holds Try.pinned (OpenSpec.ofChange sampleEvenWrong)

/-- 'postroomlaw4.SampleCuts': WHATEVER THE INPUT: true; the input reads as it did. -/
def sampleCutsSpec : ChangeSpec := { name := "sampleCuts", fn := fun _ => fun
  | [d1, d2, d3] => { results := [.lit (.bool true)], args := [d1, d2, d3] }
  | _ => none }
def sampleCutsRow : OpenClaim := { program := "ytncaikmdcbaeeaa", sum := "7c83aac697f0ee1f1eb0102007d2d39179229ff24fd2ecb2af556fcbbef1916b", func := "postroom/postroomlaw4.SampleCuts", spec := "sampleCuts", inPlace := ["internal/abi.NoEscape"], unfollowed := true, recurses := true, apart := false }
def SampleCutsSaid : Prop := sampleCutsRow.holds Try.pinned (OpenSpec.ofChange sampleCutsSpec)

/-- ITS FALSE NEIGHBOUR: 'it returns false'. Refute it at one input. -/
def sampleCutsWrong : ChangeSpec := { name := "sampleCuts", fn := fun _ => fun
  | [d1, d2, d3] => { results := [.lit (.bool false)], args := [d1, d2, d3] }
  | _ => none }
def SampleCutsWrongFalsely : Prop := sampleCutsRow.holds Try.pinned (OpenSpec.ofChange sampleCutsWrong)

/-- 'postroomlaw4.SampleBack': WHATEVER THE INPUT: true; the input reads as it did. -/
def sampleBackSpec : ChangeSpec := { name := "sampleBack", fn := fun _ => fun
  | [d1, d2, d3, d4] => { results := [.lit (.bool true)], args := [d1, d2, d3, d4] }
  | _ => none }
def sampleBackRow : OpenClaim := { program := "ytncaikmdcbaeeaa", sum := "7c83aac697f0ee1f1eb0102007d2d39179229ff24fd2ecb2af556fcbbef1916b", func := "postroom/postroomlaw4.SampleBack", spec := "sampleBack", inPlace := ["internal/abi.NoEscape"], unfollowed := true, recurses := true, apart := false }
def SampleBackSaid : Prop := sampleBackRow.holds Try.pinned (OpenSpec.ofChange sampleBackSpec)

/-- ITS FALSE NEIGHBOUR: 'it returns false'. Refute it at one input. -/
def sampleBackWrong : ChangeSpec := { name := "sampleBack", fn := fun _ => fun
  | [d1, d2, d3, d4] => { results := [.lit (.bool false)], args := [d1, d2, d3, d4] }
  | _ => none }
def SampleBackWrongFalsely : Prop := sampleBackRow.holds Try.pinned (OpenSpec.ofChange sampleBackWrong)

/-- 'postroomlaw4.SampleWide': WHATEVER THE INPUT: true; the input reads as it did. -/
def sampleWideSpec : ChangeSpec := { name := "sampleWide", fn := fun _ => fun
  | [d1, d2] => { results := [.lit (.bool true)], args := [d1, d2] }
  | _ => none }
def sampleWideRow : OpenClaim := { program := "ytncaikmdcbaeeaa", sum := "7c83aac697f0ee1f1eb0102007d2d39179229ff24fd2ecb2af556fcbbef1916b", func := "postroom/postroomlaw4.SampleWide", spec := "sampleWide", inPlace := ["internal/abi.NoEscape"], unfollowed := true, recurses := true, apart := false }
def SampleWideSaid : Prop := sampleWideRow.holds Try.pinned (OpenSpec.ofChange sampleWideSpec)

/-- ITS FALSE NEIGHBOUR: 'it returns false'. Refute it at one input. -/
def sampleWideWrong : ChangeSpec := { name := "sampleWide", fn := fun _ => fun
  | [d1, d2] => { results := [.lit (.bool false)], args := [d1, d2] }
  | _ => none }
def SampleWideWrongFalsely : Prop := sampleWideRow.holds Try.pinned (OpenSpec.ofChange sampleWideWrong)

/-- 'postroomlaw4.SampleOne': WHATEVER THE INPUT: true; the input reads as it did. -/
def sampleOneSpec : ChangeSpec := { name := "sampleOne", fn := fun _ => fun
  | [d1, d2, d3, d4, d5] => { results := [.lit (.bool true)], args := [d1, d2, d3, d4, d5] }
  | _ => none }
def sampleOneRow : OpenClaim := { program := "ytncaikmdcbaeeaa", sum := "7c83aac697f0ee1f1eb0102007d2d39179229ff24fd2ecb2af556fcbbef1916b", func := "postroom/postroomlaw4.SampleOne", spec := "sampleOne", inPlace := ["internal/abi.NoEscape"], unfollowed := true, recurses := true, apart := false }
def SampleOneSaid : Prop := sampleOneRow.holds Try.pinned (OpenSpec.ofChange sampleOneSpec)

/-- ITS FALSE NEIGHBOUR: 'it returns false'. Refute it at one input. -/
def sampleOneWrong : ChangeSpec := { name := "sampleOne", fn := fun _ => fun
  | [d1, d2, d3, d4, d5] => { results := [.lit (.bool false)], args := [d1, d2, d3, d4, d5] }
  | _ => none }
def SampleOneWrongFalsely : Prop := sampleOneRow.holds Try.pinned (OpenSpec.ofChange sampleOneWrong)

/-- 'postroomlaw4.SampleTells': WHATEVER THE INPUT: true; the input reads as it did. -/
def sampleTellsSpec : ChangeSpec := { name := "sampleTells", fn := fun _ => fun
  | [d1, d2, d3, d4] => { results := [.lit (.bool true)], args := [d1, d2, d3, d4] }
  | _ => none }
def sampleTellsRow : OpenClaim := { program := "ytncaikmdcbaeeaa", sum := "7c83aac697f0ee1f1eb0102007d2d39179229ff24fd2ecb2af556fcbbef1916b", func := "postroom/postroomlaw4.SampleTells", spec := "sampleTells", inPlace := ["internal/abi.NoEscape"], unfollowed := true, recurses := true, apart := false }
def SampleTellsSaid : Prop := sampleTellsRow.holds Try.pinned (OpenSpec.ofChange sampleTellsSpec)

/-- ITS FALSE NEIGHBOUR: 'it returns false'. Refute it at one input. -/
def sampleTellsWrong : ChangeSpec := { name := "sampleTells", fn := fun _ => fun
  | [d1, d2, d3, d4] => { results := [.lit (.bool false)], args := [d1, d2, d3, d4] }
  | _ => none }
def SampleTellsWrongFalsely : Prop := sampleTellsRow.holds Try.pinned (OpenSpec.ofChange sampleTellsWrong)

/- THE SECOND FORM. 'bulk': how many values and letters a reading holds, each counted each time it is reached (what is shared counts as often as it is met; a slice's spare places count too). A statement '..UptoSaid' is the law's where the arguments, and the package variables that the reading takes, are together of bulk at most 1048576: NARROWER than '..Said'. Prove '..Said' where nothing that the law and all that it calls make is longer than what came in: it says more and counts as full. Else prove '..UptoSaid'. A law counts once. -/
mutual
def uptoBulk {H : Type} : DataW H → Nat
  | .lit (.string bytes) => bytes.length + 1
  | .lit _ => 1
  | .nil => 1
  | .ptr d => uptoBulk d + 1
  | .slice elems spare => uptoBulkAll elems + uptoBulkAll spare + 1
  | .agg parts => uptoBulkAll parts + 1
  | .iface _ d => uptoBulk d + 1
  | .map entries => uptoBulkEntries entries + 1
  | .held _ => 1
def uptoBulkAll {H : Type} : List (DataW H) → Nat
  | [] => 0
  | d :: r => uptoBulk d + uptoBulkAll r
def uptoBulkEntries {H : Type} : List (Lit × DataW H) → Nat
  | [] => 0
  | x :: r => uptoBulkEntry x + uptoBulkEntries r
def uptoBulkEntry {H : Type} : Lit × DataW H → Nat
  | (.string bytes, d) => bytes.length + uptoBulk d + 1
  | (_, d) => uptoBulk d + 1
 end
def uptoSmall : (H : Type) → List (DataW H) → Bool := fun _ ds => decide (uptoBulkAll ds ≤ 1048576)
def OpenSpec.upto (s : _root_.Go.ChangeSpec) : _root_.Go.OpenSpec := { _root_.Go.OpenSpec.ofChange s with cond := some uptoSmall }

/-- 'postroomlaw4.SampleOrder', WHERE WHAT IT READS IS OF BULK AT MOST 1048576: true; the input reads as it did. -/
def sampleOrderUptoRow : OpenClaim := { program := "ytncaikmdcbaeeaa", sum := "7c83aac697f0ee1f1eb0102007d2d39179229ff24fd2ecb2af556fcbbef1916b", func := "postroom/postroomlaw4.SampleOrder", spec := "sampleOrder", inPlace := ["internal/abi.NoEscape"], unfollowed := true, recurses := true, apart := false, narrowed := true }
def SampleOrderUptoSaid : Prop := sampleOrderUptoRow.holds Try.pinned (OpenSpec.upto sampleOrderSpec)

/-- 'postroomlaw4.SampleEven', WHERE WHAT IT READS IS OF BULK AT MOST 1048576: true; the input reads as it did. -/
def sampleEvenUptoRow : OpenClaim := { program := "ytncaikmdcbaeeaa", sum := "7c83aac697f0ee1f1eb0102007d2d39179229ff24fd2ecb2af556fcbbef1916b", func := "postroom/postroomlaw4.SampleEven", spec := "sampleEven", inPlace := ["internal/abi.NoEscape"], unfollowed := true, recurses := true, apart := false, narrowed := true }
def SampleEvenUptoSaid : Prop := sampleEvenUptoRow.holds Try.pinned (OpenSpec.upto sampleEvenSpec)

/-- 'postroomlaw4.SampleCuts', WHERE WHAT IT READS IS OF BULK AT MOST 1048576: true; the input reads as it did. -/
def sampleCutsUptoRow : OpenClaim := { program := "ytncaikmdcbaeeaa", sum := "7c83aac697f0ee1f1eb0102007d2d39179229ff24fd2ecb2af556fcbbef1916b", func := "postroom/postroomlaw4.SampleCuts", spec := "sampleCuts", inPlace := ["internal/abi.NoEscape"], unfollowed := true, recurses := true, apart := false, narrowed := true }
def SampleCutsUptoSaid : Prop := sampleCutsUptoRow.holds Try.pinned (OpenSpec.upto sampleCutsSpec)

/-- 'postroomlaw4.SampleBack', WHERE WHAT IT READS IS OF BULK AT MOST 1048576: true; the input reads as it did. -/
def sampleBackUptoRow : OpenClaim := { program := "ytncaikmdcbaeeaa", sum := "7c83aac697f0ee1f1eb0102007d2d39179229ff24fd2ecb2af556fcbbef1916b", func := "postroom/postroomlaw4.SampleBack", spec := "sampleBack", inPlace := ["internal/abi.NoEscape"], unfollowed := true, recurses := true, apart := false, narrowed := true }
def SampleBackUptoSaid : Prop := sampleBackUptoRow.holds Try.pinned (OpenSpec.upto sampleBackSpec)

/-- 'postroomlaw4.SampleWide', WHERE WHAT IT READS IS OF BULK AT MOST 1048576: true; the input reads as it did. -/
def sampleWideUptoRow : OpenClaim := { program := "ytncaikmdcbaeeaa", sum := "7c83aac697f0ee1f1eb0102007d2d39179229ff24fd2ecb2af556fcbbef1916b", func := "postroom/postroomlaw4.SampleWide", spec := "sampleWide", inPlace := ["internal/abi.NoEscape"], unfollowed := true, recurses := true, apart := false, narrowed := true }
def SampleWideUptoSaid : Prop := sampleWideUptoRow.holds Try.pinned (OpenSpec.upto sampleWideSpec)

/-- 'postroomlaw4.SampleOne', WHERE WHAT IT READS IS OF BULK AT MOST 1048576: true; the input reads as it did. -/
def sampleOneUptoRow : OpenClaim := { program := "ytncaikmdcbaeeaa", sum := "7c83aac697f0ee1f1eb0102007d2d39179229ff24fd2ecb2af556fcbbef1916b", func := "postroom/postroomlaw4.SampleOne", spec := "sampleOne", inPlace := ["internal/abi.NoEscape"], unfollowed := true, recurses := true, apart := false, narrowed := true }
def SampleOneUptoSaid : Prop := sampleOneUptoRow.holds Try.pinned (OpenSpec.upto sampleOneSpec)

/-- 'postroomlaw4.SampleTells', WHERE WHAT IT READS IS OF BULK AT MOST 1048576: true; the input reads as it did. -/
def sampleTellsUptoRow : OpenClaim := { program := "ytncaikmdcbaeeaa", sum := "7c83aac697f0ee1f1eb0102007d2d39179229ff24fd2ecb2af556fcbbef1916b", func := "postroom/postroomlaw4.SampleTells", spec := "sampleTells", inPlace := ["internal/abi.NoEscape"], unfollowed := true, recurses := true, apart := false, narrowed := true }
def SampleTellsUptoSaid : Prop := sampleTellsUptoRow.holds Try.pinned (OpenSpec.upto sampleTellsSpec)

end Rows
end Go.Proofs.Ytncaikmdcbaeeaa
