/-
  No cell of these rows narrows 'for every input' (looked for: loops, veiled, ifaces, maps, wideKeys, modest, calm, conditions, laid).
  DERIVED. THE GIVEN ROWS OF THIS SEAT. 7 by the template 'for every input the law returns true; each argument reads behind the call as it read before'; 0 by the template 'total and deterministic' (their statements: YtojmldhbdfboiaaTotals.lean).
  GIVEN WITH THE SEED: the statements are not yours to turn. If you find one false, say at which input.
  Laid BY PROGRAM, IN A SANDBOX (cutbox-rows.mjs): the forced cells as the released guide's own fill.sh prints them over the translation 682dd9ea54a8969d… (all of the seat's roots in one cut). By AI agents, Wed Nov 11 2026. No macro, syntax, notation, axiom, sorry.
-/
import Derived.Test.YtojmldhbdfboiaaChecked
import GoSem.Claim
import GoSem.ClaimJoined
import GoSem.ClaimMapViews
import Derived.JoinedTies
import Derived.KernelRfl
namespace Go.Proofs.Ytojmldhbdfboiaa
/- THE CELL 'sum', in the pinned program and in every row, IS THE sha256 OF THE DUMP (.gsa) THAT YtojmldhbdfboiaaProg.lean LOADS. Nothing in Lean hashes anything: it is a label: what it is worth is what the hold of that sum in a sandbox is worth. -/
noncomputable def Try.pinned : Pinned := { name := "ytojmldhbdfboiaa", sum := "682dd9ea54a8969db3c9bf30a6f589ca60c8e86be281d8d55c45e77bab748161", checked := Try.checked }
namespace Rows
def none {H : Type} : Left H := { results := [], args := [] }

/-- 'icehouselaw04.HashWords': WHATEVER THE INPUT: true; the input reads as it did. -/
def hashWordsSpec : ChangeSpec := { name := "hashWords", fn := fun _ => fun
  | [d1, d2] => { results := [.lit (.bool true)], args := [d1, d2] }
  | _ => none }
def hashWordsRow : OpenClaim := { program := "ytojmldhbdfboiaa", sum := "682dd9ea54a8969db3c9bf30a6f589ca60c8e86be281d8d55c45e77bab748161", func := "icehouse/icehouselaw04.HashWords", spec := "hashWords", apart := false }
def HashWordsSaid : Prop := hashWordsRow.holds Try.pinned (OpenSpec.ofChange hashWordsSpec)

/-- ITS FALSE NEIGHBOUR: 'it returns false'. Refute it at one input. -/
def hashWordsWrong : ChangeSpec := { name := "hashWords", fn := fun _ => fun
  | [d1, d2] => { results := [.lit (.bool false)], args := [d1, d2] }
  | _ => none }
def HashWordsWrongFalsely : Prop := hashWordsRow.holds Try.pinned (OpenSpec.ofChange hashWordsWrong)

/-- 'icehouselaw04.HashOne': WHATEVER THE INPUT: true; the input reads as it did. -/
def hashOneSpec : ChangeSpec := { name := "hashOne", fn := fun _ => fun
  | [d1, d2, d3] => { results := [.lit (.bool true)], args := [d1, d2, d3] }
  | _ => none }
def hashOneRow : OpenClaim := { program := "ytojmldhbdfboiaa", sum := "682dd9ea54a8969db3c9bf30a6f589ca60c8e86be281d8d55c45e77bab748161", func := "icehouse/icehouselaw04.HashOne", spec := "hashOne", apart := false }
def HashOneSaid : Prop := hashOneRow.holds Try.pinned (OpenSpec.ofChange hashOneSpec)

/-- ITS FALSE NEIGHBOUR: 'it returns false'. Refute it at one input. -/
def hashOneWrong : ChangeSpec := { name := "hashOne", fn := fun _ => fun
  | [d1, d2, d3] => { results := [.lit (.bool false)], args := [d1, d2, d3] }
  | _ => none }
def HashOneWrongFalsely : Prop := hashOneRow.holds Try.pinned (OpenSpec.ofChange hashOneWrong)

/-- 'icehouselaw04.HashSums': WHATEVER THE INPUT: true; the input reads as it did. -/
def hashSumsSpec : ChangeSpec := { name := "hashSums", fn := fun _ => fun
  | [d] => { results := [.lit (.bool true)], args := [d] }
  | _ => none }
def hashSumsRow : OpenClaim := { program := "ytojmldhbdfboiaa", sum := "682dd9ea54a8969db3c9bf30a6f589ca60c8e86be281d8d55c45e77bab748161", func := "icehouse/icehouselaw04.HashSums", spec := "hashSums", apart := false }
def HashSumsSaid : Prop := hashSumsRow.holds Try.pinned (OpenSpec.ofChange hashSumsSpec)

/-- ITS FALSE NEIGHBOUR: 'it returns false'. Refute it at one input. -/
def hashSumsWrong : ChangeSpec := { name := "hashSums", fn := fun _ => fun
  | [d] => { results := [.lit (.bool false)], args := [d] }
  | _ => none }
def HashSumsWrongFalsely : Prop := hashSumsRow.holds Try.pinned (OpenSpec.ofChange hashSumsWrong)

/-- 'icehouselaw04.HashSteps': WHATEVER THE INPUT: true; the input reads as it did. -/
def hashStepsSpec : ChangeSpec := { name := "hashSteps", fn := fun _ => fun
  | [d] => { results := [.lit (.bool true)], args := [d] }
  | _ => none }
def hashStepsRow : OpenClaim := { program := "ytojmldhbdfboiaa", sum := "682dd9ea54a8969db3c9bf30a6f589ca60c8e86be281d8d55c45e77bab748161", func := "icehouse/icehouselaw04.HashSteps", spec := "hashSteps", apart := false }
def HashStepsSaid : Prop := hashStepsRow.holds Try.pinned (OpenSpec.ofChange hashStepsSpec)

/-- ITS FALSE NEIGHBOUR: 'it returns false'. Refute it at one input. -/
def hashStepsWrong : ChangeSpec := { name := "hashSteps", fn := fun _ => fun
  | [d] => { results := [.lit (.bool false)], args := [d] }
  | _ => none }
def HashStepsWrongFalsely : Prop := hashStepsRow.holds Try.pinned (OpenSpec.ofChange hashStepsWrong)

/-- 'icehouselaw04.HashKeys': WHATEVER THE INPUT: true; the input reads as it did. -/
def hashKeysSpec : ChangeSpec := { name := "hashKeys", fn := fun _ => fun
  | [d1, d2, d3] => { results := [.lit (.bool true)], args := [d1, d2, d3] }
  | _ => none }
def hashKeysRow : OpenClaim := { program := "ytojmldhbdfboiaa", sum := "682dd9ea54a8969db3c9bf30a6f589ca60c8e86be281d8d55c45e77bab748161", func := "icehouse/icehouselaw04.HashKeys", spec := "hashKeys", apart := false }
def HashKeysSaid : Prop := hashKeysRow.holds Try.pinned (OpenSpec.ofChange hashKeysSpec)

/-- ITS FALSE NEIGHBOUR: 'it returns false'. Refute it at one input. -/
def hashKeysWrong : ChangeSpec := { name := "hashKeys", fn := fun _ => fun
  | [d1, d2, d3] => { results := [.lit (.bool false)], args := [d1, d2, d3] }
  | _ => none }
def HashKeysWrongFalsely : Prop := hashKeysRow.holds Try.pinned (OpenSpec.ofChange hashKeysWrong)

/-- 'icehouselaw04.HashBuckets': WHATEVER THE INPUT: true; the input reads as it did. -/
def hashBucketsSpec : ChangeSpec := { name := "hashBuckets", fn := fun _ => fun
  | [d1, d2, d3, d4, d5] => { results := [.lit (.bool true)], args := [d1, d2, d3, d4, d5] }
  | _ => none }
def hashBucketsRow : OpenClaim := { program := "ytojmldhbdfboiaa", sum := "682dd9ea54a8969db3c9bf30a6f589ca60c8e86be281d8d55c45e77bab748161", func := "icehouse/icehouselaw04.HashBuckets", spec := "hashBuckets", apart := false }
def HashBucketsSaid : Prop := hashBucketsRow.holds Try.pinned (OpenSpec.ofChange hashBucketsSpec)

/-- ITS FALSE NEIGHBOUR: 'it returns false'. Refute it at one input. -/
def hashBucketsWrong : ChangeSpec := { name := "hashBuckets", fn := fun _ => fun
  | [d1, d2, d3, d4, d5] => { results := [.lit (.bool false)], args := [d1, d2, d3, d4, d5] }
  | _ => none }
def HashBucketsWrongFalsely : Prop := hashBucketsRow.holds Try.pinned (OpenSpec.ofChange hashBucketsWrong)

/-- 'icehouselaw04.HashBack': WHATEVER THE INPUT: true; the input reads as it did. -/
def hashBackSpec : ChangeSpec := { name := "hashBack", fn := fun _ => fun
  | [d1, d2, d3] => { results := [.lit (.bool true)], args := [d1, d2, d3] }
  | _ => none }
def hashBackRow : OpenClaim := { program := "ytojmldhbdfboiaa", sum := "682dd9ea54a8969db3c9bf30a6f589ca60c8e86be281d8d55c45e77bab748161", func := "icehouse/icehouselaw04.HashBack", spec := "hashBack", apart := false }
def HashBackSaid : Prop := hashBackRow.holds Try.pinned (OpenSpec.ofChange hashBackSpec)

/-- ITS FALSE NEIGHBOUR: 'it returns false'. Refute it at one input. -/
def hashBackWrong : ChangeSpec := { name := "hashBack", fn := fun _ => fun
  | [d1, d2, d3] => { results := [.lit (.bool false)], args := [d1, d2, d3] }
  | _ => none }
def HashBackWrongFalsely : Prop := hashBackRow.holds Try.pinned (OpenSpec.ofChange hashBackWrong)

/- THE SECOND FORM. 'bulk': how many values and letters a reading holds, each counted each time it is reached (what is shared counts as often as it is met; a slice's spare places count too). A statement '..UptoSaid' is the law's where the arguments, and the package variables that the reading takes, are together of bulk at most 1048576: NARROWER than '..Said'. Prove '..Said' where nothing that the law and all that it calls make is longer than what came in: it says more and counts as full. Else prove '..UptoSaid'. A law counts once. -/
mutual
def uptoBulk {H : Type} : DataW H → Nat
  | .lit (.string bytes) => bytes.length + 1
  | .lit _ => 1
  | .nil => 1
  | .ptr d => uptoBulk d + 1
  | .slice elems spare => uptoBulkAll elems + uptoBulkAll spare + 1
  | .agg parts => uptoBulkAll parts + 1
  | .iface _ d => uptoBulk d + 1
  | .map entries => uptoBulkEntries entries + 1
  | .held _ => 1
def uptoBulkAll {H : Type} : List (DataW H) → Nat
  | [] => 0
  | d :: r => uptoBulk d + uptoBulkAll r
def uptoBulkEntries {H : Type} : List (Lit × DataW H) → Nat
  | [] => 0
  | x :: r => uptoBulkEntry x + uptoBulkEntries r
def uptoBulkEntry {H : Type} : Lit × DataW H → Nat
  | (.string bytes, d) => bytes.length + uptoBulk d + 1
  | (_, d) => uptoBulk d + 1
 end
def uptoSmall : (H : Type) → List (DataW H) → Bool := fun _ ds => decide (uptoBulkAll ds ≤ 1048576)
def OpenSpec.upto (s : _root_.Go.ChangeSpec) : _root_.Go.OpenSpec := { _root_.Go.OpenSpec.ofChange s with cond := some uptoSmall }

/-- 'icehouselaw04.HashWords', WHERE WHAT IT READS IS OF BULK AT MOST 1048576: true; the input reads as it did. -/
def hashWordsUptoRow : OpenClaim := { program := "ytojmldhbdfboiaa", sum := "682dd9ea54a8969db3c9bf30a6f589ca60c8e86be281d8d55c45e77bab748161", func := "icehouse/icehouselaw04.HashWords", spec := "hashWords", apart := false, narrowed := true }
def HashWordsUptoSaid : Prop := hashWordsUptoRow.holds Try.pinned (OpenSpec.upto hashWordsSpec)

/-- 'icehouselaw04.HashOne', WHERE WHAT IT READS IS OF BULK AT MOST 1048576: true; the input reads as it did. -/
def hashOneUptoRow : OpenClaim := { program := "ytojmldhbdfboiaa", sum := "682dd9ea54a8969db3c9bf30a6f589ca60c8e86be281d8d55c45e77bab748161", func := "icehouse/icehouselaw04.HashOne", spec := "hashOne", apart := false, narrowed := true }
def HashOneUptoSaid : Prop := hashOneUptoRow.holds Try.pinned (OpenSpec.upto hashOneSpec)

/-- 'icehouselaw04.HashSums', WHERE WHAT IT READS IS OF BULK AT MOST 1048576: true; the input reads as it did. -/
def hashSumsUptoRow : OpenClaim := { program := "ytojmldhbdfboiaa", sum := "682dd9ea54a8969db3c9bf30a6f589ca60c8e86be281d8d55c45e77bab748161", func := "icehouse/icehouselaw04.HashSums", spec := "hashSums", apart := false, narrowed := true }
def HashSumsUptoSaid : Prop := hashSumsUptoRow.holds Try.pinned (OpenSpec.upto hashSumsSpec)

/-- 'icehouselaw04.HashSteps', WHERE WHAT IT READS IS OF BULK AT MOST 1048576: true; the input reads as it did. -/
def hashStepsUptoRow : OpenClaim := { program := "ytojmldhbdfboiaa", sum := "682dd9ea54a8969db3c9bf30a6f589ca60c8e86be281d8d55c45e77bab748161", func := "icehouse/icehouselaw04.HashSteps", spec := "hashSteps", apart := false, narrowed := true }
def HashStepsUptoSaid : Prop := hashStepsUptoRow.holds Try.pinned (OpenSpec.upto hashStepsSpec)

/-- 'icehouselaw04.HashKeys', WHERE WHAT IT READS IS OF BULK AT MOST 1048576: true; the input reads as it did. -/
def hashKeysUptoRow : OpenClaim := { program := "ytojmldhbdfboiaa", sum := "682dd9ea54a8969db3c9bf30a6f589ca60c8e86be281d8d55c45e77bab748161", func := "icehouse/icehouselaw04.HashKeys", spec := "hashKeys", apart := false, narrowed := true }
def HashKeysUptoSaid : Prop := hashKeysUptoRow.holds Try.pinned (OpenSpec.upto hashKeysSpec)

/-- 'icehouselaw04.HashBuckets', WHERE WHAT IT READS IS OF BULK AT MOST 1048576: true; the input reads as it did. -/
def hashBucketsUptoRow : OpenClaim := { program := "ytojmldhbdfboiaa", sum := "682dd9ea54a8969db3c9bf30a6f589ca60c8e86be281d8d55c45e77bab748161", func := "icehouse/icehouselaw04.HashBuckets", spec := "hashBuckets", apart := false, narrowed := true }
def HashBucketsUptoSaid : Prop := hashBucketsUptoRow.holds Try.pinned (OpenSpec.upto hashBucketsSpec)

/-- 'icehouselaw04.HashBack', WHERE WHAT IT READS IS OF BULK AT MOST 1048576: true; the input reads as it did. -/
def hashBackUptoRow : OpenClaim := { program := "ytojmldhbdfboiaa", sum := "682dd9ea54a8969db3c9bf30a6f589ca60c8e86be281d8d55c45e77bab748161", func := "icehouse/icehouselaw04.HashBack", spec := "hashBack", apart := false, narrowed := true }
def HashBackUptoSaid : Prop := hashBackUptoRow.holds Try.pinned (OpenSpec.upto hashBackSpec)

end Rows
end Go.Proofs.Ytojmldhbdfboiaa
