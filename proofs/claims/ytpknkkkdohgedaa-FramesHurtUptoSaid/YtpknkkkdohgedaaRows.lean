/-
  No cell of these rows narrows 'for every input' (looked for: loops, veiled, ifaces, maps, wideKeys, modest, calm, conditions, laid).
  DERIVED. THE GIVEN ROWS OF THIS SEAT. 7 by the template 'for every input the law returns true; each argument reads behind the call as it read before'; 0 by the template 'total and deterministic' (their statements: YtpknkkkdohgedaaTotals.lean).
  GIVEN WITH THE SEED: the statements are not yours to turn. If you find one false, say at which input.
  Laid BY PROGRAM, IN A SANDBOX (cutbox-rows.mjs): the forced cells as the released guide's own fill.sh prints them over the translation 3ecbac800aaeadb9… (all of the seat's roots in one cut). By AI agents, Wed Nov 11 2026. No macro, syntax, notation, axiom, sorry.
-/
import Derived.Test.YtpknkkkdohgedaaChecked
import GoSem.Claim
import GoSem.ClaimJoined
import GoSem.ClaimMapViews
import Derived.JoinedTies
import Derived.KernelRfl
namespace Go.Proofs.Ytpknkkkdohgedaa
/- THE CELL 'sum', in the pinned program and in every row, IS THE sha256 OF THE DUMP (.gsa) THAT YtpknkkkdohgedaaProg.lean LOADS. Nothing in Lean hashes anything: it is a label: what it is worth is what the hold of that sum in a sandbox is worth. -/
noncomputable def Try.pinned : Pinned := { name := "ytpknkkkdohgedaa", sum := "3ecbac800aaeadb9b7a38e876ac6364dd2fc05a529a5019a479c5599bf0f8bc0", checked := Try.checked }
namespace Rows
def none {H : Type} : Left H := { results := [], args := [] }

/-- 'icehouselaw05.FramesScans': WHATEVER THE INPUT: true; the input reads as it did. -/
def framesScansSpec : ChangeSpec := { name := "framesScans", fn := fun _ => fun
  | [d] => { results := [.lit (.bool true)], args := [d] }
  | _ => none }
def framesScansRow : OpenClaim := { program := "ytpknkkkdohgedaa", sum := "3ecbac800aaeadb9b7a38e876ac6364dd2fc05a529a5019a479c5599bf0f8bc0", func := "icehouse/icehouselaw05.FramesScans", spec := "framesScans", recurses := true, apart := false }
def FramesScansSaid : Prop := framesScansRow.holds Try.pinned (OpenSpec.ofChange framesScansSpec)

/-- ITS FALSE NEIGHBOUR: 'it returns false'. Refute it at one input. -/
def framesScansWrong : ChangeSpec := { name := "framesScans", fn := fun _ => fun
  | [d] => { results := [.lit (.bool false)], args := [d] }
  | _ => none }
def FramesScansWrongFalsely : Prop := framesScansRow.holds Try.pinned (OpenSpec.ofChange framesScansWrong)

/-- 'icehouselaw05.FramesFirst': WHATEVER THE INPUT: true; the input reads as it did. -/
def framesFirstSpec : ChangeSpec := { name := "framesFirst", fn := fun _ => fun
  | [d] => { results := [.lit (.bool true)], args := [d] }
  | _ => none }
def framesFirstRow : OpenClaim := { program := "ytpknkkkdohgedaa", sum := "3ecbac800aaeadb9b7a38e876ac6364dd2fc05a529a5019a479c5599bf0f8bc0", func := "icehouse/icehouselaw05.FramesFirst", spec := "framesFirst", apart := false }
def FramesFirstSaid : Prop := framesFirstRow.holds Try.pinned (OpenSpec.ofChange framesFirstSpec)

/-- ITS FALSE NEIGHBOUR: 'it returns false'. Refute it at one input. -/
def framesFirstWrong : ChangeSpec := { name := "framesFirst", fn := fun _ => fun
  | [d] => { results := [.lit (.bool false)], args := [d] }
  | _ => none }
def FramesFirstWrongFalsely : Prop := framesFirstRow.holds Try.pinned (OpenSpec.ofChange framesFirstWrong)

/-- 'icehouselaw05.FramesLays': WHATEVER THE INPUT: true; the input reads as it did. -/
def framesLaysSpec : ChangeSpec := { name := "framesLays", fn := fun _ => fun
  | [d] => { results := [.lit (.bool true)], args := [d] }
  | _ => none }
def framesLaysRow : OpenClaim := { program := "ytpknkkkdohgedaa", sum := "3ecbac800aaeadb9b7a38e876ac6364dd2fc05a529a5019a479c5599bf0f8bc0", func := "icehouse/icehouselaw05.FramesLays", spec := "framesLays", apart := false }
def FramesLaysSaid : Prop := framesLaysRow.holds Try.pinned (OpenSpec.ofChange framesLaysSpec)

/-- ITS FALSE NEIGHBOUR: 'it returns false'. Refute it at one input. -/
def framesLaysWrong : ChangeSpec := { name := "framesLays", fn := fun _ => fun
  | [d] => { results := [.lit (.bool false)], args := [d] }
  | _ => none }
def FramesLaysWrongFalsely : Prop := framesLaysRow.holds Try.pinned (OpenSpec.ofChange framesLaysWrong)

/-- 'icehouselaw05.FramesSame': WHATEVER THE INPUT: true; the input reads as it did. -/
def framesSameSpec : ChangeSpec := { name := "framesSame", fn := fun _ => fun
  | [d1, d2] => { results := [.lit (.bool true)], args := [d1, d2] }
  | _ => none }
def framesSameRow : OpenClaim := { program := "ytpknkkkdohgedaa", sum := "3ecbac800aaeadb9b7a38e876ac6364dd2fc05a529a5019a479c5599bf0f8bc0", func := "icehouse/icehouselaw05.FramesSame", spec := "framesSame", apart := false }
def FramesSameSaid : Prop := framesSameRow.holds Try.pinned (OpenSpec.ofChange framesSameSpec)

/-- ITS FALSE NEIGHBOUR: 'it returns false'. Refute it at one input. -/
def framesSameWrong : ChangeSpec := { name := "framesSame", fn := fun _ => fun
  | [d1, d2] => { results := [.lit (.bool false)], args := [d1, d2] }
  | _ => none }
def FramesSameWrongFalsely : Prop := framesSameRow.holds Try.pinned (OpenSpec.ofChange framesSameWrong)

/-- 'icehouselaw05.FramesBack': WHATEVER THE INPUT: true; the input reads as it did. -/
def framesBackSpec : ChangeSpec := { name := "framesBack", fn := fun _ => fun
  | [d1, d2, d3] => { results := [.lit (.bool true)], args := [d1, d2, d3] }
  | _ => none }
def framesBackRow : OpenClaim := { program := "ytpknkkkdohgedaa", sum := "3ecbac800aaeadb9b7a38e876ac6364dd2fc05a529a5019a479c5599bf0f8bc0", func := "icehouse/icehouselaw05.FramesBack", spec := "framesBack", apart := false }
def FramesBackSaid : Prop := framesBackRow.holds Try.pinned (OpenSpec.ofChange framesBackSpec)

/-- ITS FALSE NEIGHBOUR: 'it returns false'. Refute it at one input. -/
def framesBackWrong : ChangeSpec := { name := "framesBack", fn := fun _ => fun
  | [d1, d2, d3] => { results := [.lit (.bool false)], args := [d1, d2, d3] }
  | _ => none }
def FramesBackWrongFalsely : Prop := framesBackRow.holds Try.pinned (OpenSpec.ofChange framesBackWrong)

/-- 'icehouselaw05.FramesHurt': WHATEVER THE INPUT: true; the input reads as it did. -/
def framesHurtSpec : ChangeSpec := { name := "framesHurt", fn := fun _ => fun
  | [d1, d2, d3, d4] => { results := [.lit (.bool true)], args := [d1, d2, d3, d4] }
  | _ => none }
def framesHurtRow : OpenClaim := { program := "ytpknkkkdohgedaa", sum := "3ecbac800aaeadb9b7a38e876ac6364dd2fc05a529a5019a479c5599bf0f8bc0", func := "icehouse/icehouselaw05.FramesHurt", spec := "framesHurt", recurses := true, apart := false }
def FramesHurtSaid : Prop := framesHurtRow.holds Try.pinned (OpenSpec.ofChange framesHurtSpec)

/-- ITS FALSE NEIGHBOUR: 'it returns false'. Refute it at one input. -/
def framesHurtWrong : ChangeSpec := { name := "framesHurt", fn := fun _ => fun
  | [d1, d2, d3, d4] => { results := [.lit (.bool false)], args := [d1, d2, d3, d4] }
  | _ => none }
def FramesHurtWrongFalsely : Prop := framesHurtRow.holds Try.pinned (OpenSpec.ofChange framesHurtWrong)

/-- 'icehouselaw05.FramesJoin': WHATEVER THE INPUT: true; the input reads as it did. -/
def framesJoinSpec : ChangeSpec := { name := "framesJoin", fn := fun _ => fun
  | [d1, d2] => { results := [.lit (.bool true)], args := [d1, d2] }
  | _ => none }
def framesJoinRow : OpenClaim := { program := "ytpknkkkdohgedaa", sum := "3ecbac800aaeadb9b7a38e876ac6364dd2fc05a529a5019a479c5599bf0f8bc0", func := "icehouse/icehouselaw05.FramesJoin", spec := "framesJoin", apart := false }
def FramesJoinSaid : Prop := framesJoinRow.holds Try.pinned (OpenSpec.ofChange framesJoinSpec)

/-- ITS FALSE NEIGHBOUR: 'it returns false'. Refute it at one input. -/
def framesJoinWrong : ChangeSpec := { name := "framesJoin", fn := fun _ => fun
  | [d1, d2] => { results := [.lit (.bool false)], args := [d1, d2] }
  | _ => none }
def FramesJoinWrongFalsely : Prop := framesJoinRow.holds Try.pinned (OpenSpec.ofChange framesJoinWrong)

/- THE SECOND FORM. 'bulk': how many values and letters a reading holds, each counted each time it is reached (what is shared counts as often as it is met; a slice's spare places count too). A statement '..UptoSaid' is the law's where the arguments, and the package variables that the reading takes, are together of bulk at most 1048576: NARROWER than '..Said'. Prove '..Said' where nothing that the law and all that it calls make is longer than what came in: it says more and counts as full. Else prove '..UptoSaid'. A law counts once. -/
mutual
def uptoBulk {H : Type} : DataW H → Nat
  | .lit (.string bytes) => bytes.length + 1
  | .lit _ => 1
  | .nil => 1
  | .ptr d => uptoBulk d + 1
  | .slice elems spare => uptoBulkAll elems + uptoBulkAll spare + 1
  | .agg parts => uptoBulkAll parts + 1
  | .iface _ d => uptoBulk d + 1
  | .map entries => uptoBulkEntries entries + 1
  | .held _ => 1
def uptoBulkAll {H : Type} : List (DataW H) → Nat
  | [] => 0
  | d :: r => uptoBulk d + uptoBulkAll r
def uptoBulkEntries {H : Type} : List (Lit × DataW H) → Nat
  | [] => 0
  | x :: r => uptoBulkEntry x + uptoBulkEntries r
def uptoBulkEntry {H : Type} : Lit × DataW H → Nat
  | (.string bytes, d) => bytes.length + uptoBulk d + 1
  | (_, d) => uptoBulk d + 1
 end
def uptoSmall : (H : Type) → List (DataW H) → Bool := fun _ ds => decide (uptoBulkAll ds ≤ 1048576)
def OpenSpec.upto (s : _root_.Go.ChangeSpec) : _root_.Go.OpenSpec := { _root_.Go.OpenSpec.ofChange s with cond := some uptoSmall }

/-- 'icehouselaw05.FramesScans', WHERE WHAT IT READS IS OF BULK AT MOST 1048576: true; the input reads as it did. -/
def framesScansUptoRow : OpenClaim := { program := "ytpknkkkdohgedaa", sum := "3ecbac800aaeadb9b7a38e876ac6364dd2fc05a529a5019a479c5599bf0f8bc0", func := "icehouse/icehouselaw05.FramesScans", spec := "framesScans", recurses := true, apart := false, narrowed := true }
def FramesScansUptoSaid : Prop := framesScansUptoRow.holds Try.pinned (OpenSpec.upto framesScansSpec)

/-- 'icehouselaw05.FramesFirst', WHERE WHAT IT READS IS OF BULK AT MOST 1048576: true; the input reads as it did. -/
def framesFirstUptoRow : OpenClaim := { program := "ytpknkkkdohgedaa", sum := "3ecbac800aaeadb9b7a38e876ac6364dd2fc05a529a5019a479c5599bf0f8bc0", func := "icehouse/icehouselaw05.FramesFirst", spec := "framesFirst", apart := false, narrowed := true }
def FramesFirstUptoSaid : Prop := framesFirstUptoRow.holds Try.pinned (OpenSpec.upto framesFirstSpec)

/-- 'icehouselaw05.FramesLays', WHERE WHAT IT READS IS OF BULK AT MOST 1048576: true; the input reads as it did. -/
def framesLaysUptoRow : OpenClaim := { program := "ytpknkkkdohgedaa", sum := "3ecbac800aaeadb9b7a38e876ac6364dd2fc05a529a5019a479c5599bf0f8bc0", func := "icehouse/icehouselaw05.FramesLays", spec := "framesLays", apart := false, narrowed := true }
def FramesLaysUptoSaid : Prop := framesLaysUptoRow.holds Try.pinned (OpenSpec.upto framesLaysSpec)

/-- 'icehouselaw05.FramesSame', WHERE WHAT IT READS IS OF BULK AT MOST 1048576: true; the input reads as it did. -/
def framesSameUptoRow : OpenClaim := { program := "ytpknkkkdohgedaa", sum := "3ecbac800aaeadb9b7a38e876ac6364dd2fc05a529a5019a479c5599bf0f8bc0", func := "icehouse/icehouselaw05.FramesSame", spec := "framesSame", apart := false, narrowed := true }
def FramesSameUptoSaid : Prop := framesSameUptoRow.holds Try.pinned (OpenSpec.upto framesSameSpec)

/-- 'icehouselaw05.FramesBack', WHERE WHAT IT READS IS OF BULK AT MOST 1048576: true; the input reads as it did. -/
def framesBackUptoRow : OpenClaim := { program := "ytpknkkkdohgedaa", sum := "3ecbac800aaeadb9b7a38e876ac6364dd2fc05a529a5019a479c5599bf0f8bc0", func := "icehouse/icehouselaw05.FramesBack", spec := "framesBack", apart := false, narrowed := true }
def FramesBackUptoSaid : Prop := framesBackUptoRow.holds Try.pinned (OpenSpec.upto framesBackSpec)

/-- 'icehouselaw05.FramesHurt', WHERE WHAT IT READS IS OF BULK AT MOST 1048576: true; the input reads as it did. -/
def framesHurtUptoRow : OpenClaim := { program := "ytpknkkkdohgedaa", sum := "3ecbac800aaeadb9b7a38e876ac6364dd2fc05a529a5019a479c5599bf0f8bc0", func := "icehouse/icehouselaw05.FramesHurt", spec := "framesHurt", recurses := true, apart := false, narrowed := true }
def FramesHurtUptoSaid : Prop := framesHurtUptoRow.holds Try.pinned (OpenSpec.upto framesHurtSpec)

/-- 'icehouselaw05.FramesJoin', WHERE WHAT IT READS IS OF BULK AT MOST 1048576: true; the input reads as it did. -/
def framesJoinUptoRow : OpenClaim := { program := "ytpknkkkdohgedaa", sum := "3ecbac800aaeadb9b7a38e876ac6364dd2fc05a529a5019a479c5599bf0f8bc0", func := "icehouse/icehouselaw05.FramesJoin", spec := "framesJoin", apart := false, narrowed := true }
def FramesJoinUptoSaid : Prop := framesJoinUptoRow.holds Try.pinned (OpenSpec.upto framesJoinSpec)

end Rows
end Go.Proofs.Ytpknkkkdohgedaa
