/-
  No cell of these rows narrows 'for every input' (looked for: loops, veiled, ifaces, maps, wideKeys, modest, calm, conditions, laid).
  DERIVED. THE GIVEN ROWS OF THIS SEAT. 7 by the template 'for every input the law returns true; each argument reads behind the call as it read before'; 0 by the template 'total and deterministic' (their statements: YtclbbddpedcfjaaTotals.lean).
  GIVEN WITH THE SEED: the statements are not yours to turn. If you find one false, say at which input.
  Laid BY PROGRAM, IN A SANDBOX (cutbox-rows.mjs): the forced cells as the released guide's own fill.sh prints them over the translation da2e4d6ce2943019… (all of the seat's roots in one cut). By AI agents, Wed Nov 11 2026. No macro, syntax, notation, axiom, sorry.
-/
import Derived.Test.YtclbbddpedcfjaaChecked
import GoSem.Claim
import GoSem.ClaimJoined
import GoSem.ClaimMapViews
import Derived.JoinedTies
import Derived.KernelRfl
namespace Go.Proofs.Ytclbbddpedcfjaa
/- THE CELL 'sum', in the pinned program and in every row, IS THE sha256 OF THE DUMP (.gsa) THAT YtclbbddpedcfjaaProg.lean LOADS. Nothing in Lean hashes anything: it is a label: what it is worth is what the hold of that sum in a sandbox is worth. -/
noncomputable def Try.pinned : Pinned := { name := "ytclbbddpedcfjaa", sum := "da2e4d6ce29430192cb09fb6e9d321c3d67f76865378ab7700eb7407d41194a9", checked := Try.checked }
namespace Rows
def none {H : Type} : Left H := { results := [], args := [] }

/-- 'icehouselaw07.WalParts': WHATEVER THE INPUT: true; the input reads as it did. -/
def walPartsSpec : ChangeSpec := { name := "walParts", fn := fun _ => fun
  | [d1, d2] => { results := [.lit (.bool true)], args := [d1, d2] }
  | _ => none }
def walPartsRow : OpenClaim := { program := "ytclbbddpedcfjaa", sum := "da2e4d6ce29430192cb09fb6e9d321c3d67f76865378ab7700eb7407d41194a9", func := "icehouse/icehouselaw07.WalParts", spec := "walParts", apart := false }
def WalPartsSaid : Prop := walPartsRow.holds Try.pinned (OpenSpec.ofChange walPartsSpec)

/-- ITS FALSE NEIGHBOUR: 'it returns false'. Refute it at one input. -/
def walPartsWrong : ChangeSpec := { name := "walParts", fn := fun _ => fun
  | [d1, d2] => { results := [.lit (.bool false)], args := [d1, d2] }
  | _ => none }
def WalPartsWrongFalsely : Prop := walPartsRow.holds Try.pinned (OpenSpec.ofChange walPartsWrong)

/-- 'icehouselaw07.WalLasts': WHATEVER THE INPUT: true; the input reads as it did. -/
def walLastsSpec : ChangeSpec := { name := "walLasts", fn := fun _ => fun
  | [d1, d2] => { results := [.lit (.bool true)], args := [d1, d2] }
  | _ => none }
def walLastsRow : OpenClaim := { program := "ytclbbddpedcfjaa", sum := "da2e4d6ce29430192cb09fb6e9d321c3d67f76865378ab7700eb7407d41194a9", func := "icehouse/icehouselaw07.WalLasts", spec := "walLasts", apart := false }
def WalLastsSaid : Prop := walLastsRow.holds Try.pinned (OpenSpec.ofChange walLastsSpec)

/-- ITS FALSE NEIGHBOUR: 'it returns false'. Refute it at one input. -/
def walLastsWrong : ChangeSpec := { name := "walLasts", fn := fun _ => fun
  | [d1, d2] => { results := [.lit (.bool false)], args := [d1, d2] }
  | _ => none }
def WalLastsWrongFalsely : Prop := walLastsRow.holds Try.pinned (OpenSpec.ofChange walLastsWrong)

/-- 'icehouselaw07.WalKinds': WHATEVER THE INPUT: true; the input reads as it did. -/
def walKindsSpec : ChangeSpec := { name := "walKinds", fn := fun _ => fun
  | [d1, d2, d3] => { results := [.lit (.bool true)], args := [d1, d2, d3] }
  | _ => none }
def walKindsRow : OpenClaim := { program := "ytclbbddpedcfjaa", sum := "da2e4d6ce29430192cb09fb6e9d321c3d67f76865378ab7700eb7407d41194a9", func := "icehouse/icehouselaw07.WalKinds", spec := "walKinds", apart := false }
def WalKindsSaid : Prop := walKindsRow.holds Try.pinned (OpenSpec.ofChange walKindsSpec)

/-- ITS FALSE NEIGHBOUR: 'it returns false'. Refute it at one input. -/
def walKindsWrong : ChangeSpec := { name := "walKinds", fn := fun _ => fun
  | [d1, d2, d3] => { results := [.lit (.bool false)], args := [d1, d2, d3] }
  | _ => none }
def WalKindsWrongFalsely : Prop := walKindsRow.holds Try.pinned (OpenSpec.ofChange walKindsWrong)

/-- 'icehouselaw07.WalOpened': WHATEVER THE INPUT: true; the input reads as it did. -/
def walOpenedSpec : ChangeSpec := { name := "walOpened", fn := fun _ => fun
  | [d] => { results := [.lit (.bool true)], args := [d] }
  | _ => none }
def walOpenedRow : OpenClaim := { program := "ytclbbddpedcfjaa", sum := "da2e4d6ce29430192cb09fb6e9d321c3d67f76865378ab7700eb7407d41194a9", func := "icehouse/icehouselaw07.WalOpened", spec := "walOpened", apart := false }
def WalOpenedSaid : Prop := walOpenedRow.holds Try.pinned (OpenSpec.ofChange walOpenedSpec)

/-- ITS FALSE NEIGHBOUR: 'it returns false'. Refute it at one input. -/
def walOpenedWrong : ChangeSpec := { name := "walOpened", fn := fun _ => fun
  | [d] => { results := [.lit (.bool false)], args := [d] }
  | _ => none }
def WalOpenedWrongFalsely : Prop := walOpenedRow.holds Try.pinned (OpenSpec.ofChange walOpenedWrong)

/-- 'icehouselaw07.WalOpens': WHATEVER THE INPUT: true; the input reads as it did. -/
def walOpensSpec : ChangeSpec := { name := "walOpens", fn := fun _ => fun
  | [d1, d2] => { results := [.lit (.bool true)], args := [d1, d2] }
  | _ => none }
def walOpensRow : OpenClaim := { program := "ytclbbddpedcfjaa", sum := "da2e4d6ce29430192cb09fb6e9d321c3d67f76865378ab7700eb7407d41194a9", func := "icehouse/icehouselaw07.WalOpens", spec := "walOpens", unfollowed := true, recurses := true, apart := false }
def WalOpensSaid : Prop := walOpensRow.holds Try.pinned (OpenSpec.ofChange walOpensSpec)

/-- ITS FALSE NEIGHBOUR: 'it returns false'. Refute it at one input. -/
def walOpensWrong : ChangeSpec := { name := "walOpens", fn := fun _ => fun
  | [d1, d2] => { results := [.lit (.bool false)], args := [d1, d2] }
  | _ => none }
def WalOpensWrongFalsely : Prop := walOpensRow.holds Try.pinned (OpenSpec.ofChange walOpensWrong)

/-- 'icehouselaw07.WalSnaps': WHATEVER THE INPUT: true; the input reads as it did. -/
def walSnapsSpec : ChangeSpec := { name := "walSnaps", fn := fun _ => fun
  | [d1, d2, d3, d4] => { results := [.lit (.bool true)], args := [d1, d2, d3, d4] }
  | _ => none }
def walSnapsRow : OpenClaim := { program := "ytclbbddpedcfjaa", sum := "da2e4d6ce29430192cb09fb6e9d321c3d67f76865378ab7700eb7407d41194a9", func := "icehouse/icehouselaw07.WalSnaps", spec := "walSnaps", unfollowed := true, recurses := true, apart := false }
def WalSnapsSaid : Prop := walSnapsRow.holds Try.pinned (OpenSpec.ofChange walSnapsSpec)

/-- ITS FALSE NEIGHBOUR: 'it returns false'. Refute it at one input. -/
def walSnapsWrong : ChangeSpec := { name := "walSnaps", fn := fun _ => fun
  | [d1, d2, d3, d4] => { results := [.lit (.bool false)], args := [d1, d2, d3, d4] }
  | _ => none }
def WalSnapsWrongFalsely : Prop := walSnapsRow.holds Try.pinned (OpenSpec.ofChange walSnapsWrong)

/-- 'icehouselaw07.WalSteps': WHATEVER THE INPUT: true; the input reads as it did. -/
def walStepsSpec : ChangeSpec := { name := "walSteps", fn := fun _ => fun
  | [d] => { results := [.lit (.bool true)], args := [d] }
  | _ => none }
def walStepsRow : OpenClaim := { program := "ytclbbddpedcfjaa", sum := "da2e4d6ce29430192cb09fb6e9d321c3d67f76865378ab7700eb7407d41194a9", func := "icehouse/icehouselaw07.WalSteps", spec := "walSteps", unfollowed := true, recurses := true, apart := false }
def WalStepsSaid : Prop := walStepsRow.holds Try.pinned (OpenSpec.ofChange walStepsSpec)

/-- ITS FALSE NEIGHBOUR: 'it returns false'. Refute it at one input. -/
def walStepsWrong : ChangeSpec := { name := "walSteps", fn := fun _ => fun
  | [d] => { results := [.lit (.bool false)], args := [d] }
  | _ => none }
def WalStepsWrongFalsely : Prop := walStepsRow.holds Try.pinned (OpenSpec.ofChange walStepsWrong)

/- THE SECOND FORM. 'bulk': how many values and letters a reading holds, each counted each time it is reached (what is shared counts as often as it is met; a slice's spare places count too). A statement '..UptoSaid' is the law's where the arguments, and the package variables that the reading takes, are together of bulk at most 1048576: NARROWER than '..Said'. Prove '..Said' where nothing that the law and all that it calls make is longer than what came in: it says more and counts as full. Else prove '..UptoSaid'. A law counts once. -/
mutual
def uptoBulk {H : Type} : DataW H → Nat
  | .lit (.string bytes) => bytes.length + 1
  | .lit _ => 1
  | .nil => 1
  | .ptr d => uptoBulk d + 1
  | .slice elems spare => uptoBulkAll elems + uptoBulkAll spare + 1
  | .agg parts => uptoBulkAll parts + 1
  | .iface _ d => uptoBulk d + 1
  | .map entries => uptoBulkEntries entries + 1
  | .held _ => 1
def uptoBulkAll {H : Type} : List (DataW H) → Nat
  | [] => 0
  | d :: r => uptoBulk d + uptoBulkAll r
def uptoBulkEntries {H : Type} : List (Lit × DataW H) → Nat
  | [] => 0
  | x :: r => uptoBulkEntry x + uptoBulkEntries r
def uptoBulkEntry {H : Type} : Lit × DataW H → Nat
  | (.string bytes, d) => bytes.length + uptoBulk d + 1
  | (_, d) => uptoBulk d + 1
 end
def uptoSmall : (H : Type) → List (DataW H) → Bool := fun _ ds => decide (uptoBulkAll ds ≤ 1048576)
def OpenSpec.upto (s : _root_.Go.ChangeSpec) : _root_.Go.OpenSpec := { _root_.Go.OpenSpec.ofChange s with cond := some uptoSmall }

/-- 'icehouselaw07.WalParts', WHERE WHAT IT READS IS OF BULK AT MOST 1048576: true; the input reads as it did. -/
def walPartsUptoRow : OpenClaim := { program := "ytclbbddpedcfjaa", sum := "da2e4d6ce29430192cb09fb6e9d321c3d67f76865378ab7700eb7407d41194a9", func := "icehouse/icehouselaw07.WalParts", spec := "walParts", apart := false, narrowed := true }
def WalPartsUptoSaid : Prop := walPartsUptoRow.holds Try.pinned (OpenSpec.upto walPartsSpec)

/-- 'icehouselaw07.WalLasts', WHERE WHAT IT READS IS OF BULK AT MOST 1048576: true; the input reads as it did. -/
def walLastsUptoRow : OpenClaim := { program := "ytclbbddpedcfjaa", sum := "da2e4d6ce29430192cb09fb6e9d321c3d67f76865378ab7700eb7407d41194a9", func := "icehouse/icehouselaw07.WalLasts", spec := "walLasts", apart := false, narrowed := true }
def WalLastsUptoSaid : Prop := walLastsUptoRow.holds Try.pinned (OpenSpec.upto walLastsSpec)

/-- 'icehouselaw07.WalKinds', WHERE WHAT IT READS IS OF BULK AT MOST 1048576: true; the input reads as it did. -/
def walKindsUptoRow : OpenClaim := { program := "ytclbbddpedcfjaa", sum := "da2e4d6ce29430192cb09fb6e9d321c3d67f76865378ab7700eb7407d41194a9", func := "icehouse/icehouselaw07.WalKinds", spec := "walKinds", apart := false, narrowed := true }
def WalKindsUptoSaid : Prop := walKindsUptoRow.holds Try.pinned (OpenSpec.upto walKindsSpec)

/-- 'icehouselaw07.WalOpened', WHERE WHAT IT READS IS OF BULK AT MOST 1048576: true; the input reads as it did. -/
def walOpenedUptoRow : OpenClaim := { program := "ytclbbddpedcfjaa", sum := "da2e4d6ce29430192cb09fb6e9d321c3d67f76865378ab7700eb7407d41194a9", func := "icehouse/icehouselaw07.WalOpened", spec := "walOpened", apart := false, narrowed := true }
def WalOpenedUptoSaid : Prop := walOpenedUptoRow.holds Try.pinned (OpenSpec.upto walOpenedSpec)

/-- 'icehouselaw07.WalOpens', WHERE WHAT IT READS IS OF BULK AT MOST 1048576: true; the input reads as it did. -/
def walOpensUptoRow : OpenClaim := { program := "ytclbbddpedcfjaa", sum := "da2e4d6ce29430192cb09fb6e9d321c3d67f76865378ab7700eb7407d41194a9", func := "icehouse/icehouselaw07.WalOpens", spec := "walOpens", unfollowed := true, recurses := true, apart := false, narrowed := true }
def WalOpensUptoSaid : Prop := walOpensUptoRow.holds Try.pinned (OpenSpec.upto walOpensSpec)

/-- 'icehouselaw07.WalSnaps', WHERE WHAT IT READS IS OF BULK AT MOST 1048576: true; the input reads as it did. -/
def walSnapsUptoRow : OpenClaim := { program := "ytclbbddpedcfjaa", sum := "da2e4d6ce29430192cb09fb6e9d321c3d67f76865378ab7700eb7407d41194a9", func := "icehouse/icehouselaw07.WalSnaps", spec := "walSnaps", unfollowed := true, recurses := true, apart := false, narrowed := true }
def WalSnapsUptoSaid : Prop := walSnapsUptoRow.holds Try.pinned (OpenSpec.upto walSnapsSpec)

/-- 'icehouselaw07.WalSteps', WHERE WHAT IT READS IS OF BULK AT MOST 1048576: true; the input reads as it did. -/
def walStepsUptoRow : OpenClaim := { program := "ytclbbddpedcfjaa", sum := "da2e4d6ce29430192cb09fb6e9d321c3d67f76865378ab7700eb7407d41194a9", func := "icehouse/icehouselaw07.WalSteps", spec := "walSteps", unfollowed := true, recurses := true, apart := false, narrowed := true }
def WalStepsUptoSaid : Prop := walStepsUptoRow.holds Try.pinned (OpenSpec.upto walStepsSpec)

end Rows
end Go.Proofs.Ytclbbddpedcfjaa
