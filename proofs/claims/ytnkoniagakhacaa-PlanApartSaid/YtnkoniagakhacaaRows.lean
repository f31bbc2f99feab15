/-
  No cell of these rows narrows 'for every input' (looked for: loops, veiled, ifaces, maps, wideKeys, modest, calm, conditions, laid).
  DERIVED. THE GIVEN ROWS OF THIS SEAT. 6 by the template 'for every input the law returns true; each argument reads behind the call as it read before'; 0 by the template 'total and deterministic' (their statements: YtnkoniagakhacaaTotals.lean).
  GIVEN WITH THE SEED: the statements are not yours to turn. If you find one false, say at which input.
  Laid BY PROGRAM, IN A SANDBOX (cutbox-rows.mjs): the forced cells as the released guide's own fill.sh prints them over the translation a3f18b5a17ebb0b3… (all of the seat's roots in one cut). By AI agents, Wed Nov 11 2026. No macro, syntax, notation, axiom, sorry.
-/
import Derived.Test.YtnkoniagakhacaaChecked
import GoSem.Claim
import GoSem.ClaimJoined
import GoSem.ClaimMapViews
import Derived.JoinedTies
import Derived.KernelRfl
namespace Go.Proofs.Ytnkoniagakhacaa
/- THE CELL 'sum', in the pinned program and in every row, IS THE sha256 OF THE DUMP (.gsa) THAT YtnkoniagakhacaaProg.lean LOADS. Nothing in Lean hashes anything: it is a label: what it is worth is what the hold of that sum in a sandbox is worth. -/
noncomputable def Try.pinned : Pinned := { name := "ytnkoniagakhacaa", sum := "a3f18b5a17ebb0b32e2e8cc67f3cc3ab81013e93a0a9a950b3a63bfd65c23e66", checked := Try.checked }
namespace Rows
def none {H : Type} : Left H := { results := [], args := [] }

/-- 'thimblelaw16.PlanLays': WHATEVER THE INPUT: true; the input reads as it did. -/
def planLaysSpec : ChangeSpec := { name := "planLays", fn := fun _ => fun
  | [d1, d2] => { results := [.lit (.bool true)], args := [d1, d2] }
  | _ => none }
def planLaysRow : OpenClaim := { program := "ytnkoniagakhacaa", sum := "a3f18b5a17ebb0b32e2e8cc67f3cc3ab81013e93a0a9a950b3a63bfd65c23e66", func := "thimble/thimblelaw16.PlanLays", spec := "planLays", apart := false }
def PlanLaysSaid : Prop := planLaysRow.holds Try.pinned (OpenSpec.ofChange planLaysSpec)

/-- ITS FALSE NEIGHBOUR: 'it returns false'. Refute it at one input. -/
def planLaysWrong : ChangeSpec := { name := "planLays", fn := fun _ => fun
  | [d1, d2] => { results := [.lit (.bool false)], args := [d1, d2] }
  | _ => none }
def PlanLaysWrongFalsely : Prop := planLaysRow.holds Try.pinned (OpenSpec.ofChange planLaysWrong)

/-- 'thimblelaw16.PlanParents': WHATEVER THE INPUT: true; the input reads as it did. -/
def planParentsSpec : ChangeSpec := { name := "planParents", fn := fun _ => fun
  | [d1, d2, d3] => { results := [.lit (.bool true)], args := [d1, d2, d3] }
  | _ => none }
def planParentsRow : OpenClaim := { program := "ytnkoniagakhacaa", sum := "a3f18b5a17ebb0b32e2e8cc67f3cc3ab81013e93a0a9a950b3a63bfd65c23e66", func := "thimble/thimblelaw16.PlanParents", spec := "planParents", apart := false }
def PlanParentsSaid : Prop := planParentsRow.holds Try.pinned (OpenSpec.ofChange planParentsSpec)

/-- ITS FALSE NEIGHBOUR: 'it returns false'. Refute it at one input. -/
def planParentsWrong : ChangeSpec := { name := "planParents", fn := fun _ => fun
  | [d1, d2, d3] => { results := [.lit (.bool false)], args := [d1, d2, d3] }
  | _ => none }
def PlanParentsWrongFalsely : Prop := planParentsRow.holds Try.pinned (OpenSpec.ofChange planParentsWrong)

/-- 'thimblelaw16.PlanPaths': WHATEVER THE INPUT: true; the input reads as it did. -/
def planPathsSpec : ChangeSpec := { name := "planPaths", fn := fun _ => fun
  | [d1, d2, d3] => { results := [.lit (.bool true)], args := [d1, d2, d3] }
  | _ => none }
def planPathsRow : OpenClaim := { program := "ytnkoniagakhacaa", sum := "a3f18b5a17ebb0b32e2e8cc67f3cc3ab81013e93a0a9a950b3a63bfd65c23e66", func := "thimble/thimblelaw16.PlanPaths", spec := "planPaths", apart := false }
def PlanPathsSaid : Prop := planPathsRow.holds Try.pinned (OpenSpec.ofChange planPathsSpec)

/-- ITS FALSE NEIGHBOUR: 'it returns false'. Refute it at one input. -/
def planPathsWrong : ChangeSpec := { name := "planPaths", fn := fun _ => fun
  | [d1, d2, d3] => { results := [.lit (.bool false)], args := [d1, d2, d3] }
  | _ => none }
def PlanPathsWrongFalsely : Prop := planPathsRow.holds Try.pinned (OpenSpec.ofChange planPathsWrong)

/-- 'thimblelaw16.PlanNeeds': WHATEVER THE INPUT: true; the input reads as it did. -/
def planNeedsSpec : ChangeSpec := { name := "planNeeds", fn := fun _ => fun
  | [d1, d2, d3] => { results := [.lit (.bool true)], args := [d1, d2, d3] }
  | _ => none }
def planNeedsRow : OpenClaim := { program := "ytnkoniagakhacaa", sum := "a3f18b5a17ebb0b32e2e8cc67f3cc3ab81013e93a0a9a950b3a63bfd65c23e66", func := "thimble/thimblelaw16.PlanNeeds", spec := "planNeeds", apart := false }
def PlanNeedsSaid : Prop := planNeedsRow.holds Try.pinned (OpenSpec.ofChange planNeedsSpec)

/-- ITS FALSE NEIGHBOUR: 'it returns false'. Refute it at one input. -/
def planNeedsWrong : ChangeSpec := { name := "planNeeds", fn := fun _ => fun
  | [d1, d2, d3] => { results := [.lit (.bool false)], args := [d1, d2, d3] }
  | _ => none }
def PlanNeedsWrongFalsely : Prop := planNeedsRow.holds Try.pinned (OpenSpec.ofChange planNeedsWrong)

/-- 'thimblelaw16.PlanGrows': WHATEVER THE INPUT: true; the input reads as it did. -/
def planGrowsSpec : ChangeSpec := { name := "planGrows", fn := fun _ => fun
  | [d1, d2, d3, d4] => { results := [.lit (.bool true)], args := [d1, d2, d3, d4] }
  | _ => none }
def planGrowsRow : OpenClaim := { program := "ytnkoniagakhacaa", sum := "a3f18b5a17ebb0b32e2e8cc67f3cc3ab81013e93a0a9a950b3a63bfd65c23e66", func := "thimble/thimblelaw16.PlanGrows", spec := "planGrows", apart := false }
def PlanGrowsSaid : Prop := planGrowsRow.holds Try.pinned (OpenSpec.ofChange planGrowsSpec)

/-- ITS FALSE NEIGHBOUR: 'it returns false'. Refute it at one input. -/
def planGrowsWrong : ChangeSpec := { name := "planGrows", fn := fun _ => fun
  | [d1, d2, d3, d4] => { results := [.lit (.bool false)], args := [d1, d2, d3, d4] }
  | _ => none }
def PlanGrowsWrongFalsely : Prop := planGrowsRow.holds Try.pinned (OpenSpec.ofChange planGrowsWrong)

/-- 'thimblelaw16.PlanApart': WHATEVER THE INPUT: true; the input reads as it did. -/
def planApartSpec : ChangeSpec := { name := "planApart", fn := fun _ => fun
  | [d1, d2] => { results := [.lit (.bool true)], args := [d1, d2] }
  | _ => none }
def planApartRow : OpenClaim := { program := "ytnkoniagakhacaa", sum := "a3f18b5a17ebb0b32e2e8cc67f3cc3ab81013e93a0a9a950b3a63bfd65c23e66", func := "thimble/thimblelaw16.PlanApart", spec := "planApart", apart := false }
def PlanApartSaid : Prop := planApartRow.holds Try.pinned (OpenSpec.ofChange planApartSpec)

/-- ITS FALSE NEIGHBOUR: 'it returns false'. Refute it at one input. -/
def planApartWrong : ChangeSpec := { name := "planApart", fn := fun _ => fun
  | [d1, d2] => { results := [.lit (.bool false)], args := [d1, d2] }
  | _ => none }
def PlanApartWrongFalsely : Prop := planApartRow.holds Try.pinned (OpenSpec.ofChange planApartWrong)

/- THE SECOND FORM. 'bulk': how many values and letters a reading holds, each counted each time it is reached (what is shared counts as often as it is met; a slice's spare places count too). A statement '..UptoSaid' is the law's where the arguments, and the package variables that the reading takes, are together of bulk at most 1048576: NARROWER than '..Said'. Prove '..Said' where nothing that the law and all that it calls make is longer than what came in: it says more and counts as full. Else prove '..UptoSaid'. A law counts once. -/
mutual
def uptoBulk {H : Type} : DataW H → Nat
  | .lit (.string bytes) => bytes.length + 1
  | .lit _ => 1
  | .nil => 1
  | .ptr d => uptoBulk d + 1
  | .slice elems spare => uptoBulkAll elems + uptoBulkAll spare + 1
  | .agg parts => uptoBulkAll parts + 1
  | .iface _ d => uptoBulk d + 1
  | .map entries => uptoBulkEntries entries + 1
  | .held _ => 1
def uptoBulkAll {H : Type} : List (DataW H) → Nat
  | [] => 0
  | d :: r => uptoBulk d + uptoBulkAll r
def uptoBulkEntries {H : Type} : List (Lit × DataW H) → Nat
  | [] => 0
  | x :: r => uptoBulkEntry x + uptoBulkEntries r
def uptoBulkEntry {H : Type} : Lit × DataW H → Nat
  | (.string bytes, d) => bytes.length + uptoBulk d + 1
  | (_, d) => uptoBulk d + 1
 end
def uptoSmall : (H : Type) → List (DataW H) → Bool := fun _ ds => decide (uptoBulkAll ds ≤ 1048576)
def OpenSpec.upto (s : _root_.Go.ChangeSpec) : _root_.Go.OpenSpec := { _root_.Go.OpenSpec.ofChange s with cond := some uptoSmall }

/-- 'thimblelaw16.PlanLays', WHERE WHAT IT READS IS OF BULK AT MOST 1048576: true; the input reads as it did. -/
def planLaysUptoRow : OpenClaim := { program := "ytnkoniagakhacaa", sum := "a3f18b5a17ebb0b32e2e8cc67f3cc3ab81013e93a0a9a950b3a63bfd65c23e66", func := "thimble/thimblelaw16.PlanLays", spec := "planLays", apart := false, narrowed := true }
def PlanLaysUptoSaid : Prop := planLaysUptoRow.holds Try.pinned (OpenSpec.upto planLaysSpec)

/-- 'thimblelaw16.PlanParents', WHERE WHAT IT READS IS OF BULK AT MOST 1048576: true; the input reads as it did. -/
def planParentsUptoRow : OpenClaim := { program := "ytnkoniagakhacaa", sum := "a3f18b5a17ebb0b32e2e8cc67f3cc3ab81013e93a0a9a950b3a63bfd65c23e66", func := "thimble/thimblelaw16.PlanParents", spec := "planParents", apart := false, narrowed := true }
def PlanParentsUptoSaid : Prop := planParentsUptoRow.holds Try.pinned (OpenSpec.upto planParentsSpec)

/-- 'thimblelaw16.PlanPaths', WHERE WHAT IT READS IS OF BULK AT MOST 1048576: true; the input reads as it did. -/
def planPathsUptoRow : OpenClaim := { program := "ytnkoniagakhacaa", sum := "a3f18b5a17ebb0b32e2e8cc67f3cc3ab81013e93a0a9a950b3a63bfd65c23e66", func := "thimble/thimblelaw16.PlanPaths", spec := "planPaths", apart := false, narrowed := true }
def PlanPathsUptoSaid : Prop := planPathsUptoRow.holds Try.pinned (OpenSpec.upto planPathsSpec)

/-- 'thimblelaw16.PlanNeeds', WHERE WHAT IT READS IS OF BULK AT MOST 1048576: true; the input reads as it did. -/
def planNeedsUptoRow : OpenClaim := { program := "ytnkoniagakhacaa", sum := "a3f18b5a17ebb0b32e2e8cc67f3cc3ab81013e93a0a9a950b3a63bfd65c23e66", func := "thimble/thimblelaw16.PlanNeeds", spec := "planNeeds", apart := false, narrowed := true }
def PlanNeedsUptoSaid : Prop := planNeedsUptoRow.holds Try.pinned (OpenSpec.upto planNeedsSpec)

/-- 'thimblelaw16.PlanGrows', WHERE WHAT IT READS IS OF BULK AT MOST 1048576: true; the input reads as it did. -/
def planGrowsUptoRow : OpenClaim := { program := "ytnkoniagakhacaa", sum := "a3f18b5a17ebb0b32e2e8cc67f3cc3ab81013e93a0a9a950b3a63bfd65c23e66", func := "thimble/thimblelaw16.PlanGrows", spec := "planGrows", apart := false, narrowed := true }
def PlanGrowsUptoSaid : Prop := planGrowsUptoRow.holds Try.pinned (OpenSpec.upto planGrowsSpec)

/-- 'thimblelaw16.PlanApart', WHERE WHAT IT READS IS OF BULK AT MOST 1048576: true; the input reads as it did. -/
def planApartUptoRow : OpenClaim := { program := "ytnkoniagakhacaa", sum := "a3f18b5a17ebb0b32e2e8cc67f3cc3ab81013e93a0a9a950b3a63bfd65c23e66", func := "thimble/thimblelaw16.PlanApart", spec := "planApart", apart := false, narrowed := true }
def PlanApartUptoSaid : Prop := planApartUptoRow.holds Try.pinned (OpenSpec.upto planApartSpec)

end Rows
end Go.Proofs.Ytnkoniagakhacaa
