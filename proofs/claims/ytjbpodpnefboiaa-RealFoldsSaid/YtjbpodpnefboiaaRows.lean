/-
  No cell of these rows narrows 'for every input' (looked for: loops, veiled, ifaces, maps, wideKeys, modest, calm, conditions, laid).
  DERIVED. THE GIVEN ROWS OF THIS SEAT. 9 by the template 'for every input the law returns true; each argument reads behind the call as it read before'; 0 by the template 'total and deterministic' (their statements: YtjbpodpnefboiaaTotals.lean).
  GIVEN WITH THE SEED: the statements are not yours to turn. If you find one false, say at which input.
  Laid BY PROGRAM, IN A SANDBOX (cutbox-rows.mjs): the forced cells as the released guide's own fill.sh prints them over the translation d9477dff2fadd256… (all of the seat's roots in one cut). By AI agents, Wed Nov 11 2026. No macro, syntax, notation, axiom, sorry.
-/
import Derived.Test.YtjbpodpnefboiaaChecked
import GoSem.Claim
import GoSem.ClaimJoined
import GoSem.ClaimMapViews
import Derived.JoinedTies
import Derived.KernelRfl
namespace Go.Proofs.Ytjbpodpnefboiaa
/- THE CELL 'sum', in the pinned program and in every row, IS THE sha256 OF THE DUMP (.gsa) THAT YtjbpodpnefboiaaProg.lean LOADS. Nothing in Lean hashes anything: it is a label: what it is worth is what the hold of that sum in a sandbox is worth. -/
noncomputable def Try.pinned : Pinned := { name := "ytjbpodpnefboiaa", sum := "d9477dff2fadd25642beb40da504bc5d2af6b9be28595615bb6a59f9e24ab025", checked := Try.checked }
namespace Rows
def none {H : Type} : Left H := { results := [], args := [] }

/-- 'thimblelaw01.RealLess': WHATEVER THE INPUT: true; the input reads as it did. -/
def realLessSpec : ChangeSpec := { name := "realLess", fn := fun _ => fun
  | [d1, d2] => { results := [.lit (.bool true)], args := [d1, d2] }
  | _ => none }
def realLessRow : OpenClaim := { program := "ytjbpodpnefboiaa", sum := "d9477dff2fadd25642beb40da504bc5d2af6b9be28595615bb6a59f9e24ab025", func := "thimble/thimblelaw01.RealLess", spec := "realLess", inPlace := ["math.Float64bits"], apart := false }
def RealLessSaid : Prop := realLessRow.holds Try.pinned (OpenSpec.ofChange realLessSpec)

/-- ITS FALSE NEIGHBOUR: 'it returns false'. Refute it at one input. -/
def realLessWrong : ChangeSpec := { name := "realLess", fn := fun _ => fun
  | [d1, d2] => { results := [.lit (.bool false)], args := [d1, d2] }
  | _ => none }
def RealLessWrongFalsely : Prop := realLessRow.holds Try.pinned (OpenSpec.ofChange realLessWrong)

/-- 'thimblelaw01.RealOrders': WHATEVER THE INPUT: true; the input reads as it did. -/
def realOrdersSpec : ChangeSpec := { name := "realOrders", fn := fun _ => fun
  | [d1, d2, d3] => { results := [.lit (.bool true)], args := [d1, d2, d3] }
  | _ => none }
def realOrdersRow : OpenClaim := { program := "ytjbpodpnefboiaa", sum := "d9477dff2fadd25642beb40da504bc5d2af6b9be28595615bb6a59f9e24ab025", func := "thimble/thimblelaw01.RealOrders", spec := "realOrders", inPlace := ["math.Float64bits", "math.Float64frombits"], apart := false }
def RealOrdersSaid : Prop := realOrdersRow.holds Try.pinned (OpenSpec.ofChange realOrdersSpec)

/-- ITS FALSE NEIGHBOUR: 'it returns false'. Refute it at one input. -/
def realOrdersWrong : ChangeSpec := { name := "realOrders", fn := fun _ => fun
  | [d1, d2, d3] => { results := [.lit (.bool false)], args := [d1, d2, d3] }
  | _ => none }
def RealOrdersWrongFalsely : Prop := realOrdersRow.holds Try.pinned (OpenSpec.ofChange realOrdersWrong)

/-- 'thimblelaw01.RealFades': WHATEVER THE INPUT: true; the input reads as it did. -/
def realFadesSpec : ChangeSpec := { name := "realFades", fn := fun _ => fun
  | [d1, d2, d3] => { results := [.lit (.bool true)], args := [d1, d2, d3] }
  | _ => none }
def realFadesRow : OpenClaim := { program := "ytjbpodpnefboiaa", sum := "d9477dff2fadd25642beb40da504bc5d2af6b9be28595615bb6a59f9e24ab025", func := "thimble/thimblelaw01.RealFades", spec := "realFades", inPlace := ["math.Float64bits", "math.Float64frombits"], apart := false }
def RealFadesSaid : Prop := realFadesRow.holds Try.pinned (OpenSpec.ofChange realFadesSpec)

/-- ITS FALSE NEIGHBOUR: 'it returns false'. Refute it at one input. -/
def realFadesWrong : ChangeSpec := { name := "realFades", fn := fun _ => fun
  | [d1, d2, d3] => { results := [.lit (.bool false)], args := [d1, d2, d3] }
  | _ => none }
def RealFadesWrongFalsely : Prop := realFadesRow.holds Try.pinned (OpenSpec.ofChange realFadesWrong)

/-- 'thimblelaw01.RealClamps': WHATEVER THE INPUT: true; the input reads as it did. -/
def realClampsSpec : ChangeSpec := { name := "realClamps", fn := fun _ => fun
  | [d1, d2, d3] => { results := [.lit (.bool true)], args := [d1, d2, d3] }
  | _ => none }
def realClampsRow : OpenClaim := { program := "ytjbpodpnefboiaa", sum := "d9477dff2fadd25642beb40da504bc5d2af6b9be28595615bb6a59f9e24ab025", func := "thimble/thimblelaw01.RealClamps", spec := "realClamps", inPlace := ["math.Float64bits"], apart := false }
def RealClampsSaid : Prop := realClampsRow.holds Try.pinned (OpenSpec.ofChange realClampsSpec)

/-- ITS FALSE NEIGHBOUR: 'it returns false'. Refute it at one input. -/
def realClampsWrong : ChangeSpec := { name := "realClamps", fn := fun _ => fun
  | [d1, d2, d3] => { results := [.lit (.bool false)], args := [d1, d2, d3] }
  | _ => none }
def RealClampsWrongFalsely : Prop := realClampsRow.holds Try.pinned (OpenSpec.ofChange realClampsWrong)

/-- 'thimblelaw01.RealSteps': WHATEVER THE INPUT: true; the input reads as it did. -/
def realStepsSpec : ChangeSpec := { name := "realSteps", fn := fun _ => fun
  | [d1, d2, d3] => { results := [.lit (.bool true)], args := [d1, d2, d3] }
  | _ => none }
def realStepsRow : OpenClaim := { program := "ytjbpodpnefboiaa", sum := "d9477dff2fadd25642beb40da504bc5d2af6b9be28595615bb6a59f9e24ab025", func := "thimble/thimblelaw01.RealSteps", spec := "realSteps", inPlace := ["math.Float64bits", "math.Float64frombits"], apart := false }
def RealStepsSaid : Prop := realStepsRow.holds Try.pinned (OpenSpec.ofChange realStepsSpec)

/-- ITS FALSE NEIGHBOUR: 'it returns false'. Refute it at one input. -/
def realStepsWrong : ChangeSpec := { name := "realSteps", fn := fun _ => fun
  | [d1, d2, d3] => { results := [.lit (.bool false)], args := [d1, d2, d3] }
  | _ => none }
def RealStepsWrongFalsely : Prop := realStepsRow.holds Try.pinned (OpenSpec.ofChange realStepsWrong)

/-- 'thimblelaw01.RealRanks': WHATEVER THE INPUT: true; the input reads as it did. -/
def realRanksSpec : ChangeSpec := { name := "realRanks", fn := fun _ => fun
  | [d1, d2] => { results := [.lit (.bool true)], args := [d1, d2] }
  | _ => none }
def realRanksRow : OpenClaim := { program := "ytjbpodpnefboiaa", sum := "d9477dff2fadd25642beb40da504bc5d2af6b9be28595615bb6a59f9e24ab025", func := "thimble/thimblelaw01.RealRanks", spec := "realRanks", inPlace := ["math.Float64bits", "math.Float64frombits"], apart := false }
def RealRanksSaid : Prop := realRanksRow.holds Try.pinned (OpenSpec.ofChange realRanksSpec)

/-- ITS FALSE NEIGHBOUR: 'it returns false'. Refute it at one input. -/
def realRanksWrong : ChangeSpec := { name := "realRanks", fn := fun _ => fun
  | [d1, d2] => { results := [.lit (.bool false)], args := [d1, d2] }
  | _ => none }
def RealRanksWrongFalsely : Prop := realRanksRow.holds Try.pinned (OpenSpec.ofChange realRanksWrong)

/-- 'thimblelaw01.RealFolds': WHATEVER THE INPUT: true; the input reads as it did. -/
def realFoldsSpec : ChangeSpec := { name := "realFolds", fn := fun _ => fun
  | [d] => { results := [.lit (.bool true)], args := [d] }
  | _ => none }
def realFoldsRow : OpenClaim := { program := "ytjbpodpnefboiaa", sum := "d9477dff2fadd25642beb40da504bc5d2af6b9be28595615bb6a59f9e24ab025", func := "thimble/thimblelaw01.RealFolds", spec := "realFolds", inPlace := ["math.Float64frombits", "math.Float64bits"], apart := false }
def RealFoldsSaid : Prop := realFoldsRow.holds Try.pinned (OpenSpec.ofChange realFoldsSpec)

/-- ITS FALSE NEIGHBOUR: 'it returns false'. Refute it at one input. -/
def realFoldsWrong : ChangeSpec := { name := "realFolds", fn := fun _ => fun
  | [d] => { results := [.lit (.bool false)], args := [d] }
  | _ => none }
def RealFoldsWrongFalsely : Prop := realFoldsRow.holds Try.pinned (OpenSpec.ofChange realFoldsWrong)

/-- 'thimblelaw01.RealBack': WHATEVER THE INPUT: true; the input reads as it did. -/
def realBackSpec : ChangeSpec := { name := "realBack", fn := fun _ => fun
  | [d1, d2] => { results := [.lit (.bool true)], args := [d1, d2] }
  | _ => none }
def realBackRow : OpenClaim := { program := "ytjbpodpnefboiaa", sum := "d9477dff2fadd25642beb40da504bc5d2af6b9be28595615bb6a59f9e24ab025", func := "thimble/thimblelaw01.RealBack", spec := "realBack", inPlace := ["math.Float64bits", "math.Float64frombits"], apart := false }
def RealBackSaid : Prop := realBackRow.holds Try.pinned (OpenSpec.ofChange realBackSpec)

/-- ITS FALSE NEIGHBOUR: 'it returns false'. Refute it at one input. -/
def realBackWrong : ChangeSpec := { name := "realBack", fn := fun _ => fun
  | [d1, d2] => { results := [.lit (.bool false)], args := [d1, d2] }
  | _ => none }
def RealBackWrongFalsely : Prop := realBackRow.holds Try.pinned (OpenSpec.ofChange realBackWrong)

/-- 'thimblelaw01.RealClasses': WHATEVER THE INPUT: true; the input reads as it did. -/
def realClassesSpec : ChangeSpec := { name := "realClasses", fn := fun _ => fun
  | [d1, d2] => { results := [.lit (.bool true)], args := [d1, d2] }
  | _ => none }
def realClassesRow : OpenClaim := { program := "ytjbpodpnefboiaa", sum := "d9477dff2fadd25642beb40da504bc5d2af6b9be28595615bb6a59f9e24ab025", func := "thimble/thimblelaw01.RealClasses", spec := "realClasses", inPlace := ["math.Float64bits", "math.Float64frombits"], apart := false }
def RealClassesSaid : Prop := realClassesRow.holds Try.pinned (OpenSpec.ofChange realClassesSpec)

/-- ITS FALSE NEIGHBOUR: 'it returns false'. Refute it at one input. -/
def realClassesWrong : ChangeSpec := { name := "realClasses", fn := fun _ => fun
  | [d1, d2] => { results := [.lit (.bool false)], args := [d1, d2] }
  | _ => none }
def RealClassesWrongFalsely : Prop := realClassesRow.holds Try.pinned (OpenSpec.ofChange realClassesWrong)

/- THE SECOND FORM. 'bulk': how many values and letters a reading holds, each counted each time it is reached (what is shared counts as often as it is met; a slice's spare places count too). A statement '..UptoSaid' is the law's where the arguments, and the package variables that the reading takes, are together of bulk at most 1048576: NARROWER than '..Said'. Prove '..Said' where nothing that the law and all that it calls make is longer than what came in: it says more and counts as full. Else prove '..UptoSaid'. A law counts once. -/
mutual
def uptoBulk {H : Type} : DataW H → Nat
  | .lit (.string bytes) => bytes.length + 1
  | .lit _ => 1
  | .nil => 1
  | .ptr d => uptoBulk d + 1
  | .slice elems spare => uptoBulkAll elems + uptoBulkAll spare + 1
  | .agg parts => uptoBulkAll parts + 1
  | .iface _ d => uptoBulk d + 1
  | .map entries => uptoBulkEntries entries + 1
  | .held _ => 1
def uptoBulkAll {H : Type} : List (DataW H) → Nat
  | [] => 0
  | d :: r => uptoBulk d + uptoBulkAll r
def uptoBulkEntries {H : Type} : List (Lit × DataW H) → Nat
  | [] => 0
  | x :: r => uptoBulkEntry x + uptoBulkEntries r
def uptoBulkEntry {H : Type} : Lit × DataW H → Nat
  | (.string bytes, d) => bytes.length + uptoBulk d + 1
  | (_, d) => uptoBulk d + 1
 end
def uptoSmall : (H : Type) → List (DataW H) → Bool := fun _ ds => decide (uptoBulkAll ds ≤ 1048576)
def OpenSpec.upto (s : _root_.Go.ChangeSpec) : _root_.Go.OpenSpec := { _root_.Go.OpenSpec.ofChange s with cond := some uptoSmall }

/-- 'thimblelaw01.RealLess', WHERE WHAT IT READS IS OF BULK AT MOST 1048576: true; the input reads as it did. -/
def realLessUptoRow : OpenClaim := { program := "ytjbpodpnefboiaa", sum := "d9477dff2fadd25642beb40da504bc5d2af6b9be28595615bb6a59f9e24ab025", func := "thimble/thimblelaw01.RealLess", spec := "realLess", inPlace := ["math.Float64bits"], apart := false, narrowed := true }
def RealLessUptoSaid : Prop := realLessUptoRow.holds Try.pinned (OpenSpec.upto realLessSpec)

/-- 'thimblelaw01.RealOrders', WHERE WHAT IT READS IS OF BULK AT MOST 1048576: true; the input reads as it did. -/
def realOrdersUptoRow : OpenClaim := { program := "ytjbpodpnefboiaa", sum := "d9477dff2fadd25642beb40da504bc5d2af6b9be28595615bb6a59f9e24ab025", func := "thimble/thimblelaw01.RealOrders", spec := "realOrders", inPlace := ["math.Float64bits", "math.Float64frombits"], apart := false, narrowed := true }
def RealOrdersUptoSaid : Prop := realOrdersUptoRow.holds Try.pinned (OpenSpec.upto realOrdersSpec)

/-- 'thimblelaw01.RealFades', WHERE WHAT IT READS IS OF BULK AT MOST 1048576: true; the input reads as it did. -/
def realFadesUptoRow : OpenClaim := { program := "ytjbpodpnefboiaa", sum := "d9477dff2fadd25642beb40da504bc5d2af6b9be28595615bb6a59f9e24ab025", func := "thimble/thimblelaw01.RealFades", spec := "realFades", inPlace := ["math.Float64bits", "math.Float64frombits"], apart := false, narrowed := true }
def RealFadesUptoSaid : Prop := realFadesUptoRow.holds Try.pinned (OpenSpec.upto realFadesSpec)

/-- 'thimblelaw01.RealClamps', WHERE WHAT IT READS IS OF BULK AT MOST 1048576: true; the input reads as it did. -/
def realClampsUptoRow : OpenClaim := { program := "ytjbpodpnefboiaa", sum := "d9477dff2fadd25642beb40da504bc5d2af6b9be28595615bb6a59f9e24ab025", func := "thimble/thimblelaw01.RealClamps", spec := "realClamps", inPlace := ["math.Float64bits"], apart := false, narrowed := true }
def RealClampsUptoSaid : Prop := realClampsUptoRow.holds Try.pinned (OpenSpec.upto realClampsSpec)

/-- 'thimblelaw01.RealSteps', WHERE WHAT IT READS IS OF BULK AT MOST 1048576: true; the input reads as it did. -/
def realStepsUptoRow : OpenClaim := { program := "ytjbpodpnefboiaa", sum := "d9477dff2fadd25642beb40da504bc5d2af6b9be28595615bb6a59f9e24ab025", func := "thimble/thimblelaw01.RealSteps", spec := "realSteps", inPlace := ["math.Float64bits", "math.Float64frombits"], apart := false, narrowed := true }
def RealStepsUptoSaid : Prop := realStepsUptoRow.holds Try.pinned (OpenSpec.upto realStepsSpec)

/-- 'thimblelaw01.RealRanks', WHERE WHAT IT READS IS OF BULK AT MOST 1048576: true; the input reads as it did. -/
def realRanksUptoRow : OpenClaim := { program := "ytjbpodpnefboiaa", sum := "d9477dff2fadd25642beb40da504bc5d2af6b9be28595615bb6a59f9e24ab025", func := "thimble/thimblelaw01.RealRanks", spec := "realRanks", inPlace := ["math.Float64bits", "math.Float64frombits"], apart := false, narrowed := true }
def RealRanksUptoSaid : Prop := realRanksUptoRow.holds Try.pinned (OpenSpec.upto realRanksSpec)

/-- 'thimblelaw01.RealFolds', WHERE WHAT IT READS IS OF BULK AT MOST 1048576: true; the input reads as it did. -/
def realFoldsUptoRow : OpenClaim := { program := "ytjbpodpnefboiaa", sum := "d9477dff2fadd25642beb40da504bc5d2af6b9be28595615bb6a59f9e24ab025", func := "thimble/thimblelaw01.RealFolds", spec := "realFolds", inPlace := ["math.Float64frombits", "math.Float64bits"], apart := false, narrowed := true }
def RealFoldsUptoSaid : Prop := realFoldsUptoRow.holds Try.pinned (OpenSpec.upto realFoldsSpec)

/-- 'thimblelaw01.RealBack', WHERE WHAT IT READS IS OF BULK AT MOST 1048576: true; the input reads as it did. -/
def realBackUptoRow : OpenClaim := { program := "ytjbpodpnefboiaa", sum := "d9477dff2fadd25642beb40da504bc5d2af6b9be28595615bb6a59f9e24ab025", func := "thimble/thimblelaw01.RealBack", spec := "realBack", inPlace := ["math.Float64bits", "math.Float64frombits"], apart := false, narrowed := true }
def RealBackUptoSaid : Prop := realBackUptoRow.holds Try.pinned (OpenSpec.upto realBackSpec)

/-- 'thimblelaw01.RealClasses', WHERE WHAT IT READS IS OF BULK AT MOST 1048576: true; the input reads as it did. -/
def realClassesUptoRow : OpenClaim := { program := "ytjbpodpnefboiaa", sum := "d9477dff2fadd25642beb40da504bc5d2af6b9be28595615bb6a59f9e24ab025", func := "thimble/thimblelaw01.RealClasses", spec := "realClasses", inPlace := ["math.Float64bits", "math.Float64frombits"], apart := false, narrowed := true }
def RealClassesUptoSaid : Prop := realClassesUptoRow.holds Try.pinned (OpenSpec.upto realClassesSpec)

end Rows
end Go.Proofs.Ytjbpodpnefboiaa
