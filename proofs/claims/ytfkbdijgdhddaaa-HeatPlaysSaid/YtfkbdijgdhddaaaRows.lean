/-
  No cell of these rows narrows 'for every input' (looked for: loops, veiled, ifaces, maps, wideKeys, modest, calm, conditions, laid).
  DERIVED. THE GIVEN ROWS OF THIS SEAT. 6 by the template 'for every input the law returns true; each argument reads behind the call as it read before'; 0 by the template 'total and deterministic' (their statements: YtfkbdijgdhddaaaTotals.lean).
  GIVEN WITH THE SEED: the statements are not yours to turn. If you find one false, say at which input.
  Laid BY PROGRAM, IN A SANDBOX (cutbox-rows.mjs): the forced cells as the released guide's own fill.sh prints them over the translation e12d9675992763d8… (all of the seat's roots in one cut). By AI agents, Wed Nov 11 2026. No macro, syntax, notation, axiom, sorry.
-/
import Derived.Test.YtfkbdijgdhddaaaChecked
import GoSem.Claim
import GoSem.ClaimJoined
import GoSem.ClaimMapViews
import Derived.JoinedTies
import Derived.KernelRfl
namespace Go.Proofs.Ytfkbdijgdhddaaa
/- THE CELL 'sum', in the pinned program and in every row, IS THE sha256 OF THE DUMP (.gsa) THAT YtfkbdijgdhddaaaProg.lean LOADS. Nothing in Lean hashes anything: it is a label: what it is worth is what the hold of that sum in a sandbox is worth. -/
noncomputable def Try.pinned : Pinned := { name := "ytfkbdijgdhddaaa", sum := "e12d9675992763d8e090a8570a31dc1e0a789e11c18a8498bd917e9926cca93d", checked := Try.checked }
namespace Rows
def none {H : Type} : Left H := { results := [], args := [] }

/-- 'thimblelaw12.HeatNil': WHATEVER THE INPUT: true; the input reads as it did. -/
def heatNilSpec : ChangeSpec := { name := "heatNil", fn := fun _ => fun
  | [d1, d2] => { results := [.lit (.bool true)], args := [d1, d2] }
  | _ => none }
def heatNilRow : OpenClaim := { program := "ytfkbdijgdhddaaa", sum := "e12d9675992763d8e090a8570a31dc1e0a789e11c18a8498bd917e9926cca93d", func := "thimble/thimblelaw12.HeatNil", spec := "heatNil", inPlace := ["math.Float64bits"], apart := false }
def HeatNilSaid : Prop := heatNilRow.holds Try.pinned (OpenSpec.ofChange heatNilSpec)

/-- ITS FALSE NEIGHBOUR: 'it returns false'. Refute it at one input. -/
def heatNilWrong : ChangeSpec := { name := "heatNil", fn := fun _ => fun
  | [d1, d2] => { results := [.lit (.bool false)], args := [d1, d2] }
  | _ => none }
def HeatNilWrongFalsely : Prop := heatNilRow.holds Try.pinned (OpenSpec.ofChange heatNilWrong)

/-- 'thimblelaw12.HeatColdest': WHATEVER THE INPUT: true; the input reads as it did. -/
def heatColdestSpec : ChangeSpec := { name := "heatColdest", fn := fun _ => fun
  | [d1, d2, d3] => { results := [.lit (.bool true)], args := [d1, d2, d3] }
  | _ => none }
def heatColdestRow : OpenClaim := { program := "ytfkbdijgdhddaaa", sum := "e12d9675992763d8e090a8570a31dc1e0a789e11c18a8498bd917e9926cca93d", func := "thimble/thimblelaw12.HeatColdest", spec := "heatColdest", inPlace := ["math.Float64bits", "math.Float64frombits"], apart := false }
def HeatColdestSaid : Prop := heatColdestRow.holds Try.pinned (OpenSpec.ofChange heatColdestSpec)

/-- ITS FALSE NEIGHBOUR: 'it returns false'. Refute it at one input. -/
def heatColdestWrong : ChangeSpec := { name := "heatColdest", fn := fun _ => fun
  | [d1, d2, d3] => { results := [.lit (.bool false)], args := [d1, d2, d3] }
  | _ => none }
def HeatColdestWrongFalsely : Prop := heatColdestRow.holds Try.pinned (OpenSpec.ofChange heatColdestWrong)

/-- 'thimblelaw12.HeatFirst': WHATEVER THE INPUT: true; the input reads as it did. -/
def heatFirstSpec : ChangeSpec := { name := "heatFirst", fn := fun _ => fun
  | [d1, d2, d3] => { results := [.lit (.bool true)], args := [d1, d2, d3] }
  | _ => none }
def heatFirstRow : OpenClaim := { program := "ytfkbdijgdhddaaa", sum := "e12d9675992763d8e090a8570a31dc1e0a789e11c18a8498bd917e9926cca93d", func := "thimble/thimblelaw12.HeatFirst", spec := "heatFirst", inPlace := ["math.Float64bits", "math.Float64frombits"], apart := false }
def HeatFirstSaid : Prop := heatFirstRow.holds Try.pinned (OpenSpec.ofChange heatFirstSpec)

/-- ITS FALSE NEIGHBOUR: 'it returns false'. Refute it at one input. -/
def heatFirstWrong : ChangeSpec := { name := "heatFirst", fn := fun _ => fun
  | [d1, d2, d3] => { results := [.lit (.bool false)], args := [d1, d2, d3] }
  | _ => none }
def HeatFirstWrongFalsely : Prop := heatFirstRow.holds Try.pinned (OpenSpec.ofChange heatFirstWrong)

/-- 'thimblelaw12.HeatRight': WHATEVER THE INPUT: true; the input reads as it did. -/
def heatRightSpec : ChangeSpec := { name := "heatRight", fn := fun _ => fun
  | [d1, d2] => { results := [.lit (.bool true)], args := [d1, d2] }
  | _ => none }
def heatRightRow : OpenClaim := { program := "ytfkbdijgdhddaaa", sum := "e12d9675992763d8e090a8570a31dc1e0a789e11c18a8498bd917e9926cca93d", func := "thimble/thimblelaw12.HeatRight", spec := "heatRight", inPlace := ["math.Float64bits", "math.Float64frombits"], apart := false }
def HeatRightSaid : Prop := heatRightRow.holds Try.pinned (OpenSpec.ofChange heatRightSpec)

/-- ITS FALSE NEIGHBOUR: 'it returns false'. Refute it at one input. -/
def heatRightWrong : ChangeSpec := { name := "heatRight", fn := fun _ => fun
  | [d1, d2] => { results := [.lit (.bool false)], args := [d1, d2] }
  | _ => none }
def HeatRightWrongFalsely : Prop := heatRightRow.holds Try.pinned (OpenSpec.ofChange heatRightWrong)

/-- 'thimblelaw12.HeatFades': WHATEVER THE INPUT: true; the input reads as it did. -/
def heatFadesSpec : ChangeSpec := { name := "heatFades", fn := fun _ => fun
  | [d1, d2, d3, d4] => { results := [.lit (.bool true)], args := [d1, d2, d3, d4] }
  | _ => none }
def heatFadesRow : OpenClaim := { program := "ytfkbdijgdhddaaa", sum := "e12d9675992763d8e090a8570a31dc1e0a789e11c18a8498bd917e9926cca93d", func := "thimble/thimblelaw12.HeatFades", spec := "heatFades", inPlace := ["math.Float64bits", "math.Float64frombits"], apart := false }
def HeatFadesSaid : Prop := heatFadesRow.holds Try.pinned (OpenSpec.ofChange heatFadesSpec)

/-- ITS FALSE NEIGHBOUR: 'it returns false'. Refute it at one input. -/
def heatFadesWrong : ChangeSpec := { name := "heatFades", fn := fun _ => fun
  | [d1, d2, d3, d4] => { results := [.lit (.bool false)], args := [d1, d2, d3, d4] }
  | _ => none }
def HeatFadesWrongFalsely : Prop := heatFadesRow.holds Try.pinned (OpenSpec.ofChange heatFadesWrong)

/-- 'thimblelaw12.HeatPlays': WHATEVER THE INPUT: true; the input reads as it did. -/
def heatPlaysSpec : ChangeSpec := { name := "heatPlays", fn := fun _ => fun
  | [d1, d2] => { results := [.lit (.bool true)], args := [d1, d2] }
  | _ => none }
def heatPlaysRow : OpenClaim := { program := "ytfkbdijgdhddaaa", sum := "e12d9675992763d8e090a8570a31dc1e0a789e11c18a8498bd917e9926cca93d", func := "thimble/thimblelaw12.HeatPlays", spec := "heatPlays", inPlace := ["math.Float64bits", "math.Float64frombits"], apart := false }
def HeatPlaysSaid : Prop := heatPlaysRow.holds Try.pinned (OpenSpec.ofChange heatPlaysSpec)

/-- ITS FALSE NEIGHBOUR: 'it returns false'. Refute it at one input. -/
def heatPlaysWrong : ChangeSpec := { name := "heatPlays", fn := fun _ => fun
  | [d1, d2] => { results := [.lit (.bool false)], args := [d1, d2] }
  | _ => none }
def HeatPlaysWrongFalsely : Prop := heatPlaysRow.holds Try.pinned (OpenSpec.ofChange heatPlaysWrong)

/- THE SECOND FORM. 'bulk': how many values and letters a reading holds, each counted each time it is reached (what is shared counts as often as it is met; a slice's spare places count too). A statement '..UptoSaid' is the law's where the arguments, and the package variables that the reading takes, are together of bulk at most 1048576: NARROWER than '..Said'. Prove '..Said' where nothing that the law and all that it calls make is longer than what came in: it says more and counts as full. Else prove '..UptoSaid'. A law counts once. -/
mutual
def uptoBulk {H : Type} : DataW H → Nat
  | .lit (.string bytes) => bytes.length + 1
  | .lit _ => 1
  | .nil => 1
  | .ptr d => uptoBulk d + 1
  | .slice elems spare => uptoBulkAll elems + uptoBulkAll spare + 1
  | .agg parts => uptoBulkAll parts + 1
  | .iface _ d => uptoBulk d + 1
  | .map entries => uptoBulkEntries entries + 1
  | .held _ => 1
def uptoBulkAll {H : Type} : List (DataW H) → Nat
  | [] => 0
  | d :: r => uptoBulk d + uptoBulkAll r
def uptoBulkEntries {H : Type} : List (Lit × DataW H) → Nat
  | [] => 0
  | x :: r => uptoBulkEntry x + uptoBulkEntries r
def uptoBulkEntry {H : Type} : Lit × DataW H → Nat
  | (.string bytes, d) => bytes.length + uptoBulk d + 1
  | (_, d) => uptoBulk d + 1
 end
def uptoSmall : (H : Type) → List (DataW H) → Bool := fun _ ds => decide (uptoBulkAll ds ≤ 1048576)
def OpenSpec.upto (s : _root_.Go.ChangeSpec) : _root_.Go.OpenSpec := { _root_.Go.OpenSpec.ofChange s with cond := some uptoSmall }

/-- 'thimblelaw12.HeatNil', WHERE WHAT IT READS IS OF BULK AT MOST 1048576: true; the input reads as it did. -/
def heatNilUptoRow : OpenClaim := { program := "ytfkbdijgdhddaaa", sum := "e12d9675992763d8e090a8570a31dc1e0a789e11c18a8498bd917e9926cca93d", func := "thimble/thimblelaw12.HeatNil", spec := "heatNil", inPlace := ["math.Float64bits"], apart := false, narrowed := true }
def HeatNilUptoSaid : Prop := heatNilUptoRow.holds Try.pinned (OpenSpec.upto heatNilSpec)

/-- 'thimblelaw12.HeatColdest', WHERE WHAT IT READS IS OF BULK AT MOST 1048576: true; the input reads as it did. -/
def heatColdestUptoRow : OpenClaim := { program := "ytfkbdijgdhddaaa", sum := "e12d9675992763d8e090a8570a31dc1e0a789e11c18a8498bd917e9926cca93d", func := "thimble/thimblelaw12.HeatColdest", spec := "heatColdest", inPlace := ["math.Float64bits", "math.Float64frombits"], apart := false, narrowed := true }
def HeatColdestUptoSaid : Prop := heatColdestUptoRow.holds Try.pinned (OpenSpec.upto heatColdestSpec)

/-- 'thimblelaw12.HeatFirst', WHERE WHAT IT READS IS OF BULK AT MOST 1048576: true; the input reads as it did. -/
def heatFirstUptoRow : OpenClaim := { program := "ytfkbdijgdhddaaa", sum := "e12d9675992763d8e090a8570a31dc1e0a789e11c18a8498bd917e9926cca93d", func := "thimble/thimblelaw12.HeatFirst", spec := "heatFirst", inPlace := ["math.Float64bits", "math.Float64frombits"], apart := false, narrowed := true }
def HeatFirstUptoSaid : Prop := heatFirstUptoRow.holds Try.pinned (OpenSpec.upto heatFirstSpec)

/-- 'thimblelaw12.HeatRight', WHERE WHAT IT READS IS OF BULK AT MOST 1048576: true; the input reads as it did. -/
def heatRightUptoRow : OpenClaim := { program := "ytfkbdijgdhddaaa", sum := "e12d9675992763d8e090a8570a31dc1e0a789e11c18a8498bd917e9926cca93d", func := "thimble/thimblelaw12.HeatRight", spec := "heatRight", inPlace := ["math.Float64bits", "math.Float64frombits"], apart := false, narrowed := true }
def HeatRightUptoSaid : Prop := heatRightUptoRow.holds Try.pinned (OpenSpec.upto heatRightSpec)

/-- 'thimblelaw12.HeatFades', WHERE WHAT IT READS IS OF BULK AT MOST 1048576: true; the input reads as it did. -/
def heatFadesUptoRow : OpenClaim := { program := "ytfkbdijgdhddaaa", sum := "e12d9675992763d8e090a8570a31dc1e0a789e11c18a8498bd917e9926cca93d", func := "thimble/thimblelaw12.HeatFades", spec := "heatFades", inPlace := ["math.Float64bits", "math.Float64frombits"], apart := false, narrowed := true }
def HeatFadesUptoSaid : Prop := heatFadesUptoRow.holds Try.pinned (OpenSpec.upto heatFadesSpec)

/-- 'thimblelaw12.HeatPlays', WHERE WHAT IT READS IS OF BULK AT MOST 1048576: true; the input reads as it did. -/
def heatPlaysUptoRow : OpenClaim := { program := "ytfkbdijgdhddaaa", sum := "e12d9675992763d8e090a8570a31dc1e0a789e11c18a8498bd917e9926cca93d", func := "thimble/thimblelaw12.HeatPlays", spec := "heatPlays", inPlace := ["math.Float64bits", "math.Float64frombits"], apart := false, narrowed := true }
def HeatPlaysUptoSaid : Prop := heatPlaysUptoRow.holds Try.pinned (OpenSpec.upto heatPlaysSpec)

end Rows
end Go.Proofs.Ytfkbdijgdhddaaa
