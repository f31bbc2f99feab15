/-
  No cell of these rows narrows 'for every input' (looked for: loops, veiled, ifaces, maps, wideKeys, modest, calm, conditions, laid).
  DERIVED. THE GIVEN ROWS OF THIS SEAT. 6 by the template 'for every input the law returns true; each argument reads behind the call as it read before'; 0 by the template 'total and deterministic' (their statements: YtpfdfbmoegajbaaTotals.lean).
  GIVEN WITH THE SEED: the statements are not yours to turn. If you find one false, say at which input.
  Laid BY PROGRAM, IN A SANDBOX (cutbox-rows.mjs): the forced cells as the released guide's own fill.sh prints them over the translation 2fefc97c9463932f… (all of the seat's roots in one cut). By AI agents, Wed Nov 11 2026. No macro, syntax, notation, axiom, sorry.
-/
import Derived.Test.YtpfdfbmoegajbaaChecked
import GoSem.Claim
import GoSem.ClaimJoined
import GoSem.ClaimMapViews
import Derived.JoinedTies
import Derived.KernelRfl
namespace Go.Proofs.Ytpfdfbmoegajbaa
/- THE CELL 'sum', in the pinned program and in every row, IS THE sha256 OF THE DUMP (.gsa) THAT YtpfdfbmoegajbaaProg.lean LOADS. Nothing in Lean hashes anything: it is a label: what it is worth is what the hold of that sum in a sandbox is worth. -/
noncomputable def Try.pinned : Pinned := { name := "ytpfdfbmoegajbaa", sum := "2fefc97c9463932f95ae7bf49fdf3dc4654f43851a178a16ff04f17037436e99", checked := Try.checked }
namespace Rows
def none {H : Type} : Left H := { results := [], args := [] }

/-- 'thimblelaw15.FairRound': WHATEVER THE INPUT: true; the input reads as it did. -/
def fairRoundSpec : ChangeSpec := { name := "fairRound", fn := fun _ => fun
  | [d1, d2, d3] => { results := [.lit (.bool true)], args := [d1, d2, d3] }
  | _ => none }
def fairRoundRow : OpenClaim := { program := "ytpfdfbmoegajbaa", sum := "2fefc97c9463932f95ae7bf49fdf3dc4654f43851a178a16ff04f17037436e99", func := "thimble/thimblelaw15.FairRound", spec := "fairRound", inPlace := ["math.Float64bits", "math.Float64frombits"], apart := false }
def FairRoundSaid : Prop := fairRoundRow.holds Try.pinned (OpenSpec.ofChange fairRoundSpec)

/-- ITS FALSE NEIGHBOUR: 'it returns false'. Refute it at one input. -/
def fairRoundWrong : ChangeSpec := { name := "fairRound", fn := fun _ => fun
  | [d1, d2, d3] => { results := [.lit (.bool false)], args := [d1, d2, d3] }
  | _ => none }
def FairRoundWrongFalsely : Prop := fairRoundRow.holds Try.pinned (OpenSpec.ofChange fairRoundWrong)

/-- 'thimblelaw15.FairTurns': WHATEVER THE INPUT: true; the input reads as it did. -/
def fairTurnsSpec : ChangeSpec := { name := "fairTurns", fn := fun _ => fun
  | [d1, d2] => { results := [.lit (.bool true)], args := [d1, d2] }
  | _ => none }
def fairTurnsRow : OpenClaim := { program := "ytpfdfbmoegajbaa", sum := "2fefc97c9463932f95ae7bf49fdf3dc4654f43851a178a16ff04f17037436e99", func := "thimble/thimblelaw15.FairTurns", spec := "fairTurns", inPlace := ["math.Float64bits", "math.Float64frombits"], apart := false }
def FairTurnsSaid : Prop := fairTurnsRow.holds Try.pinned (OpenSpec.ofChange fairTurnsSpec)

/-- ITS FALSE NEIGHBOUR: 'it returns false'. Refute it at one input. -/
def fairTurnsWrong : ChangeSpec := { name := "fairTurns", fn := fun _ => fun
  | [d1, d2] => { results := [.lit (.bool false)], args := [d1, d2] }
  | _ => none }
def FairTurnsWrongFalsely : Prop := fairTurnsRow.holds Try.pinned (OpenSpec.ofChange fairTurnsWrong)

/-- 'thimblelaw15.FairPicks': WHATEVER THE INPUT: true; the input reads as it did. -/
def fairPicksSpec : ChangeSpec := { name := "fairPicks", fn := fun _ => fun
  | [d1, d2, d3] => { results := [.lit (.bool true)], args := [d1, d2, d3] }
  | _ => none }
def fairPicksRow : OpenClaim := { program := "ytpfdfbmoegajbaa", sum := "2fefc97c9463932f95ae7bf49fdf3dc4654f43851a178a16ff04f17037436e99", func := "thimble/thimblelaw15.FairPicks", spec := "fairPicks", inPlace := ["math.Float64bits", "math.Float64frombits"], apart := false }
def FairPicksSaid : Prop := fairPicksRow.holds Try.pinned (OpenSpec.ofChange fairPicksSpec)

/-- ITS FALSE NEIGHBOUR: 'it returns false'. Refute it at one input. -/
def fairPicksWrong : ChangeSpec := { name := "fairPicks", fn := fun _ => fun
  | [d1, d2, d3] => { results := [.lit (.bool false)], args := [d1, d2, d3] }
  | _ => none }
def FairPicksWrongFalsely : Prop := fairPicksRow.holds Try.pinned (OpenSpec.ofChange fairPicksWrong)

/-- 'thimblelaw15.FairNil': WHATEVER THE INPUT: true; the input reads as it did. -/
def fairNilSpec : ChangeSpec := { name := "fairNil", fn := fun _ => fun
  | [d1, d2] => { results := [.lit (.bool true)], args := [d1, d2] }
  | _ => none }
def fairNilRow : OpenClaim := { program := "ytpfdfbmoegajbaa", sum := "2fefc97c9463932f95ae7bf49fdf3dc4654f43851a178a16ff04f17037436e99", func := "thimble/thimblelaw15.FairNil", spec := "fairNil", inPlace := ["math.Float64bits", "math.Float64frombits"], apart := false }
def FairNilSaid : Prop := fairNilRow.holds Try.pinned (OpenSpec.ofChange fairNilSpec)

/-- ITS FALSE NEIGHBOUR: 'it returns false'. Refute it at one input. -/
def fairNilWrong : ChangeSpec := { name := "fairNil", fn := fun _ => fun
  | [d1, d2] => { results := [.lit (.bool false)], args := [d1, d2] }
  | _ => none }
def FairNilWrongFalsely : Prop := fairNilRow.holds Try.pinned (OpenSpec.ofChange fairNilWrong)

/-- 'thimblelaw15.FairPlays': WHATEVER THE INPUT: true; the input reads as it did. -/
def fairPlaysSpec : ChangeSpec := { name := "fairPlays", fn := fun _ => fun
  | [d1, d2] => { results := [.lit (.bool true)], args := [d1, d2] }
  | _ => none }
def fairPlaysRow : OpenClaim := { program := "ytpfdfbmoegajbaa", sum := "2fefc97c9463932f95ae7bf49fdf3dc4654f43851a178a16ff04f17037436e99", func := "thimble/thimblelaw15.FairPlays", spec := "fairPlays", inPlace := ["math.Float64frombits", "math.Float64bits"], apart := false }
def FairPlaysSaid : Prop := fairPlaysRow.holds Try.pinned (OpenSpec.ofChange fairPlaysSpec)

/-- ITS FALSE NEIGHBOUR: 'it returns false'. Refute it at one input. -/
def fairPlaysWrong : ChangeSpec := { name := "fairPlays", fn := fun _ => fun
  | [d1, d2] => { results := [.lit (.bool false)], args := [d1, d2] }
  | _ => none }
def FairPlaysWrongFalsely : Prop := fairPlaysRow.holds Try.pinned (OpenSpec.ofChange fairPlaysWrong)

/-- 'thimblelaw15.FairNear': WHATEVER THE INPUT: true; the input reads as it did. -/
def fairNearSpec : ChangeSpec := { name := "fairNear", fn := fun _ => fun
  | [d1, d2] => { results := [.lit (.bool true)], args := [d1, d2] }
  | _ => none }
def fairNearRow : OpenClaim := { program := "ytpfdfbmoegajbaa", sum := "2fefc97c9463932f95ae7bf49fdf3dc4654f43851a178a16ff04f17037436e99", func := "thimble/thimblelaw15.FairNear", spec := "fairNear", inPlace := ["math.Float64bits", "math.Float64frombits"], apart := false }
def FairNearSaid : Prop := fairNearRow.holds Try.pinned (OpenSpec.ofChange fairNearSpec)

/-- ITS FALSE NEIGHBOUR: 'it returns false'. Refute it at one input. -/
def fairNearWrong : ChangeSpec := { name := "fairNear", fn := fun _ => fun
  | [d1, d2] => { results := [.lit (.bool false)], args := [d1, d2] }
  | _ => none }
def FairNearWrongFalsely : Prop := fairNearRow.holds Try.pinned (OpenSpec.ofChange fairNearWrong)

/- THE SECOND FORM. 'bulk': how many values and letters a reading holds, each counted each time it is reached (what is shared counts as often as it is met; a slice's spare places count too). A statement '..UptoSaid' is the law's where the arguments, and the package variables that the reading takes, are together of bulk at most 1048576: NARROWER than '..Said'. Prove '..Said' where nothing that the law and all that it calls make is longer than what came in: it says more and counts as full. Else prove '..UptoSaid'. A law counts once. -/
mutual
def uptoBulk {H : Type} : DataW H → Nat
  | .lit (.string bytes) => bytes.length + 1
  | .lit _ => 1
  | .nil => 1
  | .ptr d => uptoBulk d + 1
  | .slice elems spare => uptoBulkAll elems + uptoBulkAll spare + 1
  | .agg parts => uptoBulkAll parts + 1
  | .iface _ d => uptoBulk d + 1
  | .map entries => uptoBulkEntries entries + 1
  | .held _ => 1
def uptoBulkAll {H : Type} : List (DataW H) → Nat
  | [] => 0
  | d :: r => uptoBulk d + uptoBulkAll r
def uptoBulkEntries {H : Type} : List (Lit × DataW H) → Nat
  | [] => 0
  | x :: r => uptoBulkEntry x + uptoBulkEntries r
def uptoBulkEntry {H : Type} : Lit × DataW H → Nat
  | (.string bytes, d) => bytes.length + uptoBulk d + 1
  | (_, d) => uptoBulk d + 1
 end
def uptoSmall : (H : Type) → List (DataW H) → Bool := fun _ ds => decide (uptoBulkAll ds ≤ 1048576)
def OpenSpec.upto (s : _root_.Go.ChangeSpec) : _root_.Go.OpenSpec := { _root_.Go.OpenSpec.ofChange s with cond := some uptoSmall }

/-- 'thimblelaw15.FairRound', WHERE WHAT IT READS IS OF BULK AT MOST 1048576: true; the input reads as it did. -/
def fairRoundUptoRow : OpenClaim := { program := "ytpfdfbmoegajbaa", sum := "2fefc97c9463932f95ae7bf49fdf3dc4654f43851a178a16ff04f17037436e99", func := "thimble/thimblelaw15.FairRound", spec := "fairRound", inPlace := ["math.Float64bits", "math.Float64frombits"], apart := false, narrowed := true }
def FairRoundUptoSaid : Prop := fairRoundUptoRow.holds Try.pinned (OpenSpec.upto fairRoundSpec)

/-- 'thimblelaw15.FairTurns', WHERE WHAT IT READS IS OF BULK AT MOST 1048576: true; the input reads as it did. -/
def fairTurnsUptoRow : OpenClaim := { program := "ytpfdfbmoegajbaa", sum := "2fefc97c9463932f95ae7bf49fdf3dc4654f43851a178a16ff04f17037436e99", func := "thimble/thimblelaw15.FairTurns", spec := "fairTurns", inPlace := ["math.Float64bits", "math.Float64frombits"], apart := false, narrowed := true }
def FairTurnsUptoSaid : Prop := fairTurnsUptoRow.holds Try.pinned (OpenSpec.upto fairTurnsSpec)

/-- 'thimblelaw15.FairPicks', WHERE WHAT IT READS IS OF BULK AT MOST 1048576: true; the input reads as it did. -/
def fairPicksUptoRow : OpenClaim := { program := "ytpfdfbmoegajbaa", sum := "2fefc97c9463932f95ae7bf49fdf3dc4654f43851a178a16ff04f17037436e99", func := "thimble/thimblelaw15.FairPicks", spec := "fairPicks", inPlace := ["math.Float64bits", "math.Float64frombits"], apart := false, narrowed := true }
def FairPicksUptoSaid : Prop := fairPicksUptoRow.holds Try.pinned (OpenSpec.upto fairPicksSpec)

/-- 'thimblelaw15.FairNil', WHERE WHAT IT READS IS OF BULK AT MOST 1048576: true; the input reads as it did. -/
def fairNilUptoRow : OpenClaim := { program := "ytpfdfbmoegajbaa", sum := "2fefc97c9463932f95ae7bf49fdf3dc4654f43851a178a16ff04f17037436e99", func := "thimble/thimblelaw15.FairNil", spec := "fairNil", inPlace := ["math.Float64bits", "math.Float64frombits"], apart := false, narrowed := true }
def FairNilUptoSaid : Prop := fairNilUptoRow.holds Try.pinned (OpenSpec.upto fairNilSpec)

/-- 'thimblelaw15.FairPlays', WHERE WHAT IT READS IS OF BULK AT MOST 1048576: true; the input reads as it did. -/
def fairPlaysUptoRow : OpenClaim := { program := "ytpfdfbmoegajbaa", sum := "2fefc97c9463932f95ae7bf49fdf3dc4654f43851a178a16ff04f17037436e99", func := "thimble/thimblelaw15.FairPlays", spec := "fairPlays", inPlace := ["math.Float64frombits", "math.Float64bits"], apart := false, narrowed := true }
def FairPlaysUptoSaid : Prop := fairPlaysUptoRow.holds Try.pinned (OpenSpec.upto fairPlaysSpec)

/-- 'thimblelaw15.FairNear', WHERE WHAT IT READS IS OF BULK AT MOST 1048576: true; the input reads as it did. -/
def fairNearUptoRow : OpenClaim := { program := "ytpfdfbmoegajbaa", sum := "2fefc97c9463932f95ae7bf49fdf3dc4654f43851a178a16ff04f17037436e99", func := "thimble/thimblelaw15.FairNear", spec := "fairNear", inPlace := ["math.Float64bits", "math.Float64frombits"], apart := false, narrowed := true }
def FairNearUptoSaid : Prop := fairNearUptoRow.holds Try.pinned (OpenSpec.upto fairNearSpec)

end Rows
end Go.Proofs.Ytpfdfbmoegajbaa
