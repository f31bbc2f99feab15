/-
  No cell of these rows narrows 'for every input' (looked for: loops, veiled, ifaces, maps, wideKeys, modest, calm, conditions, laid).
  DERIVED. THE GIVEN ROWS OF THIS SEAT. 7 by the template 'for every input the law returns true; each argument reads behind the call as it read before'; 0 by the template 'total and deterministic' (their statements: YtdjilhahafkpfaaTotals.lean).
  GIVEN WITH THE SEED: the statements are not yours to turn. If you find one false, say at which input.
  Laid BY PROGRAM, IN A SANDBOX (cutbox-rows.mjs): the forced cells as the released guide's own fill.sh prints them over the translation 6b99ee117ed23c7f… (all of the seat's roots in one cut). By AI agents, Wed Nov 11 2026. No macro, syntax, notation, axiom, sorry.
-/
import Derived.Test.YtdjilhahafkpfaaChecked
import GoSem.Claim
import GoSem.ClaimJoined
import GoSem.ClaimMapViews
import Derived.JoinedTies
import Derived.KernelRfl
namespace Go.Proofs.Ytdjilhahafkpfaa
/- THE CELL 'sum', in the pinned program and in every row, IS THE sha256 OF THE DUMP (.gsa) THAT YtdjilhahafkpfaaProg.lean LOADS. Nothing in Lean hashes anything: it is a label: what it is worth is what the hold of that sum in a sandbox is worth. -/
noncomputable def Try.pinned : Pinned := { name := "ytdjilhahafkpfaa", sum := "6b99ee117ed23c7fa8b22676fa2a126f8c7a0b3a852a01bf0f41d5ba5d336070", checked := Try.checked }
namespace Rows
def none {H : Type} : Left H := { results := [], args := [] }

/-- 'thimblelaw24.GaugeBack': WHATEVER THE INPUT: true; the input reads as it did. -/
def gaugeBackSpec : ChangeSpec := { name := "gaugeBack", fn := fun _ => fun
  | [d1, d2] => { results := [.lit (.bool true)], args := [d1, d2] }
  | _ => none }
def gaugeBackRow : OpenClaim := { program := "ytdjilhahafkpfaa", sum := "6b99ee117ed23c7fa8b22676fa2a126f8c7a0b3a852a01bf0f41d5ba5d336070", func := "thimble/thimblelaw24.GaugeBack", spec := "gaugeBack", inPlace := ["math.Float64frombits", "math.Float64bits"], apart := false }
def GaugeBackSaid : Prop := gaugeBackRow.holds Try.pinned (OpenSpec.ofChange gaugeBackSpec)

/-- ITS FALSE NEIGHBOUR: 'it returns false'. Refute it at one input. -/
def gaugeBackWrong : ChangeSpec := { name := "gaugeBack", fn := fun _ => fun
  | [d1, d2] => { results := [.lit (.bool false)], args := [d1, d2] }
  | _ => none }
def GaugeBackWrongFalsely : Prop := gaugeBackRow.holds Try.pinned (OpenSpec.ofChange gaugeBackWrong)

/-- 'thimblelaw24.GaugeTwo': WHATEVER THE INPUT: true; the input reads as it did. -/
def gaugeTwoSpec : ChangeSpec := { name := "gaugeTwo", fn := fun _ => fun
  | [d1, d2] => { results := [.lit (.bool true)], args := [d1, d2] }
  | _ => none }
def gaugeTwoRow : OpenClaim := { program := "ytdjilhahafkpfaa", sum := "6b99ee117ed23c7fa8b22676fa2a126f8c7a0b3a852a01bf0f41d5ba5d336070", func := "thimble/thimblelaw24.GaugeTwo", spec := "gaugeTwo", inPlace := ["math.Float64frombits", "math.Float64bits"], apart := false }
def GaugeTwoSaid : Prop := gaugeTwoRow.holds Try.pinned (OpenSpec.ofChange gaugeTwoSpec)

/-- ITS FALSE NEIGHBOUR: 'it returns false'. Refute it at one input. -/
def gaugeTwoWrong : ChangeSpec := { name := "gaugeTwo", fn := fun _ => fun
  | [d1, d2] => { results := [.lit (.bool false)], args := [d1, d2] }
  | _ => none }
def GaugeTwoWrongFalsely : Prop := gaugeTwoRow.holds Try.pinned (OpenSpec.ofChange gaugeTwoWrong)

/-- 'thimblelaw24.GaugeRates': WHATEVER THE INPUT: true; the input reads as it did. -/
def gaugeRatesSpec : ChangeSpec := { name := "gaugeRates", fn := fun _ => fun
  | [d1, d2] => { results := [.lit (.bool true)], args := [d1, d2] }
  | _ => none }
def gaugeRatesRow : OpenClaim := { program := "ytdjilhahafkpfaa", sum := "6b99ee117ed23c7fa8b22676fa2a126f8c7a0b3a852a01bf0f41d5ba5d336070", func := "thimble/thimblelaw24.GaugeRates", spec := "gaugeRates", inPlace := ["math.Float64frombits", "math.Float64bits"], apart := false }
def GaugeRatesSaid : Prop := gaugeRatesRow.holds Try.pinned (OpenSpec.ofChange gaugeRatesSpec)

/-- ITS FALSE NEIGHBOUR: 'it returns false'. Refute it at one input. -/
def gaugeRatesWrong : ChangeSpec := { name := "gaugeRates", fn := fun _ => fun
  | [d1, d2] => { results := [.lit (.bool false)], args := [d1, d2] }
  | _ => none }
def GaugeRatesWrongFalsely : Prop := gaugeRatesRow.holds Try.pinned (OpenSpec.ofChange gaugeRatesWrong)

/-- 'thimblelaw24.GaugeSums': WHATEVER THE INPUT: true; the input reads as it did. -/
def gaugeSumsSpec : ChangeSpec := { name := "gaugeSums", fn := fun _ => fun
  | [d] => { results := [.lit (.bool true)], args := [d] }
  | _ => none }
def gaugeSumsRow : OpenClaim := { program := "ytdjilhahafkpfaa", sum := "6b99ee117ed23c7fa8b22676fa2a126f8c7a0b3a852a01bf0f41d5ba5d336070", func := "thimble/thimblelaw24.GaugeSums", spec := "gaugeSums", inPlace := ["math.Float64frombits", "math.Float64bits"], apart := false }
def GaugeSumsSaid : Prop := gaugeSumsRow.holds Try.pinned (OpenSpec.ofChange gaugeSumsSpec)

/-- ITS FALSE NEIGHBOUR: 'it returns false'. Refute it at one input. -/
def gaugeSumsWrong : ChangeSpec := { name := "gaugeSums", fn := fun _ => fun
  | [d] => { results := [.lit (.bool false)], args := [d] }
  | _ => none }
def GaugeSumsWrongFalsely : Prop := gaugeSumsRow.holds Try.pinned (OpenSpec.ofChange gaugeSumsWrong)

/-- 'thimblelaw24.GaugeCounts': WHATEVER THE INPUT: true; the input reads as it did. -/
def gaugeCountsSpec : ChangeSpec := { name := "gaugeCounts", fn := fun _ => fun
  | [d] => { results := [.lit (.bool true)], args := [d] }
  | _ => none }
def gaugeCountsRow : OpenClaim := { program := "ytdjilhahafkpfaa", sum := "6b99ee117ed23c7fa8b22676fa2a126f8c7a0b3a852a01bf0f41d5ba5d336070", func := "thimble/thimblelaw24.GaugeCounts", spec := "gaugeCounts", inPlace := ["math.Float64frombits", "math.Float64bits"], apart := false }
def GaugeCountsSaid : Prop := gaugeCountsRow.holds Try.pinned (OpenSpec.ofChange gaugeCountsSpec)

/-- ITS FALSE NEIGHBOUR: 'it returns false'. Refute it at one input. -/
def gaugeCountsWrong : ChangeSpec := { name := "gaugeCounts", fn := fun _ => fun
  | [d] => { results := [.lit (.bool false)], args := [d] }
  | _ => none }
def GaugeCountsWrongFalsely : Prop := gaugeCountsRow.holds Try.pinned (OpenSpec.ofChange gaugeCountsWrong)

/-- 'thimblelaw24.GaugeTurns': WHATEVER THE INPUT: true; the input reads as it did. -/
def gaugeTurnsSpec : ChangeSpec := { name := "gaugeTurns", fn := fun _ => fun
  | [d1, d2] => { results := [.lit (.bool true)], args := [d1, d2] }
  | _ => none }
def gaugeTurnsRow : OpenClaim := { program := "ytdjilhahafkpfaa", sum := "6b99ee117ed23c7fa8b22676fa2a126f8c7a0b3a852a01bf0f41d5ba5d336070", func := "thimble/thimblelaw24.GaugeTurns", spec := "gaugeTurns", inPlace := ["math.Float64frombits", "math.Float64bits"], apart := false }
def GaugeTurnsSaid : Prop := gaugeTurnsRow.holds Try.pinned (OpenSpec.ofChange gaugeTurnsSpec)

/-- ITS FALSE NEIGHBOUR: 'it returns false'. Refute it at one input. -/
def gaugeTurnsWrong : ChangeSpec := { name := "gaugeTurns", fn := fun _ => fun
  | [d1, d2] => { results := [.lit (.bool false)], args := [d1, d2] }
  | _ => none }
def GaugeTurnsWrongFalsely : Prop := gaugeTurnsRow.holds Try.pinned (OpenSpec.ofChange gaugeTurnsWrong)

/-- 'thimblelaw24.GaugeNil': WHATEVER THE INPUT: true; the input reads as it did. -/
def gaugeNilSpec : ChangeSpec := { name := "gaugeNil", fn := fun _ => fun
  | [d] => { results := [.lit (.bool true)], args := [d] }
  | _ => none }
def gaugeNilRow : OpenClaim := { program := "ytdjilhahafkpfaa", sum := "6b99ee117ed23c7fa8b22676fa2a126f8c7a0b3a852a01bf0f41d5ba5d336070", func := "thimble/thimblelaw24.GaugeNil", spec := "gaugeNil", inPlace := ["math.Float64bits", "math.Float64frombits"], apart := false }
def GaugeNilSaid : Prop := gaugeNilRow.holds Try.pinned (OpenSpec.ofChange gaugeNilSpec)

/-- ITS FALSE NEIGHBOUR: 'it returns false'. Refute it at one input. -/
def gaugeNilWrong : ChangeSpec := { name := "gaugeNil", fn := fun _ => fun
  | [d] => { results := [.lit (.bool false)], args := [d] }
  | _ => none }
def GaugeNilWrongFalsely : Prop := gaugeNilRow.holds Try.pinned (OpenSpec.ofChange gaugeNilWrong)

/- THE SECOND FORM. 'bulk': how many values and letters a reading holds, each counted each time it is reached (what is shared counts as often as it is met; a slice's spare places count too). A statement '..UptoSaid' is the law's where the arguments, and the package variables that the reading takes, are together of bulk at most 1048576: NARROWER than '..Said'. Prove '..Said' where nothing that the law and all that it calls make is longer than what came in: it says more and counts as full. Else prove '..UptoSaid'. A law counts once. -/
mutual
def uptoBulk {H : Type} : DataW H → Nat
  | .lit (.string bytes) => bytes.length + 1
  | .lit _ => 1
  | .nil => 1
  | .ptr d => uptoBulk d + 1
  | .slice elems spare => uptoBulkAll elems + uptoBulkAll spare + 1
  | .agg parts => uptoBulkAll parts + 1
  | .iface _ d => uptoBulk d + 1
  | .map entries => uptoBulkEntries entries + 1
  | .held _ => 1
def uptoBulkAll {H : Type} : List (DataW H) → Nat
  | [] => 0
  | d :: r => uptoBulk d + uptoBulkAll r
def uptoBulkEntries {H : Type} : List (Lit × DataW H) → Nat
  | [] => 0
  | x :: r => uptoBulkEntry x + uptoBulkEntries r
def uptoBulkEntry {H : Type} : Lit × DataW H → Nat
  | (.string bytes, d) => bytes.length + uptoBulk d + 1
  | (_, d) => uptoBulk d + 1
 end
def uptoSmall : (H : Type) → List (DataW H) → Bool := fun _ ds => decide (uptoBulkAll ds ≤ 1048576)
def OpenSpec.upto (s : _root_.Go.ChangeSpec) : _root_.Go.OpenSpec := { _root_.Go.OpenSpec.ofChange s with cond := some uptoSmall }

/-- 'thimblelaw24.GaugeBack', WHERE WHAT IT READS IS OF BULK AT MOST 1048576: true; the input reads as it did. -/
def gaugeBackUptoRow : OpenClaim := { program := "ytdjilhahafkpfaa", sum := "6b99ee117ed23c7fa8b22676fa2a126f8c7a0b3a852a01bf0f41d5ba5d336070", func := "thimble/thimblelaw24.GaugeBack", spec := "gaugeBack", inPlace := ["math.Float64frombits", "math.Float64bits"], apart := false, narrowed := true }
def GaugeBackUptoSaid : Prop := gaugeBackUptoRow.holds Try.pinned (OpenSpec.upto gaugeBackSpec)

/-- 'thimblelaw24.GaugeTwo', WHERE WHAT IT READS IS OF BULK AT MOST 1048576: true; the input reads as it did. -/
def gaugeTwoUptoRow : OpenClaim := { program := "ytdjilhahafkpfaa", sum := "6b99ee117ed23c7fa8b22676fa2a126f8c7a0b3a852a01bf0f41d5ba5d336070", func := "thimble/thimblelaw24.GaugeTwo", spec := "gaugeTwo", inPlace := ["math.Float64frombits", "math.Float64bits"], apart := false, narrowed := true }
def GaugeTwoUptoSaid : Prop := gaugeTwoUptoRow.holds Try.pinned (OpenSpec.upto gaugeTwoSpec)

/-- 'thimblelaw24.GaugeRates', WHERE WHAT IT READS IS OF BULK AT MOST 1048576: true; the input reads as it did. -/
def gaugeRatesUptoRow : OpenClaim := { program := "ytdjilhahafkpfaa", sum := "6b99ee117ed23c7fa8b22676fa2a126f8c7a0b3a852a01bf0f41d5ba5d336070", func := "thimble/thimblelaw24.GaugeRates", spec := "gaugeRates", inPlace := ["math.Float64frombits", "math.Float64bits"], apart := false, narrowed := true }
def GaugeRatesUptoSaid : Prop := gaugeRatesUptoRow.holds Try.pinned (OpenSpec.upto gaugeRatesSpec)

/-- 'thimblelaw24.GaugeSums', WHERE WHAT IT READS IS OF BULK AT MOST 1048576: true; the input reads as it did. -/
def gaugeSumsUptoRow : OpenClaim := { program := "ytdjilhahafkpfaa", sum := "6b99ee117ed23c7fa8b22676fa2a126f8c7a0b3a852a01bf0f41d5ba5d336070", func := "thimble/thimblelaw24.GaugeSums", spec := "gaugeSums", inPlace := ["math.Float64frombits", "math.Float64bits"], apart := false, narrowed := true }
def GaugeSumsUptoSaid : Prop := gaugeSumsUptoRow.holds Try.pinned (OpenSpec.upto gaugeSumsSpec)

/-- 'thimblelaw24.GaugeCounts', WHERE WHAT IT READS IS OF BULK AT MOST 1048576: true; the input reads as it did. -/
def gaugeCountsUptoRow : OpenClaim := { program := "ytdjilhahafkpfaa", sum := "6b99ee117ed23c7fa8b22676fa2a126f8c7a0b3a852a01bf0f41d5ba5d336070", func := "thimble/thimblelaw24.GaugeCounts", spec := "gaugeCounts", inPlace := ["math.Float64frombits", "math.Float64bits"], apart := false, narrowed := true }
def GaugeCountsUptoSaid : Prop := gaugeCountsUptoRow.holds Try.pinned (OpenSpec.upto gaugeCountsSpec)

/-- 'thimblelaw24.GaugeTurns', WHERE WHAT IT READS IS OF BULK AT MOST 1048576: true; the input reads as it did. -/
def gaugeTurnsUptoRow : OpenClaim := { program := "ytdjilhahafkpfaa", sum := "6b99ee117ed23c7fa8b22676fa2a126f8c7a0b3a852a01bf0f41d5ba5d336070", func := "thimble/thimblelaw24.GaugeTurns", spec := "gaugeTurns", inPlace := ["math.Float64frombits", "math.Float64bits"], apart := false, narrowed := true }
def GaugeTurnsUptoSaid : Prop := gaugeTurnsUptoRow.holds Try.pinned (OpenSpec.upto gaugeTurnsSpec)

/-- 'thimblelaw24.GaugeNil', WHERE WHAT IT READS IS OF BULK AT MOST 1048576: true; the input reads as it did. -/
def gaugeNilUptoRow : OpenClaim := { program := "ytdjilhahafkpfaa", sum := "6b99ee117ed23c7fa8b22676fa2a126f8c7a0b3a852a01bf0f41d5ba5d336070", func := "thimble/thimblelaw24.GaugeNil", spec := "gaugeNil", inPlace := ["math.Float64bits", "math.Float64frombits"], apart := false, narrowed := true }
def GaugeNilUptoSaid : Prop := gaugeNilUptoRow.holds Try.pinned (OpenSpec.upto gaugeNilSpec)

end Rows
end Go.Proofs.Ytdjilhahafkpfaa
