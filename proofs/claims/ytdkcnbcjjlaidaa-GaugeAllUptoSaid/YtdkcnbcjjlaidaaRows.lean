/-
  No cell of these rows narrows 'for every input' (looked for: loops, veiled, ifaces, maps, wideKeys, modest, calm, conditions, laid).
  DERIVED. THE GIVEN ROWS OF THIS SEAT. 5 by the template 'for every input the law returns true; each argument reads behind the call as it read before'; 0 by the template 'total and deterministic' (their statements: YtdkcnbcjjlaidaaTotals.lean).
  GIVEN WITH THE SEED: the statements are not yours to turn. If you find one false, say at which input.
  Laid BY PROGRAM, IN A SANDBOX (cutbox-rows.mjs): the forced cells as the released guide's own fill.sh prints them over the translation 61b193038d9f3056… (all of the seat's roots in one cut). By AI agents, Wed Nov 11 2026. No macro, syntax, notation, axiom, sorry.
-/
import Derived.Test.YtdkcnbcjjlaidaaChecked
import GoSem.Claim
import GoSem.ClaimJoined
import GoSem.ClaimMapViews
import Derived.JoinedTies
import Derived.KernelRfl
namespace Go.Proofs.Ytdkcnbcjjlaidaa
/- THE CELL 'sum', in the pinned program and in every row, IS THE sha256 OF THE DUMP (.gsa) THAT YtdkcnbcjjlaidaaProg.lean LOADS. Nothing in Lean hashes anything: it is a label: what it is worth is what the hold of that sum in a sandbox is worth. -/
noncomputable def Try.pinned : Pinned := { name := "ytdkcnbcjjlaidaa", sum := "61b193038d9f3056bb4168580eb5448725b22014b13dc3210423af5c7e450f58", checked := Try.checked }
namespace Rows
def none {H : Type} : Left H := { results := [], args := [] }

/-- 'flumelaw17.GaugeSmooth': WHATEVER THE INPUT: true; the input reads as it did. -/
def gaugeSmoothSpec : ChangeSpec := { name := "gaugeSmooth", fn := fun _ => fun
  | [d1, d2, d3] => { results := [.lit (.bool true)], args := [d1, d2, d3] }
  | _ => none }
def gaugeSmoothRow : OpenClaim := { program := "ytdkcnbcjjlaidaa", sum := "61b193038d9f3056bb4168580eb5448725b22014b13dc3210423af5c7e450f58", func := "flume/flumelaw17.GaugeSmooth", spec := "gaugeSmooth", inPlace := ["math.Float64bits", "math.Float64frombits", "math.archCeil", "math.archFloor", "math.archTrunc"], unfollowed := true, recurses := true, apart := false }
def GaugeSmoothSaid : Prop := gaugeSmoothRow.holds Try.pinned (OpenSpec.ofChange gaugeSmoothSpec)

/-- ITS FALSE NEIGHBOUR: 'it returns false'. Refute it at one input. -/
def gaugeSmoothWrong : ChangeSpec := { name := "gaugeSmooth", fn := fun _ => fun
  | [d1, d2, d3] => { results := [.lit (.bool false)], args := [d1, d2, d3] }
  | _ => none }
def GaugeSmoothWrongFalsely : Prop := gaugeSmoothRow.holds Try.pinned (OpenSpec.ofChange gaugeSmoothWrong)

/-- 'flumelaw17.GaugeRanks': WHATEVER THE INPUT: true; the input reads as it did. -/
def gaugeRanksSpec : ChangeSpec := { name := "gaugeRanks", fn := fun _ => fun
  | [d1, d2] => { results := [.lit (.bool true)], args := [d1, d2] }
  | _ => none }
def gaugeRanksRow : OpenClaim := { program := "ytdkcnbcjjlaidaa", sum := "61b193038d9f3056bb4168580eb5448725b22014b13dc3210423af5c7e450f58", func := "flume/flumelaw17.GaugeRanks", spec := "gaugeRanks", inPlace := ["math.Float64bits", "math.Float64frombits", "math.archCeil", "math.archFloor", "math.archTrunc"], unfollowed := true, recurses := true, apart := false }
def GaugeRanksSaid : Prop := gaugeRanksRow.holds Try.pinned (OpenSpec.ofChange gaugeRanksSpec)

/-- ITS FALSE NEIGHBOUR: 'it returns false'. Refute it at one input. -/
def gaugeRanksWrong : ChangeSpec := { name := "gaugeRanks", fn := fun _ => fun
  | [d1, d2] => { results := [.lit (.bool false)], args := [d1, d2] }
  | _ => none }
def GaugeRanksWrongFalsely : Prop := gaugeRanksRow.holds Try.pinned (OpenSpec.ofChange gaugeRanksWrong)

/-- 'flumelaw17.GaugeAll': WHATEVER THE INPUT: true; the input reads as it did. -/
def gaugeAllSpec : ChangeSpec := { name := "gaugeAll", fn := fun _ => fun
  | [d1, d2, d3, d4, d5] => { results := [.lit (.bool true)], args := [d1, d2, d3, d4, d5] }
  | _ => none }
def gaugeAllRow : OpenClaim := { program := "ytdkcnbcjjlaidaa", sum := "61b193038d9f3056bb4168580eb5448725b22014b13dc3210423af5c7e450f58", func := "flume/flumelaw17.GaugeAll", spec := "gaugeAll", inPlace := ["math.Float64bits", "math.Float64frombits", "math.archCeil", "math.archFloor", "math.archTrunc"], unfollowed := true, recurses := true, apart := false }
def GaugeAllSaid : Prop := gaugeAllRow.holds Try.pinned (OpenSpec.ofChange gaugeAllSpec)

/-- ITS FALSE NEIGHBOUR: 'it returns false'. Refute it at one input. -/
def gaugeAllWrong : ChangeSpec := { name := "gaugeAll", fn := fun _ => fun
  | [d1, d2, d3, d4, d5] => { results := [.lit (.bool false)], args := [d1, d2, d3, d4, d5] }
  | _ => none }
def GaugeAllWrongFalsely : Prop := gaugeAllRow.holds Try.pinned (OpenSpec.ofChange gaugeAllWrong)

/-- 'flumelaw17.GaugeCells': WHATEVER THE INPUT: true; the input reads as it did. -/
def gaugeCellsSpec : ChangeSpec := { name := "gaugeCells", fn := fun _ => fun
  | [d1, d2, d3, d4, d5] => { results := [.lit (.bool true)], args := [d1, d2, d3, d4, d5] }
  | _ => none }
def gaugeCellsRow : OpenClaim := { program := "ytdkcnbcjjlaidaa", sum := "61b193038d9f3056bb4168580eb5448725b22014b13dc3210423af5c7e450f58", func := "flume/flumelaw17.GaugeCells", spec := "gaugeCells", inPlace := ["math.Float64bits", "math.Float64frombits", "math.archCeil", "math.archFloor", "math.archTrunc"], unfollowed := true, recurses := true, apart := false }
def GaugeCellsSaid : Prop := gaugeCellsRow.holds Try.pinned (OpenSpec.ofChange gaugeCellsSpec)

/-- ITS FALSE NEIGHBOUR: 'it returns false'. Refute it at one input. -/
def gaugeCellsWrong : ChangeSpec := { name := "gaugeCells", fn := fun _ => fun
  | [d1, d2, d3, d4, d5] => { results := [.lit (.bool false)], args := [d1, d2, d3, d4, d5] }
  | _ => none }
def GaugeCellsWrongFalsely : Prop := gaugeCellsRow.holds Try.pinned (OpenSpec.ofChange gaugeCellsWrong)

/-- 'flumelaw17.GaugeNone': WHATEVER THE INPUT: true; the input reads as it did. -/
def gaugeNoneSpec : ChangeSpec := { name := "gaugeNone", fn := fun _ => fun
  | [d] => { results := [.lit (.bool true)], args := [d] }
  | _ => none }
def gaugeNoneRow : OpenClaim := { program := "ytdkcnbcjjlaidaa", sum := "61b193038d9f3056bb4168580eb5448725b22014b13dc3210423af5c7e450f58", func := "flume/flumelaw17.GaugeNone", spec := "gaugeNone", inPlace := ["math.Float64bits", "math.Float64frombits", "math.archCeil", "math.archFloor", "math.archTrunc"], unfollowed := true, recurses := true, apart := false }
def GaugeNoneSaid : Prop := gaugeNoneRow.holds Try.pinned (OpenSpec.ofChange gaugeNoneSpec)

/-- ITS FALSE NEIGHBOUR: 'it returns false'. Refute it at one input. -/
def gaugeNoneWrong : ChangeSpec := { name := "gaugeNone", fn := fun _ => fun
  | [d] => { results := [.lit (.bool false)], args := [d] }
  | _ => none }
def GaugeNoneWrongFalsely : Prop := gaugeNoneRow.holds Try.pinned (OpenSpec.ofChange gaugeNoneWrong)

/- THE SECOND FORM. 'bulk': how many values and letters a reading holds, each counted each time it is reached (what is shared counts as often as it is met; a slice's spare places count too). A statement '..UptoSaid' is the law's where the arguments, and the package variables that the reading takes, are together of bulk at most 1048576: NARROWER than '..Said'. Prove '..Said' where nothing that the law and all that it calls make is longer than what came in: it says more and counts as full. Else prove '..UptoSaid'. A law counts once. -/
mutual
def uptoBulk {H : Type} : DataW H → Nat
  | .lit (.string bytes) => bytes.length + 1
  | .lit _ => 1
  | .nil => 1
  | .ptr d => uptoBulk d + 1
  | .slice elems spare => uptoBulkAll elems + uptoBulkAll spare + 1
  | .agg parts => uptoBulkAll parts + 1
  | .iface _ d => uptoBulk d + 1
  | .map entries => uptoBulkEntries entries + 1
  | .held _ => 1
def uptoBulkAll {H : Type} : List (DataW H) → Nat
  | [] => 0
  | d :: r => uptoBulk d + uptoBulkAll r
def uptoBulkEntries {H : Type} : List (Lit × DataW H) → Nat
  | [] => 0
  | x :: r => uptoBulkEntry x + uptoBulkEntries r
def uptoBulkEntry {H : Type} : Lit × DataW H → Nat
  | (.string bytes, d) => bytes.length + uptoBulk d + 1
  | (_, d) => uptoBulk d + 1
 end
def uptoSmall : (H : Type) → List (DataW H) → Bool := fun _ ds => decide (uptoBulkAll ds ≤ 1048576)
def OpenSpec.upto (s : _root_.Go.ChangeSpec) : _root_.Go.OpenSpec := { _root_.Go.OpenSpec.ofChange s with cond := some uptoSmall }

/-- 'flumelaw17.GaugeSmooth', WHERE WHAT IT READS IS OF BULK AT MOST 1048576: true; the input reads as it did. -/
def gaugeSmoothUptoRow : OpenClaim := { program := "ytdkcnbcjjlaidaa", sum := "61b193038d9f3056bb4168580eb5448725b22014b13dc3210423af5c7e450f58", func := "flume/flumelaw17.GaugeSmooth", spec := "gaugeSmooth", inPlace := ["math.Float64bits", "math.Float64frombits", "math.archCeil", "math.archFloor", "math.archTrunc"], unfollowed := true, recurses := true, apart := false, narrowed := true }
def GaugeSmoothUptoSaid : Prop := gaugeSmoothUptoRow.holds Try.pinned (OpenSpec.upto gaugeSmoothSpec)

/-- 'flumelaw17.GaugeRanks', WHERE WHAT IT READS IS OF BULK AT MOST 1048576: true; the input reads as it did. -/
def gaugeRanksUptoRow : OpenClaim := { program := "ytdkcnbcjjlaidaa", sum := "61b193038d9f3056bb4168580eb5448725b22014b13dc3210423af5c7e450f58", func := "flume/flumelaw17.GaugeRanks", spec := "gaugeRanks", inPlace := ["math.Float64bits", "math.Float64frombits", "math.archCeil", "math.archFloor", "math.archTrunc"], unfollowed := true, recurses := true, apart := false, narrowed := true }
def GaugeRanksUptoSaid : Prop := gaugeRanksUptoRow.holds Try.pinned (OpenSpec.upto gaugeRanksSpec)

/-- 'flumelaw17.GaugeAll', WHERE WHAT IT READS IS OF BULK AT MOST 1048576: true; the input reads as it did. -/
def gaugeAllUptoRow : OpenClaim := { program := "ytdkcnbcjjlaidaa", sum := "61b193038d9f3056bb4168580eb5448725b22014b13dc3210423af5c7e450f58", func := "flume/flumelaw17.GaugeAll", spec := "gaugeAll", inPlace := ["math.Float64bits", "math.Float64frombits", "math.archCeil", "math.archFloor", "math.archTrunc"], unfollowed := true, recurses := true, apart := false, narrowed := true }
def GaugeAllUptoSaid : Prop := gaugeAllUptoRow.holds Try.pinned (OpenSpec.upto gaugeAllSpec)

/-- 'flumelaw17.GaugeCells', WHERE WHAT IT READS IS OF BULK AT MOST 1048576: true; the input reads as it did. -/
def gaugeCellsUptoRow : OpenClaim := { program := "ytdkcnbcjjlaidaa", sum := "61b193038d9f3056bb4168580eb5448725b22014b13dc3210423af5c7e450f58", func := "flume/flumelaw17.GaugeCells", spec := "gaugeCells", inPlace := ["math.Float64bits", "math.Float64frombits", "math.archCeil", "math.archFloor", "math.archTrunc"], unfollowed := true, recurses := true, apart := false, narrowed := true }
def GaugeCellsUptoSaid : Prop := gaugeCellsUptoRow.holds Try.pinned (OpenSpec.upto gaugeCellsSpec)

/-- 'flumelaw17.GaugeNone', WHERE WHAT IT READS IS OF BULK AT MOST 1048576: true; the input reads as it did. -/
def gaugeNoneUptoRow : OpenClaim := { program := "ytdkcnbcjjlaidaa", sum := "61b193038d9f3056bb4168580eb5448725b22014b13dc3210423af5c7e450f58", func := "flume/flumelaw17.GaugeNone", spec := "gaugeNone", inPlace := ["math.Float64bits", "math.Float64frombits", "math.archCeil", "math.archFloor", "math.archTrunc"], unfollowed := true, recurses := true, apart := false, narrowed := true }
def GaugeNoneUptoSaid : Prop := gaugeNoneUptoRow.holds Try.pinned (OpenSpec.upto gaugeNoneSpec)

end Rows
end Go.Proofs.Ytdkcnbcjjlaidaa
