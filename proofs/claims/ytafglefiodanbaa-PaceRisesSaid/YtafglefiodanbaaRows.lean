/-
  No cell of these rows narrows 'for every input' (looked for: loops, veiled, ifaces, maps, wideKeys, modest, calm, conditions, laid).
  DERIVED. THE GIVEN ROWS OF THIS SEAT. 3 by the template 'for every input the law returns true; each argument reads behind the call as it read before'; 0 by the template 'total and deterministic' (their statements: YtafglefiodanbaaTotals.lean).
  GIVEN WITH THE SEED: the statements are not yours to turn. If you find one false, say at which input.
  Laid BY PROGRAM, IN A SANDBOX (cutbox-rows.mjs): the forced cells as the released guide's own fill.sh prints them over the translation d3232ed2a6fcab6b… (all of the seat's roots in one cut). By AI agents, Wed Nov 11 2026. No macro, syntax, notation, axiom, sorry.
-/
import Derived.Test.YtafglefiodanbaaChecked
import GoSem.Claim
import GoSem.ClaimJoined
import GoSem.ClaimMapViews
import Derived.JoinedTies
import Derived.KernelRfl
namespace Go.Proofs.Ytafglefiodanbaa
/- THE CELL 'sum', in the pinned program and in every row, IS THE sha256 OF THE DUMP (.gsa) THAT YtafglefiodanbaaProg.lean LOADS. Nothing in Lean hashes anything: it is a label: what it is worth is what the hold of that sum in a sandbox is worth. -/
noncomputable def Try.pinned : Pinned := { name := "ytafglefiodanbaa", sum := "d3232ed2a6fcab6b541fe93d8bd929254b01031c165950cf5859928f7f0e48fa", checked := Try.checked }
namespace Rows
def none {H : Type} : Left H := { results := [], args := [] }

/-- 'flumelaw18.PaceAll': WHATEVER THE INPUT: true; the input reads as it did. -/
def paceAllSpec : ChangeSpec := { name := "paceAll", fn := fun _ => fun
  | [d1, d2, d3, d4, d5] => { results := [.lit (.bool true)], args := [d1, d2, d3, d4, d5] }
  | _ => none }
def paceAllRow : OpenClaim := { program := "ytafglefiodanbaa", sum := "d3232ed2a6fcab6b541fe93d8bd929254b01031c165950cf5859928f7f0e48fa", func := "flume/flumelaw18.PaceAll", spec := "paceAll", inPlace := ["math.Float64bits", "math.Float64frombits", "math.archCeil", "math.archFloor", "math.archTrunc"], apart := false }
def PaceAllSaid : Prop := paceAllRow.holds Try.pinned (OpenSpec.ofChange paceAllSpec)

/-- ITS FALSE NEIGHBOUR: 'it returns false'. Refute it at one input. -/
def paceAllWrong : ChangeSpec := { name := "paceAll", fn := fun _ => fun
  | [d1, d2, d3, d4, d5] => { results := [.lit (.bool false)], args := [d1, d2, d3, d4, d5] }
  | _ => none }
def PaceAllWrongFalsely : Prop := paceAllRow.holds Try.pinned (OpenSpec.ofChange paceAllWrong)

/-- 'flumelaw18.PaceRises': WHATEVER THE INPUT: true; the input reads as it did. -/
def paceRisesSpec : ChangeSpec := { name := "paceRises", fn := fun _ => fun
  | [d1, d2, d3, d4, d5, d6, d7, d8, d9] => { results := [.lit (.bool true)], args := [d1, d2, d3, d4, d5, d6, d7, d8, d9] }
  | _ => none }
def paceRisesRow : OpenClaim := { program := "ytafglefiodanbaa", sum := "d3232ed2a6fcab6b541fe93d8bd929254b01031c165950cf5859928f7f0e48fa", func := "flume/flumelaw18.PaceRises", spec := "paceRises", inPlace := ["math.Float64bits", "math.Float64frombits", "math.archCeil", "math.archFloor", "math.archTrunc"], apart := false }
def PaceRisesSaid : Prop := paceRisesRow.holds Try.pinned (OpenSpec.ofChange paceRisesSpec)

/-- ITS FALSE NEIGHBOUR: 'it returns false'. Refute it at one input. -/
def paceRisesWrong : ChangeSpec := { name := "paceRises", fn := fun _ => fun
  | [d1, d2, d3, d4, d5, d6, d7, d8, d9] => { results := [.lit (.bool false)], args := [d1, d2, d3, d4, d5, d6, d7, d8, d9] }
  | _ => none }
def PaceRisesWrongFalsely : Prop := paceRisesRow.holds Try.pinned (OpenSpec.ofChange paceRisesWrong)

/-- 'flumelaw18.PaceWaits': WHATEVER THE INPUT: true; the input reads as it did. -/
def paceWaitsSpec : ChangeSpec := { name := "paceWaits", fn := fun _ => fun
  | [d1, d2, d3] => { results := [.lit (.bool true)], args := [d1, d2, d3] }
  | _ => none }
def paceWaitsRow : OpenClaim := { program := "ytafglefiodanbaa", sum := "d3232ed2a6fcab6b541fe93d8bd929254b01031c165950cf5859928f7f0e48fa", func := "flume/flumelaw18.PaceWaits", spec := "paceWaits", inPlace := ["math.Float64bits", "math.Float64frombits", "math.archCeil", "math.archFloor", "math.archTrunc"], apart := false }
def PaceWaitsSaid : Prop := paceWaitsRow.holds Try.pinned (OpenSpec.ofChange paceWaitsSpec)

/-- ITS FALSE NEIGHBOUR: 'it returns false'. Refute it at one input. -/
def paceWaitsWrong : ChangeSpec := { name := "paceWaits", fn := fun _ => fun
  | [d1, d2, d3] => { results := [.lit (.bool false)], args := [d1, d2, d3] }
  | _ => none }
def PaceWaitsWrongFalsely : Prop := paceWaitsRow.holds Try.pinned (OpenSpec.ofChange paceWaitsWrong)

/- THE SECOND FORM. 'bulk': how many values and letters a reading holds, each counted each time it is reached (what is shared counts as often as it is met; a slice's spare places count too). A statement '..UptoSaid' is the law's where the arguments, and the package variables that the reading takes, are together of bulk at most 1048576: NARROWER than '..Said'. Prove '..Said' where nothing that the law and all that it calls make is longer than what came in: it says more and counts as full. Else prove '..UptoSaid'. A law counts once. -/
mutual
def uptoBulk {H : Type} : DataW H → Nat
  | .lit (.string bytes) => bytes.length + 1
  | .lit _ => 1
  | .nil => 1
  | .ptr d => uptoBulk d + 1
  | .slice elems spare => uptoBulkAll elems + uptoBulkAll spare + 1
  | .agg parts => uptoBulkAll parts + 1
  | .iface _ d => uptoBulk d + 1
  | .map entries => uptoBulkEntries entries + 1
  | .held _ => 1
def uptoBulkAll {H : Type} : List (DataW H) → Nat
  | [] => 0
  | d :: r => uptoBulk d + uptoBulkAll r
def uptoBulkEntries {H : Type} : List (Lit × DataW H) → Nat
  | [] => 0
  | x :: r => uptoBulkEntry x + uptoBulkEntries r
def uptoBulkEntry {H : Type} : Lit × DataW H → Nat
  | (.string bytes, d) => bytes.length + uptoBulk d + 1
  | (_, d) => uptoBulk d + 1
 end
def uptoSmall : (H : Type) → List (DataW H) → Bool := fun _ ds => decide (uptoBulkAll ds ≤ 1048576)
def OpenSpec.upto (s : _root_.Go.ChangeSpec) : _root_.Go.OpenSpec := { _root_.Go.OpenSpec.ofChange s with cond := some uptoSmall }

/-- 'flumelaw18.PaceAll', WHERE WHAT IT READS IS OF BULK AT MOST 1048576: true; the input reads as it did. -/
def paceAllUptoRow : OpenClaim := { program := "ytafglefiodanbaa", sum := "d3232ed2a6fcab6b541fe93d8bd929254b01031c165950cf5859928f7f0e48fa", func := "flume/flumelaw18.PaceAll", spec := "paceAll", inPlace := ["math.Float64bits", "math.Float64frombits", "math.archCeil", "math.archFloor", "math.archTrunc"], apart := false, narrowed := true }
def PaceAllUptoSaid : Prop := paceAllUptoRow.holds Try.pinned (OpenSpec.upto paceAllSpec)

/-- 'flumelaw18.PaceRises', WHERE WHAT IT READS IS OF BULK AT MOST 1048576: true; the input reads as it did. -/
def paceRisesUptoRow : OpenClaim := { program := "ytafglefiodanbaa", sum := "d3232ed2a6fcab6b541fe93d8bd929254b01031c165950cf5859928f7f0e48fa", func := "flume/flumelaw18.PaceRises", spec := "paceRises", inPlace := ["math.Float64bits", "math.Float64frombits", "math.archCeil", "math.archFloor", "math.archTrunc"], apart := false, narrowed := true }
def PaceRisesUptoSaid : Prop := paceRisesUptoRow.holds Try.pinned (OpenSpec.upto paceRisesSpec)

/-- 'flumelaw18.PaceWaits', WHERE WHAT IT READS IS OF BULK AT MOST 1048576: true; the input reads as it did. -/
def paceWaitsUptoRow : OpenClaim := { program := "ytafglefiodanbaa", sum := "d3232ed2a6fcab6b541fe93d8bd929254b01031c165950cf5859928f7f0e48fa", func := "flume/flumelaw18.PaceWaits", spec := "paceWaits", inPlace := ["math.Float64bits", "math.Float64frombits", "math.archCeil", "math.archFloor", "math.archTrunc"], apart := false, narrowed := true }
def PaceWaitsUptoSaid : Prop := paceWaitsUptoRow.holds Try.pinned (OpenSpec.upto paceWaitsSpec)

end Rows
end Go.Proofs.Ytafglefiodanbaa
