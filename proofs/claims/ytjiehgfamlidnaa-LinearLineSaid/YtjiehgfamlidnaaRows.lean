/-
  No cell of these rows narrows 'for every input' (looked for: loops, veiled, ifaces, maps, wideKeys, modest, calm, conditions, laid).
  DERIVED. THE GIVEN ROWS OF THIS SEAT. 4 by the template 'for every input the law returns true; each argument reads behind the call as it read before'; 0 by the template 'total and deterministic' (their statements: YtjiehgfamlidnaaTotals.lean).
  GIVEN WITH THE SEED: the statements are not yours to turn. If you find one false, say at which input.
  Laid BY PROGRAM, IN A SANDBOX (cutbox-rows.mjs): the forced cells as the released guide's own fill.sh prints them over the translation de868ecd84de2513… (all of the seat's roots in one cut). By AI agents, Wed Nov 11 2026. No macro, syntax, notation, axiom, sorry.
-/
import Derived.Test.YtjiehgfamlidnaaChecked
import GoSem.Claim
import GoSem.ClaimJoined
import GoSem.ClaimMapViews
import Derived.JoinedTies
import Derived.KernelRfl
namespace Go.Proofs.Ytjiehgfamlidnaa
/- THE CELL 'sum', in the pinned program and in every row, IS THE sha256 OF THE DUMP (.gsa) THAT YtjiehgfamlidnaaProg.lean LOADS. Nothing in Lean hashes anything: it is a label: what it is worth is what the hold of that sum in a sandbox is worth. -/
noncomputable def Try.pinned : Pinned := { name := "ytjiehgfamlidnaa", sum := "de868ecd84de251342835f8ab893aff4ddcc4fefccaf9a045b80d930c4fb4a00", checked := Try.checked }
namespace Rows
def none {H : Type} : Left H := { results := [], args := [] }

/-- 'flumelaw23.ModelOrder': WHATEVER THE INPUT: true; the input reads as it did. -/
def modelOrderSpec : ChangeSpec := { name := "modelOrder", fn := fun _ => fun
  | [d1, d2] => { results := [.lit (.bool true)], args := [d1, d2] }
  | _ => none }
def modelOrderRow : OpenClaim := { program := "ytjiehgfamlidnaa", sum := "de868ecd84de251342835f8ab893aff4ddcc4fefccaf9a045b80d930c4fb4a00", func := "flume/flumelaw23.ModelOrder", spec := "modelOrder", unfollowed := true, recurses := true, plainKeys := false, apart := false }
def ModelOrderSaid : Prop := modelOrderRow.holds Try.pinned (OpenSpec.ofChange modelOrderSpec)

/-- ITS FALSE NEIGHBOUR: 'it returns false'. Refute it at one input. -/
def modelOrderWrong : ChangeSpec := { name := "modelOrder", fn := fun _ => fun
  | [d1, d2] => { results := [.lit (.bool false)], args := [d1, d2] }
  | _ => none }
def ModelOrderWrongFalsely : Prop := modelOrderRow.holds Try.pinned (OpenSpec.ofChange modelOrderWrong)

/-- 'flumelaw23.ModelLost': WHATEVER THE INPUT: true; the input reads as it did. -/
def modelLostSpec : ChangeSpec := { name := "modelLost", fn := fun _ => fun
  | [d1, d2, d3, d4] => { results := [.lit (.bool true)], args := [d1, d2, d3, d4] }
  | _ => none }
def modelLostRow : OpenClaim := { program := "ytjiehgfamlidnaa", sum := "de868ecd84de251342835f8ab893aff4ddcc4fefccaf9a045b80d930c4fb4a00", func := "flume/flumelaw23.ModelLost", spec := "modelLost", unfollowed := true, recurses := true, plainKeys := false, apart := false }
def ModelLostSaid : Prop := modelLostRow.holds Try.pinned (OpenSpec.ofChange modelLostSpec)

/-- ITS FALSE NEIGHBOUR: 'it returns false'. Refute it at one input. -/
def modelLostWrong : ChangeSpec := { name := "modelLost", fn := fun _ => fun
  | [d1, d2, d3, d4] => { results := [.lit (.bool false)], args := [d1, d2, d3, d4] }
  | _ => none }
def ModelLostWrongFalsely : Prop := modelLostRow.holds Try.pinned (OpenSpec.ofChange modelLostWrong)

/-- 'flumelaw24.LinearFirst': WHATEVER THE INPUT: true; the input reads as it did. -/
def linearFirstSpec : ChangeSpec := { name := "linearFirst", fn := fun _ => fun
  | [d1, d2, d3] => { results := [.lit (.bool true)], args := [d1, d2, d3] }
  | _ => none }
def linearFirstRow : OpenClaim := { program := "ytjiehgfamlidnaa", sum := "de868ecd84de251342835f8ab893aff4ddcc4fefccaf9a045b80d930c4fb4a00", func := "flume/flumelaw24.LinearFirst", spec := "linearFirst", unfollowed := true, recurses := true, plainKeys := false, apart := false }
def LinearFirstSaid : Prop := linearFirstRow.holds Try.pinned (OpenSpec.ofChange linearFirstSpec)

/-- ITS FALSE NEIGHBOUR: 'it returns false'. Refute it at one input. -/
def linearFirstWrong : ChangeSpec := { name := "linearFirst", fn := fun _ => fun
  | [d1, d2, d3] => { results := [.lit (.bool false)], args := [d1, d2, d3] }
  | _ => none }
def LinearFirstWrongFalsely : Prop := linearFirstRow.holds Try.pinned (OpenSpec.ofChange linearFirstWrong)

/-- 'flumelaw24.LinearLine': WHATEVER THE INPUT: true; the input reads as it did. -/
def linearLineSpec : ChangeSpec := { name := "linearLine", fn := fun _ => fun
  | [d1, d2] => { results := [.lit (.bool true)], args := [d1, d2] }
  | _ => none }
def linearLineRow : OpenClaim := { program := "ytjiehgfamlidnaa", sum := "de868ecd84de251342835f8ab893aff4ddcc4fefccaf9a045b80d930c4fb4a00", func := "flume/flumelaw24.LinearLine", spec := "linearLine", unfollowed := true, recurses := true, plainKeys := false, apart := false }
def LinearLineSaid : Prop := linearLineRow.holds Try.pinned (OpenSpec.ofChange linearLineSpec)

/-- ITS FALSE NEIGHBOUR: 'it returns false'. Refute it at one input. -/
def linearLineWrong : ChangeSpec := { name := "linearLine", fn := fun _ => fun
  | [d1, d2] => { results := [.lit (.bool false)], args := [d1, d2] }
  | _ => none }
def LinearLineWrongFalsely : Prop := linearLineRow.holds Try.pinned (OpenSpec.ofChange linearLineWrong)

/- THE SECOND FORM. 'bulk': how many values and letters a reading holds, each counted each time it is reached (what is shared counts as often as it is met; a slice's spare places count too). A statement '..UptoSaid' is the law's where the arguments, and the package variables that the reading takes, are together of bulk at most 1048576: NARROWER than '..Said'. Prove '..Said' where nothing that the law and all that it calls make is longer than what came in: it says more and counts as full. Else prove '..UptoSaid'. A law counts once. -/
mutual
def uptoBulk {H : Type} : DataW H → Nat
  | .lit (.string bytes) => bytes.length + 1
  | .lit _ => 1
  | .nil => 1
  | .ptr d => uptoBulk d + 1
  | .slice elems spare => uptoBulkAll elems + uptoBulkAll spare + 1
  | .agg parts => uptoBulkAll parts + 1
  | .iface _ d => uptoBulk d + 1
  | .map entries => uptoBulkEntries entries + 1
  | .held _ => 1
def uptoBulkAll {H : Type} : List (DataW H) → Nat
  | [] => 0
  | d :: r => uptoBulk d + uptoBulkAll r
def uptoBulkEntries {H : Type} : List (Lit × DataW H) → Nat
  | [] => 0
  | x :: r => uptoBulkEntry x + uptoBulkEntries r
def uptoBulkEntry {H : Type} : Lit × DataW H → Nat
  | (.string bytes, d) => bytes.length + uptoBulk d + 1
  | (_, d) => uptoBulk d + 1
 end
def uptoSmall : (H : Type) → List (DataW H) → Bool := fun _ ds => decide (uptoBulkAll ds ≤ 1048576)
def OpenSpec.upto (s : _root_.Go.ChangeSpec) : _root_.Go.OpenSpec := { _root_.Go.OpenSpec.ofChange s with cond := some uptoSmall }

/-- 'flumelaw23.ModelOrder', WHERE WHAT IT READS IS OF BULK AT MOST 1048576: true; the input reads as it did. -/
def modelOrderUptoRow : OpenClaim := { program := "ytjiehgfamlidnaa", sum := "de868ecd84de251342835f8ab893aff4ddcc4fefccaf9a045b80d930c4fb4a00", func := "flume/flumelaw23.ModelOrder", spec := "modelOrder", unfollowed := true, recurses := true, plainKeys := false, apart := false, narrowed := true }
def ModelOrderUptoSaid : Prop := modelOrderUptoRow.holds Try.pinned (OpenSpec.upto modelOrderSpec)

/-- 'flumelaw23.ModelLost', WHERE WHAT IT READS IS OF BULK AT MOST 1048576: true; the input reads as it did. -/
def modelLostUptoRow : OpenClaim := { program := "ytjiehgfamlidnaa", sum := "de868ecd84de251342835f8ab893aff4ddcc4fefccaf9a045b80d930c4fb4a00", func := "flume/flumelaw23.ModelLost", spec := "modelLost", unfollowed := true, recurses := true, plainKeys := false, apart := false, narrowed := true }
def ModelLostUptoSaid : Prop := modelLostUptoRow.holds Try.pinned (OpenSpec.upto modelLostSpec)

/-- 'flumelaw24.LinearFirst', WHERE WHAT IT READS IS OF BULK AT MOST 1048576: true; the input reads as it did. -/
def linearFirstUptoRow : OpenClaim := { program := "ytjiehgfamlidnaa", sum := "de868ecd84de251342835f8ab893aff4ddcc4fefccaf9a045b80d930c4fb4a00", func := "flume/flumelaw24.LinearFirst", spec := "linearFirst", unfollowed := true, recurses := true, plainKeys := false, apart := false, narrowed := true }
def LinearFirstUptoSaid : Prop := linearFirstUptoRow.holds Try.pinned (OpenSpec.upto linearFirstSpec)

/-- 'flumelaw24.LinearLine', WHERE WHAT IT READS IS OF BULK AT MOST 1048576: true; the input reads as it did. -/
def linearLineUptoRow : OpenClaim := { program := "ytjiehgfamlidnaa", sum := "de868ecd84de251342835f8ab893aff4ddcc4fefccaf9a045b80d930c4fb4a00", func := "flume/flumelaw24.LinearLine", spec := "linearLine", unfollowed := true, recurses := true, plainKeys := false, apart := false, narrowed := true }
def LinearLineUptoSaid : Prop := linearLineUptoRow.holds Try.pinned (OpenSpec.upto linearLineSpec)

end Rows
end Go.Proofs.Ytjiehgfamlidnaa
