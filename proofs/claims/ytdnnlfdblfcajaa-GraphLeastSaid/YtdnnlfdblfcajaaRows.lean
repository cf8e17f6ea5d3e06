/-
  No cell of these rows narrows 'for every input' (looked for: loops, veiled, ifaces, maps, wideKeys, modest, calm, conditions, laid).
  DERIVED. THE GIVEN ROWS OF THIS SEAT. 5 by the template 'for every input the law returns true; each argument reads behind the call as it read before'; 0 by the template 'total and deterministic' (their statements: YtdnnlfdblfcajaaTotals.lean).
  GIVEN WITH THE SEED: the statements are not yours to turn. If you find one false, say at which input.
  Laid BY PROGRAM, IN A SANDBOX (cutbox-rows.mjs): the forced cells as the released guide's own fill.sh prints them over the translation 6666bcc84efee882… (all of the seat's roots in one cut). By AI agents, Wed Nov 11 2026. No macro, syntax, notation, axiom, sorry.
-/
import Derived.Test.YtdnnlfdblfcajaaChecked
import GoSem.Claim
import GoSem.ClaimJoined
import GoSem.ClaimMapViews
import Derived.JoinedTies
import Derived.KernelRfl
namespace Go.Proofs.Ytdnnlfdblfcajaa
/- THE CELL 'sum', in the pinned program and in every row, IS THE sha256 OF THE DUMP (.gsa) THAT YtdnnlfdblfcajaaProg.lean LOADS. Nothing in Lean hashes anything: it is a label: what it is worth is what the hold of that sum in a sandbox is worth. -/
noncomputable def Try.pinned : Pinned := { name := "ytdnnlfdblfcajaa", sum := "6666bcc84efee882b2b1d2c3c7b25f4ed2ea9d58e999517e410e344e48643f0d", checked := Try.checked }
namespace Rows
def none {H : Type} : Left H := { results := [], args := [] }

/-- 'beaconrylaw20.GraphLeast': WHATEVER THE INPUT: true; the input reads as it did. -/
def graphLeastSpec : ChangeSpec := { name := "graphLeast", fn := fun _ => fun
  | [d1, d2, d3, d4] => { results := [.lit (.bool true)], args := [d1, d2, d3, d4] }
  | _ => none }
def graphLeastRow : OpenClaim := { program := "ytdnnlfdblfcajaa", sum := "6666bcc84efee882b2b1d2c3c7b25f4ed2ea9d58e999517e410e344e48643f0d", func := "beaconry/beaconrylaw20.GraphLeast", spec := "graphLeast", unfollowed := true, recurses := true, apart := false }
def GraphLeastSaid : Prop := graphLeastRow.holds Try.pinned (OpenSpec.ofChange graphLeastSpec)

/-- ITS FALSE NEIGHBOUR: 'it returns false'. Refute it at one input. -/
def graphLeastWrong : ChangeSpec := { name := "graphLeast", fn := fun _ => fun
  | [d1, d2, d3, d4] => { results := [.lit (.bool false)], args := [d1, d2, d3, d4] }
  | _ => none }
def GraphLeastWrongFalsely : Prop := graphLeastRow.holds Try.pinned (OpenSpec.ofChange graphLeastWrong)

/-- 'beaconrylaw20.GraphTriangle': WHATEVER THE INPUT: true; the input reads as it did. -/
def graphTriangleSpec : ChangeSpec := { name := "graphTriangle", fn := fun _ => fun
  | [d1, d2, d3, d4] => { results := [.lit (.bool true)], args := [d1, d2, d3, d4] }
  | _ => none }
def graphTriangleRow : OpenClaim := { program := "ytdnnlfdblfcajaa", sum := "6666bcc84efee882b2b1d2c3c7b25f4ed2ea9d58e999517e410e344e48643f0d", func := "beaconry/beaconrylaw20.GraphTriangle", spec := "graphTriangle", unfollowed := true, recurses := true, apart := false }
def GraphTriangleSaid : Prop := graphTriangleRow.holds Try.pinned (OpenSpec.ofChange graphTriangleSpec)

/-- ITS FALSE NEIGHBOUR: 'it returns false'. Refute it at one input. -/
def graphTriangleWrong : ChangeSpec := { name := "graphTriangle", fn := fun _ => fun
  | [d1, d2, d3, d4] => { results := [.lit (.bool false)], args := [d1, d2, d3, d4] }
  | _ => none }
def GraphTriangleWrongFalsely : Prop := graphTriangleRow.holds Try.pinned (OpenSpec.ofChange graphTriangleWrong)

/-- 'beaconrylaw20.GraphReaches': WHATEVER THE INPUT: true; the input reads as it did. -/
def graphReachesSpec : ChangeSpec := { name := "graphReaches", fn := fun _ => fun
  | [d1, d2, d3] => { results := [.lit (.bool true)], args := [d1, d2, d3] }
  | _ => none }
def graphReachesRow : OpenClaim := { program := "ytdnnlfdblfcajaa", sum := "6666bcc84efee882b2b1d2c3c7b25f4ed2ea9d58e999517e410e344e48643f0d", func := "beaconry/beaconrylaw20.GraphReaches", spec := "graphReaches", unfollowed := true, recurses := true, apart := false }
def GraphReachesSaid : Prop := graphReachesRow.holds Try.pinned (OpenSpec.ofChange graphReachesSpec)

/-- ITS FALSE NEIGHBOUR: 'it returns false'. Refute it at one input. -/
def graphReachesWrong : ChangeSpec := { name := "graphReaches", fn := fun _ => fun
  | [d1, d2, d3] => { results := [.lit (.bool false)], args := [d1, d2, d3] }
  | _ => none }
def GraphReachesWrongFalsely : Prop := graphReachesRow.holds Try.pinned (OpenSpec.ofChange graphReachesWrong)

/-- 'beaconrylaw20.GraphMore': WHATEVER THE INPUT: true; the input reads as it did. -/
def graphMoreSpec : ChangeSpec := { name := "graphMore", fn := fun _ => fun
  | [d1, d2, d3, d4] => { results := [.lit (.bool true)], args := [d1, d2, d3, d4] }
  | _ => none }
def graphMoreRow : OpenClaim := { program := "ytdnnlfdblfcajaa", sum := "6666bcc84efee882b2b1d2c3c7b25f4ed2ea9d58e999517e410e344e48643f0d", func := "beaconry/beaconrylaw20.GraphMore", spec := "graphMore", unfollowed := true, recurses := true, apart := false }
def GraphMoreSaid : Prop := graphMoreRow.holds Try.pinned (OpenSpec.ofChange graphMoreSpec)

/-- ITS FALSE NEIGHBOUR: 'it returns false'. Refute it at one input. -/
def graphMoreWrong : ChangeSpec := { name := "graphMore", fn := fun _ => fun
  | [d1, d2, d3, d4] => { results := [.lit (.bool false)], args := [d1, d2, d3, d4] }
  | _ => none }
def GraphMoreWrongFalsely : Prop := graphMoreRow.holds Try.pinned (OpenSpec.ofChange graphMoreWrong)

/-- 'beaconrylaw20.GraphTurned': WHATEVER THE INPUT: true; the input reads as it did. -/
def graphTurnedSpec : ChangeSpec := { name := "graphTurned", fn := fun _ => fun
  | [d1, d2, d3, d4] => { results := [.lit (.bool true)], args := [d1, d2, d3, d4] }
  | _ => none }
def graphTurnedRow : OpenClaim := { program := "ytdnnlfdblfcajaa", sum := "6666bcc84efee882b2b1d2c3c7b25f4ed2ea9d58e999517e410e344e48643f0d", func := "beaconry/beaconrylaw20.GraphTurned", spec := "graphTurned", unfollowed := true, recurses := true, apart := false }
def GraphTurnedSaid : Prop := graphTurnedRow.holds Try.pinned (OpenSpec.ofChange graphTurnedSpec)

/-- ITS FALSE NEIGHBOUR: 'it returns false'. Refute it at one input. -/
def graphTurnedWrong : ChangeSpec := { name := "graphTurned", fn := fun _ => fun
  | [d1, d2, d3, d4] => { results := [.lit (.bool false)], args := [d1, d2, d3, d4] }
  | _ => none }
def GraphTurnedWrongFalsely : Prop := graphTurnedRow.holds Try.pinned (OpenSpec.ofChange graphTurnedWrong)

/- THE SECOND FORM. 'bulk': how many values and letters a reading holds, each counted each time it is reached (what is shared counts as often as it is met; a slice's spare places count too). A statement '..UptoSaid' is the law's where the arguments, and the package variables that the reading takes, are together of bulk at most 1048576: NARROWER than '..Said'. Prove '..Said' where nothing that the law and all that it calls make is longer than what came in: it says more and counts as full. Else prove '..UptoSaid'. A law counts once. -/
mutual
def uptoBulk {H : Type} : DataW H → Nat
  | .lit (.string bytes) => bytes.length + 1
  | .lit _ => 1
  | .nil => 1
  | .ptr d => uptoBulk d + 1
  | .slice elems spare => uptoBulkAll elems + uptoBulkAll spare + 1
  | .agg parts => uptoBulkAll parts + 1
  | .iface _ d => uptoBulk d + 1
  | .map entries => uptoBulkEntries entries + 1
  | .held _ => 1
def uptoBulkAll {H : Type} : List (DataW H) → Nat
  | [] => 0
  | d :: r => uptoBulk d + uptoBulkAll r
def uptoBulkEntries {H : Type} : List (Lit × DataW H) → Nat
  | [] => 0
  | x :: r => uptoBulkEntry x + uptoBulkEntries r
def uptoBulkEntry {H : Type} : Lit × DataW H → Nat
  | (.string bytes, d) => bytes.length + uptoBulk d + 1
  | (_, d) => uptoBulk d + 1
 end
def uptoSmall : (H : Type) → List (DataW H) → Bool := fun _ ds => decide (uptoBulkAll ds ≤ 1048576)
def OpenSpec.upto (s : _root_.Go.ChangeSpec) : _root_.Go.OpenSpec := { _root_.Go.OpenSpec.ofChange s with cond := some uptoSmall }

/-- 'beaconrylaw20.GraphLeast', WHERE WHAT IT READS IS OF BULK AT MOST 1048576: true; the input reads as it did. -/
def graphLeastUptoRow : OpenClaim := { program := "ytdnnlfdblfcajaa", sum := "6666bcc84efee882b2b1d2c3c7b25f4ed2ea9d58e999517e410e344e48643f0d", func := "beaconry/beaconrylaw20.GraphLeast", spec := "graphLeast", unfollowed := true, recurses := true, apart := false, narrowed := true }
def GraphLeastUptoSaid : Prop := graphLeastUptoRow.holds Try.pinned (OpenSpec.upto graphLeastSpec)

/-- 'beaconrylaw20.GraphTriangle', WHERE WHAT IT READS IS OF BULK AT MOST 1048576: true; the input reads as it did. -/
def graphTriangleUptoRow : OpenClaim := { program := "ytdnnlfdblfcajaa", sum := "6666bcc84efee882b2b1d2c3c7b25f4ed2ea9d58e999517e410e344e48643f0d", func := "beaconry/beaconrylaw20.GraphTriangle", spec := "graphTriangle", unfollowed := true, recurses := true, apart := false, narrowed := true }
def GraphTriangleUptoSaid : Prop := graphTriangleUptoRow.holds Try.pinned (OpenSpec.upto graphTriangleSpec)

/-- 'beaconrylaw20.GraphReaches', WHERE WHAT IT READS IS OF BULK AT MOST 1048576: true; the input reads as it did. -/
def graphReachesUptoRow : OpenClaim := { program := "ytdnnlfdblfcajaa", sum := "6666bcc84efee882b2b1d2c3c7b25f4ed2ea9d58e999517e410e344e48643f0d", func := "beaconry/beaconrylaw20.GraphReaches", spec := "graphReaches", unfollowed := true, recurses := true, apart := false, narrowed := true }
def GraphReachesUptoSaid : Prop := graphReachesUptoRow.holds Try.pinned (OpenSpec.upto graphReachesSpec)

/-- 'beaconrylaw20.GraphMore', WHERE WHAT IT READS IS OF BULK AT MOST 1048576: true; the input reads as it did. -/
def graphMoreUptoRow : OpenClaim := { program := "ytdnnlfdblfcajaa", sum := "6666bcc84efee882b2b1d2c3c7b25f4ed2ea9d58e999517e410e344e48643f0d", func := "beaconry/beaconrylaw20.GraphMore", spec := "graphMore", unfollowed := true, recurses := true, apart := false, narrowed := true }
def GraphMoreUptoSaid : Prop := graphMoreUptoRow.holds Try.pinned (OpenSpec.upto graphMoreSpec)

/-- 'beaconrylaw20.GraphTurned', WHERE WHAT IT READS IS OF BULK AT MOST 1048576: true; the input reads as it did. -/
def graphTurnedUptoRow : OpenClaim := { program := "ytdnnlfdblfcajaa", sum := "6666bcc84efee882b2b1d2c3c7b25f4ed2ea9d58e999517e410e344e48643f0d", func := "beaconry/beaconrylaw20.GraphTurned", spec := "graphTurned", unfollowed := true, recurses := true, apart := false, narrowed := true }
def GraphTurnedUptoSaid : Prop := graphTurnedUptoRow.holds Try.pinned (OpenSpec.upto graphTurnedSpec)

end Rows
end Go.Proofs.Ytdnnlfdblfcajaa
