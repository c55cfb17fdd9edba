/-
  No cell of these rows narrows 'for every input' (looked for: loops, veiled, ifaces, maps, wideKeys, modest, calm, conditions, laid).
  DERIVED. THE GIVEN ROWS OF THIS SEAT. 3 by the template 'for every input the law returns true; each argument reads behind the call as it read before'; 0 by the template 'total and deterministic' (their statements: YtoghablinbmljaaTotals.lean).
  GIVEN WITH THE SEED: the statements are not yours to turn. If you find one false, say at which input.
  Laid BY PROGRAM, IN A SANDBOX (cutbox-rows.mjs): the forced cells as the released guide's own fill.sh prints them over the translation fda2d306d66a4850… (all of the seat's roots in one cut). By AI agents, Wed Nov 11 2026. No macro, syntax, notation, axiom, sorry.
-/
import Derived.Test.YtoghablinbmljaaChecked
import GoSem.Claim
import GoSem.ClaimJoined
import GoSem.ClaimMapViews
import Derived.JoinedTies
import Derived.KernelRfl
namespace Go.Proofs.Ytoghablinbmljaa
/- THE CELL 'sum', in the pinned program and in every row, IS THE sha256 OF THE DUMP (.gsa) THAT YtoghablinbmljaaProg.lean LOADS. Nothing in Lean hashes anything: it is a label: what it is worth is what the hold of that sum in a sandbox is worth. -/
noncomputable def Try.pinned : Pinned := { name := "ytoghablinbmljaa", sum := "fda2d306d66a4850cb71fc4bf6c54d245e4410e50237681f94ad00d833e2a96c", checked := Try.checked }
namespace Rows
def none {H : Type} : Left H := { results := [], args := [] }

/-- 'carrefourlaw22.TagsFull': WHATEVER THE INPUT: true; the input reads as it did. -/
def tagsFullSpec : ChangeSpec := { name := "tagsFull", fn := fun _ => fun
  | [d1, d2] => { results := [.lit (.bool true)], args := [d1, d2] }
  | _ => none }
def tagsFullRow : OpenClaim := { program := "ytoghablinbmljaa", sum := "fda2d306d66a4850cb71fc4bf6c54d245e4410e50237681f94ad00d833e2a96c", func := "carrefour/carrefourlaw22.TagsFull", spec := "tagsFull", plainKeys := false, apart := false }
def TagsFullSaid : Prop := tagsFullRow.holds Try.pinned (OpenSpec.ofChange tagsFullSpec)

/-- ITS FALSE NEIGHBOUR: 'it returns false'. Refute it at one input. -/
def tagsFullWrong : ChangeSpec := { name := "tagsFull", fn := fun _ => fun
  | [d1, d2] => { results := [.lit (.bool false)], args := [d1, d2] }
  | _ => none }
def TagsFullWrongFalsely : Prop := tagsFullRow.holds Try.pinned (OpenSpec.ofChange tagsFullWrong)

/-- 'carrefourlaw22.TagsKeep': WHATEVER THE INPUT: true; the input reads as it did. -/
def tagsKeepSpec : ChangeSpec := { name := "tagsKeep", fn := fun _ => fun
  | [d1, d2] => { results := [.lit (.bool true)], args := [d1, d2] }
  | _ => none }
def tagsKeepRow : OpenClaim := { program := "ytoghablinbmljaa", sum := "fda2d306d66a4850cb71fc4bf6c54d245e4410e50237681f94ad00d833e2a96c", func := "carrefour/carrefourlaw22.TagsKeep", spec := "tagsKeep", plainKeys := false, apart := false }
def TagsKeepSaid : Prop := tagsKeepRow.holds Try.pinned (OpenSpec.ofChange tagsKeepSpec)

/-- ITS FALSE NEIGHBOUR: 'it returns false'. Refute it at one input. -/
def tagsKeepWrong : ChangeSpec := { name := "tagsKeep", fn := fun _ => fun
  | [d1, d2] => { results := [.lit (.bool false)], args := [d1, d2] }
  | _ => none }
def TagsKeepWrongFalsely : Prop := tagsKeepRow.holds Try.pinned (OpenSpec.ofChange tagsKeepWrong)

/-- 'carrefourlaw22.TagsRuns': WHATEVER THE INPUT: true; the input reads as it did. -/
def tagsRunsSpec : ChangeSpec := { name := "tagsRuns", fn := fun _ => fun
  | [d1, d2] => { results := [.lit (.bool true)], args := [d1, d2] }
  | _ => none }
def tagsRunsRow : OpenClaim := { program := "ytoghablinbmljaa", sum := "fda2d306d66a4850cb71fc4bf6c54d245e4410e50237681f94ad00d833e2a96c", func := "carrefour/carrefourlaw22.TagsRuns", spec := "tagsRuns", plainKeys := false, apart := false }
def TagsRunsSaid : Prop := tagsRunsRow.holds Try.pinned (OpenSpec.ofChange tagsRunsSpec)

/-- ITS FALSE NEIGHBOUR: 'it returns false'. Refute it at one input. -/
def tagsRunsWrong : ChangeSpec := { name := "tagsRuns", fn := fun _ => fun
  | [d1, d2] => { results := [.lit (.bool false)], args := [d1, d2] }
  | _ => none }
def TagsRunsWrongFalsely : Prop := tagsRunsRow.holds Try.pinned (OpenSpec.ofChange tagsRunsWrong)

/- THE SECOND FORM. 'bulk': how many values and letters a reading holds, each counted each time it is reached (what is shared counts as often as it is met; a slice's spare places count too). A statement '..UptoSaid' is the law's where the arguments, and the package variables that the reading takes, are together of bulk at most 1048576: NARROWER than '..Said'. Prove '..Said' where nothing that the law and all that it calls make is longer than what came in: it says more and counts as full. Else prove '..UptoSaid'. A law counts once. -/
mutual
def uptoBulk {H : Type} : DataW H → Nat
  | .lit (.string bytes) => bytes.length + 1
  | .lit _ => 1
  | .nil => 1
  | .ptr d => uptoBulk d + 1
  | .slice elems spare => uptoBulkAll elems + uptoBulkAll spare + 1
  | .agg parts => uptoBulkAll parts + 1
  | .iface _ d => uptoBulk d + 1
  | .map entries => uptoBulkEntries entries + 1
  | .held _ => 1
def uptoBulkAll {H : Type} : List (DataW H) → Nat
  | [] => 0
  | d :: r => uptoBulk d + uptoBulkAll r
def uptoBulkEntries {H : Type} : List (Lit × DataW H) → Nat
  | [] => 0
  | x :: r => uptoBulkEntry x + uptoBulkEntries r
def uptoBulkEntry {H : Type} : Lit × DataW H → Nat
  | (.string bytes, d) => bytes.length + uptoBulk d + 1
  | (_, d) => uptoBulk d + 1
 end
def uptoSmall : (H : Type) → List (DataW H) → Bool := fun _ ds => decide (uptoBulkAll ds ≤ 1048576)
def OpenSpec.upto (s : _root_.Go.ChangeSpec) : _root_.Go.OpenSpec := { _root_.Go.OpenSpec.ofChange s with cond := some uptoSmall }

/-- 'carrefourlaw22.TagsFull', WHERE WHAT IT READS IS OF BULK AT MOST 1048576: true; the input reads as it did. -/
def tagsFullUptoRow : OpenClaim := { program := "ytoghablinbmljaa", sum := "fda2d306d66a4850cb71fc4bf6c54d245e4410e50237681f94ad00d833e2a96c", func := "carrefour/carrefourlaw22.TagsFull", spec := "tagsFull", plainKeys := false, apart := false, narrowed := true }
def TagsFullUptoSaid : Prop := tagsFullUptoRow.holds Try.pinned (OpenSpec.upto tagsFullSpec)

/-- 'carrefourlaw22.TagsKeep', WHERE WHAT IT READS IS OF BULK AT MOST 1048576: true; the input reads as it did. -/
def tagsKeepUptoRow : OpenClaim := { program := "ytoghablinbmljaa", sum := "fda2d306d66a4850cb71fc4bf6c54d245e4410e50237681f94ad00d833e2a96c", func := "carrefour/carrefourlaw22.TagsKeep", spec := "tagsKeep", plainKeys := false, apart := false, narrowed := true }
def TagsKeepUptoSaid : Prop := tagsKeepUptoRow.holds Try.pinned (OpenSpec.upto tagsKeepSpec)

/-- 'carrefourlaw22.TagsRuns', WHERE WHAT IT READS IS OF BULK AT MOST 1048576: true; the input reads as it did. -/
def tagsRunsUptoRow : OpenClaim := { program := "ytoghablinbmljaa", sum := "fda2d306d66a4850cb71fc4bf6c54d245e4410e50237681f94ad00d833e2a96c", func := "carrefour/carrefourlaw22.TagsRuns", spec := "tagsRuns", plainKeys := false, apart := false, narrowed := true }
def TagsRunsUptoSaid : Prop := tagsRunsUptoRow.holds Try.pinned (OpenSpec.upto tagsRunsSpec)

end Rows
end Go.Proofs.Ytoghablinbmljaa
