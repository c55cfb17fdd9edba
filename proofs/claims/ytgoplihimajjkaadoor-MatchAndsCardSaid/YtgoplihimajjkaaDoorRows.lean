/-
  NARROWER THAN 'FOR EVERY INPUT', by the rows' own cells (each row's printed sentence says how): HeadWidths: laid · HeadTwice: laid · HeadGets: laid · HeadOrders: laid · MatchHits: laid · HeadWiths: laid · MatchMakes: laid · MatchNets: laid · MatchAnds: laid.
  DERIVED. THE GIVEN ROWS OF THIS SEAT. 9 by the template 'for every input the law returns true; each argument reads behind the call as it read before'; 0 by the template 'total and deterministic' (their statements: YtgoplihimajjkaaDoorTotals.lean).
  GIVEN WITH THE SEED: the statements are not yours to turn. If you find one false, say at which input.
  Laid BY PROGRAM, IN A SANDBOX (cutbox-rows.mjs): the forced cells as the released guide's own fill.sh prints them over the translation d7822bc8acfbc7f9… (all of the seat's roots in one cut). By AI agents, Wed Nov 11 2026. No macro, syntax, notation, axiom, sorry.
-/
import Derived.Test.YtgoplihimajjkaaDoorChecked
import GoSem.Claim
import GoSem.ClaimJoined
import GoSem.ClaimMapViews
import Derived.JoinedTies
import Derived.KernelRfl
namespace Go.Proofs.YtgoplihimajjkaaDoor
/- THE CELL 'sum', in the pinned program and in every row, IS THE sha256 OF THE DUMP (.gsa) THAT YtgoplihimajjkaaDoorProg.lean LOADS. Nothing in Lean hashes anything: it is a label: what it is worth is what the hold of that sum in a sandbox is worth. -/
noncomputable def Tryd.pinned : Pinned := { name := "ytgoplihimajjkaadoor", sum := "d7822bc8acfbc7f9f3b293f5d9724fa01c652c8a185d203f82e4f23143e6490c", checked := Tryd.checked }
namespace Rows
def none {H : Type} : Left H := { results := [], args := [] }

/- WHAT THE LISTED PACKAGE-LEVEL VARIABLES READ AS WHEN THE CALL BEGINS. Each datum BY PROGRAM (the guide's laid-datum.mjs) off the statement by which the dump's own 'gosem.cut.vars' lays the variable. In a bare row this is a premise. The card (YtgoplihimajjkaaDoorCards.lean) ties it to the program's text. -/
def laid_carrefour_head_widths {H : Type} : DataW H := .agg [.lit (.int .i64 8), .lit (.int .i64 48), .lit (.int .i64 48), .lit (.int .i64 16), .lit (.int .i64 32), .lit (.int .i64 32), .lit (.int .i64 8), .lit (.int .i64 16), .lit (.int .i64 16)]

/-- 'carrefourlaw04.HeadWidths': WHATEVER THE INPUT: true; the input reads as it did. -/
def headWidthsSpec : ChangeSpec := { name := "headWidths", fn := fun _ => fun
  | [d] => { results := [.lit (.bool true)], args := [d] }
  | _ => none }
def headWidthsRow : OpenClaim := { program := "ytgoplihimajjkaadoor", sum := "d7822bc8acfbc7f9f3b293f5d9724fa01c652c8a185d203f82e4f23143e6490c", func := "carrefour/carrefourlaw04.HeadWidths", spec := "headWidths", named := ["carrefour/head.widths"], apart := false, laid := [("carrefour/head.widths", laid_carrefour_head_widths)] }
def HeadWidthsSaid : Prop := headWidthsRow.holds Tryd.pinned (OpenSpec.ofChange headWidthsSpec)

/-- ITS FALSE NEIGHBOUR: 'it returns false'. Refute it at one input. -/
def headWidthsWrong : ChangeSpec := { name := "headWidths", fn := fun _ => fun
  | [d] => { results := [.lit (.bool false)], args := [d] }
  | _ => none }
def HeadWidthsWrongFalsely : Prop := headWidthsRow.holds Tryd.pinned (OpenSpec.ofChange headWidthsWrong)

/-- 'carrefourlaw04.HeadTwice': WHATEVER THE INPUT: true; the input reads as it did. -/
def headTwiceSpec : ChangeSpec := { name := "headTwice", fn := fun _ => fun
  | [d1, d2, d3, d4, d5] => { results := [.lit (.bool true)], args := [d1, d2, d3, d4, d5] }
  | _ => none }
def headTwiceRow : OpenClaim := { program := "ytgoplihimajjkaadoor", sum := "d7822bc8acfbc7f9f3b293f5d9724fa01c652c8a185d203f82e4f23143e6490c", func := "carrefour/carrefourlaw04.HeadTwice", spec := "headTwice", named := ["carrefour/head.widths"], apart := false, laid := [("carrefour/head.widths", laid_carrefour_head_widths)] }
def HeadTwiceSaid : Prop := headTwiceRow.holds Tryd.pinned (OpenSpec.ofChange headTwiceSpec)

/-- ITS FALSE NEIGHBOUR: 'it returns false'. Refute it at one input. -/
def headTwiceWrong : ChangeSpec := { name := "headTwice", fn := fun _ => fun
  | [d1, d2, d3, d4, d5] => { results := [.lit (.bool false)], args := [d1, d2, d3, d4, d5] }
  | _ => none }
def HeadTwiceWrongFalsely : Prop := headTwiceRow.holds Tryd.pinned (OpenSpec.ofChange headTwiceWrong)

/-- 'carrefourlaw04.HeadGets': WHATEVER THE INPUT: true; the input reads as it did. -/
def headGetsSpec : ChangeSpec := { name := "headGets", fn := fun _ => fun
  | [d1, d2] => { results := [.lit (.bool true)], args := [d1, d2] }
  | _ => none }
def headGetsRow : OpenClaim := { program := "ytgoplihimajjkaadoor", sum := "d7822bc8acfbc7f9f3b293f5d9724fa01c652c8a185d203f82e4f23143e6490c", func := "carrefour/carrefourlaw04.HeadGets", spec := "headGets", named := ["carrefour/head.widths"], apart := false, laid := [("carrefour/head.widths", laid_carrefour_head_widths)] }
def HeadGetsSaid : Prop := headGetsRow.holds Tryd.pinned (OpenSpec.ofChange headGetsSpec)

/-- ITS FALSE NEIGHBOUR: 'it returns false'. Refute it at one input. -/
def headGetsWrong : ChangeSpec := { name := "headGets", fn := fun _ => fun
  | [d1, d2] => { results := [.lit (.bool false)], args := [d1, d2] }
  | _ => none }
def HeadGetsWrongFalsely : Prop := headGetsRow.holds Tryd.pinned (OpenSpec.ofChange headGetsWrong)

/-- 'carrefourlaw04.HeadOrders': WHATEVER THE INPUT: true; the input reads as it did. -/
def headOrdersSpec : ChangeSpec := { name := "headOrders", fn := fun _ => fun
  | [d1, d2] => { results := [.lit (.bool true)], args := [d1, d2] }
  | _ => none }
def headOrdersRow : OpenClaim := { program := "ytgoplihimajjkaadoor", sum := "d7822bc8acfbc7f9f3b293f5d9724fa01c652c8a185d203f82e4f23143e6490c", func := "carrefour/carrefourlaw04.HeadOrders", spec := "headOrders", named := ["carrefour/head.widths"], apart := false, laid := [("carrefour/head.widths", laid_carrefour_head_widths)] }
def HeadOrdersSaid : Prop := headOrdersRow.holds Tryd.pinned (OpenSpec.ofChange headOrdersSpec)

/-- ITS FALSE NEIGHBOUR: 'it returns false'. Refute it at one input. -/
def headOrdersWrong : ChangeSpec := { name := "headOrders", fn := fun _ => fun
  | [d1, d2] => { results := [.lit (.bool false)], args := [d1, d2] }
  | _ => none }
def HeadOrdersWrongFalsely : Prop := headOrdersRow.holds Tryd.pinned (OpenSpec.ofChange headOrdersWrong)

/-- 'carrefourlaw15.MatchHits': WHATEVER THE INPUT: true; the input reads as it did. -/
def matchHitsSpec : ChangeSpec := { name := "matchHits", fn := fun _ => fun
  | [d1, d2] => { results := [.lit (.bool true)], args := [d1, d2] }
  | _ => none }
def matchHitsRow : OpenClaim := { program := "ytgoplihimajjkaadoor", sum := "d7822bc8acfbc7f9f3b293f5d9724fa01c652c8a185d203f82e4f23143e6490c", func := "carrefour/carrefourlaw15.MatchHits", spec := "matchHits", named := ["carrefour/head.widths"], apart := false, laid := [("carrefour/head.widths", laid_carrefour_head_widths)] }
def MatchHitsSaid : Prop := matchHitsRow.holds Tryd.pinned (OpenSpec.ofChange matchHitsSpec)

/-- ITS FALSE NEIGHBOUR: 'it returns false'. Refute it at one input. -/
def matchHitsWrong : ChangeSpec := { name := "matchHits", fn := fun _ => fun
  | [d1, d2] => { results := [.lit (.bool false)], args := [d1, d2] }
  | _ => none }
def MatchHitsWrongFalsely : Prop := matchHitsRow.holds Tryd.pinned (OpenSpec.ofChange matchHitsWrong)

/-- 'carrefourlaw04.HeadWiths': WHATEVER THE INPUT: true; the input reads as it did. -/
def headWithsSpec : ChangeSpec := { name := "headWiths", fn := fun _ => fun
  | [d1, d2, d3] => { results := [.lit (.bool true)], args := [d1, d2, d3] }
  | _ => none }
def headWithsRow : OpenClaim := { program := "ytgoplihimajjkaadoor", sum := "d7822bc8acfbc7f9f3b293f5d9724fa01c652c8a185d203f82e4f23143e6490c", func := "carrefour/carrefourlaw04.HeadWiths", spec := "headWiths", named := ["carrefour/head.widths"], apart := false, laid := [("carrefour/head.widths", laid_carrefour_head_widths)] }
def HeadWithsSaid : Prop := headWithsRow.holds Tryd.pinned (OpenSpec.ofChange headWithsSpec)

/-- ITS FALSE NEIGHBOUR: 'it returns false'. Refute it at one input. -/
def headWithsWrong : ChangeSpec := { name := "headWiths", fn := fun _ => fun
  | [d1, d2, d3] => { results := [.lit (.bool false)], args := [d1, d2, d3] }
  | _ => none }
def HeadWithsWrongFalsely : Prop := headWithsRow.holds Tryd.pinned (OpenSpec.ofChange headWithsWrong)

/-- 'carrefourlaw15.MatchMakes': WHATEVER THE INPUT: true; the input reads as it did. -/
def matchMakesSpec : ChangeSpec := { name := "matchMakes", fn := fun _ => fun
  | [d1, d2, d3, d4, d5] => { results := [.lit (.bool true)], args := [d1, d2, d3, d4, d5] }
  | _ => none }
def matchMakesRow : OpenClaim := { program := "ytgoplihimajjkaadoor", sum := "d7822bc8acfbc7f9f3b293f5d9724fa01c652c8a185d203f82e4f23143e6490c", func := "carrefour/carrefourlaw15.MatchMakes", spec := "matchMakes", named := ["carrefour/head.widths"], apart := false, laid := [("carrefour/head.widths", laid_carrefour_head_widths)] }
def MatchMakesSaid : Prop := matchMakesRow.holds Tryd.pinned (OpenSpec.ofChange matchMakesSpec)

/-- ITS FALSE NEIGHBOUR: 'it returns false'. Refute it at one input. -/
def matchMakesWrong : ChangeSpec := { name := "matchMakes", fn := fun _ => fun
  | [d1, d2, d3, d4, d5] => { results := [.lit (.bool false)], args := [d1, d2, d3, d4, d5] }
  | _ => none }
def MatchMakesWrongFalsely : Prop := matchMakesRow.holds Tryd.pinned (OpenSpec.ofChange matchMakesWrong)

/-- 'carrefourlaw15.MatchNets': WHATEVER THE INPUT: true; the input reads as it did. -/
def matchNetsSpec : ChangeSpec := { name := "matchNets", fn := fun _ => fun
  | [d1, d2] => { results := [.lit (.bool true)], args := [d1, d2] }
  | _ => none }
def matchNetsRow : OpenClaim := { program := "ytgoplihimajjkaadoor", sum := "d7822bc8acfbc7f9f3b293f5d9724fa01c652c8a185d203f82e4f23143e6490c", func := "carrefour/carrefourlaw15.MatchNets", spec := "matchNets", named := ["carrefour/head.widths"], apart := false, laid := [("carrefour/head.widths", laid_carrefour_head_widths)] }
def MatchNetsSaid : Prop := matchNetsRow.holds Tryd.pinned (OpenSpec.ofChange matchNetsSpec)

/-- ITS FALSE NEIGHBOUR: 'it returns false'. Refute it at one input. -/
def matchNetsWrong : ChangeSpec := { name := "matchNets", fn := fun _ => fun
  | [d1, d2] => { results := [.lit (.bool false)], args := [d1, d2] }
  | _ => none }
def MatchNetsWrongFalsely : Prop := matchNetsRow.holds Tryd.pinned (OpenSpec.ofChange matchNetsWrong)

/-- 'carrefourlaw15.MatchAnds': WHATEVER THE INPUT: true; the input reads as it did. -/
def matchAndsSpec : ChangeSpec := { name := "matchAnds", fn := fun _ => fun
  | [d1, d2, d3] => { results := [.lit (.bool true)], args := [d1, d2, d3] }
  | _ => none }
def matchAndsRow : OpenClaim := { program := "ytgoplihimajjkaadoor", sum := "d7822bc8acfbc7f9f3b293f5d9724fa01c652c8a185d203f82e4f23143e6490c", func := "carrefour/carrefourlaw15.MatchAnds", spec := "matchAnds", named := ["carrefour/head.widths"], apart := false, laid := [("carrefour/head.widths", laid_carrefour_head_widths)] }
def MatchAndsSaid : Prop := matchAndsRow.holds Tryd.pinned (OpenSpec.ofChange matchAndsSpec)

/-- ITS FALSE NEIGHBOUR: 'it returns false'. Refute it at one input. -/
def matchAndsWrong : ChangeSpec := { name := "matchAnds", fn := fun _ => fun
  | [d1, d2, d3] => { results := [.lit (.bool false)], args := [d1, d2, d3] }
  | _ => none }
def MatchAndsWrongFalsely : Prop := matchAndsRow.holds Tryd.pinned (OpenSpec.ofChange matchAndsWrong)

/- THE SECOND FORM. 'bulk': how many values and letters a reading holds, each counted each time it is reached (what is shared counts as often as it is met; a slice's spare places count too). A statement '..UptoSaid' is the law's where the arguments, and the package variables that the reading takes, are together of bulk at most 1048576: NARROWER than '..Said'. Prove '..Said' where nothing that the law and all that it calls make is longer than what came in: it says more and counts as full. Else prove '..UptoSaid'. A law counts once. -/
mutual
def uptoBulk {H : Type} : DataW H → Nat
  | .lit (.string bytes) => bytes.length + 1
  | .lit _ => 1
  | .nil => 1
  | .ptr d => uptoBulk d + 1
  | .slice elems spare => uptoBulkAll elems + uptoBulkAll spare + 1
  | .agg parts => uptoBulkAll parts + 1
  | .iface _ d => uptoBulk d + 1
  | .map entries => uptoBulkEntries entries + 1
  | .held _ => 1
def uptoBulkAll {H : Type} : List (DataW H) → Nat
  | [] => 0
  | d :: r => uptoBulk d + uptoBulkAll r
def uptoBulkEntries {H : Type} : List (Lit × DataW H) → Nat
  | [] => 0
  | x :: r => uptoBulkEntry x + uptoBulkEntries r
def uptoBulkEntry {H : Type} : Lit × DataW H → Nat
  | (.string bytes, d) => bytes.length + uptoBulk d + 1
  | (_, d) => uptoBulk d + 1
 end
def uptoSmall : (H : Type) → List (DataW H) → Bool := fun _ ds => decide (uptoBulkAll ds ≤ 1048576)
def OpenSpec.upto (s : _root_.Go.ChangeSpec) : _root_.Go.OpenSpec := { _root_.Go.OpenSpec.ofChange s with cond := some uptoSmall }

/-- 'carrefourlaw04.HeadWidths', WHERE WHAT IT READS IS OF BULK AT MOST 1048576: true; the input reads as it did. -/
def headWidthsUptoRow : OpenClaim := { program := "ytgoplihimajjkaadoor", sum := "d7822bc8acfbc7f9f3b293f5d9724fa01c652c8a185d203f82e4f23143e6490c", func := "carrefour/carrefourlaw04.HeadWidths", spec := "headWidths", named := ["carrefour/head.widths"], apart := false, laid := [("carrefour/head.widths", laid_carrefour_head_widths)], narrowed := true }
def HeadWidthsUptoSaid : Prop := headWidthsUptoRow.holds Tryd.pinned (OpenSpec.upto headWidthsSpec)

/-- 'carrefourlaw04.HeadTwice', WHERE WHAT IT READS IS OF BULK AT MOST 1048576: true; the input reads as it did. -/
def headTwiceUptoRow : OpenClaim := { program := "ytgoplihimajjkaadoor", sum := "d7822bc8acfbc7f9f3b293f5d9724fa01c652c8a185d203f82e4f23143e6490c", func := "carrefour/carrefourlaw04.HeadTwice", spec := "headTwice", named := ["carrefour/head.widths"], apart := false, laid := [("carrefour/head.widths", laid_carrefour_head_widths)], narrowed := true }
def HeadTwiceUptoSaid : Prop := headTwiceUptoRow.holds Tryd.pinned (OpenSpec.upto headTwiceSpec)

/-- 'carrefourlaw04.HeadGets', WHERE WHAT IT READS IS OF BULK AT MOST 1048576: true; the input reads as it did. -/
def headGetsUptoRow : OpenClaim := { program := "ytgoplihimajjkaadoor", sum := "d7822bc8acfbc7f9f3b293f5d9724fa01c652c8a185d203f82e4f23143e6490c", func := "carrefour/carrefourlaw04.HeadGets", spec := "headGets", named := ["carrefour/head.widths"], apart := false, laid := [("carrefour/head.widths", laid_carrefour_head_widths)], narrowed := true }
def HeadGetsUptoSaid : Prop := headGetsUptoRow.holds Tryd.pinned (OpenSpec.upto headGetsSpec)

/-- 'carrefourlaw04.HeadOrders', WHERE WHAT IT READS IS OF BULK AT MOST 1048576: true; the input reads as it did. -/
def headOrdersUptoRow : OpenClaim := { program := "ytgoplihimajjkaadoor", sum := "d7822bc8acfbc7f9f3b293f5d9724fa01c652c8a185d203f82e4f23143e6490c", func := "carrefour/carrefourlaw04.HeadOrders", spec := "headOrders", named := ["carrefour/head.widths"], apart := false, laid := [("carrefour/head.widths", laid_carrefour_head_widths)], narrowed := true }
def HeadOrdersUptoSaid : Prop := headOrdersUptoRow.holds Tryd.pinned (OpenSpec.upto headOrdersSpec)

/-- 'carrefourlaw15.MatchHits', WHERE WHAT IT READS IS OF BULK AT MOST 1048576: true; the input reads as it did. -/
def matchHitsUptoRow : OpenClaim := { program := "ytgoplihimajjkaadoor", sum := "d7822bc8acfbc7f9f3b293f5d9724fa01c652c8a185d203f82e4f23143e6490c", func := "carrefour/carrefourlaw15.MatchHits", spec := "matchHits", named := ["carrefour/head.widths"], apart := false, laid := [("carrefour/head.widths", laid_carrefour_head_widths)], narrowed := true }
def MatchHitsUptoSaid : Prop := matchHitsUptoRow.holds Tryd.pinned (OpenSpec.upto matchHitsSpec)

/-- 'carrefourlaw04.HeadWiths', WHERE WHAT IT READS IS OF BULK AT MOST 1048576: true; the input reads as it did. -/
def headWithsUptoRow : OpenClaim := { program := "ytgoplihimajjkaadoor", sum := "d7822bc8acfbc7f9f3b293f5d9724fa01c652c8a185d203f82e4f23143e6490c", func := "carrefour/carrefourlaw04.HeadWiths", spec := "headWiths", named := ["carrefour/head.widths"], apart := false, laid := [("carrefour/head.widths", laid_carrefour_head_widths)], narrowed := true }
def HeadWithsUptoSaid : Prop := headWithsUptoRow.holds Tryd.pinned (OpenSpec.upto headWithsSpec)

/-- 'carrefourlaw15.MatchMakes', WHERE WHAT IT READS IS OF BULK AT MOST 1048576: true; the input reads as it did. -/
def matchMakesUptoRow : OpenClaim := { program := "ytgoplihimajjkaadoor", sum := "d7822bc8acfbc7f9f3b293f5d9724fa01c652c8a185d203f82e4f23143e6490c", func := "carrefour/carrefourlaw15.MatchMakes", spec := "matchMakes", named := ["carrefour/head.widths"], apart := false, laid := [("carrefour/head.widths", laid_carrefour_head_widths)], narrowed := true }
def MatchMakesUptoSaid : Prop := matchMakesUptoRow.holds Tryd.pinned (OpenSpec.upto matchMakesSpec)

/-- 'carrefourlaw15.MatchNets', WHERE WHAT IT READS IS OF BULK AT MOST 1048576: true; the input reads as it did. -/
def matchNetsUptoRow : OpenClaim := { program := "ytgoplihimajjkaadoor", sum := "d7822bc8acfbc7f9f3b293f5d9724fa01c652c8a185d203f82e4f23143e6490c", func := "carrefour/carrefourlaw15.MatchNets", spec := "matchNets", named := ["carrefour/head.widths"], apart := false, laid := [("carrefour/head.widths", laid_carrefour_head_widths)], narrowed := true }
def MatchNetsUptoSaid : Prop := matchNetsUptoRow.holds Tryd.pinned (OpenSpec.upto matchNetsSpec)

/-- 'carrefourlaw15.MatchAnds', WHERE WHAT IT READS IS OF BULK AT MOST 1048576: true; the input reads as it did. -/
def matchAndsUptoRow : OpenClaim := { program := "ytgoplihimajjkaadoor", sum := "d7822bc8acfbc7f9f3b293f5d9724fa01c652c8a185d203f82e4f23143e6490c", func := "carrefour/carrefourlaw15.MatchAnds", spec := "matchAnds", named := ["carrefour/head.widths"], apart := false, laid := [("carrefour/head.widths", laid_carrefour_head_widths)], narrowed := true }
def MatchAndsUptoSaid : Prop := matchAndsUptoRow.holds Tryd.pinned (OpenSpec.upto matchAndsSpec)

end Rows
end Go.Proofs.YtgoplihimajjkaaDoor
