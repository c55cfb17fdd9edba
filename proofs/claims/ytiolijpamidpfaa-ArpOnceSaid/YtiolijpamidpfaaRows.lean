/-
  No cell of these rows narrows 'for every input' (looked for: loops, veiled, ifaces, maps, wideKeys, modest, calm, conditions, laid).
  DERIVED. THE GIVEN ROWS OF THIS SEAT. 7 by the template 'for every input the law returns true; each argument reads behind the call as it read before'; 0 by the template 'total and deterministic' (their statements: YtiolijpamidpfaaTotals.lean).
  GIVEN WITH THE SEED: the statements are not yours to turn. If you find one false, say at which input.
  Laid BY PROGRAM, IN A SANDBOX (cutbox-rows.mjs): the forced cells as the released guide's own fill.sh prints them over the translation ed2aa03f853752a2… (all of the seat's roots in one cut). By AI agents, Wed Nov 11 2026. No macro, syntax, notation, axiom, sorry.
-/
import Derived.Test.YtiolijpamidpfaaChecked
import GoSem.Claim
import GoSem.ClaimJoined
import GoSem.ClaimMapViews
import Derived.JoinedTies
import Derived.KernelRfl
namespace Go.Proofs.Ytiolijpamidpfaa
/- THE CELL 'sum', in the pinned program and in every row, IS THE sha256 OF THE DUMP (.gsa) THAT YtiolijpamidpfaaProg.lean LOADS. Nothing in Lean hashes anything: it is a label: what it is worth is what the hold of that sum in a sandbox is worth. -/
noncomputable def Try.pinned : Pinned := { name := "ytiolijpamidpfaa", sum := "ed2aa03f853752a2e7b4f377777e4b4395e67a02837a2790058d1680143a8f94", checked := Try.checked }
namespace Rows
def none {H : Type} : Left H := { results := [], args := [] }

/-- 'carrefourlaw05.FrameParses': WHATEVER THE INPUT: true; the input reads as it did. -/
def frameParsesSpec : ChangeSpec := { name := "frameParses", fn := fun _ => fun
  | [d1, d2] => { results := [.lit (.bool true)], args := [d1, d2] }
  | _ => none }
def frameParsesRow : OpenClaim := { program := "ytiolijpamidpfaa", sum := "ed2aa03f853752a2e7b4f377777e4b4395e67a02837a2790058d1680143a8f94", func := "carrefour/carrefourlaw05.FrameParses", spec := "frameParses", apart := false }
def FrameParsesSaid : Prop := frameParsesRow.holds Try.pinned (OpenSpec.ofChange frameParsesSpec)

/-- ITS FALSE NEIGHBOUR: 'it returns false'. Refute it at one input. -/
def frameParsesWrong : ChangeSpec := { name := "frameParses", fn := fun _ => fun
  | [d1, d2] => { results := [.lit (.bool false)], args := [d1, d2] }
  | _ => none }
def FrameParsesWrongFalsely : Prop := frameParsesRow.holds Try.pinned (OpenSpec.ofChange frameParsesWrong)

/-- 'carrefourlaw05.FrameAsks': WHATEVER THE INPUT: true; the input reads as it did. -/
def frameAsksSpec : ChangeSpec := { name := "frameAsks", fn := fun _ => fun
  | [d] => { results := [.lit (.bool true)], args := [d] }
  | _ => none }
def frameAsksRow : OpenClaim := { program := "ytiolijpamidpfaa", sum := "ed2aa03f853752a2e7b4f377777e4b4395e67a02837a2790058d1680143a8f94", func := "carrefour/carrefourlaw05.FrameAsks", spec := "frameAsks", apart := false }
def FrameAsksSaid : Prop := frameAsksRow.holds Try.pinned (OpenSpec.ofChange frameAsksSpec)

/-- ITS FALSE NEIGHBOUR: 'it returns false'. Refute it at one input. -/
def frameAsksWrong : ChangeSpec := { name := "frameAsks", fn := fun _ => fun
  | [d] => { results := [.lit (.bool false)], args := [d] }
  | _ => none }
def FrameAsksWrongFalsely : Prop := frameAsksRow.holds Try.pinned (OpenSpec.ofChange frameAsksWrong)

/-- 'carrefourlaw05.FrameAnswers': WHATEVER THE INPUT: true; the input reads as it did. -/
def frameAnswersSpec : ChangeSpec := { name := "frameAnswers", fn := fun _ => fun
  | [d] => { results := [.lit (.bool true)], args := [d] }
  | _ => none }
def frameAnswersRow : OpenClaim := { program := "ytiolijpamidpfaa", sum := "ed2aa03f853752a2e7b4f377777e4b4395e67a02837a2790058d1680143a8f94", func := "carrefour/carrefourlaw05.FrameAnswers", spec := "frameAnswers", apart := false }
def FrameAnswersSaid : Prop := frameAnswersRow.holds Try.pinned (OpenSpec.ofChange frameAnswersSpec)

/-- ITS FALSE NEIGHBOUR: 'it returns false'. Refute it at one input. -/
def frameAnswersWrong : ChangeSpec := { name := "frameAnswers", fn := fun _ => fun
  | [d] => { results := [.lit (.bool false)], args := [d] }
  | _ => none }
def FrameAnswersWrongFalsely : Prop := frameAnswersRow.holds Try.pinned (OpenSpec.ofChange frameAnswersWrong)

/-- 'carrefourlaw23.ArpBack': WHATEVER THE INPUT: true; the input reads as it did. -/
def arpBackSpec : ChangeSpec := { name := "arpBack", fn := fun _ => fun
  | [d] => { results := [.lit (.bool true)], args := [d] }
  | _ => none }
def arpBackRow : OpenClaim := { program := "ytiolijpamidpfaa", sum := "ed2aa03f853752a2e7b4f377777e4b4395e67a02837a2790058d1680143a8f94", func := "carrefour/carrefourlaw23.ArpBack", spec := "arpBack", unfollowed := true, recurses := true, apart := false }
def ArpBackSaid : Prop := arpBackRow.holds Try.pinned (OpenSpec.ofChange arpBackSpec)

/-- ITS FALSE NEIGHBOUR: 'it returns false'. Refute it at one input. -/
def arpBackWrong : ChangeSpec := { name := "arpBack", fn := fun _ => fun
  | [d] => { results := [.lit (.bool false)], args := [d] }
  | _ => none }
def ArpBackWrongFalsely : Prop := arpBackRow.holds Try.pinned (OpenSpec.ofChange arpBackWrong)

/-- 'carrefourlaw23.ArpOnce': WHATEVER THE INPUT: true; the input reads as it did. -/
def arpOnceSpec : ChangeSpec := { name := "arpOnce", fn := fun _ => fun
  | [d1, d2, d3] => { results := [.lit (.bool true)], args := [d1, d2, d3] }
  | _ => none }
def arpOnceRow : OpenClaim := { program := "ytiolijpamidpfaa", sum := "ed2aa03f853752a2e7b4f377777e4b4395e67a02837a2790058d1680143a8f94", func := "carrefour/carrefourlaw23.ArpOnce", spec := "arpOnce", unfollowed := true, recurses := true, apart := false }
def ArpOnceSaid : Prop := arpOnceRow.holds Try.pinned (OpenSpec.ofChange arpOnceSpec)

/-- ITS FALSE NEIGHBOUR: 'it returns false'. Refute it at one input. -/
def arpOnceWrong : ChangeSpec := { name := "arpOnce", fn := fun _ => fun
  | [d1, d2, d3] => { results := [.lit (.bool false)], args := [d1, d2, d3] }
  | _ => none }
def ArpOnceWrongFalsely : Prop := arpOnceRow.holds Try.pinned (OpenSpec.ofChange arpOnceWrong)

/-- 'carrefourlaw23.ArpAnswers': WHATEVER THE INPUT: true; the input reads as it did. -/
def arpAnswersSpec : ChangeSpec := { name := "arpAnswers", fn := fun _ => fun
  | [d1, d2] => { results := [.lit (.bool true)], args := [d1, d2] }
  | _ => none }
def arpAnswersRow : OpenClaim := { program := "ytiolijpamidpfaa", sum := "ed2aa03f853752a2e7b4f377777e4b4395e67a02837a2790058d1680143a8f94", func := "carrefour/carrefourlaw23.ArpAnswers", spec := "arpAnswers", unfollowed := true, recurses := true, apart := false }
def ArpAnswersSaid : Prop := arpAnswersRow.holds Try.pinned (OpenSpec.ofChange arpAnswersSpec)

/-- ITS FALSE NEIGHBOUR: 'it returns false'. Refute it at one input. -/
def arpAnswersWrong : ChangeSpec := { name := "arpAnswers", fn := fun _ => fun
  | [d1, d2] => { results := [.lit (.bool false)], args := [d1, d2] }
  | _ => none }
def ArpAnswersWrongFalsely : Prop := arpAnswersRow.holds Try.pinned (OpenSpec.ofChange arpAnswersWrong)

/-- 'carrefourlaw23.ArpSees': WHATEVER THE INPUT: true; the input reads as it did. -/
def arpSeesSpec : ChangeSpec := { name := "arpSees", fn := fun _ => fun
  | [d1, d2] => { results := [.lit (.bool true)], args := [d1, d2] }
  | _ => none }
def arpSeesRow : OpenClaim := { program := "ytiolijpamidpfaa", sum := "ed2aa03f853752a2e7b4f377777e4b4395e67a02837a2790058d1680143a8f94", func := "carrefour/carrefourlaw23.ArpSees", spec := "arpSees", unfollowed := true, recurses := true, apart := false }
def ArpSeesSaid : Prop := arpSeesRow.holds Try.pinned (OpenSpec.ofChange arpSeesSpec)

/-- ITS FALSE NEIGHBOUR: 'it returns false'. Refute it at one input. -/
def arpSeesWrong : ChangeSpec := { name := "arpSees", fn := fun _ => fun
  | [d1, d2] => { results := [.lit (.bool false)], args := [d1, d2] }
  | _ => none }
def ArpSeesWrongFalsely : Prop := arpSeesRow.holds Try.pinned (OpenSpec.ofChange arpSeesWrong)

/- THE SECOND FORM. 'bulk': how many values and letters a reading holds, each counted each time it is reached (what is shared counts as often as it is met; a slice's spare places count too). A statement '..UptoSaid' is the law's where the arguments, and the package variables that the reading takes, are together of bulk at most 1048576: NARROWER than '..Said'. Prove '..Said' where nothing that the law and all that it calls make is longer than what came in: it says more and counts as full. Else prove '..UptoSaid'. A law counts once. -/
mutual
def uptoBulk {H : Type} : DataW H → Nat
  | .lit (.string bytes) => bytes.length + 1
  | .lit _ => 1
  | .nil => 1
  | .ptr d => uptoBulk d + 1
  | .slice elems spare => uptoBulkAll elems + uptoBulkAll spare + 1
  | .agg parts => uptoBulkAll parts + 1
  | .iface _ d => uptoBulk d + 1
  | .map entries => uptoBulkEntries entries + 1
  | .held _ => 1
def uptoBulkAll {H : Type} : List (DataW H) → Nat
  | [] => 0
  | d :: r => uptoBulk d + uptoBulkAll r
def uptoBulkEntries {H : Type} : List (Lit × DataW H) → Nat
  | [] => 0
  | x :: r => uptoBulkEntry x + uptoBulkEntries r
def uptoBulkEntry {H : Type} : Lit × DataW H → Nat
  | (.string bytes, d) => bytes.length + uptoBulk d + 1
  | (_, d) => uptoBulk d + 1
 end
def uptoSmall : (H : Type) → List (DataW H) → Bool := fun _ ds => decide (uptoBulkAll ds ≤ 1048576)
def OpenSpec.upto (s : _root_.Go.ChangeSpec) : _root_.Go.OpenSpec := { _root_.Go.OpenSpec.ofChange s with cond := some uptoSmall }

/-- 'carrefourlaw05.FrameParses', WHERE WHAT IT READS IS OF BULK AT MOST 1048576: true; the input reads as it did. -/
def frameParsesUptoRow : OpenClaim := { program := "ytiolijpamidpfaa", sum := "ed2aa03f853752a2e7b4f377777e4b4395e67a02837a2790058d1680143a8f94", func := "carrefour/carrefourlaw05.FrameParses", spec := "frameParses", apart := false, narrowed := true }
def FrameParsesUptoSaid : Prop := frameParsesUptoRow.holds Try.pinned (OpenSpec.upto frameParsesSpec)

/-- 'carrefourlaw05.FrameAsks', WHERE WHAT IT READS IS OF BULK AT MOST 1048576: true; the input reads as it did. -/
def frameAsksUptoRow : OpenClaim := { program := "ytiolijpamidpfaa", sum := "ed2aa03f853752a2e7b4f377777e4b4395e67a02837a2790058d1680143a8f94", func := "carrefour/carrefourlaw05.FrameAsks", spec := "frameAsks", apart := false, narrowed := true }
def FrameAsksUptoSaid : Prop := frameAsksUptoRow.holds Try.pinned (OpenSpec.upto frameAsksSpec)

/-- 'carrefourlaw05.FrameAnswers', WHERE WHAT IT READS IS OF BULK AT MOST 1048576: true; the input reads as it did. -/
def frameAnswersUptoRow : OpenClaim := { program := "ytiolijpamidpfaa", sum := "ed2aa03f853752a2e7b4f377777e4b4395e67a02837a2790058d1680143a8f94", func := "carrefour/carrefourlaw05.FrameAnswers", spec := "frameAnswers", apart := false, narrowed := true }
def FrameAnswersUptoSaid : Prop := frameAnswersUptoRow.holds Try.pinned (OpenSpec.upto frameAnswersSpec)

/-- 'carrefourlaw23.ArpBack', WHERE WHAT IT READS IS OF BULK AT MOST 1048576: true; the input reads as it did. -/
def arpBackUptoRow : OpenClaim := { program := "ytiolijpamidpfaa", sum := "ed2aa03f853752a2e7b4f377777e4b4395e67a02837a2790058d1680143a8f94", func := "carrefour/carrefourlaw23.ArpBack", spec := "arpBack", unfollowed := true, recurses := true, apart := false, narrowed := true }
def ArpBackUptoSaid : Prop := arpBackUptoRow.holds Try.pinned (OpenSpec.upto arpBackSpec)

/-- 'carrefourlaw23.ArpOnce', WHERE WHAT IT READS IS OF BULK AT MOST 1048576: true; the input reads as it did. -/
def arpOnceUptoRow : OpenClaim := { program := "ytiolijpamidpfaa", sum := "ed2aa03f853752a2e7b4f377777e4b4395e67a02837a2790058d1680143a8f94", func := "carrefour/carrefourlaw23.ArpOnce", spec := "arpOnce", unfollowed := true, recurses := true, apart := false, narrowed := true }
def ArpOnceUptoSaid : Prop := arpOnceUptoRow.holds Try.pinned (OpenSpec.upto arpOnceSpec)

/-- 'carrefourlaw23.ArpAnswers', WHERE WHAT IT READS IS OF BULK AT MOST 1048576: true; the input reads as it did. -/
def arpAnswersUptoRow : OpenClaim := { program := "ytiolijpamidpfaa", sum := "ed2aa03f853752a2e7b4f377777e4b4395e67a02837a2790058d1680143a8f94", func := "carrefour/carrefourlaw23.ArpAnswers", spec := "arpAnswers", unfollowed := true, recurses := true, apart := false, narrowed := true }
def ArpAnswersUptoSaid : Prop := arpAnswersUptoRow.holds Try.pinned (OpenSpec.upto arpAnswersSpec)

/-- 'carrefourlaw23.ArpSees', WHERE WHAT IT READS IS OF BULK AT MOST 1048576: true; the input reads as it did. -/
def arpSeesUptoRow : OpenClaim := { program := "ytiolijpamidpfaa", sum := "ed2aa03f853752a2e7b4f377777e4b4395e67a02837a2790058d1680143a8f94", func := "carrefour/carrefourlaw23.ArpSees", spec := "arpSees", unfollowed := true, recurses := true, apart := false, narrowed := true }
def ArpSeesUptoSaid : Prop := arpSeesUptoRow.holds Try.pinned (OpenSpec.upto arpSeesSpec)

end Rows
end Go.Proofs.Ytiolijpamidpfaa
