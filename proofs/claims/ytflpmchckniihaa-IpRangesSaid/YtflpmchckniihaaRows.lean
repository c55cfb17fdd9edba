/-
  No cell of these rows narrows 'for every input' (looked for: loops, veiled, ifaces, maps, wideKeys, modest, calm, conditions, laid).
  DERIVED. THE GIVEN ROWS OF THIS SEAT. 9 by the template 'for every input the law returns true; each argument reads behind the call as it read before'; 0 by the template 'total and deterministic' (their statements: YtflpmchckniihaaTotals.lean).
  GIVEN WITH THE SEED: the statements are not yours to turn. If you find one false, say at which input.
  Laid BY PROGRAM, IN A SANDBOX (cutbox-rows.mjs): the forced cells as the released guide's own fill.sh prints them over the translation 43ca6686a88dfc01… (all of the seat's roots in one cut). By AI agents, Wed Nov 11 2026. No macro, syntax, notation, axiom, sorry.
-/
import Derived.Test.YtflpmchckniihaaChecked
import GoSem.Claim
import GoSem.ClaimJoined
import GoSem.ClaimMapViews
import Derived.JoinedTies
import Derived.KernelRfl
namespace Go.Proofs.Ytflpmchckniihaa
/- THE CELL 'sum', in the pinned program and in every row, IS THE sha256 OF THE DUMP (.gsa) THAT YtflpmchckniihaaProg.lean LOADS. Nothing in Lean hashes anything: it is a label: what it is worth is what the hold of that sum in a sandbox is worth. -/
noncomputable def Try.pinned : Pinned := { name := "ytflpmchckniihaa", sum := "43ca6686a88dfc016a085f777f43b20fb356fcedb02d90a8fe2d2bc1d7e652df", checked := Try.checked }
namespace Rows
def none {H : Type} : Left H := { results := [], args := [] }

/-- 'carrefourlaw13.ExportNumbers': WHATEVER THE INPUT: true; the input reads as it did. -/
def exportNumbersSpec : ChangeSpec := { name := "exportNumbers", fn := fun _ => fun
  | [d1, d2] => { results := [.lit (.bool true)], args := [d1, d2] }
  | _ => none }
def exportNumbersRow : OpenClaim := { program := "ytflpmchckniihaa", sum := "43ca6686a88dfc016a085f777f43b20fb356fcedb02d90a8fe2d2bc1d7e652df", func := "carrefour/carrefourlaw13.ExportNumbers", spec := "exportNumbers", apart := false }
def ExportNumbersSaid : Prop := exportNumbersRow.holds Try.pinned (OpenSpec.ofChange exportNumbersSpec)

/-- ITS FALSE NEIGHBOUR: 'it returns false'. Refute it at one input. -/
def exportNumbersWrong : ChangeSpec := { name := "exportNumbers", fn := fun _ => fun
  | [d1, d2] => { results := [.lit (.bool false)], args := [d1, d2] }
  | _ => none }
def ExportNumbersWrongFalsely : Prop := exportNumbersRow.holds Try.pinned (OpenSpec.ofChange exportNumbersWrong)

/-- 'carrefourlaw01.IpBits': WHATEVER THE INPUT: true; the input reads as it did. -/
def ipBitsSpec : ChangeSpec := { name := "ipBits", fn := fun _ => fun
  | [d1, d2] => { results := [.lit (.bool true)], args := [d1, d2] }
  | _ => none }
def ipBitsRow : OpenClaim := { program := "ytflpmchckniihaa", sum := "43ca6686a88dfc016a085f777f43b20fb356fcedb02d90a8fe2d2bc1d7e652df", func := "carrefour/carrefourlaw01.IpBits", spec := "ipBits", apart := false }
def IpBitsSaid : Prop := ipBitsRow.holds Try.pinned (OpenSpec.ofChange ipBitsSpec)

/-- ITS FALSE NEIGHBOUR: 'it returns false'. Refute it at one input. -/
def ipBitsWrong : ChangeSpec := { name := "ipBits", fn := fun _ => fun
  | [d1, d2] => { results := [.lit (.bool false)], args := [d1, d2] }
  | _ => none }
def IpBitsWrongFalsely : Prop := ipBitsRow.holds Try.pinned (OpenSpec.ofChange ipBitsWrong)

/-- 'carrefourlaw01.IpMasks': WHATEVER THE INPUT: true; the input reads as it did. -/
def ipMasksSpec : ChangeSpec := { name := "ipMasks", fn := fun _ => fun
  | [d1, d2] => { results := [.lit (.bool true)], args := [d1, d2] }
  | _ => none }
def ipMasksRow : OpenClaim := { program := "ytflpmchckniihaa", sum := "43ca6686a88dfc016a085f777f43b20fb356fcedb02d90a8fe2d2bc1d7e652df", func := "carrefour/carrefourlaw01.IpMasks", spec := "ipMasks", apart := false }
def IpMasksSaid : Prop := ipMasksRow.holds Try.pinned (OpenSpec.ofChange ipMasksSpec)

/-- ITS FALSE NEIGHBOUR: 'it returns false'. Refute it at one input. -/
def ipMasksWrong : ChangeSpec := { name := "ipMasks", fn := fun _ => fun
  | [d1, d2] => { results := [.lit (.bool false)], args := [d1, d2] }
  | _ => none }
def IpMasksWrongFalsely : Prop := ipMasksRow.holds Try.pinned (OpenSpec.ofChange ipMasksWrong)

/-- 'carrefourlaw01.IpForms': WHATEVER THE INPUT: true; the input reads as it did. -/
def ipFormsSpec : ChangeSpec := { name := "ipForms", fn := fun _ => fun
  | [d1, d2] => { results := [.lit (.bool true)], args := [d1, d2] }
  | _ => none }
def ipFormsRow : OpenClaim := { program := "ytflpmchckniihaa", sum := "43ca6686a88dfc016a085f777f43b20fb356fcedb02d90a8fe2d2bc1d7e652df", func := "carrefour/carrefourlaw01.IpForms", spec := "ipForms", apart := false }
def IpFormsSaid : Prop := ipFormsRow.holds Try.pinned (OpenSpec.ofChange ipFormsSpec)

/-- ITS FALSE NEIGHBOUR: 'it returns false'. Refute it at one input. -/
def ipFormsWrong : ChangeSpec := { name := "ipForms", fn := fun _ => fun
  | [d1, d2] => { results := [.lit (.bool false)], args := [d1, d2] }
  | _ => none }
def IpFormsWrongFalsely : Prop := ipFormsRow.holds Try.pinned (OpenSpec.ofChange ipFormsWrong)

/-- 'carrefourlaw01.IpCovers': WHATEVER THE INPUT: true; the input reads as it did. -/
def ipCoversSpec : ChangeSpec := { name := "ipCovers", fn := fun _ => fun
  | [d1, d2] => { results := [.lit (.bool true)], args := [d1, d2] }
  | _ => none }
def ipCoversRow : OpenClaim := { program := "ytflpmchckniihaa", sum := "43ca6686a88dfc016a085f777f43b20fb356fcedb02d90a8fe2d2bc1d7e652df", func := "carrefour/carrefourlaw01.IpCovers", spec := "ipCovers", apart := false }
def IpCoversSaid : Prop := ipCoversRow.holds Try.pinned (OpenSpec.ofChange ipCoversSpec)

/-- ITS FALSE NEIGHBOUR: 'it returns false'. Refute it at one input. -/
def ipCoversWrong : ChangeSpec := { name := "ipCovers", fn := fun _ => fun
  | [d1, d2] => { results := [.lit (.bool false)], args := [d1, d2] }
  | _ => none }
def IpCoversWrongFalsely : Prop := ipCoversRow.holds Try.pinned (OpenSpec.ofChange ipCoversWrong)

/-- 'carrefourlaw01.IpRanges': WHATEVER THE INPUT: true; the input reads as it did. -/
def ipRangesSpec : ChangeSpec := { name := "ipRanges", fn := fun _ => fun
  | [d] => { results := [.lit (.bool true)], args := [d] }
  | _ => none }
def ipRangesRow : OpenClaim := { program := "ytflpmchckniihaa", sum := "43ca6686a88dfc016a085f777f43b20fb356fcedb02d90a8fe2d2bc1d7e652df", func := "carrefour/carrefourlaw01.IpRanges", spec := "ipRanges", apart := false }
def IpRangesSaid : Prop := ipRangesRow.holds Try.pinned (OpenSpec.ofChange ipRangesSpec)

/-- ITS FALSE NEIGHBOUR: 'it returns false'. Refute it at one input. -/
def ipRangesWrong : ChangeSpec := { name := "ipRanges", fn := fun _ => fun
  | [d] => { results := [.lit (.bool false)], args := [d] }
  | _ => none }
def IpRangesWrongFalsely : Prop := ipRangesRow.holds Try.pinned (OpenSpec.ofChange ipRangesWrong)

/-- 'carrefourlaw01.IpOrders': WHATEVER THE INPUT: true; the input reads as it did. -/
def ipOrdersSpec : ChangeSpec := { name := "ipOrders", fn := fun _ => fun
  | [d1, d2, d3] => { results := [.lit (.bool true)], args := [d1, d2, d3] }
  | _ => none }
def ipOrdersRow : OpenClaim := { program := "ytflpmchckniihaa", sum := "43ca6686a88dfc016a085f777f43b20fb356fcedb02d90a8fe2d2bc1d7e652df", func := "carrefour/carrefourlaw01.IpOrders", spec := "ipOrders", apart := false }
def IpOrdersSaid : Prop := ipOrdersRow.holds Try.pinned (OpenSpec.ofChange ipOrdersSpec)

/-- ITS FALSE NEIGHBOUR: 'it returns false'. Refute it at one input. -/
def ipOrdersWrong : ChangeSpec := { name := "ipOrders", fn := fun _ => fun
  | [d1, d2, d3] => { results := [.lit (.bool false)], args := [d1, d2, d3] }
  | _ => none }
def IpOrdersWrongFalsely : Prop := ipOrdersRow.holds Try.pinned (OpenSpec.ofChange ipOrdersWrong)

/-- 'carrefourlaw01.IpNests': WHATEVER THE INPUT: true; the input reads as it did. -/
def ipNestsSpec : ChangeSpec := { name := "ipNests", fn := fun _ => fun
  | [d1, d2, d3, d4] => { results := [.lit (.bool true)], args := [d1, d2, d3, d4] }
  | _ => none }
def ipNestsRow : OpenClaim := { program := "ytflpmchckniihaa", sum := "43ca6686a88dfc016a085f777f43b20fb356fcedb02d90a8fe2d2bc1d7e652df", func := "carrefour/carrefourlaw01.IpNests", spec := "ipNests", apart := false }
def IpNestsSaid : Prop := ipNestsRow.holds Try.pinned (OpenSpec.ofChange ipNestsSpec)

/-- ITS FALSE NEIGHBOUR: 'it returns false'. Refute it at one input. -/
def ipNestsWrong : ChangeSpec := { name := "ipNests", fn := fun _ => fun
  | [d1, d2, d3, d4] => { results := [.lit (.bool false)], args := [d1, d2, d3, d4] }
  | _ => none }
def IpNestsWrongFalsely : Prop := ipNestsRow.holds Try.pinned (OpenSpec.ofChange ipNestsWrong)

/-- 'carrefourlaw01.IpHalves': WHATEVER THE INPUT: true; the input reads as it did. -/
def ipHalvesSpec : ChangeSpec := { name := "ipHalves", fn := fun _ => fun
  | [d1, d2, d3] => { results := [.lit (.bool true)], args := [d1, d2, d3] }
  | _ => none }
def ipHalvesRow : OpenClaim := { program := "ytflpmchckniihaa", sum := "43ca6686a88dfc016a085f777f43b20fb356fcedb02d90a8fe2d2bc1d7e652df", func := "carrefour/carrefourlaw01.IpHalves", spec := "ipHalves", apart := false }
def IpHalvesSaid : Prop := ipHalvesRow.holds Try.pinned (OpenSpec.ofChange ipHalvesSpec)

/-- ITS FALSE NEIGHBOUR: 'it returns false'. Refute it at one input. -/
def ipHalvesWrong : ChangeSpec := { name := "ipHalves", fn := fun _ => fun
  | [d1, d2, d3] => { results := [.lit (.bool false)], args := [d1, d2, d3] }
  | _ => none }
def IpHalvesWrongFalsely : Prop := ipHalvesRow.holds Try.pinned (OpenSpec.ofChange ipHalvesWrong)

/- THE SECOND FORM. 'bulk': how many values and letters a reading holds, each counted each time it is reached (what is shared counts as often as it is met; a slice's spare places count too). A statement '..UptoSaid' is the law's where the arguments, and the package variables that the reading takes, are together of bulk at most 1048576: NARROWER than '..Said'. Prove '..Said' where nothing that the law and all that it calls make is longer than what came in: it says more and counts as full. Else prove '..UptoSaid'. A law counts once. -/
mutual
def uptoBulk {H : Type} : DataW H → Nat
  | .lit (.string bytes) => bytes.length + 1
  | .lit _ => 1
  | .nil => 1
  | .ptr d => uptoBulk d + 1
  | .slice elems spare => uptoBulkAll elems + uptoBulkAll spare + 1
  | .agg parts => uptoBulkAll parts + 1
  | .iface _ d => uptoBulk d + 1
  | .map entries => uptoBulkEntries entries + 1
  | .held _ => 1
def uptoBulkAll {H : Type} : List (DataW H) → Nat
  | [] => 0
  | d :: r => uptoBulk d + uptoBulkAll r
def uptoBulkEntries {H : Type} : List (Lit × DataW H) → Nat
  | [] => 0
  | x :: r => uptoBulkEntry x + uptoBulkEntries r
def uptoBulkEntry {H : Type} : Lit × DataW H → Nat
  | (.string bytes, d) => bytes.length + uptoBulk d + 1
  | (_, d) => uptoBulk d + 1
 end
def uptoSmall : (H : Type) → List (DataW H) → Bool := fun _ ds => decide (uptoBulkAll ds ≤ 1048576)
def OpenSpec.upto (s : _root_.Go.ChangeSpec) : _root_.Go.OpenSpec := { _root_.Go.OpenSpec.ofChange s with cond := some uptoSmall }

/-- 'carrefourlaw13.ExportNumbers', WHERE WHAT IT READS IS OF BULK AT MOST 1048576: true; the input reads as it did. -/
def exportNumbersUptoRow : OpenClaim := { program := "ytflpmchckniihaa", sum := "43ca6686a88dfc016a085f777f43b20fb356fcedb02d90a8fe2d2bc1d7e652df", func := "carrefour/carrefourlaw13.ExportNumbers", spec := "exportNumbers", apart := false, narrowed := true }
def ExportNumbersUptoSaid : Prop := exportNumbersUptoRow.holds Try.pinned (OpenSpec.upto exportNumbersSpec)

/-- 'carrefourlaw01.IpBits', WHERE WHAT IT READS IS OF BULK AT MOST 1048576: true; the input reads as it did. -/
def ipBitsUptoRow : OpenClaim := { program := "ytflpmchckniihaa", sum := "43ca6686a88dfc016a085f777f43b20fb356fcedb02d90a8fe2d2bc1d7e652df", func := "carrefour/carrefourlaw01.IpBits", spec := "ipBits", apart := false, narrowed := true }
def IpBitsUptoSaid : Prop := ipBitsUptoRow.holds Try.pinned (OpenSpec.upto ipBitsSpec)

/-- 'carrefourlaw01.IpMasks', WHERE WHAT IT READS IS OF BULK AT MOST 1048576: true; the input reads as it did. -/
def ipMasksUptoRow : OpenClaim := { program := "ytflpmchckniihaa", sum := "43ca6686a88dfc016a085f777f43b20fb356fcedb02d90a8fe2d2bc1d7e652df", func := "carrefour/carrefourlaw01.IpMasks", spec := "ipMasks", apart := false, narrowed := true }
def IpMasksUptoSaid : Prop := ipMasksUptoRow.holds Try.pinned (OpenSpec.upto ipMasksSpec)

/-- 'carrefourlaw01.IpForms', WHERE WHAT IT READS IS OF BULK AT MOST 1048576: true; the input reads as it did. -/
def ipFormsUptoRow : OpenClaim := { program := "ytflpmchckniihaa", sum := "43ca6686a88dfc016a085f777f43b20fb356fcedb02d90a8fe2d2bc1d7e652df", func := "carrefour/carrefourlaw01.IpForms", spec := "ipForms", apart := false, narrowed := true }
def IpFormsUptoSaid : Prop := ipFormsUptoRow.holds Try.pinned (OpenSpec.upto ipFormsSpec)

/-- 'carrefourlaw01.IpCovers', WHERE WHAT IT READS IS OF BULK AT MOST 1048576: true; the input reads as it did. -/
def ipCoversUptoRow : OpenClaim := { program := "ytflpmchckniihaa", sum := "43ca6686a88dfc016a085f777f43b20fb356fcedb02d90a8fe2d2bc1d7e652df", func := "carrefour/carrefourlaw01.IpCovers", spec := "ipCovers", apart := false, narrowed := true }
def IpCoversUptoSaid : Prop := ipCoversUptoRow.holds Try.pinned (OpenSpec.upto ipCoversSpec)

/-- 'carrefourlaw01.IpRanges', WHERE WHAT IT READS IS OF BULK AT MOST 1048576: true; the input reads as it did. -/
def ipRangesUptoRow : OpenClaim := { program := "ytflpmchckniihaa", sum := "43ca6686a88dfc016a085f777f43b20fb356fcedb02d90a8fe2d2bc1d7e652df", func := "carrefour/carrefourlaw01.IpRanges", spec := "ipRanges", apart := false, narrowed := true }
def IpRangesUptoSaid : Prop := ipRangesUptoRow.holds Try.pinned (OpenSpec.upto ipRangesSpec)

/-- 'carrefourlaw01.IpOrders', WHERE WHAT IT READS IS OF BULK AT MOST 1048576: true; the input reads as it did. -/
def ipOrdersUptoRow : OpenClaim := { program := "ytflpmchckniihaa", sum := "43ca6686a88dfc016a085f777f43b20fb356fcedb02d90a8fe2d2bc1d7e652df", func := "carrefour/carrefourlaw01.IpOrders", spec := "ipOrders", apart := false, narrowed := true }
def IpOrdersUptoSaid : Prop := ipOrdersUptoRow.holds Try.pinned (OpenSpec.upto ipOrdersSpec)

/-- 'carrefourlaw01.IpNests', WHERE WHAT IT READS IS OF BULK AT MOST 1048576: true; the input reads as it did. -/
def ipNestsUptoRow : OpenClaim := { program := "ytflpmchckniihaa", sum := "43ca6686a88dfc016a085f777f43b20fb356fcedb02d90a8fe2d2bc1d7e652df", func := "carrefour/carrefourlaw01.IpNests", spec := "ipNests", apart := false, narrowed := true }
def IpNestsUptoSaid : Prop := ipNestsUptoRow.holds Try.pinned (OpenSpec.upto ipNestsSpec)

/-- 'carrefourlaw01.IpHalves', WHERE WHAT IT READS IS OF BULK AT MOST 1048576: true; the input reads as it did. -/
def ipHalvesUptoRow : OpenClaim := { program := "ytflpmchckniihaa", sum := "43ca6686a88dfc016a085f777f43b20fb356fcedb02d90a8fe2d2bc1d7e652df", func := "carrefour/carrefourlaw01.IpHalves", spec := "ipHalves", apart := false, narrowed := true }
def IpHalvesUptoSaid : Prop := ipHalvesUptoRow.holds Try.pinned (OpenSpec.upto ipHalvesSpec)

end Rows
end Go.Proofs.Ytflpmchckniihaa
