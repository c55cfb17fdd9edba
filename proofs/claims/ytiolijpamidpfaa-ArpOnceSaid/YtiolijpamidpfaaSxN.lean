/-
  A run told by lists: addresses from a block's head on. Over any program; no conditions beyond those in each statement.
-/
import Derived.Test.YtiolijpamidpfaaSxM
namespace Go.Proofs.Ytiolijpamidpfaa
open Go.RowKit
namespace Sx
section
variable {P : Program} {B n : Nat} {w0 : World} {T : Tm} {H : List Blk} {d : Option Tmp} {ty : TypeId} {ps : String} {af : Array Edge} {g : Option (Nat × Bool)} {x y : Operand} {t : TypeId} {k : IntKind}
theorem y_indexAddr0 {b len e : Nat} {j : Nat} (hx : ev T x = some (.pointer (some ⟨b, 0, none⟩))) (hy : ev T y = some (.int k j)) [h : ArrT P t len e 1] (h1 : j < len) : Y P B n w0 ⟨d, .indexAddr t x y, ty, ps, af, g⟩ T H (.pointer (some ⟨b, j, none⟩)) := by
  have := y_indexAddr1 (P := P) (B := B) (n := n) (w0 := w0) (H := H) (d := d) (ty := ty) (ps := ps) (af := af) (g := g) hx hy (h := h) h1
  rwa [Nat.zero_add] at this
end
end Sx
end Go.Proofs.Ytiolijpamidpfaa
