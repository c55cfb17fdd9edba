/-
  What the listed table gives in memory, and a world that holds it. No conditions beyond those in each statement.
-/
import Derived.Test.YtgoplihimajjkaaDoorHdr
namespace Go.Proofs.YtgoplihimajjkaaDoor
open Go.RowKit
namespace Hd
theorem gTabType : (Tryd.prog.globals[0]?).map (·.type) = some 65 := by kernel_rfl
theorem cellsTab : Tryd.prog.cellsOf 65 = 9 := by kernel_rfl
theorem cellsInt : Tryd.prog.cellsOf 3 = 1 := by kernel_rfl
theorem tab_of_laid {n : String} {W : World} (h : laidMetH Tryd.prog [(n, Rows.laid_carrefour_head_widths)] W) (hg : Tryd.prog.globalNamed n = some 0) : Tab W := fun i hi =>
  (Lib.tabIs_of_head (rest := []) (k := .i64) (zs := [8, 48, 48, 16, 32, 32, 8, 16, 16]) hg gTabType Tryd.underlying65 Tryd.underlying3 cellsInt cellsTab h).cell hg i (by simpa using hi)
/-- A world in which the table holds what its initialiser lays. -/
noncomputable def laidWorld (os : Os) : World :=
  { World.holding Tryd.prog os ⟨#[], #[], []⟩ with heap := (World.holding Tryd.prog os ⟨#[], #[], []⟩).heap.modify 0 fun
      | .cells _ t frozen => .cells #[.int .i64 8, .int .i64 48, .int .i64 48, .int .i64 16, .int .i64 32, .int .i64 32, .int .i64 8, .int .i64 16, .int .i64 16] t frozen
      | o => o }
end Hd
end Go.Proofs.YtgoplihimajjkaaDoor
