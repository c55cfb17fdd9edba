/-
  Parts of the law 'HeadGets': closed calls. Conditions: the table 'widths' holds what its text lays ('Tab'); a header's numbers fit their kinds ('Hdr.Ok').
-/
import Derived.Test.YtgoplihimajjkaaDoorHdrD
namespace Go.Proofs.YtgoplihimajjkaaDoor
open Go.RowKit
open Hd
set_option linter.unusedVariables false
namespace HeadGets
theorem ok7 : Hdr.Ok ⟨0, 0, 0, 0, 0, 0, 0, 0, 0, 0, 0, 0, 0, 7, 0, 0, 0, 0, 0⟩ := by constructor <;> decide
theorem ok256 : Hdr.Ok ⟨256, 0, 0, 0, 0, 0, 0, 0, 0, 0, 0, 0, 0, 0, 0, 0, 0, 0, 0⟩ := by constructor <;> decide
theorem c_get7 (w : World) (ht : Tab w) : Calls Tryd.prog 15 #[.agg #[.int .i64 0, .int .u8 0, .int .u8 0, .int .u8 0, .int .u8 0, .int .u8 0, .int .u8 0, .int .u8 0, .int .u8 0, .int .u8 0, .int .u8 0, .int .u8 0, .int .u8 0, .int .i64 7, .int .u32 0, .int .u32 0, .int .i64 0, .int .i64 0, .int .i64 0], .int .i64 3] w fun e w' => e = .returned (.int .u64 7) ∧ Below w.heap.size w w' := by
  have := get_any ⟨0, 0, 0, 0, 0, 0, 0, 0, 0, 0, 0, 0, 0, 7, 0, 0, 0, 0, 0⟩ ok7 3 w ht
  rw [show get ⟨0, 0, 0, 0, 0, 0, 0, 0, 0, 0, 0, 0, 0, 7, 0, 0, 0, 0, 0⟩ 3 = 7 by decide] at this
  exact this
theorem c_check256 (w : World) (ht : Tab w) : Calls Tryd.prog 16 #[.agg #[.int .i64 256, .int .u8 0, .int .u8 0, .int .u8 0, .int .u8 0, .int .u8 0, .int .u8 0, .int .u8 0, .int .u8 0, .int .u8 0, .int .u8 0, .int .u8 0, .int .u8 0, .int .i64 0, .int .u32 0, .int .u32 0, .int .i64 0, .int .i64 0, .int .i64 0]] w fun e w' => e = .returned (.int .i64 1) ∧ Below w.heap.size w w' := by
  have := check_any ⟨256, 0, 0, 0, 0, 0, 0, 0, 0, 0, 0, 0, 0, 0, 0, 0, 0, 0, 0⟩ ok256 w ht
  rw [show chkH ⟨256, 0, 0, 0, 0, 0, 0, 0, 0, 0, 0, 0, 0, 0, 0, 0, 0, 0, 0⟩ = 1 by decide] at this
  exact this

end HeadGets
end Go.Proofs.YtgoplihimajjkaaDoor
