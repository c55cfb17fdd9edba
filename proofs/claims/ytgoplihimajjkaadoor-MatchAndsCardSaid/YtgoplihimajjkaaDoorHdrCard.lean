/-
  What the listed table gives in memory, and a world that holds it. No conditions beyond those in each statement.
-/
import Derived.Test.YtgoplihimajjkaaDoorHdr
namespace Go.Proofs.YtgoplihimajjkaaDoor
open Go.RowKit Go.ChangeShapes Go.WideShapes Go.ChangeAt
namespace Hd
theorem gTabType : (Tryd.prog.globals[0]?).map (·.type) = some 65 := by kernel_rfl
theorem cellsTab : Tryd.prog.cellsOf 65 = 9 := by kernel_rfl
theorem cellsInt : Tryd.prog.cellsOf 3 = 1 := by kernel_rfl
theorem tab_of_laid {n : String} {W : World} (h : laidMetH Tryd.prog [(n, Rows.laid_carrefour_head_widths)] W) (hg : Tryd.prog.globalNamed n = some 0) : Tab W := fun i hi =>
  (Lib.tabIs_of_head (rest := []) (k := .i64) (zs := [8, 48, 48, 16, 32, 32, 8, 16, 16]) hg gTabType Tryd.underlying65 Tryd.underlying3 cellsInt cellsTab h).cell hg i (by simpa using hi)
/-- A world in which the table holds what its initialiser lays. -/
noncomputable def laidWorld (os : Os) : World :=
  { World.holding Tryd.prog os ⟨#[], #[], []⟩ with heap := (World.holding Tryd.prog os ⟨#[], #[], []⟩).heap.modify 0 fun
      | .cells _ t frozen => .cells #[.int .i64 8, .int .i64 48, .int .i64 48, .int .i64 16, .int .i64 32, .int .i64 32, .int .i64 8, .int .i64 16, .int .i64 16] t frozen
      | o => o }
theorem open_hdr {H : Type} {enc : TypeId × Value → H} {P : Program} {W : World} {base : Nat} {spare : Nat → Bool} {held : Bool} {cs : List Value} (g : Law.FitsAll enc P W base spare held [.int .i64, .int .u8, .int .u8, .int .u8, .int .u8, .int .u8, .int .u8, .int .u8, .int .u8, .int .u8, .int .u8, .int .u8, .int .u8, .int .i64, .int .u32, .int .u32, .int .i64, .int .i64, .int .i64] cs) :
    ∃ h : Hdr, h.Ok ∧ cs.toArray = #[.int .i64 h.po, .int .u8 h.s0, .int .u8 h.s1, .int .u8 h.s2, .int .u8 h.s3, .int .u8 h.s4, .int .u8 h.s5, .int .u8 h.d0, .int .u8 h.d1, .int .u8 h.d2, .int .u8 h.d3, .int .u8 h.d4, .int .u8 h.d5, .int .i64 h.ty, .int .u32 h.si, .int .u32 h.di, .int .i64 h.pr, .int .i64 h.sp, .int .i64 h.dp] := by
  obtain ⟨_, _, rfl, ⟨x0, rfl, w0⟩, ⟨_, _, rfl, ⟨x1, rfl, w1⟩, ⟨_, _, rfl, ⟨x2, rfl, w2⟩, ⟨_, _, rfl, ⟨x3, rfl, w3⟩, ⟨_, _, rfl, ⟨x4, rfl, w4⟩, ⟨_, _, rfl, ⟨x5, rfl, w5⟩, ⟨_, _, rfl, ⟨x6, rfl, w6⟩, ⟨_, _, rfl, ⟨x7, rfl, w7⟩, ⟨_, _, rfl, ⟨x8, rfl, w8⟩, ⟨_, _, rfl, ⟨x9, rfl, w9⟩, ⟨_, _, rfl, ⟨x10, rfl, w10⟩, ⟨_, _, rfl, ⟨x11, rfl, w11⟩, ⟨_, _, rfl, ⟨x12, rfl, w12⟩, ⟨_, _, rfl, ⟨x13, rfl, w13⟩, ⟨_, _, rfl, ⟨x14, rfl, w14⟩, ⟨_, _, rfl, ⟨x15, rfl, w15⟩, ⟨_, _, rfl, ⟨x16, rfl, w16⟩, ⟨_, _, rfl, ⟨x17, rfl, w17⟩, ⟨_, _, rfl, ⟨x18, rfl, w18⟩, g19⟩⟩⟩⟩⟩⟩⟩⟩⟩⟩⟩⟩⟩⟩⟩⟩⟩⟩⟩ := g
  obtain rfl := g19
  exact ⟨⟨x0, x1, x2, x3, x4, x5, x6, x7, x8, x9, x10, x11, x12, x13, x14, x15, x16, x17, x18⟩, ⟨bounds_i64 w0, bounds_u8 w1, bounds_u8 w2, bounds_u8 w3, bounds_u8 w4, bounds_u8 w5, bounds_u8 w6, bounds_u8 w7, bounds_u8 w8, bounds_u8 w9, bounds_u8 w10, bounds_u8 w11, bounds_u8 w12, bounds_i64 w13, bounds_u32 w14, bounds_u32 w15, bounds_i64 w16, bounds_i64 w17, bounds_i64 w18⟩, rfl⟩
end Hd
end Go.Proofs.YtgoplihimajjkaaDoor
