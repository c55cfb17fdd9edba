/-
  A match's cells, opened. No conditions beyond those in each statement.
-/
import Derived.Test.YtgoplihimajjkaaDoorMtC
namespace Go.Proofs.YtgoplihimajjkaaDoor
open Go.RowKit Go.ChangeShapes Go.WideShapes Go.ChangeAt
namespace Mt
theorem u64_U {x : Int} (h : (Lit.int .u64 x).wf = true) : U x := bounds_u64 h
theorem of_list {l : List Int} (h : ∀ x ∈ l, U x) (k : Nat) : U (l.getD k 0) := by
  rw [List.getD_eq_getElem?_getD]
  cases e : l[k]? with
  | none => exact zero_U
  | some x => exact h x (List.mem_of_getElem? e)
theorem open_m {H : Type} {enc : TypeId × Value → H} {P : Program} {W : World} {base : Nat} {spare : Nat → Bool} {held : Bool} {cs : List Value} (g : Law.FitsAll enc P W base spare held [.int .u64, .int .u64, .int .u64, .int .u64, .int .u64, .int .u64, .int .u64, .int .u64, .int .u64, .int .u64, .int .u64, .int .u64, .int .u64, .int .u64, .int .u64, .int .u64, .int .u64, .int .u64] cs) :
    ∃ x : M, x.Ok ∧ cs.toArray = #[.int .u64 (x.v 0), .int .u64 (x.v 1), .int .u64 (x.v 2), .int .u64 (x.v 3), .int .u64 (x.v 4), .int .u64 (x.v 5), .int .u64 (x.v 6), .int .u64 (x.v 7), .int .u64 (x.v 8), .int .u64 (x.m 0), .int .u64 (x.m 1), .int .u64 (x.m 2), .int .u64 (x.m 3), .int .u64 (x.m 4), .int .u64 (x.m 5), .int .u64 (x.m 6), .int .u64 (x.m 7), .int .u64 (x.m 8)] := by
  obtain ⟨_, _, rfl, ⟨x0, rfl, w0⟩, ⟨_, _, rfl, ⟨x1, rfl, w1⟩, ⟨_, _, rfl, ⟨x2, rfl, w2⟩, ⟨_, _, rfl, ⟨x3, rfl, w3⟩, ⟨_, _, rfl, ⟨x4, rfl, w4⟩, ⟨_, _, rfl, ⟨x5, rfl, w5⟩, ⟨_, _, rfl, ⟨x6, rfl, w6⟩, ⟨_, _, rfl, ⟨x7, rfl, w7⟩, ⟨_, _, rfl, ⟨x8, rfl, w8⟩, ⟨_, _, rfl, ⟨x9, rfl, w9⟩, ⟨_, _, rfl, ⟨x10, rfl, w10⟩, ⟨_, _, rfl, ⟨x11, rfl, w11⟩, ⟨_, _, rfl, ⟨x12, rfl, w12⟩, ⟨_, _, rfl, ⟨x13, rfl, w13⟩, ⟨_, _, rfl, ⟨x14, rfl, w14⟩, ⟨_, _, rfl, ⟨x15, rfl, w15⟩, ⟨_, _, rfl, ⟨x16, rfl, w16⟩, ⟨_, _, rfl, ⟨x17, rfl, w17⟩, g18⟩⟩⟩⟩⟩⟩⟩⟩⟩⟩⟩⟩⟩⟩⟩⟩⟩⟩ := g
  obtain rfl := g18
  refine ⟨⟨fun k => [x0, x1, x2, x3, x4, x5, x6, x7, x8].getD k 0, fun k => [x9, x10, x11, x12, x13, x14, x15, x16, x17].getD k 0⟩, ⟨of_list ?_, of_list ?_⟩, rfl⟩
  · intro x hx
    simp only [List.mem_cons, List.not_mem_nil, or_false] at hx
    rcases hx with rfl | rfl | rfl | rfl | rfl | rfl | rfl | rfl | rfl <;> exact u64_U (by assumption)
  · intro x hx
    simp only [List.mem_cons, List.not_mem_nil, or_false] at hx
    rcases hx with rfl | rfl | rfl | rfl | rfl | rfl | rfl | rfl | rfl <;> exact u64_U (by assumption)
end Mt
end Go.Proofs.YtgoplihimajjkaaDoor
