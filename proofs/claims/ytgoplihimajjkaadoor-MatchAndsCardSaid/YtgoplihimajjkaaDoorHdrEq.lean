/-
  Headers: With at any field; a header is what it is. Conditions: the table 'widths' holds what its text lays ('Tab').
-/
import Derived.Test.YtgoplihimajjkaaDoorHdrW
import Derived.Laws.StructEq
namespace Go.Proofs.YtgoplihimajjkaaDoor
open Go.RowKit
namespace Hd
open Sx
theorem with_in (h : Hdr) (f n : Int) (f0 : 0 ≤ f) (f1 : f < 9) (n0 : 0 ≤ n) (n1 : n ≤ full f) {w : World} (ht : Tab w) : Ret Tryd.prog 14 [.agg h.cells.toArray, .int .i64 f, .int .u64 n] w (.tuple #[.agg (h.set f n).cells.toArray, .int .i64 0]) := by
  have hw := ways f
  rcases hw with hw | hw | rfl | rfl | rfl | rfl | rfl | rfl | rfl | rfl | rfl
  · omega
  · omega
  · exact with_0 h n n0 n1 ht
  · exact with_1 h n n0 n1 ht
  · exact with_2 h n n0 n1 ht
  · exact with_3 h n n0 n1 ht
  · exact with_4 h n n0 n1 ht
  · exact with_5 h n n0 n1 ht
  · exact with_6 h n n0 n1 ht
  · exact with_7 h n n0 n1 ht
  · exact with_8 h n n0 n1 ht
theorem set_out (h : Hdr) (f n : Int) (hf : f < 0 ∨ 9 ≤ f) : h.set f n = h := by
  unfold Hdr.set
  rw [if_neg (by omega), if_neg (by omega), if_neg (by omega), if_neg (by omega), if_neg (by omega), if_neg (by omega), if_neg (by omega), if_neg (by omega), if_neg (by omega)]
theorem set_same (h : Hdr) (f a b : Int) : (h.set f a).set f b = h.set f b := by
  have hw := ways f
  rw [← or_assoc] at hw
  rcases hw with hw | rfl | rfl | rfl | rfl | rfl | rfl | rfl | rfl | rfl
  · rw [set_out _ f a hw]
  all_goals simp only [set_0, set_1, set_2, set_3, set_4, set_5, set_6, set_7, set_8]
theorem set_comm (h : Hdr) (f g a b : Int) (hne : f ≠ g) : (h.set f a).set g b = (h.set g b).set f a := by
  have hw := ways f
  rw [← or_assoc] at hw
  have hv := ways g
  rw [← or_assoc] at hv
  rcases hw with hw | rfl | rfl | rfl | rfl | rfl | rfl | rfl | rfl | rfl
  · rw [set_out _ f a hw, set_out _ f a hw]
  all_goals
    rcases hv with hv | rfl | rfl | rfl | rfl | rfl | rfl | rfl | rfl | rfl
    · rw [set_out _ g b hv, set_out _ g b hv]
    all_goals first | exact absurd rfl hne | simp only [set_0, set_1, set_2, set_3, set_4, set_5, set_6, set_7, set_8]
theorem full_bd (f : Int) : 0 ≤ full f ∧ full f ≤ 281474976710655 := by
  have hw := ways f
  rw [← or_assoc] at hw
  rcases hw with hw | rfl | rfl | rfl | rfl | rfl | rfl | rfl | rfl | rfl
  · rw [full_out hw]; omega
  all_goals decide
theorem and_full (f a : Int) : 0 ≤ bits .and .u64 a (full f) ∧ bits .and .u64 a (full f) ≤ full f := by
  have hw := ways f
  rw [← or_assoc] at hw
  rcases hw with hw | rfl | rfl | rfl | rfl | rfl | rfl | rfl | rfl | rfl
  · rw [full_out hw]
    have := and_u64_mask 0 (by decide) a
    simp at this
    rw [this]
    omega
  · have := and_u64_mask 8 (by decide) a; show 0 ≤ bits .and .u64 a 255 ∧ bits .and .u64 a 255 ≤ 255; simp at this; rw [this]; omega
  · have := and_u64_mask 48 (by decide) a; show 0 ≤ bits .and .u64 a 281474976710655 ∧ bits .and .u64 a 281474976710655 ≤ 281474976710655; simp at this; rw [this]; omega
  · have := and_u64_mask 48 (by decide) a; show 0 ≤ bits .and .u64 a 281474976710655 ∧ bits .and .u64 a 281474976710655 ≤ 281474976710655; simp at this; rw [this]; omega
  · have := and_u64_mask 16 (by decide) a; show 0 ≤ bits .and .u64 a 65535 ∧ bits .and .u64 a 65535 ≤ 65535; simp at this; rw [this]; omega
  · have := and_u64_mask 32 (by decide) a; show 0 ≤ bits .and .u64 a 4294967295 ∧ bits .and .u64 a 4294967295 ≤ 4294967295; simp at this; rw [this]; omega
  · have := and_u64_mask 32 (by decide) a; show 0 ≤ bits .and .u64 a 4294967295 ∧ bits .and .u64 a 4294967295 ≤ 4294967295; simp at this; rw [this]; omega
  · have := and_u64_mask 8 (by decide) a; show 0 ≤ bits .and .u64 a 255 ∧ bits .and .u64 a 255 ≤ 255; simp at this; rw [this]; omega
  · have := and_u64_mask 16 (by decide) a; show 0 ≤ bits .and .u64 a 65535 ∧ bits .and .u64 a 65535 ≤ 65535; simp at this; rw [this]; omega
  · have := and_u64_mask 16 (by decide) a; show 0 ≤ bits .and .u64 a 65535 ∧ bits .and .u64 a 65535 ≤ 65535; simp at this; rw [this]; omega
theorem hdr_eq (h : Hdr) (w : World) : (Op.equal 33 (.agg h.cells.toArray) (.agg h.cells.toArray)).run Tryd.prog w = .ok true w := by
  have hu : Tryd.prog.underlying 33 = some (.struct (Tryd.prog.fieldsOf 33)) := by kernel_rfl
  show (Op.equalIn (9999 + 1) _ _ _).run _ w = _
  rw [run_equalIn_struct w 9999 _ _ _ hu (by kernel_rfl)]
  obtain ⟨i, hi, hi1, hi2, hi3⟩ := info_parts mac_info
  have hm : ∀ (a0 a1 a2 a3 a4 a5 : Int) (w : World), (Op.equalIn 9999 29 (.agg #[.int .u8 a0, .int .u8 a1, .int .u8 a2, .int .u8 a3, .int .u8 a4, .int .u8 a5]) (.agg #[.int .u8 a0, .int .u8 a1, .int .u8 a2, .int .u8 a3, .int .u8 a4, .int .u8 a5])).run Tryd.prog w = .ok true w := fun a0 a1 a2 a3 a4 a5 w => by
    rw [show (9999 : Nat) = 9997 + 2 from rfl, mac_eq a0 a1 a2 a3 a4 a5 a0 a1 a2 a3 a4 a5 9997 w]
    simp
  simp [Program.fieldsOf, Tryd.underlying33, Op.eqFields, Hdr.cells, part, go_sem, hm]
end Hd
end Go.Proofs.YtgoplihimajjkaaDoor
