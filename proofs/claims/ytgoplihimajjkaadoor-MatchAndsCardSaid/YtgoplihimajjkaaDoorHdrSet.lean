/-
  Headers: what Get answers behind With; plain facts. Conditions: the table 'widths' holds what its text lays ('Tab'); a header's numbers fit their kinds ('Hdr.Ok').
-/
import Derived.Test.YtgoplihimajjkaaDoorHdrEq
namespace Go.Proofs.YtgoplihimajjkaaDoor
open Go.RowKit
set_option linter.unusedVariables false
namespace Hd
open Sx

theorem nums_ret (h : Hdr) (ho : h.Ok) {w : World} : Ret Tryd.prog 17 [.agg h.cells.toArray] w (.agg [.int .u64 (get h 0), .int .u64 (get h 1), .int .u64 (get h 2), .int .u64 (get h 3), .int .u64 (get h 4), .int .u64 (get h 5), .int .u64 (get h 6), .int .u64 (get h 7), .int .u64 (get h 8)].toArray) := .ofCalls (numbers_any h ho w)
theorem get_ret (h : Hdr) (ho : h.Ok) (f : Int) {w : World} (ht : Tab w) : Ret Tryd.prog 15 [.agg h.cells.toArray, .int .i64 f] w (.int .u64 (get h f)) := .ofCalls (get_any h ho f w ht)
theorem check_ret (h : Hdr) (ho : h.Ok) {w : World} (ht : Tab w) : Ret Tryd.prog 16 [.agg h.cells.toArray] w (.int .i64 (chkH h)) := .ofCalls (check_any h ho w ht)

theorem set_ok (h : Hdr) (ho : h.Ok) (f n : Int) (n0 : 0 ≤ n) (n1 : n ≤ full f) : (h.set f n).Ok := by
  have hw := ways f
  rw [← or_assoc] at hw
  rcases hw with hw | rfl | rfl | rfl | rfl | rfl | rfl | rfl | rfl | rfl
  · rw [set_out _ f n hw]
    exact ho
  all_goals
    simp only [set_0, set_1, set_2, set_3, set_4, set_5, set_6, set_7, set_8]
    have n2 := n1
    simp [full] at n2
    obtain ⟨p0, p1, p2, p3, p4, p5, p6, p7, p8, p9, p10, p11, p12, p13, p14, p15, p16, p17, p18⟩ := ho
    constructor <;> first | assumption | (dsimp only; omega)
theorem get_set (h : Hdr) (ho : h.Ok) (f n : Int) (f0 : 0 ≤ f) (f1 : f < 9) (n0 : 0 ≤ n) (n1 : n ≤ full f) : get (h.set f n) f = n := by
  have hw := ways f
  rcases hw with hw | hw | rfl | rfl | rfl | rfl | rfl | rfl | rfl | rfl | rfl
  · omega
  · omega
  all_goals
    simp only [set_0, set_1, set_2, set_3, set_4, set_5, set_6, set_7, set_8]
    have n2 := n1
    simp [full] at n2
    simp [get, num]
    try omega
theorem get_other (h : Hdr) (f n : Int) (k : Nat) (hk : k < 9) (hne : (k : Int) ≠ f) : get (h.set f n) k = get h k := by
  have hw := ways f
  rw [← or_assoc] at hw
  rcases hw with hw | rfl | rfl | rfl | rfl | rfl | rfl | rfl | rfl | rfl
  · rw [set_out _ f n hw]
  all_goals
    simp only [set_0, set_1, set_2, set_3, set_4, set_5, set_6, set_7, set_8]
    match k, hk with
    | 0, _ => first | rfl | exact absurd rfl hne
    | 1, _ => first | rfl | exact absurd rfl hne
    | 2, _ => first | rfl | exact absurd rfl hne
    | 3, _ => first | rfl | exact absurd rfl hne
    | 4, _ => first | rfl | exact absurd rfl hne
    | 5, _ => first | rfl | exact absurd rfl hne
    | 6, _ => first | rfl | exact absurd rfl hne
    | 7, _ => first | rfl | exact absurd rfl hne
    | 8, _ => first | rfl | exact absurd rfl hne
theorem get_bd (h : Hdr) (ho : h.Ok) (f : Int) : 0 ≤ get h f ∧ get h f ≤ full f := by
  have hw := ways f
  rw [← or_assoc] at hw
  obtain ⟨p0, p1, p2, p3, p4, p5, p6, p7, p8, p9, p10, p11, p12, p13, p14, p15, p16, p17, p18⟩ := ho
  rcases hw with hw | rfl | rfl | rfl | rfl | rfl | rfl | rfl | rfl | rfl
  · rw [get_out hw, full_out hw]; omega
  all_goals
    simp [get, full, num]
    try omega
theorem set_get (h : Hdr) (ho : h.Ok) (f : Int) (hc : okH h = true) : h.set f (get h f) = h := by
  have hw := ways f
  rw [← or_assoc] at hw
  simp only [okH, decide_eq_true_eq] at hc
  obtain ⟨c0, c1, c2, c3, c4, c5, c6, c7, c8, c9⟩ := hc
  obtain ⟨p0, p1, p2, p3, p4, p5, p6, p7, p8, p9, p10, p11, p12, p13, p14, p15, p16, p17, p18⟩ := ho
  obtain ⟨po, s0, s1, s2, s3, s4, s5, d0, d1, d2, d3, d4, d5, ty, si, di, pr, sp, dp⟩ := h
  rcases hw with hw | rfl | rfl | rfl | rfl | rfl | rfl | rfl | rfl | rfl
  · rw [set_out _ f _ hw]
  all_goals
    simp only [set_0, set_1, set_2, set_3, set_4, set_5, set_6, set_7, set_8]
    dsimp only at *
    simp [get, num]
    try omega
theorem gets_at (h : Hdr) : ∀ k, k < 9 → ([.int .u64 (get h 0), .int .u64 (get h 1), .int .u64 (get h 2), .int .u64 (get h 3), .int .u64 (get h 4), .int .u64 (get h 5), .int .u64 (get h 6), .int .u64 (get h 7), .int .u64 (get h 8)] : List Value)[k]? = some (.int .u64 (get h k))
  | 0, _ => rfl
  | 1, _ => rfl
  | 2, _ => rfl
  | 3, _ => rfl
  | 4, _ => rfl
  | 5, _ => rfl
  | 6, _ => rfl
  | 7, _ => rfl
  | 8, _ => rfl

end Hd
end Go.Proofs.YtgoplihimajjkaaDoor
