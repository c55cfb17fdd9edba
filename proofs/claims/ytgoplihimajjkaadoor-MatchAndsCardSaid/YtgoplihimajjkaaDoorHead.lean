/-
  Addresses of frames as numbers: what head.Num and head.Of answer. Conditions: that bytes are bytes, and a number of 64 bits one of 64 bits.
-/
import Derived.Test.YtgoplihimajjkaaDoorLaw
import Derived.Test.YtgoplihimajjkaaDoorBits
import Derived.Lib.Hide
import Derived.ChangeKeysEq
namespace Go.Proofs.YtgoplihimajjkaaDoor
open Go.RowKit
namespace Hd

/-- The number of six bytes. -/
def num (m0 m1 m2 m3 m4 m5 : Int) : Int := ((((m0 * 256 + m1) * 256 + m2) * 256 + m3) * 256 + m4) * 256 + m5

theorem or_u64_zero (l : Int) (l0 : 0 ≤ l) (l1 : l < 18446744073709551616) : bits .or .u64 0 l = l := by
  rw [u64_or 0 l (by omega) (by omega) l0 l1]
  simp
  omega
theorem or_u64_8 (h l : Int) (h0 : 0 ≤ h) (h1 : h < 72057594037927936) (l0 : 0 ≤ l) (l1 : l < 256) : bits .or .u64 (h * 256) l = h * 256 + l := by
  refine bits_join .u64 64 (by decide) (fun n a b => ?_) 8 (h * 256) l (by omega) (by omega) (by omega) l0 (by omega) (by omega)
  rw [IntKind.wrap_u64]
  omega

theorem mac_info : (Tryd.prog.info? 5).map (fun i => (i.zero, i.size, i.bytes)) = some (some (.int .u8 0), 1, 1) := by kernel_rfl
theorem mac_cells : Tryd.prog.cellsOf 5 = 1 := by kernel_rfl
theorem mac_eq (a0 a1 a2 a3 a4 a5 b0 b1 b2 b3 b4 b5 : Int) (d : Nat) (w : World) : (Op.equalIn (d + 2) 29 (.agg #[.int .u8 a0, .int .u8 a1, .int .u8 a2, .int .u8 a3, .int .u8 a4, .int .u8 a5]) (.agg #[.int .u8 b0, .int .u8 b1, .int .u8 b2, .int .u8 b3, .int .u8 b4, .int .u8 b5])).run Tryd.prog w = .ok (a0 == b0 && a1 == b1 && a2 == b2 && a3 == b3 && a4 == b4 && a5 == b5) w := by
  obtain ⟨i, hi, _⟩ := info_parts mac_info
  rw [run_equalIn_array w (d + 1) _ _ Tryd.underlying29 hi, mac_cells]
  have hu := Tryd.underlying5
  simp [Op.eqItems, List.range_succ, go_sem, hu, part]
  repeat' split
  all_goals simp_all

set_option maxHeartbeats 400000 in
theorem num_any (m0 m1 m2 m3 m4 m5 : Int) (b0 : 0 ≤ m0 ∧ m0 < 256) (b1 : 0 ≤ m1 ∧ m1 < 256) (b2 : 0 ≤ m2 ∧ m2 < 256) (b3 : 0 ≤ m3 ∧ m3 < 256) (b4 : 0 ≤ m4 ∧ m4 < 256) (b5 : 0 ≤ m5 ∧ m5 < 256) (w : World) :
    Calls Tryd.prog 33 #[.agg #[.int .u8 m0, .int .u8 m1, .int .u8 m2, .int .u8 m3, .int .u8 m4, .int .u8 m5]] w fun e w' => e = .returned (.int .u64 (num m0 m1 m2 m3 m4 m5)) ∧ Below w.heap.size w w' := by
  have i0 : ∀ w, (Instr.index 29 (.agg #[.int .u8 m0, .int .u8 m1, .int .u8 m2, .int .u8 m3, .int .u8 m4, .int .u8 m5]) (.int .i64 0)).run Tryd.prog w = .ok (.int .u8 m0) w := fun _ => by kernel_rfl
  have i1 : ∀ w, (Instr.index 29 (.agg #[.int .u8 m0, .int .u8 m1, .int .u8 m2, .int .u8 m3, .int .u8 m4, .int .u8 m5]) (.int .i64 1)).run Tryd.prog w = .ok (.int .u8 m1) w := fun _ => by kernel_rfl
  have i2 : ∀ w, (Instr.index 29 (.agg #[.int .u8 m0, .int .u8 m1, .int .u8 m2, .int .u8 m3, .int .u8 m4, .int .u8 m5]) (.int .i64 2)).run Tryd.prog w = .ok (.int .u8 m2) w := fun _ => by kernel_rfl
  have i3 : ∀ w, (Instr.index 29 (.agg #[.int .u8 m0, .int .u8 m1, .int .u8 m2, .int .u8 m3, .int .u8 m4, .int .u8 m5]) (.int .i64 3)).run Tryd.prog w = .ok (.int .u8 m3) w := fun _ => by kernel_rfl
  have i4 : ∀ w, (Instr.index 29 (.agg #[.int .u8 m0, .int .u8 m1, .int .u8 m2, .int .u8 m3, .int .u8 m4, .int .u8 m5]) (.int .i64 4)).run Tryd.prog w = .ok (.int .u8 m4) w := fun _ => by kernel_rfl
  have i5 : ∀ w, (Instr.index 29 (.agg #[.int .u8 m0, .int .u8 m1, .int .u8 m2, .int .u8 m3, .int .u8 m4, .int .u8 m5]) (.int .i64 5)).run Tryd.prog w = .ok (.int .u8 m5) w := fun _ => by kernel_rfl
  have e0 := or_u64_zero m0 b0.1 (by omega)
  have e1 := or_u64_8 m0 m1 (by omega) (by omega) (by omega) (by omega)
  have e2 := or_u64_8 (m0 * 256 + m1) m2 (by omega) (by omega) (by omega) (by omega)
  have e3 := or_u64_8 ((m0 * 256 + m1) * 256 + m2) m3 (by omega) (by omega) (by omega) (by omega)
  have e4 := or_u64_8 (((m0 * 256 + m1) * 256 + m2) * 256 + m3) m4 (by omega) (by omega) (by omega) (by omega)
  have e5 := or_u64_8 ((((m0 * 256 + m1) * 256 + m2) * 256 + m3) * 256 + m4) m5 (by omega) (by omega) (by omega) (by omega)
  go_enter Tryd.func33, Tryd.ntmps33
  go_wp2
  refine wp_loop_rounds 7 ?_
  iterate 7 (rw [rounds_succ]; go_wp2)
  go_ret
  exact ⟨rfl, (Below.refl _ _).alloc (Nat.le_refl _) _⟩

set_option maxHeartbeats 400000 in
theorem of_any (n : Int) (w : World) :
    Calls Tryd.prog 32 #[.int .u64 n] w fun e w' => e = .returned (.agg #[.int .u8 (n / 1099511627776 % 256), .int .u8 (n / 4294967296 % 256), .int .u8 (n / 16777216 % 256), .int .u8 (n / 65536 % 256), .int .u8 (n / 256 % 256), .int .u8 (n % 256)]) ∧ Below w.heap.size w w' := by
  go_enter Tryd.func32, Tryd.ntmps32
  go_wp2
  refine wp_loop_rounds 7 ?_
  iterate 7 (rw [rounds_succ]; go_wp2)
  refine bodyPost_ret (v := .agg #[.int .u8 (n / 1099511627776 % 256), .int .u8 (n / 4294967296 % 256), .int .u8 (n / 16777216 % 256), .int .u8 (n / 65536 % 256), .int .u8 (n / 256 % 256), .int .u8 (n % 256)]) (by simp [results, Tryd.results32, go_sem]) rfl ⟨rfl, ?_⟩
  exact ((Below.refl w.heap.size w).alloc (Nat.le_refl _) _).alloc (by simp) _

theorem num_of (n : Int) : num (n / 1099511627776 % 256) (n / 4294967296 % 256) (n / 16777216 % 256) (n / 65536 % 256) (n / 256 % 256) (n % 256) = n % 281474976710656 := by
  unfold num
  omega
theorem of_num (m0 m1 m2 m3 m4 m5 : Int) (b0 : 0 ≤ m0 ∧ m0 < 256) (b1 : 0 ≤ m1 ∧ m1 < 256) (b2 : 0 ≤ m2 ∧ m2 < 256) (b3 : 0 ≤ m3 ∧ m3 < 256) (b4 : 0 ≤ m4 ∧ m4 < 256) (b5 : 0 ≤ m5 ∧ m5 < 256) : let x := num m0 m1 m2 m3 m4 m5
    x / 1099511627776 % 256 = m0 ∧ x / 4294967296 % 256 = m1 ∧ x / 16777216 % 256 = m2 ∧ x / 65536 % 256 = m3 ∧ x / 256 % 256 = m4 ∧ x % 256 = m5 ∧ 0 ≤ x ∧ x < 281474976710656 := by
  simp only [num]
  omega

theorem num_exp (m0 m1 m2 m3 m4 m5 : Int) (b0 : 0 ≤ m0 ∧ m0 < 256) (b1 : 0 ≤ m1 ∧ m1 < 256) (b2 : 0 ≤ m2 ∧ m2 < 256) (b3 : 0 ≤ m3 ∧ m3 < 256) (b4 : 0 ≤ m4 ∧ m4 < 256) (b5 : 0 ≤ m5 ∧ m5 < 256) (w : World) :
    Calls Tryd.prog 33 #[.agg #[.int .u8 m0, .int .u8 m1, .int .u8 m2, .int .u8 m3, .int .u8 m4, .int .u8 m5]] w fun e w' => e = .returned (.int .u64 (((((m0 * 256 + m1) * 256 + m2) * 256 + m3) * 256 + m4) * 256 + m5)) ∧ Below w.heap.size w w' := num_any m0 m1 m2 m3 m4 m5 b0 b1 b2 b3 b4 b5 w

end Hd
end Go.Proofs.YtgoplihimajjkaaDoor
