/-
  The laws' reference: equal headers; empty slices. No conditions beyond those in each statement.
-/
import Derived.Test.YtiolijpamidpfaaFrH
import Derived.Test.YtiolijpamidpfaaFrV
import Derived.Laws.StructEq
namespace Go.Proofs.Ytiolijpamidpfaa
open Go.RowKit
namespace Fr
open Sx
theorem u8_info : (Try.prog.info? 5).map (fun i => (i.zero, i.size, i.bytes)) = some (some (.int .u8 0), 1, 1) := by kernel_rfl
theorem u8_cells : Try.prog.cellsOf 5 = 1 := by kernel_rfl
theorem six_eq (a0 a1 a2 a3 a4 a5 b0 b1 b2 b3 b4 b5 : Int) (d : Nat) (w : World) : (Op.equalIn (d + 2) 25 (.agg #[.int .u8 a0, .int .u8 a1, .int .u8 a2, .int .u8 a3, .int .u8 a4, .int .u8 a5]) (.agg #[.int .u8 b0, .int .u8 b1, .int .u8 b2, .int .u8 b3, .int .u8 b4, .int .u8 b5])).run Try.prog w = .ok (a0 == b0 && a1 == b1 && a2 == b2 && a3 == b3 && a4 == b4 && a5 == b5) w := by
  obtain ⟨i, hi, _⟩ := info_parts u8_info
  rw [run_equalIn_array w (d + 1) _ _ Try.underlying25 hi, u8_cells]
  have hu := Try.underlying5
  simp [Op.eqItems, List.range_succ, go_sem, hu, part]
  repeat' split
  all_goals simp_all
theorem hd_eq {x0 x1 x2 x3 x4 x5 x6 x7 x8 x9 x10 x11 x12 x13 x14 x15 x16 x17 x18 : Int} (w : World) : (Op.equal 37 (.agg #[.int .i64 x0, .int .u8 x1, .int .u8 x2, .int .u8 x3, .int .u8 x4, .int .u8 x5, .int .u8 x6, .int .u8 x7, .int .u8 x8, .int .u8 x9, .int .u8 x10, .int .u8 x11, .int .u8 x12, .int .i64 x13, .int .u32 x14, .int .u32 x15, .int .i64 x16, .int .i64 x17, .int .i64 x18]) (.agg #[.int .i64 x0, .int .u8 x1, .int .u8 x2, .int .u8 x3, .int .u8 x4, .int .u8 x5, .int .u8 x6, .int .u8 x7, .int .u8 x8, .int .u8 x9, .int .u8 x10, .int .u8 x11, .int .u8 x12, .int .i64 x13, .int .u32 x14, .int .u32 x15, .int .i64 x16, .int .i64 x17, .int .i64 x18])).run Try.prog w = .ok true w := by
  have hu : Try.prog.underlying 37 = some (.struct (Try.prog.fieldsOf 37)) := by kernel_rfl
  show (Op.equalIn (9999 + 1) _ _ _).run _ w = _
  rw [run_equalIn_struct w 9999 _ _ _ hu (by kernel_rfl)]
  have hm : ∀ (a0 a1 a2 a3 a4 a5 : Int) (w : World), (Op.equalIn 9999 25 (.agg #[.int .u8 a0, .int .u8 a1, .int .u8 a2, .int .u8 a3, .int .u8 a4, .int .u8 a5]) (.agg #[.int .u8 a0, .int .u8 a1, .int .u8 a2, .int .u8 a3, .int .u8 a4, .int .u8 a5])).run Try.prog w = .ok true w := fun a0 a1 a2 a3 a4 a5 w => by
    rw [show (9999 : Nat) = 9997 + 2 from rfl, six_eq a0 a1 a2 a3 a4 a5 a0 a1 a2 a3 a4 a5 9997 w]
    simp
  simp [Program.fieldsOf, Try.underlying37, Op.eqFields, part, go_sem, hm]
theorem copy_none {w : World} {a : Option Addr} {cap : Nat} : Calls Try.prog 11 ([.slice a 0 cap] : List Value).toArray w (fun e w' => ∃ nb, e = .returned (.slice (some ⟨nb, 0, none⟩) 0 0) ∧ Below w.heap.size w w') := by
  refine enter Try.func11 rfl Try.ntmps11 (by simp) ?_
  repeat (first | (refine w_d wn_a (d_lit (xs := []) (vs := []) rfl rfl rfl rfl (by decide)) rfl (by decide) ?_; intro eb) | refine w_nil ?_ | refine q_nil ?_ | refine s_nil ?_ | refine sq_nil ?_ | refine w_y wn_a (by first | exact y_move rfl | exact y_append_none rfl rfl rfl (Nat.le_refl _) | exact y_a) rfl (by decide) ?_ | refine q_y wn_a (by first | exact y_move rfl | exact y_append_none rfl rfl rfl (Nat.le_refl _) | exact y_a) rfl (by decide) ?_ | refine sq_y wn_a (by first | exact y_move rfl | exact y_append_none rfl rfl rfl (Nat.le_refl _) | exact y_a) rfl (by decide) ?_ | refine s_y wn_a (by first | exact y_move rfl | exact y_append_none rfl rfl rfl (Nat.le_refl _) | exact y_a) rfl (by decide) ?_ | refine w_skip rfl rfl rfl rfl (by decide) ?_ | refine q_skip rfl rfl rfl rfl (by decide) ?_ | refine w_skip0 rfl rfl rfl rfl ?_ | refine sq_skip rfl rfl rfl rfl (by decide) ?_ | (refine w_d wn_a (by first | exact d_box rfl | exact d_box1 rfl (by rfl) | exact d_alloc) rfl (by decide) ?_; intro _) | (refine w_d0 wn_a (by first | exact d_store rfl rfl (by rfl) | exact d_store_all rfl rfl (by rfl) (by rfl) (by rfl) | exact d_store_row rfl rfl (by rfl) (by rfl)) rfl ?_; intro _) | (refine s_d wn_a (by first | exact d_box rfl | exact d_box1 rfl (by rfl) | exact d_alloc) (fun _ => inferInstance) rfl (by decide) ?_; intro _) | (refine s_d0 wn_a (by first | exact d_store rfl rfl (by rfl) | exact d_store_all rfl rfl (by rfl) (by rfl) (by rfl) | exact d_store_row rfl rfl (by rfl) (by rfl)) (fun _ => inferInstance) rfl ?_; intro _) | refine c_seq ?_ | refine c_block ?_ | refine c_skip ?_ | refine c_exit ?_ | refine c_ret ?_ | refine c_region ?_ | refine c_draw (by kernel_rfl) (by decide +kernel) ?_ | refine c_cond_t rfl ?_ | refine c_cond_f rfl ?_ | refine e_seq ?_ | refine e_then_exit ?_ | refine e_then_ret ?_ | refine e_in_normal ?_ | refine e_in_ret ?_ | refine e_in_same ?_ | refine e_in_other rfl ?_)
  exact post1 (.inl rfl) rfl (res_tmp rfl) fun _ hm => ⟨_, rfl, hm.below⟩
theorem y_bstr_e {P : Program} {B n : Nat} {w0 : World} {T : Tm} {H : List Blk} {d : Option Tmp} {ty : TypeId} {ps : String} {af : Array Edge} {g : Option (Nat × Bool)} {x : Operand} {t t' : TypeId} {c e m : Nat} {a : Option Addr} (hx : ev T x = some (.slice a 0 c)) [h : SliT P t e m] (he : P.underlying e = some (.int .u8)) (hd : P.underlying t' = some .string) : Y P B n w0 ⟨d, .convert t t' x, ty, ps, af, g⟩ T H (.string (strOfNums [])) := by
  cases a with
  | none => exact y_bstr0 hx he hd
  | some a =>
    refine .of fun a' w hf hm => ?_
    have h1 := run_convert_bytes_string (P := P) w t t' e (some a) 0 c h.u he hd
    rw [run_bytesToString w a 0 c [] (by simp [loadCells, loadCellsFrom])] at h1
    simp [execOp, hf.ev hx, h1]
    rfl
theorem same_none {w : World} {nb cap cap' : Nat} {a : Option Addr} : Ret Try.prog 15 [.slice (some ⟨nb, 0, none⟩) 0 cap, .slice a 0 cap'] w (.bool true) := by
  refine .of (enter Try.func15 rfl Try.ntmps15 (by simp) ?_)
  repeat (first | refine w_nil ?_ | refine q_nil ?_ | refine s_nil ?_ | refine sq_nil ?_ | refine w_y wn_a (by first | exact y_move rfl | exact y_bstr_e rfl (by rfl) (by rfl) | exact y_seql_same rfl rfl | exact y_a) rfl (by decide) ?_ | refine q_y wn_a (by first | exact y_move rfl | exact y_bstr_e rfl (by rfl) (by rfl) | exact y_seql_same rfl rfl | exact y_a) rfl (by decide) ?_ | refine sq_y wn_a (by first | exact y_move rfl | exact y_bstr_e rfl (by rfl) (by rfl) | exact y_seql_same rfl rfl | exact y_a) rfl (by decide) ?_ | refine s_y wn_a (by first | exact y_move rfl | exact y_bstr_e rfl (by rfl) (by rfl) | exact y_seql_same rfl rfl | exact y_a) rfl (by decide) ?_ | refine w_skip rfl rfl rfl rfl (by decide) ?_ | refine q_skip rfl rfl rfl rfl (by decide) ?_ | refine w_skip0 rfl rfl rfl rfl ?_ | refine sq_skip rfl rfl rfl rfl (by decide) ?_ | (refine w_d wn_a (by first | exact d_box rfl | exact d_box1 rfl (by rfl) | exact d_alloc) rfl (by decide) ?_; intro _) | (refine w_d0 wn_a (by first | exact d_store rfl rfl (by rfl) | exact d_store_all rfl rfl (by rfl) (by rfl) (by rfl) | exact d_store_row rfl rfl (by rfl) (by rfl)) rfl ?_; intro _) | (refine s_d wn_a (by first | exact d_box rfl | exact d_box1 rfl (by rfl) | exact d_alloc) (fun _ => inferInstance) rfl (by decide) ?_; intro _) | (refine s_d0 wn_a (by first | exact d_store rfl rfl (by rfl) | exact d_store_all rfl rfl (by rfl) (by rfl) (by rfl) | exact d_store_row rfl rfl (by rfl) (by rfl)) (fun _ => inferInstance) rfl ?_; intro _) | refine c_seq ?_ | refine c_block ?_ | refine c_skip ?_ | refine c_exit ?_ | refine c_ret ?_ | refine c_region ?_ | refine c_draw (by kernel_rfl) (by decide +kernel) ?_ | refine c_cond_t rfl ?_ | refine c_cond_f rfl ?_ | refine e_seq ?_ | refine e_then_exit ?_ | refine e_then_ret ?_ | refine e_in_normal ?_ | refine e_in_ret ?_ | refine e_in_same ?_ | refine e_in_other rfl ?_)
  exact post1 (.inl rfl) rfl (res_tmp rfl) fun _ hm => ⟨rfl, hm.below⟩
end Fr
end Go.Proofs.Ytiolijpamidpfaa
