/-
  The laws' example: headOk. No conditions.
-/
import Derived.Test.YtiolijpamidpfaaFrQ
import Derived.Test.YtiolijpamidpfaaSxW
namespace Go.Proofs.Ytiolijpamidpfaa
open Go.RowKit
namespace Fr
open Sx
theorem oct_of {bs : List Int} (h : bs.all (fun x => decide (0 ≤ x ∧ x ≤ 255)) = true) : Oct bs := fun x hx => by simpa using (List.all_eq_true.1 h) x hx
/-- A frame of our own, 14 bytes, of another type. -/
theorem head_one {B : Nat} {w0 w : World} {H : List Blk} {b : Nat} (hm : Mem B w0 w H) (hh : (⟨b, bv [0, 0, 0, 0, 0, 0, 0, 0, 0, 0, 0, 0, 18, 52] ++ [], 5⟩ : Blk) ∈ H) : Calls Try.prog 12 ([.int .i64 3, .slice (some ⟨b, 0, none⟩) 14 14] : List Value).toArray w (fun e w' => ∃ i : Nat × Nat, e = .returned (.tuple #[.agg ([.int .i64 3, .int .u8 0, .int .u8 0, .int .u8 0, .int .u8 0, .int .u8 0, .int .u8 0, .int .u8 0, .int .u8 0, .int .u8 0, .int .u8 0, .int .u8 0, .int .u8 0, .int .i64 4660, .int .u32 0, .int .u32 0, .int .i64 0, .int .i64 0, .int .i64 0, .slice (some ⟨i.1, 0, none⟩) 14 i.2, .int .i64 0, .int .i64 0] : List Value).toArray, .int .i64 0]) ∧ Mem B w0 w' H) := by
  have : Has H b (bv [0, 0, 0, 0, 0, 0, 0, 0, 0, 0, 0, 0, 18, 52] ++ []) 5 := ⟨hh⟩
  refine (parse_any (BS.own (bs := [0, 0, 0, 0, 0, 0, 0, 0, 0, 0, 0, 0, 18, 52]) (rest := []) hm) (oct_of (by decide)) rfl (by decide) (by decide) (by decide) (by decide) (by decide)).mono ?_
  rintro e w' ⟨hb, ⟨h1, h2⟩ | ⟨h1, nb, cp, rest, rfl, _⟩⟩
  · exact absurd (by decide) h1
  · exact ⟨(nb, cp), rfl, hm.call hb⟩
theorem head_two {B : Nat} {w0 w : World} {H : List Blk} {b : Nat} (hm : Mem B w0 w H) (hh : (⟨b, bv [0, 0, 0, 0, 0, 0, 0, 0, 0, 0, 0, 0, 8, 0] ++ [], 5⟩ : Blk) ∈ H) : Calls Try.prog 12 ([.int .i64 3, .slice (some ⟨b, 0, none⟩) 14 14] : List Value).toArray w (fun e w' => ∃ _ : Unit, e = .returned (.tuple #[.agg pzero.toArray, .int .i64 10]) ∧ Mem B w0 w' H) := by
  have : Has H b (bv [0, 0, 0, 0, 0, 0, 0, 0, 0, 0, 0, 0, 8, 0] ++ []) 5 := ⟨hh⟩
  refine (parse_any (BS.own (bs := [0, 0, 0, 0, 0, 0, 0, 0, 0, 0, 0, 0, 8, 0]) (rest := []) hm) (oct_of (by decide)) rfl (by decide) (by decide) (by decide) (by decide) (by decide)).mono ?_
  rintro e w' ⟨hb, ⟨h1, rfl⟩ | ⟨h1, _⟩⟩
  · exact ⟨(), rfl, hm.call hb⟩
  · exact absurd h1 (by decide)
set_option maxHeartbeats 1000000 in
theorem headOk_is {w : World} : Ret Try.prog 10 [] w (.bool true) := by
  refine .of (enter Try.func10 rfl Try.ntmps10 (by simp) ?_)
  repeat (first | (refine w_d wn_a (d_make (cs := [.int .u8 0, .int .u8 0, .int .u8 0, .int .u8 0, .int .u8 0, .int .u8 0, .int .u8 0, .int .u8 0, .int .u8 0, .int .u8 0, .int .u8 0, .int .u8 0, .int .u8 0, .int .u8 0]) rfl rfl (by rfl) (by decide) (by decide) (by decide) (by decide) rfl) rfl (by decide) ?_; intro hb) | (refine w_d wn_a (d_callx rfl (fun w hm => head_one hm (List.Mem.head _))) rfl (by decide) ?_; intro i) | (refine w_d wn_a (d_callx rfl (fun w hm => head_two hm (List.Mem.tail _ (List.Mem.head _)))) rfl (by decide) ?_; intro i) | refine w_nil ?_ | refine q_nil ?_ | refine s_nil ?_ | refine sq_nil ?_ | refine w_y wn_a (by first | exact y_move rfl | exact y_ixS 12 rfl rfl (by decide) (by decide) (by decide) | exact y_ixS 13 rfl rfl (by decide) (by decide) (by decide) | exact y_a) rfl (by decide) ?_ | refine q_y wn_a (by first | exact y_move rfl | exact y_ixS 12 rfl rfl (by decide) (by decide) (by decide) | exact y_ixS 13 rfl rfl (by decide) (by decide) (by decide) | exact y_a) rfl (by decide) ?_ | refine sq_y wn_a (by first | exact y_move rfl | exact y_ixS 12 rfl rfl (by decide) (by decide) (by decide) | exact y_ixS 13 rfl rfl (by decide) (by decide) (by decide) | exact y_a) rfl (by decide) ?_ | refine s_y wn_a (by first | exact y_move rfl | exact y_ixS 12 rfl rfl (by decide) (by decide) (by decide) | exact y_ixS 13 rfl rfl (by decide) (by decide) (by decide) | exact y_a) rfl (by decide) ?_ | refine w_skip rfl rfl rfl rfl (by decide) ?_ | refine q_skip rfl rfl rfl rfl (by decide) ?_ | refine w_skip0 rfl rfl rfl rfl ?_ | refine sq_skip rfl rfl rfl rfl (by decide) ?_ | (refine w_d wn_a (by first | exact d_box rfl | exact d_box1 rfl (by rfl) | exact d_alloc) rfl (by decide) ?_; intro _) | (refine w_d0 wn_a (by first | exact d_store rfl rfl (by rfl) | exact d_store_all rfl rfl (by rfl) (by rfl) (by rfl) | exact d_store_row rfl rfl (by rfl) (by rfl)) rfl ?_; intro _) | (refine s_d wn_a (by first | exact d_box rfl | exact d_box1 rfl (by rfl) | exact d_alloc) (fun _ => inferInstance) rfl (by decide) ?_; intro _) | (refine s_d0 wn_a (by first | exact d_store rfl rfl (by rfl) | exact d_store_all rfl rfl (by rfl) (by rfl) (by rfl) | exact d_store_row rfl rfl (by rfl) (by rfl)) (fun _ => inferInstance) rfl ?_; intro _) | refine c_seq ?_ | refine c_block ?_ | refine c_skip ?_ | refine c_exit ?_ | refine c_ret ?_ | refine c_region ?_ | refine c_draw (by kernel_rfl) (by decide +kernel) ?_ | refine c_cond_t rfl ?_ | refine c_cond_f rfl ?_ | refine e_seq ?_ | refine e_then_exit ?_ | refine e_then_ret ?_ | refine e_in_normal ?_ | refine e_in_ret ?_ | refine e_in_same ?_ | refine e_in_other rfl ?_)
  exact post1 (.inl rfl) rfl (res_tmp rfl) fun _ hm => ⟨rfl, hm.below⟩
end Fr
end Go.Proofs.Ytiolijpamidpfaa
