/-
  Texts of this seat, one behind the other: FrSN0, FrS3. Conditions: those in each statement.
-/
import Derived.Test.YtiolijpamidpfaaFrS
import Derived.Test.YtiolijpamidpfaaFrSA
import Derived.Test.YtiolijpamidpfaaFrSH6
import Derived.Test.YtiolijpamidpfaaFrSH17
import Derived.Test.YtiolijpamidpfaaFrSN6
import Derived.Test.YtiolijpamidpfaaFrSN17
namespace Go.Proofs.Ytiolijpamidpfaa
open Go.RowKit
namespace Fr
open Sx
set_option linter.unusedVariables false in
set_option maxHeartbeats 2000000 in
theorem rp_none {w : World} {b o len cap : Nat} {bs : List Int} {port : Int} (hb : BS w b o bs) (ho : Oct bs) (hlen : bs.length = len) (hc : len ≤ cap) (p0 : 0 ≤ port) (p1 : port ≤ 255) (l0 : 14 ≤ len) (l1 : len ≤ 1514) (ht : two (bs.drop 12) = 2048) (l34 : 34 ≤ len) (f1 : bs.getD 14 0 / 16 = 4) (f2 : 20 ≤ 4 * (bs.getD 14 0 % 16)) (f3 : 4 * (bs.getD 14 0 % 16) ≤ two (bs.drop 16)) (f4 : 14 + two (bs.drop 16) ≤ (len : Int)) (f5 : foldI (wsum ((bs.drop 14).take (4 * (bs.getD 14 0 % 16)).toNat)) = 65535) (g : bs.getD 23 0 ≠ 6) (g' : bs.getD 23 0 ≠ 17) : Ret Try.prog 13 [.int .i64 port, .slice (some ⟨b, o, none⟩) len cap] w (.tuple #[.agg (hd port bs (four (bs.drop 26)) (four (bs.drop 30)) (bs.getD 23 0) 0 0).toArray, .int .i64 0, .int .i64 (14 + two (bs.drop 16)), .int .i64 0]) := by
  obtain ⟨t0, t1⟩ := two_bd (ho.drop 12)
  have c14 := hb 14 (by omega)
  have hlt : b < w.heap.size := block_lt_of_cell c14
  obtain ⟨a0, a1⟩ := ho.at 14
  obtain ⟨b0, b1⟩ := two_bd (ho.drop 16)
  have hsl : ((bs.drop 14).take (4 * (bs.getD 14 0 % 16)).toNat).length = (14 + 4 * (bs.getD 14 0 % 16)).toNat - Int.toNat 14 := by rw [List.length_take, List.length_drop]; omega
  have c23 := hb 23 (by omega)
  obtain ⟨e0, e1⟩ := ho.at 23
  obtain ⟨d0, d1⟩ := two_bd (ho.drop 20)
  refine .of (enter Try.func13 rfl Try.ntmps13 (by simp) ?_)
  repeat (first | (refine w_call rfl wn_a (by decide) (fun w hm => rsixd 0 rfl (hb.keep hm.below) hlen (by omega) (by omega) (by omega)) ?_) | (refine w_call rfl wn_a (by decide) (fun w hm => rsixd 6 rfl (hb.keep hm.below) hlen (by omega) (by omega) (by omega)) ?_) | (refine q_call rfl wn_a (by decide) (fun w hm => rsixd 0 rfl (hb.keep hm.below) hlen (by omega) (by omega) (by omega)) ?_) | (refine q_call rfl wn_a (by decide) (fun w hm => rsixd 6 rfl (hb.keep hm.below) hlen (by omega) (by omega) (by omega)) ?_) | (refine w_call rfl wn_a (by decide) (fun w hm => rtwo (hb.keep hm.below) ho hlen (by omega) (by omega) (by omega) (cs := bs.drop 12) rfl) ?_) | (refine q_call rfl wn_a (by decide) (fun w hm => rtwo (hb.keep hm.below) ho hlen (by omega) (by omega) (by omega) (cs := bs.drop 12) rfl) ?_) | (refine w_call rfl wn_a (by decide) (fun w hm => rtwo (hb.keep hm.below) ho hlen (by omega) (by omega) (by omega) (cs := bs.drop 16) rfl) ?_) | (refine w_call rfl wn_a (by decide) (fun w hm => rsum (bs := (bs.drop 14).take (4 * (bs.getD 14 0 % 16)).toNat) (((hb.drop 14).take _).keep hm.below) ((ho.drop 14).take _) hsl (by omega)) ?_) | (refine w_call rfl wn_a (by decide) (fun w hm => rfour (hb.keep hm.below) ho hlen (by omega) (by omega) (by omega) (cs := bs.drop 26) rfl) ?_) | (refine w_call rfl wn_a (by decide) (fun w hm => rfour (hb.keep hm.below) ho hlen (by omega) (by omega) (by omega) (cs := bs.drop 30) rfl) ?_) | (refine w_call rfl wn_a (by decide) (fun w hm => rtwo (hb.keep hm.below) ho hlen (by omega) (by omega) (by omega) (cs := bs.drop 20) rfl) ?_) | (refine w_call rfl wn_a (by decide) (fun w hm => rtwo (hb.keep hm.below) ho hlen (by omega) (by omega) (by omega) (cs := bs.drop (14 + (psize bs).toNat)) (by unfold psize; congr 1; omega)) ?_) | (refine w_call rfl wn_a (by decide) (fun w hm => rtwo (hb.keep hm.below) ho hlen (by omega) (by omega) (by omega) (cs := bs.drop (14 + (psize bs).toNat + 2)) (by unfold psize; congr 1; omega)) ?_) | refine w_nil ?_ | refine q_nil ?_ | refine s_nil ?_ | refine sq_nil ?_ | refine w_y wn_a (by first | exact y_move rfl | exact y_load_old rfl hlt c14 | exact y_to (.int .i64 (4 * (bs.getD 14 0 % 16))) (y_mul_i64 rfl rfl (by omega) (by omega)) (by rw [Int.mul_comm]) | exact y_load_old rfl hlt c23 | exact y_a) rfl (by decide) ?_ | refine q_y wn_a (by first | exact y_move rfl | exact y_load_old rfl hlt c14 | exact y_to (.int .i64 (4 * (bs.getD 14 0 % 16))) (y_mul_i64 rfl rfl (by omega) (by omega)) (by rw [Int.mul_comm]) | exact y_load_old rfl hlt c23 | exact y_a) rfl (by decide) ?_ | refine sq_y wn_a (by first | exact y_move rfl | exact y_load_old rfl hlt c14 | exact y_to (.int .i64 (4 * (bs.getD 14 0 % 16))) (y_mul_i64 rfl rfl (by omega) (by omega)) (by rw [Int.mul_comm]) | exact y_load_old rfl hlt c23 | exact y_a) rfl (by decide) ?_ | refine s_y wn_a (by first | exact y_move rfl | exact y_load_old rfl hlt c14 | exact y_to (.int .i64 (4 * (bs.getD 14 0 % 16))) (y_mul_i64 rfl rfl (by omega) (by omega)) (by rw [Int.mul_comm]) | exact y_load_old rfl hlt c23 | exact y_a) rfl (by decide) ?_ | refine w_skip rfl rfl rfl rfl (by decide) ?_ | refine q_skip rfl rfl rfl rfl (by decide) ?_ | refine w_skip0 rfl rfl rfl rfl ?_ | refine sq_skip rfl rfl rfl rfl (by decide) ?_ | (refine w_d wn_a (by first | exact d_box rfl | exact d_box1 rfl (by rfl) | exact d_alloc) rfl (by decide) ?_; intro _) | (refine w_d0 wn_a (by first | exact d_store rfl rfl (by rfl) | exact d_store_all rfl rfl (by rfl) (by rfl) (by rfl) | exact d_store_row rfl rfl (by rfl) (by rfl)) rfl ?_; intro _) | (refine s_d wn_a (by first | exact d_box rfl | exact d_box1 rfl (by rfl) | exact d_alloc) (fun _ => inferInstance) rfl (by decide) ?_; intro _) | (refine s_d0 wn_a (by first | exact d_store rfl rfl (by rfl) | exact d_store_all rfl rfl (by rfl) (by rfl) (by rfl) | exact d_store_row rfl rfl (by rfl) (by rfl)) (fun _ => inferInstance) rfl ?_; intro _) | refine c_seq ?_ | refine c_block ?_ | refine c_skip ?_ | refine c_exit ?_ | refine c_ret ?_ | refine c_region ?_ | refine c_draw (by kernel_rfl) (by decide +kernel) ?_ | refine c_cond_t rfl ?_ | refine c_cond_f rfl ?_ | refine e_seq ?_ | refine e_then_exit ?_ | refine e_then_ret ?_ | refine e_in_normal ?_ | refine e_in_ret ?_ | refine e_in_same ?_ | refine e_in_other rfl ?_)
  first | exact post4 (.inl rfl) rfl (res_tmp rfl) (res_tmp rfl) (res_tmp rfl) (res_tmp rfl) (fun _ hm => ⟨rfl, hm.below⟩) | exact post4 (.inl rfl) rfl (res_cell rfl (by rfl)) (res_tmp rfl) (res_tmp rfl) (res_tmp rfl) (fun _ hm => ⟨rfl, hm.below⟩)
end Fr
end Go.Proofs.Ytiolijpamidpfaa
namespace Go.Proofs.Ytiolijpamidpfaa
open Go.RowKit
namespace Fr
open Sx
/-- The header, why it is none; the two numbers in between are not asked for. -/
theorem rp_all {b o len cap : Nat} {bs : List Int} {port : Int} (ho : Oct bs) (hlen : bs.length = len) (hc : len ≤ cap) (p0 : 0 ≤ port) (p1 : port ≤ 255) (l0 : 14 ≤ len) (l1 : len ≤ 1514) : ∃ x y : Int, ∀ {w : World}, BS w b o bs → Ret Try.prog 13 [.int .i64 port, .slice (some ⟨b, o, none⟩) len cap] w (.tuple #[.agg (if perr bs = 0 then hdOf port bs else hzero).toArray, .int .i64 x, .int .i64 y, .int .i64 (perr bs)]) := by
  by_cases ht : two (bs.drop 12) = 2048
  · have nt : ¬ two (bs.drop 12) ≠ 2048 := fun h => h ht
    by_cases l34 : len < 34
    · have he : perr bs = 10 := by unfold perr; rw [if_neg nt, if_pos (by omega)]
      exact ⟨0, 0, fun {w} hb => by rw [he]; exact rp_few hb ho hlen hc p0 p1 l0 l1 ht l34⟩
    · have l34' : 34 ≤ len := by omega
      by_cases f1 : bs.getD 14 0 / 16 = 4
      · by_cases f2 : 4 * (bs.getD 14 0 % 16) < 20
        · have he : perr bs = 2 := by unfold perr psize; rw [if_neg nt, if_neg (by omega), if_pos (.inr (.inl f2))]
          exact ⟨0, 0, fun {w} hb => by rw [he]; exact rp_form2 hb ho hlen hc p0 p1 l0 l1 ht l34' f1 f2⟩
        · have f2' : 20 ≤ 4 * (bs.getD 14 0 % 16) := by omega
          by_cases f3 : two (bs.drop 16) < 4 * (bs.getD 14 0 % 16)
          · have he : perr bs = 2 := by unfold perr psize pall; rw [if_neg nt, if_neg (by omega), if_pos (.inr (.inr f3))]
            exact ⟨0, 0, fun {w} hb => by rw [he]; exact rp_form3 hb ho hlen hc p0 p1 l0 l1 ht l34' f1 f2' f3⟩
          · have f3' : 4 * (bs.getD 14 0 % 16) ≤ two (bs.drop 16) := by omega
            by_cases f4 : (len : Int) < 14 + two (bs.drop 16)
            · have he : perr bs = 10 := by unfold perr psize pall; rw [if_neg nt, if_neg (by omega), if_neg (by omega), if_pos (by omega)]
              exact ⟨0, 0, fun {w} hb => by rw [he]; exact rp_cut hb ho hlen hc p0 p1 l0 l1 ht l34' f1 f2' f3' f4⟩
            · have f4' : 14 + two (bs.drop 16) ≤ (len : Int) := by omega
              by_cases f5 : foldI (wsum ((bs.drop 14).take (4 * (bs.getD 14 0 % 16)).toNat)) = 65535
              · have he : perr bs = 0 := by unfold perr psize pall; rw [if_neg nt, if_neg (by omega), if_neg (by omega), if_neg (by omega), if_neg (fun h => h f5)]
                rw [he, if_pos rfl]
                by_cases k1 : two (bs.drop 20) % 8192 = 0
                · by_cases k2 : 8 ≤ two (bs.drop 16) - 4 * (bs.getD 14 0 % 16)
                  · by_cases g : bs.getD 23 0 = 6
                    · exact ⟨_, _, fun {w} hb => by unfold hdOf; rw [if_neg nt, if_pos ⟨.inl g, k1, k2⟩]; exact rp_has6 hb ho hlen hc p0 p1 l0 l1 ht l34' f1 f2' f3' f4' f5 g k1 k2⟩
                    · by_cases g' : bs.getD 23 0 = 17
                      · exact ⟨_, _, fun {w} hb => by unfold hdOf; rw [if_neg nt, if_pos ⟨.inr g', k1, k2⟩]; exact rp_has17 hb ho hlen hc p0 p1 l0 l1 ht l34' f1 f2' f3' f4' f5 g' k1 k2⟩
                      · exact ⟨_, _, fun {w} hb => by unfold hdOf; rw [if_neg nt, if_neg (fun h => h.1.elim g g')]; exact rp_none hb ho hlen hc p0 p1 l0 l1 ht l34' f1 f2' f3' f4' f5 g g'⟩
                  · have nP : ¬ hasP bs := fun h => k2 h.2.2
                    by_cases g : bs.getD 23 0 = 6
                    · exact ⟨_, _, fun {w} hb => by unfold hdOf; rw [if_neg nt, if_neg nP]; exact rp_few6 hb ho hlen hc p0 p1 l0 l1 ht l34' f1 f2' f3' f4' f5 g k1 (by omega)⟩
                    · by_cases g' : bs.getD 23 0 = 17
                      · exact ⟨_, _, fun {w} hb => by unfold hdOf; rw [if_neg nt, if_neg nP]; exact rp_few17 hb ho hlen hc p0 p1 l0 l1 ht l34' f1 f2' f3' f4' f5 g' k1 (by omega)⟩
                      · exact ⟨_, _, fun {w} hb => by unfold hdOf; rw [if_neg nt, if_neg nP]; exact rp_none hb ho hlen hc p0 p1 l0 l1 ht l34' f1 f2' f3' f4' f5 g g'⟩
                · have nP : ¬ hasP bs := fun h => k1 h.2.1
                  by_cases g : bs.getD 23 0 = 6
                  · exact ⟨_, _, fun {w} hb => by unfold hdOf; rw [if_neg nt, if_neg nP]; exact rp_part6 hb ho hlen hc p0 p1 l0 l1 ht l34' f1 f2' f3' f4' f5 g k1⟩
                  · by_cases g' : bs.getD 23 0 = 17
                    · exact ⟨_, _, fun {w} hb => by unfold hdOf; rw [if_neg nt, if_neg nP]; exact rp_part17 hb ho hlen hc p0 p1 l0 l1 ht l34' f1 f2' f3' f4' f5 g' k1⟩
                    · exact ⟨_, _, fun {w} hb => by unfold hdOf; rw [if_neg nt, if_neg nP]; exact rp_none hb ho hlen hc p0 p1 l0 l1 ht l34' f1 f2' f3' f4' f5 g g'⟩
              · have he : perr bs = 11 := by unfold perr psize pall; rw [if_neg nt, if_neg (by omega), if_neg (by omega), if_neg (by omega), if_pos f5]
                exact ⟨0, 0, fun {w} hb => by rw [he]; exact rp_sum hb ho hlen hc p0 p1 l0 l1 ht l34' f1 f2' f3' f4' f5⟩
      · have he : perr bs = 2 := by unfold perr; rw [if_neg nt, if_neg (by omega), if_pos (.inl f1)]
        exact ⟨0, 0, fun {w} hb => by rw [he]; exact rp_form1 hb ho hlen hc p0 p1 l0 l1 ht l34' f1⟩
  · have he : perr bs = 0 := by unfold perr; rw [if_pos ht]
    exact ⟨0, 0, fun {w} hb => by rw [he, if_pos rfl]; unfold hdOf; rw [if_pos ht]; exact rp_other hb ho hlen hc p0 p1 l0 l1 ht⟩
end Fr
end Go.Proofs.Ytiolijpamidpfaa
