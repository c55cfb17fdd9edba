/-
  What frame.Parse answers: the packets whose head is whole. Conditions: the bytes lie in memory.
-/
import Derived.Test.YtiolijpamidpfaaFrO6
import Derived.Test.YtiolijpamidpfaaFrO17
import Derived.Test.YtiolijpamidpfaaFrN6
import Derived.Test.YtiolijpamidpfaaFrN17
import Derived.Test.YtiolijpamidpfaaFrN0
namespace Go.Proofs.Ytiolijpamidpfaa
open Go.RowKit
namespace Fr
open Sx
set_option linter.unusedVariables false in
set_option maxHeartbeats 4000000 in
theorem t_sum {w : World} {len r p nb cp : Nat} {bs : List Int} {rest : List Value} {port : Int} (ho : Oct bs) (hlen : bs.length = len) (p0 : 0 ≤ port) (p1 : port ≤ 255) (l0 : 14 ≤ len) (l1 : len ≤ 1514) (h1 : len ≤ cp) (h2 : cp ≤ maxLen) (h3 : (bv bs ++ rest).length = cp) (ht : two (bs.drop 12) = 2048) (l34 : 34 ≤ len) (f1 : bs.getD 14 0 / 16 = 4) (f2 : 20 ≤ 4 * (bs.getD 14 0 % 16)) (f3 : 4 * (bs.getD 14 0 % 16) ≤ two (bs.drop 16)) (f4 : 14 + two (bs.drop 16) ≤ (len : Int)) (f5 : foldI (wsum ((bs.drop 14).take (4 * (bs.getD 14 0 % 16)).toNat)) ≠ 65535) : C Try.prog w.heap.size 153 w (bodyPost Try.prog Try.f12 (fun e w' => Below w.heap.size w w' ∧ ((perr bs ≠ 0 ∧ e = .returned (.tuple #[.agg pzero.toArray, .int .i64 (perr bs)])) ∨ (perr bs = 0 ∧ ∃ nb cp rest, e = .returned (.tuple #[.agg (pkOf port bs nb len cp).toArray, .int .i64 0]) ∧ w.heap.size ≤ nb ∧ w'.heap[nb]? = some (.cells (bv bs ++ rest).toArray 5 (0, 0)) ∧ len ≤ cp ∧ cp ≤ maxLen ∧ (bv bs ++ rest).length = cp)))) (behind 7 ((Try.f12.body).getD .skip)) [(6, .pointer (some ⟨p, 0, none⟩)), (4, .pointer (some ⟨r, 0, none⟩))] [⟨p, (([.int .i64 port, .int .u8 (bs.getD 6 0), .int .u8 (bs.getD 7 0), .int .u8 (bs.getD 8 0), .int .u8 (bs.getD 9 0), .int .u8 (bs.getD 10 0), .int .u8 (bs.getD 11 0), .int .u8 (bs.getD 0 0), .int .u8 (bs.getD 1 0), .int .u8 (bs.getD 2 0), .int .u8 (bs.getD 3 0), .int .u8 (bs.getD 4 0), .int .u8 (bs.getD 5 0), .int .i64 (two (bs.drop 12)), .int .u32 0, .int .u32 0, .int .i64 0, .int .i64 0, .int .i64 0, .slice (some ⟨nb, 0, none⟩) len cp, .int .i64 0, .int .i64 0] : List Value)), 32⟩, ⟨nb, bv bs ++ rest, 5⟩, ⟨r, pzero, 32⟩] := by
  obtain ⟨a0, a1⟩ := ho.at 14
  change C _ _ _ _ _ (Code.seq _ _) _ _
  have hl16 : (bs.drop 16).length = len - 16 := by simp; omega
  obtain ⟨b0, b1⟩ := two_bd (ho.drop 16)
  have own14 : (bv bs ++ rest)[14]? = some (.int .u8 (bs.getD 14 0)) := own_at 14 (by omega)
  have e15 := and_u8_15 (bs.getD 14 0) a0 a1
  have hsl : ((bs.drop 14).take (4 * (bs.getD 14 0 % 16)).toNat).length = (4 * (bs.getD 14 0 % 16)).toNat := by rw [List.length_take, List.length_drop]; omega
  rw [← Int.zero_add (wsum _)] at f5
  have he : perr bs = 11 := by rw [Int.zero_add] at f5; unfold perr psize pall; rw [if_neg (by simp [ht]), if_neg (by omega), if_neg (by omega), if_neg (by omega), if_pos f5]
  repeat (first | (refine q_call rfl wn_a (by decide) (fun w hm => two_any (bs := bs.drop 16) ((BS.own (bs := bs) (rest := rest) hm).drop 16) (ho.drop 16) (by omega) hl16) ?_) | (refine w_call rfl wn_a (by decide) (fun w hm => sum_any (bs := (bs.drop 14).take (4 * (bs.getD 14 0 % 16)).toNat) (((BS.own (bs := bs) (rest := rest) hm).drop 14).take _) ((ho.drop 14).take _) hsl (by omega) (by omega) (by omega) (by omega)) ?_) | refine w_nil ?_ | refine q_nil ?_ | refine s_nil ?_ | refine sq_nil ?_ | refine w_y wn_a (by first | exact y_move rfl | exact y_load rfl own14 | exact y_and_is rfl rfl e15 | exact y_a) rfl (by decide) ?_ | refine q_y wn_a (by first | exact y_move rfl | exact y_load rfl own14 | exact y_and_is rfl rfl e15 | exact y_a) rfl (by decide) ?_ | refine sq_y wn_a (by first | exact y_move rfl | exact y_load rfl own14 | exact y_and_is rfl rfl e15 | exact y_a) rfl (by decide) ?_ | refine s_y wn_a (by first | exact y_move rfl | exact y_load rfl own14 | exact y_and_is rfl rfl e15 | exact y_a) rfl (by decide) ?_ | refine w_skip rfl rfl rfl rfl (by decide) ?_ | refine q_skip rfl rfl rfl rfl (by decide) ?_ | refine w_skip0 rfl rfl rfl rfl ?_ | refine sq_skip rfl rfl rfl rfl (by decide) ?_ | (refine w_d wn_a (by first | exact d_box rfl | exact d_box1 rfl (by rfl) | exact d_alloc) rfl (by decide) ?_; intro _) | (refine w_d0 wn_a (by first | exact d_store rfl rfl (by rfl) | exact d_store_all rfl rfl (by rfl) (by rfl) (by rfl) | exact d_store_row rfl rfl (by rfl) (by rfl)) rfl ?_; intro _) | (refine s_d wn_a (by first | exact d_box rfl | exact d_box1 rfl (by rfl) | exact d_alloc) (fun _ => inferInstance) rfl (by decide) ?_; intro _) | (refine s_d0 wn_a (by first | exact d_store rfl rfl (by rfl) | exact d_store_all rfl rfl (by rfl) (by rfl) (by rfl) | exact d_store_row rfl rfl (by rfl) (by rfl)) (fun _ => inferInstance) rfl ?_; intro _) | refine c_seq ?_ | refine c_block ?_ | refine c_skip ?_ | refine c_exit ?_ | refine c_ret ?_ | refine c_region ?_ | refine c_draw (by kernel_rfl) (by decide +kernel) ?_ | refine c_cond_t rfl ?_ | refine c_cond_f rfl ?_ | refine e_seq ?_ | refine e_then_exit ?_ | refine e_then_ret ?_ | refine e_in_normal ?_ | refine e_in_ret ?_ | refine e_in_same ?_ | refine e_in_other rfl ?_)
  exact post2 (.inl rfl) rfl (res_cell rfl (by rfl)) (res_tmp rfl) fun _ hm => ⟨hm.below, .inl ⟨by rw [he]; decide, by rw [he]; rfl⟩⟩
set_option linter.unusedVariables false in
set_option maxHeartbeats 4000000 in
theorem t_ok {w : World} {len r p nb cp : Nat} {bs : List Int} {rest : List Value} {port : Int} (ho : Oct bs) (hlen : bs.length = len) (p0 : 0 ≤ port) (p1 : port ≤ 255) (l0 : 14 ≤ len) (l1 : len ≤ 1514) (h1 : len ≤ cp) (h2 : cp ≤ maxLen) (h3 : (bv bs ++ rest).length = cp) (ht : two (bs.drop 12) = 2048) (l34 : 34 ≤ len) (f1 : bs.getD 14 0 / 16 = 4) (f2 : 20 ≤ 4 * (bs.getD 14 0 % 16)) (f3 : 4 * (bs.getD 14 0 % 16) ≤ two (bs.drop 16)) (f4 : 14 + two (bs.drop 16) ≤ (len : Int)) (f5 : foldI (wsum ((bs.drop 14).take (4 * (bs.getD 14 0 % 16)).toNat)) = 65535) : C Try.prog w.heap.size 153 w (bodyPost Try.prog Try.f12 (fun e w' => Below w.heap.size w w' ∧ ((perr bs ≠ 0 ∧ e = .returned (.tuple #[.agg pzero.toArray, .int .i64 (perr bs)])) ∨ (perr bs = 0 ∧ ∃ nb cp rest, e = .returned (.tuple #[.agg (pkOf port bs nb len cp).toArray, .int .i64 0]) ∧ w.heap.size ≤ nb ∧ w'.heap[nb]? = some (.cells (bv bs ++ rest).toArray 5 (0, 0)) ∧ len ≤ cp ∧ cp ≤ maxLen ∧ (bv bs ++ rest).length = cp)))) (behind 7 ((Try.f12.body).getD .skip)) [(6, .pointer (some ⟨p, 0, none⟩)), (4, .pointer (some ⟨r, 0, none⟩))] [⟨p, (([.int .i64 port, .int .u8 (bs.getD 6 0), .int .u8 (bs.getD 7 0), .int .u8 (bs.getD 8 0), .int .u8 (bs.getD 9 0), .int .u8 (bs.getD 10 0), .int .u8 (bs.getD 11 0), .int .u8 (bs.getD 0 0), .int .u8 (bs.getD 1 0), .int .u8 (bs.getD 2 0), .int .u8 (bs.getD 3 0), .int .u8 (bs.getD 4 0), .int .u8 (bs.getD 5 0), .int .i64 (two (bs.drop 12)), .int .u32 0, .int .u32 0, .int .i64 0, .int .i64 0, .int .i64 0, .slice (some ⟨nb, 0, none⟩) len cp, .int .i64 0, .int .i64 0] : List Value)), 32⟩, ⟨nb, bv bs ++ rest, 5⟩, ⟨r, pzero, 32⟩] := by
  obtain ⟨a0, a1⟩ := ho.at 14
  change C _ _ _ _ _ (Code.seq _ _) _ _
  have hl16 : (bs.drop 16).length = len - 16 := by simp; omega
  obtain ⟨b0, b1⟩ := two_bd (ho.drop 16)
  have own14 : (bv bs ++ rest)[14]? = some (.int .u8 (bs.getD 14 0)) := own_at 14 (by omega)
  have e15 := and_u8_15 (bs.getD 14 0) a0 a1
  have hsl : ((bs.drop 14).take (4 * (bs.getD 14 0 % 16)).toNat).length = (4 * (bs.getD 14 0 % 16)).toNat := by rw [List.length_take, List.length_drop]; omega
  rw [← Int.zero_add (wsum _)] at f5
  have hl26 : (bs.drop 26).length = len - 26 := by simp; omega
  have hl30 : (bs.drop 30).length = len - 30 := by simp; omega
  have own23 : (bv bs ++ rest)[23]? = some (.int .u8 (bs.getD 23 0)) := own_at 23 (by omega)
  obtain ⟨c0, c1⟩ := ho.at 23
  have he : perr bs = 0 := by rw [Int.zero_add] at f5; unfold perr psize pall; rw [if_neg (by simp [ht]), if_neg (by omega), if_neg (by omega), if_neg (by omega), if_neg (fun h => h f5)]
  repeat (first | (refine q_call rfl wn_a (by decide) (fun w hm => two_any (bs := bs.drop 16) ((BS.own (bs := bs) (rest := rest) hm).drop 16) (ho.drop 16) (by omega) hl16) ?_) | (refine w_call rfl wn_a (by decide) (fun w hm => sum_any (bs := (bs.drop 14).take (4 * (bs.getD 14 0 % 16)).toNat) (((BS.own (bs := bs) (rest := rest) hm).drop 14).take _) ((ho.drop 14).take _) hsl (by omega) (by omega) (by omega) (by omega)) ?_) | (refine stop_at 20 ?_) | refine w_nil ?_ | refine q_nil ?_ | refine s_nil ?_ | refine sq_nil ?_ | refine w_y wn_a (by first | exact y_move rfl | exact y_load rfl own14 | exact y_and_is rfl rfl e15 | exact y_a) rfl (by decide) ?_ | refine q_y wn_a (by first | exact y_move rfl | exact y_load rfl own14 | exact y_and_is rfl rfl e15 | exact y_a) rfl (by decide) ?_ | refine sq_y wn_a (by first | exact y_move rfl | exact y_load rfl own14 | exact y_and_is rfl rfl e15 | exact y_a) rfl (by decide) ?_ | refine s_y wn_a (by first | exact y_move rfl | exact y_load rfl own14 | exact y_and_is rfl rfl e15 | exact y_a) rfl (by decide) ?_ | refine w_skip rfl rfl rfl rfl (by decide) ?_ | refine q_skip rfl rfl rfl rfl (by decide) ?_ | refine w_skip0 rfl rfl rfl rfl ?_ | refine sq_skip rfl rfl rfl rfl (by decide) ?_ | (refine w_d wn_a (by first | exact d_box rfl | exact d_box1 rfl (by rfl) | exact d_alloc) rfl (by decide) ?_; intro _) | (refine w_d0 wn_a (by first | exact d_store rfl rfl (by rfl) | exact d_store_all rfl rfl (by rfl) (by rfl) (by rfl) | exact d_store_row rfl rfl (by rfl) (by rfl)) rfl ?_; intro _) | (refine s_d wn_a (by first | exact d_box rfl | exact d_box1 rfl (by rfl) | exact d_alloc) (fun _ => inferInstance) rfl (by decide) ?_; intro _) | (refine s_d0 wn_a (by first | exact d_store rfl rfl (by rfl) | exact d_store_all rfl rfl (by rfl) (by rfl) (by rfl) | exact d_store_row rfl rfl (by rfl) (by rfl)) (fun _ => inferInstance) rfl ?_; intro _) | refine c_seq ?_ | refine c_block ?_ | refine c_skip ?_ | refine c_exit ?_ | refine c_ret ?_ | refine c_region ?_ | refine c_draw (by kernel_rfl) (by decide +kernel) ?_ | refine c_cond_t rfl ?_ | refine c_cond_f rfl ?_ | refine e_seq ?_ | refine e_then_exit ?_ | refine e_then_ret ?_ | refine e_in_normal ?_ | refine e_in_ret ?_ | refine e_in_same ?_ | refine e_in_other rfl ?_)
  refine .mk ?_
  refine c_cut2 (ι := Unit) (fun _ => [(6, .pointer (some ⟨p, 0, none⟩)), (4, .pointer (some ⟨r, 0, none⟩)), (7, .slice (some ⟨nb, 0 + Int.toNat 14 * 1, none⟩) (len - Int.toNat 14) (cp - Int.toNat 14)), (8, .int .i64 (4 * (bs.getD 14 0 % 16))), (9, .int .i64 (two (bs.drop 16)))]) (fun _ => [⟨p, [.int .i64 port, .int .u8 (bs.getD 6 0), .int .u8 (bs.getD 7 0), .int .u8 (bs.getD 8 0), .int .u8 (bs.getD 9 0), .int .u8 (bs.getD 10 0), .int .u8 (bs.getD 11 0), .int .u8 (bs.getD 0 0), .int .u8 (bs.getD 1 0), .int .u8 (bs.getD 2 0), .int .u8 (bs.getD 3 0), .int .u8 (bs.getD 4 0), .int .u8 (bs.getD 5 0), .int .i64 (two (bs.drop 12)), .int .u32 (four (bs.drop 26)), .int .u32 (four (bs.drop 30)), .int .i64 (bs.getD 23 0), .int .i64 0, .int .i64 0, .slice (some ⟨nb, 0, none⟩) len cp, .int .i64 0, .int .i64 0], 32⟩, ⟨nb, bv bs ++ rest, 5⟩, ⟨r, pzero, 32⟩]) ?_ (fun _ => ?_)
  · repeat (first | (refine c_mix (id := 20) [0, 1, 2, 3, 4, 5, 6, 7, 8, 9, 10, 11] [12, 13, 14, 15, 16, 17, 18] [⟨nb, bv bs ++ rest, 5⟩] (by kernel_rfl) (by decide +kernel) ?_; simp only [pick, nth]) | (refine sq_call rfl wn_a (by decide) (fun w hm => four_any (bs := bs.drop 26) (BS.from (bs := bs) (rest := rest) hm 26 rfl) (ho.drop 26) (by omega) hl26 (by omega)) ?_) | (refine sq_call rfl wn_a (by decide) (fun w hm => four_any (bs := bs.drop 30) (BS.from (bs := bs) (rest := rest) hm 30 rfl) (ho.drop 30) (by omega) hl30 (by omega)) ?_) | (exact e_meet () ⟨rfl, rfl, rfl, rfl, rfl, trivial⟩ (fun _ h => h)) | refine w_nil ?_ | refine q_nil ?_ | refine s_nil ?_ | refine sq_nil ?_ | refine w_y wn_a (by first | exact y_move rfl | exact y_load rfl own23 | exact y_a) rfl (by decide) ?_ | refine q_y wn_a (by first | exact y_move rfl | exact y_load rfl own23 | exact y_a) rfl (by decide) ?_ | refine sq_y wn_a (by first | exact y_move rfl | exact y_load rfl own23 | exact y_a) rfl (by decide) ?_ | refine s_y wn_a (by first | exact y_move rfl | exact y_load rfl own23 | exact y_a) rfl (by decide) ?_ | refine w_skip rfl rfl rfl rfl (by decide) ?_ | refine q_skip rfl rfl rfl rfl (by decide) ?_ | refine w_skip0 rfl rfl rfl rfl ?_ | refine sq_skip rfl rfl rfl rfl (by decide) ?_ | (refine w_d wn_a (by first | exact d_box rfl | exact d_box1 rfl (by rfl) | exact d_alloc) rfl (by decide) ?_; intro _) | (refine w_d0 wn_a (by first | exact d_store rfl rfl (by rfl) | exact d_store_all rfl rfl (by rfl) (by rfl) (by rfl) | exact d_store_row rfl rfl (by rfl) (by rfl)) rfl ?_; intro _) | (refine s_d wn_a (by first | exact d_box rfl | exact d_box1 rfl (by rfl) | exact d_alloc) (fun _ => inferInstance) rfl (by decide) ?_; intro _) | (refine s_d0 wn_a (by first | exact d_store rfl rfl (by rfl) | exact d_store_all rfl rfl (by rfl) (by rfl) (by rfl) | exact d_store_row rfl rfl (by rfl) (by rfl)) (fun _ => inferInstance) rfl ?_; intro _) | refine c_seq ?_ | refine c_block ?_ | refine c_skip ?_ | refine c_exit ?_ | refine c_ret ?_ | refine c_region ?_ | refine c_draw (by kernel_rfl) (by decide +kernel) ?_ | refine c_cond_t rfl ?_ | refine c_cond_f rfl ?_ | refine e_seq ?_ | refine e_then_exit ?_ | refine e_then_ret ?_ | refine e_in_normal ?_ | refine e_in_ret ?_ | refine e_in_same ?_ | refine e_in_other rfl ?_)
  by_cases k1 : two (bs.drop 20) % 8192 = 0
  · by_cases k2 : 8 ≤ two (bs.drop 16) - 4 * (bs.getD 14 0 % 16)
    · by_cases g : bs.getD 23 0 = 6
      · exact ok_has6 ho hlen l1 h1 h2 h3 he ht f2 f3 f4 g k1 k2
      · by_cases g' : bs.getD 23 0 = 17
        · exact ok_has17 ho hlen l1 h1 h2 h3 he ht f2 f3 f4 g' k1 k2
        · exact ok_none ho hlen l1 h1 h2 h3 he ht f2 f3 f4 g g'
    · by_cases g : bs.getD 23 0 = 6
      · exact ok_few6 ho hlen l1 h1 h2 h3 he ht f2 f3 f4 g k1 (by omega)
      · by_cases g' : bs.getD 23 0 = 17
        · exact ok_few17 ho hlen l1 h1 h2 h3 he ht f2 f3 f4 g' k1 (by omega)
        · exact ok_none ho hlen l1 h1 h2 h3 he ht f2 f3 f4 g g'
  · by_cases g : bs.getD 23 0 = 6
    · exact ok_part6 ho hlen l1 h1 h2 h3 he ht f2 f3 f4 g k1
    · by_cases g' : bs.getD 23 0 = 17
      · exact ok_part17 ho hlen l1 h1 h2 h3 he ht f2 f3 f4 g' k1
      · exact ok_none ho hlen l1 h1 h2 h3 he ht f2 f3 f4 g g'
theorem parse_any {w : World} {b o len cap : Nat} {bs : List Int} {port : Int} (hb : BS w b o bs) (ho : Oct bs) (hlen : bs.length = len) (hc : len ≤ cap) (p0 : 0 ≤ port) (p1 : port ≤ 255) (l0 : 14 ≤ len) (l1 : len ≤ 1514) : Calls Try.prog 12 ([.int .i64 port, .slice (some ⟨b, o, none⟩) len cap] : List Value).toArray w (fun e w' => Below w.heap.size w w' ∧ ((perr bs ≠ 0 ∧ e = .returned (.tuple #[.agg pzero.toArray, .int .i64 (perr bs)])) ∨ (perr bs = 0 ∧ ∃ nb cp rest, e = .returned (.tuple #[.agg (pkOf port bs nb len cp).toArray, .int .i64 0]) ∧ w.heap.size ≤ nb ∧ w'.heap[nb]? = some (.cells (bv bs ++ rest).toArray 5 (0, 0)) ∧ len ≤ cp ∧ cp ≤ maxLen ∧ (bv bs ++ rest).length = cp))) := by
  refine parse_head hb ho hlen hc p0 p1 l0 l1 ?_
  rintro r ⟨p, nb, cp, rest, h1, h2, h3⟩
  by_cases ht : two (bs.drop 12) = 2048
  · by_cases l34 : len < 34
    · exact t_short ho hlen p0 p1 l0 l1 h1 h2 h3 ht l34
    · have l34' : 34 ≤ len := by omega
      by_cases f1 : bs.getD 14 0 / 16 = 4
      · by_cases f2 : 4 * (bs.getD 14 0 % 16) < 20
        · exact t_form2 ho hlen p0 p1 l0 l1 h1 h2 h3 ht l34' f1 f2
        · have f2' : 20 ≤ 4 * (bs.getD 14 0 % 16) := by omega
          by_cases f3 : two (bs.drop 16) < 4 * (bs.getD 14 0 % 16)
          · exact t_form3 ho hlen p0 p1 l0 l1 h1 h2 h3 ht l34' f1 f2' f3
          · have f3' : 4 * (bs.getD 14 0 % 16) ≤ two (bs.drop 16) := by omega
            by_cases f4 : (len : Int) < 14 + two (bs.drop 16)
            · exact t_cut ho hlen p0 p1 l0 l1 h1 h2 h3 ht l34' f1 f2' f3' f4
            · have f4' : 14 + two (bs.drop 16) ≤ (len : Int) := by omega
              by_cases f5 : foldI (wsum ((bs.drop 14).take (4 * (bs.getD 14 0 % 16)).toNat)) = 65535
              · exact t_ok ho hlen p0 p1 l0 l1 h1 h2 h3 ht l34' f1 f2' f3' f4' f5
              · exact t_sum ho hlen p0 p1 l0 l1 h1 h2 h3 ht l34' f1 f2' f3' f4' f5
      · exact t_form1 ho hlen p0 p1 l0 l1 h1 h2 h3 ht l34' f1
  · exact t_other ho hlen p0 p1 l0 l1 h1 h2 h3 ht
end Fr
end Go.Proofs.Ytiolijpamidpfaa
