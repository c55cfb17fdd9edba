/-
  FrameParses: whatever bytes at whatever port, what they say of themselves, or why they are no frame: the call returns true for every port and slice of bytes. No conditions.
-/
import Derived.Test.YtiolijpamidpfaaGFrameParsesA
import Derived.Test.YtiolijpamidpfaaFrFP
import Derived.Test.YtiolijpamidpfaaSlIo
import Derived.Test.YtiolijpamidpfaaRows
import Derived.Test.YtiolijpamidpfaaLaw
namespace Go.Proofs.Ytiolijpamidpfaa
open Go.RowKit Go.ChangeShapes Go.WideShapes Go.ChangeAt
set_option linter.unusedVariables false
namespace FrameParses
open Sl
open Fr (BS Oct bv bv_at bv_len two four two_bd getD_drop getD_take)
abbrev Bs (h : Array Obj) (F : Foot) (v : Value) (bs : List Int) : Prop := SlV h F v (enc1 .u8) 1 bs
theorem flat_u8 : ∀ bs : List Int, flat (enc1 .u8) bs = bv bs
  | [] => rfl
  | b :: bs => by
    have := flat_u8 bs
    unfold flat at this ⊢
    rw [List.flatMap_cons, this]
    rfl
theorem bs_of {w : World} {F : Foot} {v : Value} {bs : List Int} (s : Bs w.heap F v bs) (hne : 0 < bs.length) : ∃ b o cap, v = .slice (some ⟨b, o, none⟩) bs.length cap ∧ bs.length ≤ cap ∧ cap ≤ maxLen ∧ BS w b o bs := by
  obtain ⟨_, _, a, cap, rfl, hc, hm, h3⟩ := s
  rcases h3 with rfl | ⟨b, o, rfl, hb, hF, hcell⟩
  · simp at hne
  · refine ⟨b, o, cap, rfl, hc, hm, fun i hi => ?_⟩
    rw [cell_eq]
    refine hcell i _ ?_
    rw [flat_u8]
    exact bv_at hi
theorem head_is {w : World} : Ret Try.prog 10 [] w (.bool true) := ⟨Fr.headOk_is.run⟩
theorem u8_open {H : Type} {enc : TypeId × Value → H} {P : Program} {W : World} {base : Nat} {spare : Nat → Bool} {held : Bool} {r : List Value} (g : Law.FitsAll enc P W base spare held [.int .u8] r) : ∃ x : Int, (0 ≤ x ∧ x ≤ 255) ∧ enc1 .u8 x = r := by
  obtain ⟨_, _, rfl, ⟨a, rfl, ha⟩, hr⟩ := g
  have hr : _ = [] := hr
  subst hr
  have := Law.bd_u8 ha
  exact ⟨a, by omega, rfl⟩
/-- Why no bytes are no frame. -/
def pErr (port : Int) : Int := if port < 0 ∨ 255 < port then 1 else 10
theorem parse0 {w : World} {nb : Nat} {port e : Int} (he : pErr port = e) : Ret Try.prog 12 [.int .i64 port, .slice (some ⟨nb, 0, none⟩) 0 0] w (.tuple #[.agg ([.int .i64 0, .int .u8 0, .int .u8 0, .int .u8 0, .int .u8 0, .int .u8 0, .int .u8 0, .int .u8 0, .int .u8 0, .int .u8 0, .int .u8 0, .int .u8 0, .int .u8 0, .int .i64 0, .int .u32 0, .int .u32 0, .int .i64 0, .int .i64 0, .int .i64 0, .slice none 0 0, .int .i64 0, .int .i64 0] : List Value).toArray, .int .i64 e]) := by
  subst he
  unfold pErr
  by_cases h : port < 0 ∨ 255 < port
  · rw [if_pos h]
    rcases h with h | h
    · exact ⟨(Fr.parse_lo h).run⟩
    · exact ⟨(Fr.parse_hi (by omega) h).run⟩
  · rw [if_neg h]
    exact ⟨(Fr.parse_short (by omega) (by omega) (by simp)).run⟩
theorem Slempty {h : Array Obj} {F : Foot} (nb : Nat) : SlV h F (.slice (some ⟨nb, 0, none⟩) 0 0) (enc1 .u8) 1 [] := ⟨by simp, by decide, some ⟨nb, 0, none⟩, 0, rfl, Nat.le_refl _, by decide, .inl rfl⟩
theorem copy0 {v : Value} : Con Try.prog 11 [v] (fun w S => Bs w.heap S v []) [] (fun nb : Nat => .slice (some ⟨nb, 0, none⟩) 0 0) (fun _ => []) := by
  refine Con.ofCalls fun w S hb => ?_
  obtain ⟨_, _, a, cap, rfl, hc, hm, h3⟩ := hb
  refine (Fr.copy_none (w := w) (a := a) (cap := cap)).mono ?_
  rintro e w' ⟨nb, rfl, hbw⟩
  exact ⟨nb, rfl, (Mem.start w).call hbw⟩
theorem same0 {v : Value} {nb : Nat} {w : World} (hb : Bs w.heap none0 v []) : Ret Try.prog 15 [.slice (some ⟨nb, 0, none⟩) 0 0, v] w (.bool true) := by
  obtain ⟨_, _, a, cap, rfl, hc, hm, h3⟩ := hb
  exact ⟨Fr.same_none.run⟩
theorem rparse0 {v : Value} {port e : Int} {w : World} (hb : Bs w.heap none0 v []) (he : pErr port = e) : Ret Try.prog 13 [.int .i64 port, v] w (.tuple #[.agg ([.int .i64 0, .int .u8 0, .int .u8 0, .int .u8 0, .int .u8 0, .int .u8 0, .int .u8 0, .int .u8 0, .int .u8 0, .int .u8 0, .int .u8 0, .int .u8 0, .int .u8 0, .int .i64 0, .int .u32 0, .int .u32 0, .int .i64 0, .int .i64 0, .int .i64 0] : List Value).toArray, .int .i64 0, .int .i64 0, .int .i64 e]) := by
  obtain ⟨_, _, a, cap, rfl, hc, hm, h3⟩ := hb
  subst he
  unfold pErr
  by_cases h : port < 0 ∨ 255 < port
  · rw [if_pos h]
    rcases h with h | h
    · exact ⟨(Fr.rp_lo h).run⟩
    · exact ⟨(Fr.rp_hi (by omega) h).run⟩
  · rw [if_neg h]
    exact ⟨(Fr.rp_short (by omega) (by omega) (by simp)).run⟩
theorem plain0 {w : World} : Ret Try.prog 14 [.agg ([.int .i64 0, .int .u8 0, .int .u8 0, .int .u8 0, .int .u8 0, .int .u8 0, .int .u8 0, .int .u8 0, .int .u8 0, .int .u8 0, .int .u8 0, .int .u8 0, .int .u8 0, .int .i64 0, .int .u32 0, .int .u32 0, .int .i64 0, .int .i64 0, .int .i64 0] : List Value).toArray] w (.agg ([.int .i64 0, .int .u8 0, .int .u8 0, .int .u8 0, .int .u8 0, .int .u8 0, .int .u8 0, .int .u8 0, .int .u8 0, .int .u8 0, .int .u8 0, .int .u8 0, .int .u8 0, .int .i64 0, .int .u32 0, .int .u32 0, .int .i64 0, .int .i64 0, .int .i64 0] : List Value).toArray) := ⟨Fr.plain_is.run⟩
set_option maxRecDepth 100000 in
set_option maxHeartbeats 4000000 in
theorem walk (port : Int) (v : Value) (bs : List Int) (w0 : (Lit.int .i64 port).wf = true) (gx : ∀ x ∈ bs, 0 ≤ x ∧ x ≤ 255) (w : World) (hs : SlV w.heap none0 v (enc1 .u8) 1 bs) :
    Calls Try.prog 3 (#[.int .i64 port, v]) w fun e w' => e = .returned (.bool true) ∧ Below w.heap.size w w' := by
  haveI : Old none0 w v (enc1 .u8) 1 bs := ⟨hs⟩
  have ho : Oct bs := gx
  by_cases hl : 2000 < bs.length
  · refine enter (args := [.int .i64 port, v]) Try.func3 rfl Try.ntmps3 (by simp) ?_
    repeat' (first | (apply isC; first | apply c_seq | apply c_block | apply c_skip | apply c_exit | apply c_ret | (apply isCrg; apply c_rg; intro oPs qQ dD hQ) | (apply isCcond; first | refine c_cond_t rfl ?_ | refine c_cond_f rfl ?_ | (refine c_test rfl (fun hyes => ?_) (fun hno => ?_) <;> first | (exfalso; omega) | exact absurd rfl hyes | exact absurd rfl hno | exact absurd Iff.rfl hyes | exact absurd Iff.rfl hno | exact absurd (eqc_same _) hyes | exact absurd (eqc_same _) hno | exact absurd (by decide) hyes | exact absurd (by decide) hno | skip)) | (apply isCdr; first | (refine c_dr [] ?_; intro oPs qQ dD hQ) | (refine c_tl [] ?_; intro oPs qQ dD hQ; dsimp only [takeQ, dropQ, isEff, cond_true, cond_false, List.contains_nil, List.contains_cons, List.elem_nil, Bool.or_false, Nat.reduceBEq, Bool.or_true]))) | (apply isE; first | (apply e_hq; clear hQ qQ dD oPs) | apply e_seq | apply e_then_exit | apply e_then_ret | apply e_in_normal | apply e_in_ret | apply e_in_same | refine e_in_other rfl ?_) | (apply isW; first | apply w_nil | (apply isW0; first | (apply isWc; first | refine w_call rfl wn_a (by decide) (fun w hm => head_is) ?_ | (refine w_d wn_a (by first | (apply d_is_fcall; first | exact d_ret rfl (fun w hm => head_is)) | exact d_a) rfl (by decide) ?_; intro _)) | refine w_y0 (by first | (apply y_is_bcall; exact y_lenO rfl rfl) | exact y_a) (by decide) ?_ | (refine w_d wn_a (by first | (apply d_is_fcall; first | exact d_ret rfl (fun w hm => head_is)) | exact d_a) rfl (by decide) ?_; intro _)) | (apply isWn; first | (refine w_d0 wn_a (by first | (apply d_is_fcall; first | exact d_ret rfl (fun w hm => head_is)) | exact d_a) rfl ?_; first | (intro (uu : Unit); clear uu) | intro _)) | (apply isWg; first | (apply isWc; first | refine w_call rfl wn_a (by decide) (fun w hm => head_is) ?_ | (refine w_d wn_a (by first | (apply d_is_fcall; first | exact d_ret rfl (fun w hm => head_is)) | exact d_a) rfl (by decide) ?_; intro _)) | refine w_y (by exact wn_d rfl rfl rfl) (by first | (apply y_is_bcall; exact y_lenO rfl rfl) | exact y_a) rfl (by decide) ?_ | refine w_skipD rfl rfl rfl rfl (by decide) ?_ | refine w_skip0D rfl rfl rfl rfl ?_ | refine w_skipU rfl rfl rfl (by decide) ?_ | refine w_skip0U rfl rfl rfl ?_ | (refine w_d wn_a (by first | (apply d_is_fcall; first | exact d_ret rfl (fun w hm => head_is)) | exact d_a) rfl (by decide) ?_; intro _) | (refine w_d0 wn_a (by first | (apply d_is_fcall; first | exact d_ret rfl (fun w hm => head_is)) | exact d_a) rfl ?_; first | (intro (uu : Unit); clear uu) | intro _) | (refine w_splitD rfl rfl rfl (fun hyes => ?_) (fun hno => ?_) <;> first | (exfalso; omega) | exact absurd rfl hyes | exact absurd rfl hno | exact absurd Iff.rfl hyes | exact absurd Iff.rfl hno | exact absurd (eqc_same _) hyes | exact absurd (eqc_same _) hno | exact absurd (by decide) hyes | exact absurd (by decide) hno | skip))) | (apply isQ; first | apply q_nil | (apply isQ0; first | (apply isQc; first | refine q_call rfl wn_a (by decide) (fun w hm => head_is) ?_) | refine q_y0 (by first | (apply y_is_bcall; exact y_lenO rfl rfl) | exact y_a) (by decide) ?_) | (apply isQg; first | (apply isQc; first | refine q_call rfl wn_a (by decide) (fun w hm => head_is) ?_) | refine q_y (by exact wn_d rfl rfl rfl) (by first | (apply y_is_bcall; exact y_lenO rfl rfl) | exact y_a) rfl (by decide) ?_ | refine q_skipD rfl rfl rfl rfl (by decide) ?_ | refine q_skipU rfl rfl rfl (by decide) ?_ | (refine q_splitD rfl rfl rfl (fun hyes => ?_) (fun hno => ?_) <;> first | (exfalso; omega) | exact absurd rfl hyes | exact absurd rfl hno | exact absurd Iff.rfl hyes | exact absurd Iff.rfl hno | exact absurd (eqc_same _) hyes | exact absurd (eqc_same _) hno | exact absurd (by decide) hyes | exact absurd (by decide) hno | skip))))
    all_goals exact post1 (.inl rfl) rfl (res_tmp rfl) fun _ hm => ⟨rfl, hm.below⟩
  · by_cases hn : 0 < bs.length
    · obtain ⟨b, o, cap, rfl, hc, hm, hb⟩ := bs_of hs hn
      by_cases p0 : port < 0
      · exact (Fr.fp_lo hb ho rfl hn (by omega) p0).run
      · by_cases p1 : 255 < port
        · exact (Fr.fp_hi hb ho rfl hn (by omega) (by omega) p1).run
        · by_cases l0 : bs.length < 14
          · exact (Fr.fp_short hb ho rfl hn (by omega) (by omega) (by omega) l0).run
          · by_cases l1 : 1514 < bs.length
            · exact (Fr.fp_long hb ho rfl hn (by omega) (by omega) (by omega) l1).run
            · obtain ⟨x, y, hr⟩ := Fr.rp_all (b := b) (o := o) (len := bs.length) (cap := cap) (bs := bs) (port := port) ho rfl hc (by omega) (by omega) (by omega) (by omega)
              by_cases he : Fr.perr bs = 0
              · obtain ⟨si, di, pr, sp, dp, po, en, hk, hd⟩ := Fr.pk_shape port bs bs.length
                exact (Fr.fp_good (x := x) (y := y) hb ho rfl hc (by omega) (by omega) (by omega) (by omega) he hk (fun {w} h => by
                  have := hr h
                  rw [if_pos he, hd, he] at this
                  exact this)).run
              · exact (Fr.fp_bad (x := x) (y := y) hb ho rfl hc (by omega) (by omega) (by omega) (by omega) he (fun {w} h => by
                  have := hr h
                  rw [if_neg he] at this
                  exact this)).run
    · obtain rfl : bs = [] := List.length_eq_zero_iff.1 (by omega)
      obtain ⟨e, he⟩ : ∃ e, pErr port = e := ⟨_, rfl⟩
      have hne : e ≠ 0 := by
        rw [← he]
        unfold pErr
        by_cases h : port < 0 ∨ 255 < port
        · rw [if_pos h]; decide
        · rw [if_neg h]; decide
      have g0 : Value.bool (e == e) = .bool true := by simp
      have he1 : 0 ≤ e ∧ e ≤ 10 := by
        rw [← he]
        unfold pErr
        by_cases h : port < 0 ∨ 255 < port
        · rw [if_pos h]; decide
        · rw [if_neg h]; decide
      refine enter (args := [.int .i64 port, v]) Try.func3 rfl Try.ntmps3 (by simp) ?_
      repeat' (first | (apply stop_on 8) | (apply stop_at 8) | (apply isC; first | apply c_seq | apply c_block | apply c_skip | apply c_exit | apply c_ret | (apply isCrg; apply c_rg; intro oPs qQ dD hQ) | (apply isCcond; first | refine c_cond_t rfl ?_ | refine c_cond_f rfl ?_ | (refine c_test rfl (fun hyes => ?_) (fun hno => ?_) <;> first | (exfalso; omega) | exact absurd rfl hyes | exact absurd rfl hno | exact absurd Iff.rfl hyes | exact absurd Iff.rfl hno | exact absurd (eqc_same _) hyes | exact absurd (eqc_same _) hno | exact absurd (by decide) hyes | exact absurd (by decide) hno | skip)) | (apply isCdr; first | (refine c_dr [] ?_; intro oPs qQ dD hQ) | (refine c_tl [] ?_; intro oPs qQ dD hQ; dsimp only [takeQ, dropQ, isEff, cond_true, cond_false, List.contains_nil, List.contains_cons, List.elem_nil, Bool.or_false, Nat.reduceBEq, Bool.or_true]))) | (apply isE; first | (apply e_hq; clear hQ qQ dD oPs) | apply e_seq | apply e_then_exit | apply e_then_ret | apply e_in_normal | apply e_in_ret | apply e_in_same | refine e_in_other rfl ?_) | (apply isW; first | apply w_nil | (apply isW0; first | (apply isWc; first | refine w_call rfl wn_a (by decide) (fun w hm => head_is) ?_ | refine w_call rfl wn_a (by decide) (fun w hm => parse0 he) ?_ | refine w_call rfl wn_a (by decide) (fun w hm => rparse0 (rd hm) he) ?_ | refine w_call rfl wn_a (by decide) (fun w hm => plain0) ?_ | refine w_call rfl wn_a (by decide) (fun w hm => same0 (rd hm)) ?_ | (refine w_d wn_a (by first | (apply d_is_fcall; first | exact d_ret rfl (fun w hm => head_is) | exact d_ret rfl (fun w hm => parse0 he) | exact d_ret rfl (fun w hm => rparse0 (rd hm) he) | exact d_ret rfl (fun w hm => plain0) | exact d_ret rfl (fun w hm => same0 (rd hm)) | exact d_con rfl (copy0 (v := v)) (rdc) (fun _ => inferInstance)) | exact d_a) rfl (by decide) ?_; intro _)) | refine w_y0 (by first | (apply y_is_bcall; exact y_lenO rfl rfl) | exact y_a) (by decide) ?_ | (refine w_d wn_a (by first | (apply d_is_fcall; first | exact d_ret rfl (fun w hm => head_is) | exact d_ret rfl (fun w hm => parse0 he) | exact d_ret rfl (fun w hm => rparse0 (rd hm) he) | exact d_ret rfl (fun w hm => plain0) | exact d_ret rfl (fun w hm => same0 (rd hm)) | exact d_con rfl (copy0 (v := v)) (rdc) (fun _ => inferInstance)) | exact d_a) rfl (by decide) ?_; intro _)) | (apply isWn; first | (refine w_d0 wn_a (by first | (apply d_is_fcall; first | exact d_ret rfl (fun w hm => head_is) | exact d_ret rfl (fun w hm => parse0 he) | exact d_ret rfl (fun w hm => rparse0 (rd hm) he) | exact d_ret rfl (fun w hm => plain0) | exact d_ret rfl (fun w hm => same0 (rd hm)) | exact d_con rfl (copy0 (v := v)) (rdc) (fun _ => inferInstance)) | exact d_a) rfl ?_; first | (intro (uu : Unit); clear uu) | intro _)) | (apply isWg; first | (apply isWc; first | refine w_call rfl wn_a (by decide) (fun w hm => head_is) ?_ | refine w_call rfl wn_a (by decide) (fun w hm => parse0 he) ?_ | refine w_call rfl wn_a (by decide) (fun w hm => rparse0 (rd hm) he) ?_ | refine w_call rfl wn_a (by decide) (fun w hm => plain0) ?_ | refine w_call rfl wn_a (by decide) (fun w hm => same0 (rd hm)) ?_ | (refine w_d wn_a (by first | (apply d_is_fcall; first | exact d_ret rfl (fun w hm => head_is) | exact d_ret rfl (fun w hm => parse0 he) | exact d_ret rfl (fun w hm => rparse0 (rd hm) he) | exact d_ret rfl (fun w hm => plain0) | exact d_ret rfl (fun w hm => same0 (rd hm)) | exact d_con rfl (copy0 (v := v)) (rdc) (fun _ => inferInstance)) | exact d_a) rfl (by decide) ?_; intro _)) | refine w_y (by exact wn_d rfl rfl rfl) (by first | (apply y_is_bcall; exact y_lenO rfl rfl) | exact y_a) rfl (by decide) ?_ | refine w_skipD rfl rfl rfl rfl (by decide) ?_ | refine w_skip0D rfl rfl rfl rfl ?_ | refine w_skipU rfl rfl rfl (by decide) ?_ | refine w_skip0U rfl rfl rfl ?_ | (refine w_d wn_a (by first | (apply d_is_fcall; first | exact d_ret rfl (fun w hm => head_is) | exact d_ret rfl (fun w hm => parse0 he) | exact d_ret rfl (fun w hm => rparse0 (rd hm) he) | exact d_ret rfl (fun w hm => plain0) | exact d_ret rfl (fun w hm => same0 (rd hm)) | exact d_con rfl (copy0 (v := v)) (rdc) (fun _ => inferInstance)) | exact d_a) rfl (by decide) ?_; intro _) | (refine w_d0 wn_a (by first | (apply d_is_fcall; first | exact d_ret rfl (fun w hm => head_is) | exact d_ret rfl (fun w hm => parse0 he) | exact d_ret rfl (fun w hm => rparse0 (rd hm) he) | exact d_ret rfl (fun w hm => plain0) | exact d_ret rfl (fun w hm => same0 (rd hm)) | exact d_con rfl (copy0 (v := v)) (rdc) (fun _ => inferInstance)) | exact d_a) rfl ?_; first | (intro (uu : Unit); clear uu) | intro _) | (refine w_splitD rfl rfl rfl (fun hyes => ?_) (fun hno => ?_) <;> first | (exfalso; omega) | exact absurd rfl hyes | exact absurd rfl hno | exact absurd Iff.rfl hyes | exact absurd Iff.rfl hno | exact absurd (eqc_same _) hyes | exact absurd (eqc_same _) hno | exact absurd (by decide) hyes | exact absurd (by decide) hno | skip))) | (apply isQ; first | apply q_nil | (apply isQ0; first | (apply isQc; first | refine q_call rfl wn_a (by decide) (fun w hm => head_is) ?_ | refine q_call rfl wn_a (by decide) (fun w hm => parse0 he) ?_ | refine q_call rfl wn_a (by decide) (fun w hm => rparse0 (rd hm) he) ?_ | refine q_call rfl wn_a (by decide) (fun w hm => plain0) ?_ | refine q_call rfl wn_a (by decide) (fun w hm => same0 (rd hm)) ?_) | refine q_y0 (by first | (apply y_is_bcall; exact y_lenO rfl rfl) | exact y_a) (by decide) ?_) | (apply isQg; first | (apply isQc; first | refine q_call rfl wn_a (by decide) (fun w hm => head_is) ?_ | refine q_call rfl wn_a (by decide) (fun w hm => parse0 he) ?_ | refine q_call rfl wn_a (by decide) (fun w hm => rparse0 (rd hm) he) ?_ | refine q_call rfl wn_a (by decide) (fun w hm => plain0) ?_ | refine q_call rfl wn_a (by decide) (fun w hm => same0 (rd hm)) ?_) | refine q_y (by exact wn_d rfl rfl rfl) (by first | (apply y_is_bcall; exact y_lenO rfl rfl) | exact y_a) rfl (by decide) ?_ | refine q_skipD rfl rfl rfl rfl (by decide) ?_ | refine q_skipU rfl rfl rfl (by decide) ?_ | (refine q_splitD rfl rfl rfl (fun hyes => ?_) (fun hno => ?_) <;> first | (exfalso; omega) | exact absurd rfl hyes | exact absurd rfl hno | exact absurd Iff.rfl hyes | exact absurd Iff.rfl hno | exact absurd (eqc_same _) hyes | exact absurd (eqc_same _) hno | exact absurd (by decide) hyes | exact absurd (by decide) hno | skip))))
      refine .mk ?_
      repeat' (first | (apply isC; first | apply c_seq | apply c_block | apply c_skip | apply c_exit | apply c_ret | (apply isCrg; apply c_rg; intro oPs qQ dD hQ) | (apply isCcond; first | refine c_cond_t rfl ?_ | refine c_cond_f rfl ?_ | (refine c_test rfl (fun hyes => ?_) (fun hno => ?_) <;> first | (exfalso; omega) | exact absurd rfl hyes | exact absurd rfl hno | exact absurd Iff.rfl hyes | exact absurd Iff.rfl hno | exact absurd (eqc_same _) hyes | exact absurd (eqc_same _) hno | exact absurd (by decide) hyes | exact absurd (by decide) hno | skip)) | (apply isCdr; first | (refine c_dr [] ?_; intro oPs qQ dD hQ) | (refine c_tl [] ?_; intro oPs qQ dD hQ; dsimp only [takeQ, dropQ, isEff, cond_true, cond_false, List.contains_nil, List.contains_cons, List.elem_nil, Bool.or_false, Nat.reduceBEq, Bool.or_true]))) | (apply isE; first | (apply e_hq; clear hQ qQ dD oPs) | apply e_seq | apply e_then_exit | apply e_then_ret | apply e_in_normal | apply e_in_ret | apply e_in_same | refine e_in_other rfl ?_) | (apply isW; first | apply w_nil | (apply isW0; first | (apply isWc; first | refine w_call rfl wn_a (by decide) (fun w hm => plain0) ?_ | refine w_call rfl wn_a (by decide) (fun w hm => same0 (rd hm)) ?_ | (refine w_d wn_a (by first | (apply d_is_fcall; first | exact d_ret rfl (fun w hm => plain0) | exact d_ret rfl (fun w hm => same0 (rd hm))) | exact d_a) rfl (by decide) ?_; intro _)) | refine w_y0 (by first | (apply y_isBin; first | exact y_to (.bool true) (y_eql rfl rfl) (by with_reducible exact g0) | exact y_to (.bool true) (y_eqlA rfl rfl (by rfl) (by rfl)) (by kernel_rfl)) | exact y_a) (by decide) ?_ | (refine w_d wn_a (by first | (apply d_is_fcall; first | exact d_ret rfl (fun w hm => plain0) | exact d_ret rfl (fun w hm => same0 (rd hm))) | exact d_a) rfl (by decide) ?_; intro _)) | (apply isWn; first | (refine w_d0 wn_a (by first | (apply d_is_fcall; first | exact d_ret rfl (fun w hm => plain0) | exact d_ret rfl (fun w hm => same0 (rd hm))) | exact d_a) rfl ?_; first | (intro (uu : Unit); clear uu) | intro _)) | (apply isWg; first | (apply isWc; first | refine w_call rfl wn_a (by decide) (fun w hm => plain0) ?_ | refine w_call rfl wn_a (by decide) (fun w hm => same0 (rd hm)) ?_ | (refine w_d wn_a (by first | (apply d_is_fcall; first | exact d_ret rfl (fun w hm => plain0) | exact d_ret rfl (fun w hm => same0 (rd hm))) | exact d_a) rfl (by decide) ?_; intro _)) | refine w_y (by exact wn_d rfl rfl rfl) (by first | (apply y_isBin; first | exact y_to (.bool true) (y_eql rfl rfl) (by with_reducible exact g0) | exact y_to (.bool true) (y_eqlA rfl rfl (by rfl) (by rfl)) (by kernel_rfl)) | exact y_a) rfl (by decide) ?_ | refine w_skipD rfl rfl rfl rfl (by decide) ?_ | refine w_skip0D rfl rfl rfl rfl ?_ | refine w_skipU rfl rfl rfl (by decide) ?_ | refine w_skip0U rfl rfl rfl ?_ | (refine w_d wn_a (by first | (apply d_is_fcall; first | exact d_ret rfl (fun w hm => plain0) | exact d_ret rfl (fun w hm => same0 (rd hm))) | exact d_a) rfl (by decide) ?_; intro _) | (refine w_d0 wn_a (by first | (apply d_is_fcall; first | exact d_ret rfl (fun w hm => plain0) | exact d_ret rfl (fun w hm => same0 (rd hm))) | exact d_a) rfl ?_; first | (intro (uu : Unit); clear uu) | intro _) | (refine w_splitD rfl rfl rfl (fun hyes => ?_) (fun hno => ?_) <;> first | (exfalso; omega) | exact absurd rfl hyes | exact absurd rfl hno | exact absurd Iff.rfl hyes | exact absurd Iff.rfl hno | exact absurd (eqc_same _) hyes | exact absurd (eqc_same _) hno | exact absurd (by decide) hyes | exact absurd (by decide) hno | skip))) | (apply isQ; first | apply q_nil | (apply isQ0; first | (apply isQc; first | refine q_call rfl wn_a (by decide) (fun w hm => plain0) ?_ | refine q_call rfl wn_a (by decide) (fun w hm => same0 (rd hm)) ?_) | refine q_y0 (by first | (apply y_isBin; first | exact y_to (.bool true) (y_eql rfl rfl) (by with_reducible exact g0) | exact y_to (.bool true) (y_eqlA rfl rfl (by rfl) (by rfl)) (by kernel_rfl)) | exact y_a) (by decide) ?_) | (apply isQg; first | (apply isQc; first | refine q_call rfl wn_a (by decide) (fun w hm => plain0) ?_ | refine q_call rfl wn_a (by decide) (fun w hm => same0 (rd hm)) ?_) | refine q_y (by exact wn_d rfl rfl rfl) (by first | (apply y_isBin; first | exact y_to (.bool true) (y_eql rfl rfl) (by with_reducible exact g0) | exact y_to (.bool true) (y_eqlA rfl rfl (by rfl) (by rfl)) (by kernel_rfl)) | exact y_a) rfl (by decide) ?_ | refine q_skipD rfl rfl rfl rfl (by decide) ?_ | refine q_skipU rfl rfl rfl (by decide) ?_ | (refine q_splitD rfl rfl rfl (fun hyes => ?_) (fun hno => ?_) <;> first | (exfalso; omega) | exact absurd rfl hyes | exact absurd rfl hno | exact absurd Iff.rfl hyes | exact absurd Iff.rfl hno | exact absurd (eqc_same _) hyes | exact absurd (eqc_same _) hno | exact absurd (by decide) hyes | exact absurd (by decide) hno | skip))))
      exact post1 (.inl rfl) rfl (by first | exact res_tmp rfl | exact res_cell rfl (by rfl) | exact res_cell1 rfl) fun _ hm => ⟨rfl, hm.below⟩

/-! ### The row's step -/
set_option maxRecDepth 100000 in
theorem lifted (os : Os) (started : os.Started) (H : Type) (enc : TypeId × Value → H) :
    ReturnsInHanded {} Try.checked os 3 .any (Rows.frameParsesSpec.pre6 enc Try.prog Try.f3 Rows.frameParsesRow.domain false) (Rows.frameParsesSpec.post enc Try.prog Try.f3 false true false false) := by
  refine returnsInHanded_of_change (C := Try.checked) Law.own started (by kernel_rfl) Try.func3
    (ChangeSpec.witness6 (enc := enc) (C := Try.checked) false ⟨#[], #[.int .i64 0, .slice none 0 0], []⟩ 8 (by kernel_rfl) (by kernel_rfl) (by kernel_rfl) (by kernel_rfl)) ?_
  intro W base args ds gs before hval0 hW hcnd _
  have hval : ∀ (j : Nat) t v, Try.f3.params[j]? = some t → args[j]? = some v → Value.okWide Try.prog W .any base t v := hval0
  have hW' := hW
  obtain ⟨p, q, hA0, hV, rfl, hfz, hnd⟩ := hW
  have hA : DataW.TrodAll enc Try.prog W 0 (fun _ => true) true Try.f3.params.toList args.toList ds p := hA0
  rw [Try.params3] at hA hval
  obtain ⟨v0, vs0, d0, ds0, p0, q0, hargs, rfl, rfl, h0, r0⟩ := trodAll_cons hA
  obtain ⟨v1, vs1, d1, ds1, p1, q1, rfl, rfl, rfl, h1, r1⟩ := trodAll_cons r0
  obtain ⟨rfl, rfl, rfl⟩ := trodAll_nil r1
  obtain rfl : args = #[v0, v1] := by cases args; simp_all
  obtain ⟨rfl, rfl⟩ := trodVars_none hV
  obtain ⟨x0, rfl, rfl, rfl, w0⟩ := open_int Try.underlying3 (hval 0 3 v0 rfl rfl) h0
  obtain ⟨rows1, sl1, fr1⟩ := Sl.open_sl (n := 8) (ks := [.int .u8]) Try.underlying22 (by kernel_rfl) (by kernel_rfl) (by decide) (hval 1 22 v1 rfl rfl) h1
  obtain ⟨x1, sx1, gx1⟩ := Sl.SlV.decode sl1 (fun r hr => u8_open (fr1 r hr))
  clear hA0 hval0
  exact (walk x0 v1 x1 w0 gx1 W sx1).mono fun e W' ⟨he, hg⟩ => ⟨_, he, Law.post_law Law.laidOut (by kernel_rfl) hW' rfl rfl Try.underlying4 rfl hg⟩

theorem over : Rows.frameParsesRow.holds Try.pinned (OpenSpec.ofChange Rows.frameParsesSpec) :=
  OpenClaim.holds_of_wide 3 Try.f3 rfl rfl rfl rfl rfl rfl rfl ⟨rfl, rfl, rfl, rfl, rfl⟩ rfl rfl rfl rfl rfl (by kernel_rfl) Try.func3 (by kernel_rfl)
    (of_decide_eq_true (by kernel_rfl)) (by unfold Func.isWrapper; first | (rw [if_pos (by decide +kernel)]; kernel_rfl) | (rw [if_neg (by decide +kernel)]; exact ⟨rfl, rfl⟩))
    (fun os started H enc _ => lifted os started H enc)

/-- THE STATEMENT. -/
theorem proved : Rows.FrameParsesSaid := over
#print axioms proved

end FrameParses
end Go.Proofs.Ytiolijpamidpfaa
