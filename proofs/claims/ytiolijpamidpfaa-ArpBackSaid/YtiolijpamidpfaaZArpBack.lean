/-
  ArpBack: an answer is for who asked, and says what it asked; it is no question again: the call returns true for every question. No conditions.
-/
import Derived.Test.YtiolijpamidpfaaGArpBackA
import Derived.Test.YtiolijpamidpfaaRows
import Derived.Test.YtiolijpamidpfaaLaw
namespace Go.Proofs.Ytiolijpamidpfaa
open Go.RowKit Go.ChangeShapes Go.WideShapes Go.ChangeAt
set_option linter.unusedVariables false
namespace ArpBack
open Sl FrL
open Fr (BS Oct bv bv_at bv_len two four two_bd getD_drop getD_take)

theorem andNot1 {a : Int} (h0 : 0 ≤ a) (h1 : a ≤ 4294967295) : bits .andNot .u32 a 1 = a - a % 2 := by
  have e := Pl.and_mk a 31 h0 (by omega)
  have e2 : bits .andNot .u32 a 1 = bits .and .u32 a (Pl.mk 31) := by
    unfold bits
    rfl
  rw [e2, e]
  rfl
set_option maxRecDepth 100000 in
set_option maxHeartbeats 8000000 in
theorem run (a : Ak) (h : a.Ok) (w : World) : Calls Try.prog 6 (#[.agg a.cells.toArray]) w fun e w' => e = .returned (.bool true) ∧ Below w.heap.size w w' := by
  obtain ⟨ans, mac, ip, to, tip⟩ := a
  have t0 := h.tip
  dsimp only at t0
  have hn := andNot1 t0.1 t0.2
  obtain ⟨t, ht⟩ : ∃ t, t = tip - tip % 2 := ⟨_, rfl⟩
  have hq : Ak.Ok ⟨false, mac, ip, to, t⟩ := ⟨h.mac, h.to, h.ip, by dsimp only; omega⟩
  have qt : four ((Ak.mk false mac ip to t).bytes.drop 38) = t := Ak.tipb hq
  have qi : four ((Ak.mk false mac ip to t).bytes.drop 28) = ip := Ak.ipb hq
  have qo := Ak.oct hq
  have hr := reply_ok qo
  have ro := Ak.oct hr
  have r20 : two ((reply (Ak.mk false mac ip to t).bytes).bytes.drop 20) = 2 := by rw [Ak.f3]; rfl
  have ri : four ((reply (Ak.mk false mac ip to t).bytes).bytes.drop 28) = t := by rw [Ak.ipb hr]; exact qt
  have rt : four ((reply (Ak.mk false mac ip to t).bytes).bytes.drop 38) = ip := by rw [Ak.tipb hr]; exact qi
  have rl := Ak.len (reply (Ak.mk false mac ip to t).bytes)
  have ql := Ak.len (Ak.mk false mac ip to t)
  have c1 : ([.int .u8 ((reply (Ak.mk false mac ip to t).bytes).bytes.getD 32 0), .int .u8 ((reply (Ak.mk false mac ip to t).bytes).bytes.getD 33 0), .int .u8 ((reply (Ak.mk false mac ip to t).bytes).bytes.getD 34 0), .int .u8 ((reply (Ak.mk false mac ip to t).bytes).bytes.getD 35 0), .int .u8 ((reply (Ak.mk false mac ip to t).bytes).bytes.getD 36 0), .int .u8 ((reply (Ak.mk false mac ip to t).bytes).bytes.getD 37 0)] : List Value) = [.int .u8 mac.1, .int .u8 mac.2.1, .int .u8 mac.2.2.1, .int .u8 mac.2.2.2.1, .int .u8 mac.2.2.2.2.1, .int .u8 mac.2.2.2.2.2] := rfl
  have c2 : ([.int .u8 ((reply (Ak.mk false mac ip to t).bytes).bytes.getD 0 0), .int .u8 ((reply (Ak.mk false mac ip to t).bytes).bytes.getD 1 0), .int .u8 ((reply (Ak.mk false mac ip to t).bytes).bytes.getD 2 0), .int .u8 ((reply (Ak.mk false mac ip to t).bytes).bytes.getD 3 0), .int .u8 ((reply (Ak.mk false mac ip to t).bytes).bytes.getD 4 0), .int .u8 ((reply (Ak.mk false mac ip to t).bytes).bytes.getD 5 0)] : List Value) = [.int .u8 mac.1, .int .u8 mac.2.1, .int .u8 mac.2.2.1, .int .u8 mac.2.2.2.1, .int .u8 mac.2.2.2.2.1, .int .u8 mac.2.2.2.2.2] := rfl
  have g1 : Value.bool (eqc [.int .u8 ((reply (Ak.mk false mac ip to t).bytes).bytes.getD 32 0), .int .u8 ((reply (Ak.mk false mac ip to t).bytes).bytes.getD 33 0), .int .u8 ((reply (Ak.mk false mac ip to t).bytes).bytes.getD 34 0), .int .u8 ((reply (Ak.mk false mac ip to t).bytes).bytes.getD 35 0), .int .u8 ((reply (Ak.mk false mac ip to t).bytes).bytes.getD 36 0), .int .u8 ((reply (Ak.mk false mac ip to t).bytes).bytes.getD 37 0)] [.int .u8 mac.1, .int .u8 mac.2.1, .int .u8 mac.2.2.1, .int .u8 mac.2.2.2.1, .int .u8 mac.2.2.2.2.1, .int .u8 mac.2.2.2.2.2]) = .bool true := by rw [c1]; exact congrArg _ (eqc_same _)
  have g2 : Value.bool (eqc [.int .u8 ((reply (Ak.mk false mac ip to t).bytes).bytes.getD 0 0), .int .u8 ((reply (Ak.mk false mac ip to t).bytes).bytes.getD 1 0), .int .u8 ((reply (Ak.mk false mac ip to t).bytes).bytes.getD 2 0), .int .u8 ((reply (Ak.mk false mac ip to t).bytes).bytes.getD 3 0), .int .u8 ((reply (Ak.mk false mac ip to t).bytes).bytes.getD 4 0), .int .u8 ((reply (Ak.mk false mac ip to t).bytes).bytes.getD 5 0)] [.int .u8 mac.1, .int .u8 mac.2.1, .int .u8 mac.2.2.1, .int .u8 mac.2.2.2.1, .int .u8 mac.2.2.2.2.1, .int .u8 mac.2.2.2.2.2]) = .bool true := by rw [c2]; exact congrArg _ (eqc_same _)
  obtain ⟨si, di, pr, sp, dp, po, en, hk⟩ := pk_shape 3 (reply (Ak.mk false mac ip to t).bytes).bytes
  refine enter (args := [.agg (Ak.cells ⟨ans, mac, ip, to, tip⟩).toArray]) Try.func6 rfl Try.ntmps6 (by simp) ?_
  repeat' (first | (apply isC; first | apply c_seq | apply c_block | apply c_skip | apply c_exit | apply c_ret | (apply isCrg; apply c_rg; intro oPs qQ dD hQ) | (apply isCcond; first | refine c_cond_t rfl ?_ | refine c_cond_f rfl ?_ | (refine c_test rfl (fun hyes => ?_) (fun hno => ?_) <;> first | (exfalso; omega) | exact absurd rfl hyes | exact absurd rfl hno | exact absurd Iff.rfl hyes | exact absurd Iff.rfl hno | exact absurd (eqc_same _) hyes | exact absurd (eqc_same _) hno | exact absurd (by decide) hyes | exact absurd (by decide) hno | skip)) | (apply isCdr; first | (refine c_dr [] ?_; intro oPs qQ dD hQ) | (refine c_tl [] ?_; intro oPs qQ dD hQ; dsimp only [takeQ, dropQ, isEff, cond_true, cond_false, List.contains_nil, List.contains_cons, List.elem_nil, Bool.or_false, Nat.reduceBEq, Bool.or_true]))) | (apply isE; first | (apply e_hq; clear hQ qQ dD oPs) | apply e_seq | apply e_then_exit | apply e_then_ret | apply e_in_normal | apply e_in_ret | apply e_in_same | refine e_in_other rfl ?_) | (apply isW; first | apply w_nil | (apply isW0; first | (apply isWc; first | refine w_call rfl wn_a (by decide) (fun w hm => arp_head w) ?_ | refine w_call rfl wn_a (by decide) (fun w hm => arp_head _) ?_ | refine w_call rfl wn_a (by decide) (fun w hm => parp_ok (rd hm) ro (by omega) (Ak.ty _) (Ak.f1 _) (Ak.f2 _) (.inr r20)) ?_ | (refine w_d wn_a (by first | (apply d_is_fcall; first | exact d_ret rfl (fun w hm => arp_head w) | exact d_ret rfl (fun w hm => arp_head _) | exact d_ret rfl (fun w hm => parp_ok (rd hm) ro (by omega) (Ak.ty _) (Ak.f1 _) (Ak.f2 _) (.inr r20)) | exact d_con rfl (new_is) (no_pre) (fun _ => inferInstance) | exact d_con rfl (emit_is (a := (Ak.mk false mac ip to t)) hq) (no_pre) (fun _ => inferInstance) | exact d_con rfl (ans_ok (m := mempty) (bs := (Ak.mk false mac ip to t).bytes) qo (Ak.err _ (by decide) (by decide)) (by omega) (Ak.ty _) (Ak.f1 _) (Ak.f2 _) (Ak.q rfl) (by omega)) (rdc) (fun _ => inferInstance) | exact d_con rfl (parse_ok ro (Ak.err _ (by decide) (by decide)) hk) (rdc) (fun _ => inferInstance) | exact d_con rfl (ans_turn (m := told mempty (four ((Ak.mk false mac ip to t).bytes.drop 28)) (amac (Ak.mk false mac ip to t).bytes)) (bs := (reply (Ak.mk false mac ip to t).bytes).bytes) ro (Ak.err _ (by decide) (by decide)) (by omega) (Ak.ty _) (Ak.f1 _) (Ak.f2 _) r20) (rdc) (fun _ => inferInstance)) | exact d_b) rfl (by decide) ?_; intro _)) | refine w_y0 (by first | (apply y_isBin; first | exact y_to (.int .u32 t) (y_andNot rfl rfl) (by rw [hn, ht]) | exact y_to (.bool true) (y_eqlA rfl rfl (by rfl) (by rfl)) (by with_reducible exact g1) | exact y_to (.bool true) (y_eqlA rfl rfl (by rfl) (by rfl)) (by with_reducible exact g2)) | exact y_b) (by decide) ?_ | (refine w_d wn_a (by first | (apply d_is_fcall; first | exact d_ret rfl (fun w hm => arp_head w) | exact d_ret rfl (fun w hm => arp_head _) | exact d_ret rfl (fun w hm => parp_ok (rd hm) ro (by omega) (Ak.ty _) (Ak.f1 _) (Ak.f2 _) (.inr r20)) | exact d_con rfl (new_is) (no_pre) (fun _ => inferInstance) | exact d_con rfl (emit_is (a := (Ak.mk false mac ip to t)) hq) (no_pre) (fun _ => inferInstance) | exact d_con rfl (ans_ok (m := mempty) (bs := (Ak.mk false mac ip to t).bytes) qo (Ak.err _ (by decide) (by decide)) (by omega) (Ak.ty _) (Ak.f1 _) (Ak.f2 _) (Ak.q rfl) (by omega)) (rdc) (fun _ => inferInstance) | exact d_con rfl (parse_ok ro (Ak.err _ (by decide) (by decide)) hk) (rdc) (fun _ => inferInstance) | exact d_con rfl (ans_turn (m := told mempty (four ((Ak.mk false mac ip to t).bytes.drop 28)) (amac (Ak.mk false mac ip to t).bytes)) (bs := (reply (Ak.mk false mac ip to t).bytes).bytes) ro (Ak.err _ (by decide) (by decide)) (by omega) (Ak.ty _) (Ak.f1 _) (Ak.f2 _) r20) (rdc) (fun _ => inferInstance)) | exact d_b) rfl (by decide) ?_; intro _)) | (apply isWn; first | (refine w_d0 wn_a (by first | (apply d_is_fcall; first | exact d_ret rfl (fun w hm => arp_head w) | exact d_ret rfl (fun w hm => arp_head _) | exact d_ret rfl (fun w hm => parp_ok (rd hm) ro (by omega) (Ak.ty _) (Ak.f1 _) (Ak.f2 _) (.inr r20)) | exact d_con rfl (new_is) (no_pre) (fun _ => inferInstance) | exact d_con rfl (emit_is (a := (Ak.mk false mac ip to t)) hq) (no_pre) (fun _ => inferInstance) | exact d_con rfl (ans_ok (m := mempty) (bs := (Ak.mk false mac ip to t).bytes) qo (Ak.err _ (by decide) (by decide)) (by omega) (Ak.ty _) (Ak.f1 _) (Ak.f2 _) (Ak.q rfl) (by omega)) (rdc) (fun _ => inferInstance) | exact d_con rfl (parse_ok ro (Ak.err _ (by decide) (by decide)) hk) (rdc) (fun _ => inferInstance) | exact d_con rfl (ans_turn (m := told mempty (four ((Ak.mk false mac ip to t).bytes.drop 28)) (amac (Ak.mk false mac ip to t).bytes)) (bs := (reply (Ak.mk false mac ip to t).bytes).bytes) ro (Ak.err _ (by decide) (by decide)) (by omega) (Ak.ty _) (Ak.f1 _) (Ak.f2 _) r20) (rdc) (fun _ => inferInstance)) | exact d_b) rfl ?_; first | (intro (uu : Unit); clear uu) | intro _)) | (apply isWg; first | (apply isWc; first | refine w_call rfl wn_a (by decide) (fun w hm => arp_head w) ?_ | refine w_call rfl wn_a (by decide) (fun w hm => arp_head _) ?_ | refine w_call rfl wn_a (by decide) (fun w hm => parp_ok (rd hm) ro (by omega) (Ak.ty _) (Ak.f1 _) (Ak.f2 _) (.inr r20)) ?_ | (refine w_d wn_a (by first | (apply d_is_fcall; first | exact d_ret rfl (fun w hm => arp_head w) | exact d_ret rfl (fun w hm => arp_head _) | exact d_ret rfl (fun w hm => parp_ok (rd hm) ro (by omega) (Ak.ty _) (Ak.f1 _) (Ak.f2 _) (.inr r20)) | exact d_con rfl (new_is) (no_pre) (fun _ => inferInstance) | exact d_con rfl (emit_is (a := (Ak.mk false mac ip to t)) hq) (no_pre) (fun _ => inferInstance) | exact d_con rfl (ans_ok (m := mempty) (bs := (Ak.mk false mac ip to t).bytes) qo (Ak.err _ (by decide) (by decide)) (by omega) (Ak.ty _) (Ak.f1 _) (Ak.f2 _) (Ak.q rfl) (by omega)) (rdc) (fun _ => inferInstance) | exact d_con rfl (parse_ok ro (Ak.err _ (by decide) (by decide)) hk) (rdc) (fun _ => inferInstance) | exact d_con rfl (ans_turn (m := told mempty (four ((Ak.mk false mac ip to t).bytes.drop 28)) (amac (Ak.mk false mac ip to t).bytes)) (bs := (reply (Ak.mk false mac ip to t).bytes).bytes) ro (Ak.err _ (by decide) (by decide)) (by omega) (Ak.ty _) (Ak.f1 _) (Ak.f2 _) r20) (rdc) (fun _ => inferInstance)) | exact d_b) rfl (by decide) ?_; intro _)) | refine w_y (by exact wn_d rfl rfl rfl) (by first | (apply y_isBin; first | exact y_to (.int .u32 t) (y_andNot rfl rfl) (by rw [hn, ht]) | exact y_to (.bool true) (y_eqlA rfl rfl (by rfl) (by rfl)) (by with_reducible exact g1) | exact y_to (.bool true) (y_eqlA rfl rfl (by rfl) (by rfl)) (by with_reducible exact g2)) | exact y_b) rfl (by decide) ?_ | refine w_skipD rfl rfl rfl rfl (by decide) ?_ | refine w_skip0D rfl rfl rfl rfl ?_ | refine w_skipU rfl rfl rfl (by decide) ?_ | refine w_skip0U rfl rfl rfl ?_ | (refine w_d wn_a (by first | (apply d_is_fcall; first | exact d_ret rfl (fun w hm => arp_head w) | exact d_ret rfl (fun w hm => arp_head _) | exact d_ret rfl (fun w hm => parp_ok (rd hm) ro (by omega) (Ak.ty _) (Ak.f1 _) (Ak.f2 _) (.inr r20)) | exact d_con rfl (new_is) (no_pre) (fun _ => inferInstance) | exact d_con rfl (emit_is (a := (Ak.mk false mac ip to t)) hq) (no_pre) (fun _ => inferInstance) | exact d_con rfl (ans_ok (m := mempty) (bs := (Ak.mk false mac ip to t).bytes) qo (Ak.err _ (by decide) (by decide)) (by omega) (Ak.ty _) (Ak.f1 _) (Ak.f2 _) (Ak.q rfl) (by omega)) (rdc) (fun _ => inferInstance) | exact d_con rfl (parse_ok ro (Ak.err _ (by decide) (by decide)) hk) (rdc) (fun _ => inferInstance) | exact d_con rfl (ans_turn (m := told mempty (four ((Ak.mk false mac ip to t).bytes.drop 28)) (amac (Ak.mk false mac ip to t).bytes)) (bs := (reply (Ak.mk false mac ip to t).bytes).bytes) ro (Ak.err _ (by decide) (by decide)) (by omega) (Ak.ty _) (Ak.f1 _) (Ak.f2 _) r20) (rdc) (fun _ => inferInstance)) | exact d_b) rfl (by decide) ?_; intro _) | (refine w_d0 wn_a (by first | (apply d_is_fcall; first | exact d_ret rfl (fun w hm => arp_head w) | exact d_ret rfl (fun w hm => arp_head _) | exact d_ret rfl (fun w hm => parp_ok (rd hm) ro (by omega) (Ak.ty _) (Ak.f1 _) (Ak.f2 _) (.inr r20)) | exact d_con rfl (new_is) (no_pre) (fun _ => inferInstance) | exact d_con rfl (emit_is (a := (Ak.mk false mac ip to t)) hq) (no_pre) (fun _ => inferInstance) | exact d_con rfl (ans_ok (m := mempty) (bs := (Ak.mk false mac ip to t).bytes) qo (Ak.err _ (by decide) (by decide)) (by omega) (Ak.ty _) (Ak.f1 _) (Ak.f2 _) (Ak.q rfl) (by omega)) (rdc) (fun _ => inferInstance) | exact d_con rfl (parse_ok ro (Ak.err _ (by decide) (by decide)) hk) (rdc) (fun _ => inferInstance) | exact d_con rfl (ans_turn (m := told mempty (four ((Ak.mk false mac ip to t).bytes.drop 28)) (amac (Ak.mk false mac ip to t).bytes)) (bs := (reply (Ak.mk false mac ip to t).bytes).bytes) ro (Ak.err _ (by decide) (by decide)) (by omega) (Ak.ty _) (Ak.f1 _) (Ak.f2 _) r20) (rdc) (fun _ => inferInstance)) | exact d_b) rfl ?_; first | (intro (uu : Unit); clear uu) | intro _) | (refine w_splitD rfl rfl rfl (fun hyes => ?_) (fun hno => ?_) <;> first | (exfalso; omega) | exact absurd rfl hyes | exact absurd rfl hno | exact absurd Iff.rfl hyes | exact absurd Iff.rfl hno | exact absurd (eqc_same _) hyes | exact absurd (eqc_same _) hno | exact absurd (by decide) hyes | exact absurd (by decide) hno | skip))) | (apply isQ; first | apply q_nil | (apply isQ0; first | (apply isQc; first | refine q_call rfl wn_a (by decide) (fun w hm => arp_head w) ?_ | refine q_call rfl wn_a (by decide) (fun w hm => arp_head _) ?_ | refine q_call rfl wn_a (by decide) (fun w hm => parp_ok (rd hm) ro (by omega) (Ak.ty _) (Ak.f1 _) (Ak.f2 _) (.inr r20)) ?_) | refine q_y0 (by first | (apply y_isBin; first | exact y_to (.int .u32 t) (y_andNot rfl rfl) (by rw [hn, ht]) | exact y_to (.bool true) (y_eqlA rfl rfl (by rfl) (by rfl)) (by with_reducible exact g1) | exact y_to (.bool true) (y_eqlA rfl rfl (by rfl) (by rfl)) (by with_reducible exact g2)) | exact y_b) (by decide) ?_) | (apply isQg; first | (apply isQc; first | refine q_call rfl wn_a (by decide) (fun w hm => arp_head w) ?_ | refine q_call rfl wn_a (by decide) (fun w hm => arp_head _) ?_ | refine q_call rfl wn_a (by decide) (fun w hm => parp_ok (rd hm) ro (by omega) (Ak.ty _) (Ak.f1 _) (Ak.f2 _) (.inr r20)) ?_) | refine q_y (by exact wn_d rfl rfl rfl) (by first | (apply y_isBin; first | exact y_to (.int .u32 t) (y_andNot rfl rfl) (by rw [hn, ht]) | exact y_to (.bool true) (y_eqlA rfl rfl (by rfl) (by rfl)) (by with_reducible exact g1) | exact y_to (.bool true) (y_eqlA rfl rfl (by rfl) (by rfl)) (by with_reducible exact g2)) | exact y_b) rfl (by decide) ?_ | refine q_skipD rfl rfl rfl rfl (by decide) ?_ | refine q_skipU rfl rfl rfl (by decide) ?_ | (refine q_splitD rfl rfl rfl (fun hyes => ?_) (fun hno => ?_) <;> first | (exfalso; omega) | exact absurd rfl hyes | exact absurd rfl hno | exact absurd Iff.rfl hyes | exact absurd Iff.rfl hno | exact absurd (eqc_same _) hyes | exact absurd (eqc_same _) hno | exact absurd (by decide) hyes | exact absurd (by decide) hno | skip))))
  all_goals first | exact post1 (.inl rfl) rfl (res_tmp rfl) fun _ hm => ⟨rfl, hm.below⟩ | exact absurd rt hno

theorem ak_ok (x0 : Bool) (x1 x2 x3 x4 x5 x6 x7 x8 x9 x10 x11 x12 x13 x14 : Int) (w1 : (Lit.int .u8 x1).wf = true) (w2 : (Lit.int .u8 x2).wf = true) (w3 : (Lit.int .u8 x3).wf = true) (w4 : (Lit.int .u8 x4).wf = true) (w5 : (Lit.int .u8 x5).wf = true) (w6 : (Lit.int .u8 x6).wf = true) (w7 : (Lit.int .u32 x7).wf = true) (w8 : (Lit.int .u8 x8).wf = true) (w9 : (Lit.int .u8 x9).wf = true) (w10 : (Lit.int .u8 x10).wf = true) (w11 : (Lit.int .u8 x11).wf = true) (w12 : (Lit.int .u8 x12).wf = true) (w13 : (Lit.int .u8 x13).wf = true) (w14 : (Lit.int .u32 x14).wf = true) : Ak.Ok ⟨x0, (x1, x2, x3, x4, x5, x6), x7, (x8, x9, x10, x11, x12, x13), x14⟩ := by
  have b1 := Law.bd_u8 w1
  have b2 := Law.bd_u8 w2
  have b3 := Law.bd_u8 w3
  have b4 := Law.bd_u8 w4
  have b5 := Law.bd_u8 w5
  have b6 := Law.bd_u8 w6
  have b7 := Law.bd_u32 w7
  have b8 := Law.bd_u8 w8
  have b9 := Law.bd_u8 w9
  have b10 := Law.bd_u8 w10
  have b11 := Law.bd_u8 w11
  have b12 := Law.bd_u8 w12
  have b13 := Law.bd_u8 w13
  have b14 := Law.bd_u32 w14
  refine ⟨fun x hx => ?_, fun x hx => ?_, ?_, ?_⟩
  · simp only [l6, List.mem_cons, List.not_mem_nil, or_false] at hx
    omega
  · simp only [l6, List.mem_cons, List.not_mem_nil, or_false] at hx
    omega
  · dsimp only; omega
  · dsimp only; omega

theorem walk (x0 : Bool) (x1 x2 x3 x4 x5 x6 x7 x8 x9 x10 x11 x12 x13 x14 : Int) (w1 : (Lit.int .u8 x1).wf = true) (w2 : (Lit.int .u8 x2).wf = true) (w3 : (Lit.int .u8 x3).wf = true) (w4 : (Lit.int .u8 x4).wf = true) (w5 : (Lit.int .u8 x5).wf = true) (w6 : (Lit.int .u8 x6).wf = true) (w7 : (Lit.int .u32 x7).wf = true) (w8 : (Lit.int .u8 x8).wf = true) (w9 : (Lit.int .u8 x9).wf = true) (w10 : (Lit.int .u8 x10).wf = true) (w11 : (Lit.int .u8 x11).wf = true) (w12 : (Lit.int .u8 x12).wf = true) (w13 : (Lit.int .u8 x13).wf = true) (w14 : (Lit.int .u32 x14).wf = true) (w : World) : Calls Try.prog 6 (#[.agg #[.bool x0, .int .u8 x1, .int .u8 x2, .int .u8 x3, .int .u8 x4, .int .u8 x5, .int .u8 x6, .int .u32 x7, .int .u8 x8, .int .u8 x9, .int .u8 x10, .int .u8 x11, .int .u8 x12, .int .u8 x13, .int .u32 x14]]) w fun e w' => e = .returned (.bool true) ∧ Below w.heap.size w w' :=
  run ⟨x0, (x1, x2, x3, x4, x5, x6), x7, (x8, x9, x10, x11, x12, x13), x14⟩ (ak_ok x0 x1 x2 x3 x4 x5 x6 x7 x8 x9 x10 x11 x12 x13 x14 w1 w2 w3 w4 w5 w6 w7 w8 w9 w10 w11 w12 w13 w14) w

/-! ### The row's step -/
set_option maxRecDepth 100000 in
theorem lifted (os : Os) (started : os.Started) (H : Type) (enc : TypeId × Value → H) :
    ReturnsInHanded {} Try.checked os 6 .any (Rows.arpBackSpec.pre6 enc Try.prog Try.f6 Rows.arpBackRow.domain false) (Rows.arpBackSpec.post enc Try.prog Try.f6 false true false false) := by
  refine returnsInHanded_of_change (C := Try.checked) Law.own started (by kernel_rfl) Try.func6
    (ChangeSpec.witness6 (enc := enc) (C := Try.checked) false ⟨#[], #[.agg #[.bool false, .int .u8 0, .int .u8 0, .int .u8 0, .int .u8 0, .int .u8 0, .int .u8 0, .int .u32 0, .int .u8 0, .int .u8 0, .int .u8 0, .int .u8 0, .int .u8 0, .int .u8 0, .int .u32 0]], []⟩ 8 (by kernel_rfl) (by kernel_rfl) (by kernel_rfl) (by kernel_rfl)) ?_
  intro W base args ds gs before hval0 hW hcnd _
  have hval : ∀ (j : Nat) t v, Try.f6.params[j]? = some t → args[j]? = some v → Value.okWide Try.prog W .any base t v := hval0
  have hW' := hW
  obtain ⟨p, q, hA0, hV, rfl, hfz, hnd⟩ := hW
  have hA : DataW.TrodAll enc Try.prog W 0 (fun _ => true) true Try.f6.params.toList args.toList ds p := hA0
  rw [Try.params6] at hA hval
  obtain ⟨v0, vs0, d0, ds0, p0, q0, hargs, rfl, rfl, h0, r0⟩ := trodAll_cons hA
  obtain ⟨rfl, rfl, rfl⟩ := trodAll_nil r0
  obtain rfl : args = #[v0] := by cases args; simp_all
  obtain ⟨rfl, rfl⟩ := trodVars_none hV
  obtain ⟨cs0, rfl, g0⟩ := Law.open_flat (n := 8) (ks := [.bool, .int .u8, .int .u8, .int .u8, .int .u8, .int .u8, .int .u8, .int .u32, .int .u8, .int .u8, .int .u8, .int .u8, .int .u8, .int .u8, .int .u32]) (by first | exact .inl ⟨_, Try.underlying44⟩ | exact .inr ⟨_, _, Try.underlying44⟩) (by kernel_rfl) (hval 0 44 v0 rfl rfl) h0
  obtain ⟨_, _, rfl, ⟨x0, rfl⟩, ⟨_, _, rfl, ⟨x1, rfl, w1⟩, ⟨_, _, rfl, ⟨x2, rfl, w2⟩, ⟨_, _, rfl, ⟨x3, rfl, w3⟩, ⟨_, _, rfl, ⟨x4, rfl, w4⟩, ⟨_, _, rfl, ⟨x5, rfl, w5⟩, ⟨_, _, rfl, ⟨x6, rfl, w6⟩, ⟨_, _, rfl, ⟨x7, rfl, w7⟩, ⟨_, _, rfl, ⟨x8, rfl, w8⟩, ⟨_, _, rfl, ⟨x9, rfl, w9⟩, ⟨_, _, rfl, ⟨x10, rfl, w10⟩, ⟨_, _, rfl, ⟨x11, rfl, w11⟩, ⟨_, _, rfl, ⟨x12, rfl, w12⟩, ⟨_, _, rfl, ⟨x13, rfl, w13⟩, ⟨_, _, rfl, ⟨x14, rfl, w14⟩, rfl⟩⟩⟩⟩⟩⟩⟩⟩⟩⟩⟩⟩⟩⟩⟩ := g0
  clear hA0 hval0
  exact (walk x0 x1 x2 x3 x4 x5 x6 x7 x8 x9 x10 x11 x12 x13 x14 w1 w2 w3 w4 w5 w6 w7 w8 w9 w10 w11 w12 w13 w14 W ).mono fun e W' ⟨he, hg⟩ => ⟨_, he, Law.post_law Law.laidOut (by kernel_rfl) hW' rfl rfl Try.underlying4 rfl hg⟩

theorem over : Rows.arpBackRow.holds Try.pinned (OpenSpec.ofChange Rows.arpBackSpec) :=
  OpenClaim.holds_of_wide 6 Try.f6 rfl rfl rfl rfl rfl rfl rfl ⟨rfl, rfl, rfl, rfl, rfl⟩ rfl rfl rfl rfl rfl (by kernel_rfl) Try.func6 (by kernel_rfl)
    (of_decide_eq_true (by kernel_rfl)) (by unfold Func.isWrapper; first | (rw [if_pos (by decide +kernel)]; kernel_rfl) | (rw [if_neg (by decide +kernel)]; exact ⟨rfl, rfl⟩))
    (fun os started H enc _ => lifted os started H enc)

/-- THE STATEMENT. -/
theorem proved : Rows.ArpBackSaid := over
#print axioms proved

end ArpBack
end Go.Proofs.Ytiolijpamidpfaa
