/-
  TagsFull: so many keys have tags at once, and no more, and a sweep makes room for as many as no prefix has: the call returns true for every size and number of tags given back. No conditions.
-/
import Derived.Test.YtoghablinbmljaaTgE
import Derived.Test.YtoghablinbmljaaBits
import Derived.Test.YtoghablinbmljaaRows
import Derived.Test.YtoghablinbmljaaLaw
namespace Go.Proofs.Ytoghablinbmljaa
open Go.RowKit Go.ChangeShapes Go.WideShapes Go.ChangeAt
set_option linter.unusedVariables false
namespace TagsFull
open Sl Tg

def FA (i : Int) : Tags := fun t => if 0 ≤ t ∧ t < i then some ((t, 0, 0), 1) else none
def GA (M j : Int) : Tags := fun t => if 0 ≤ t ∧ t < M then some ((t, 0, 0), if t < j then 0 else 1) else none
def RA (M G r : Int) : Tags := fun t => if 0 ≤ t ∧ t < r then some ((0, 1 + t, 0), 1) else if G ≤ t ∧ t < M then some ((t, 0, 0), 1) else none
theorem FA_no {i m : Int} (h : i ≤ m) (x u : Int) : FA i x ≠ some ((m, 0, 0), u) := by
  intro hx
  unfold FA at hx
  split at hx
  · have := congrArg (fun q : K3 × Int => q.1.1) (Option.some.inj hx)
    dsimp only at this
    omega
  · cases hx
theorem FA_in {i : Int} (t : Int) (h0 : 0 ≤ t) (h1 : t < i) : FA i t ≠ none := by
  unfold FA
  rw [if_pos ⟨h0, h1⟩]
  simp
theorem FA_out (i : Int) : FA i i = none := by
  unfold FA
  rw [if_neg (by omega)]
theorem RA_no {M G r : Int} (h : 0 ≤ r) (x u : Int) : RA M G r x ≠ some ((0, 1 + r, 0), u) := by
  intro hx
  unfold RA at hx
  split at hx
  · have := congrArg (fun q : K3 × Int => q.1.2.1) (Option.some.inj hx)
    dsimp only at this
    omega
  · split at hx
    · have := congrArg (fun q : K3 × Int => q.1.2.1) (Option.some.inj hx)
      dsimp only at this
      omega
    · cases hx
theorem RA_in {M G r : Int} (t : Int) (h0 : 0 ≤ t) (h1 : t < r) : RA M G r t ≠ none := by
  unfold RA
  rw [if_pos ⟨h0, h1⟩]
  simp
theorem RA_out {M G r : Int} (h : r < G) : RA M G r r = none := by
  unfold RA
  rw [if_neg (by omega), if_neg (by omega)]
theorem GA_at {M j : Int} (h0 : 0 ≤ j) (h : j < M) : GA M j j = some ((j, 0, 0), 1) := by
  unfold GA
  rw [if_pos ⟨h0, h⟩, if_neg (by omega)]
theorem FA_zero : FA 0 = fun _ => none := by
  funext t
  unfold FA
  rw [if_neg (by omega)]
theorem FA_step {i : Int} (h : 0 ≤ i) : upd (FA i) i (some ((i, 0, 0), 1)) = FA (i + 1) := by
  funext x
  unfold upd FA
  by_cases e : i = x
  · subst e
    rw [if_pos rfl, if_pos (by omega)]
  · rw [if_neg e]
    by_cases h1 : 0 ≤ x ∧ x < i
    · rw [if_pos h1, if_pos (by omega)]
    · rw [if_neg h1, if_neg (by omega)]
theorem FA_GA (M : Int) : FA M = GA M 0 := by
  funext x
  unfold FA GA
  by_cases h1 : 0 ≤ x ∧ x < M
  · rw [if_pos h1, if_pos h1, if_neg (by omega)]
  · rw [if_neg h1, if_neg h1]
theorem GA_step {M j : Int} (h : 0 ≤ j) (hj : j < M) : upd (GA M j) j (some ((j, 0, 0), 1 - 1)) = GA M (j + 1) := by
  funext x
  unfold upd GA
  by_cases e : j = x
  · subst e
    rw [if_pos rfl, if_pos ⟨h, hj⟩, if_pos (by omega)]
    rfl
  · rw [if_neg e]
    by_cases h1 : 0 ≤ x ∧ x < M
    · rw [if_pos h1, if_pos h1]
      by_cases h2 : x < j
      · rw [if_pos h2, if_pos (by omega)]
      · rw [if_neg h2, if_neg (by omega)]
    · rw [if_neg h1, if_neg h1]
theorem GA_sweep {M G : Int} (h : 0 ≤ G) : sweepA (GA M G) = RA M G 0 := by
  funext x
  unfold sweepA use GA RA
  rw [if_neg (c := 0 ≤ x ∧ x < 0) (by omega)]
  by_cases h1 : 0 ≤ x ∧ x < M
  · rw [if_pos h1]
    by_cases h2 : x < G
    · rw [if_pos h2, if_neg (c := G ≤ x ∧ x < M) (by omega)]; rfl
    · rw [if_neg h2, if_pos (c := G ≤ x ∧ x < M) (by omega)]; rfl
  · rw [if_neg h1, if_neg (c := G ≤ x ∧ x < M) (by omega)]; rfl
theorem RA_step {M G r : Int} (h : 0 ≤ r) (hr : r < G) : upd (RA M G r) r (some ((0, 1 + r, 0), 1)) = RA M G (r + 1) := by
  funext x
  unfold upd RA
  by_cases e : r = x
  · subst e
    rw [if_pos rfl, if_pos (by omega)]
  · rw [if_neg e]
    by_cases h1 : 0 ≤ x ∧ x < r
    · rw [if_pos h1, if_pos (by omega)]
    · rw [if_neg h1, if_neg (c := 0 ≤ x ∧ x < r + 1) (by omega)]
theorem count_from (g : Nat) : ∀ n : Nat, g ≤ n → ((List.range n).filter fun t => decide (g ≤ t)).length + g = n
  | 0, h => by simp; omega
  | n + 1, h => by
    rw [List.range_succ, List.filter_append, List.length_append]
    by_cases e : g = n + 1
    · have h0 : (List.range n).filter (fun t => decide (g ≤ t)) = [] := by
        rw [List.filter_eq_nil_iff]
        intro t ht
        have := List.mem_range.1 ht
        simp
        omega
      have h1 : [n].filter (fun t => decide (g ≤ t)) = [] := by
        rw [List.filter_eq_nil_iff]
        intro t ht
        obtain rfl : t = n := by simpa using ht
        simp
        omega
      rw [h0, h1]
      simp
      omega
    · have ih := count_from g n (by omega)
      have h1 : [n].filter (fun t => decide (g ≤ t)) = [n] := by
        rw [List.filter_eq_self]
        intro t ht
        obtain rfl : t = n := by simpa using ht
        simp
        omega
      rw [h1]
      simp only [List.length_cons, List.length_nil]
      omega
theorem cnt_from {M g : Int} {A : Tags} (h0 : 0 ≤ g) (h1 : g ≤ M) (h : ∀ t : Int, 0 ≤ t → t < M → ((A t).isSome = true ↔ g ≤ t)) : (cnt M A : Int) = M - g := by
  have h2 := count_from g.toNat M.toNat (by omega)
  have e : (List.range M.toNat).filter (fun t : Nat => (A (t : Int)).isSome) = (List.range M.toNat).filter (fun t => decide (g.toNat ≤ t)) := by
    refine List.filter_congr fun t ht => ?_
    have ht' := List.mem_range.1 ht
    have h3 := h (t : Int) (by omega) (by omega)
    by_cases hg : g ≤ (t : Int)
    · rw [h3.2 hg, decide_eq_true (by omega)]
    · rw [decide_eq_false (by omega)]
      cases e : (A (t : Int)).isSome with
      | false => rfl
      | true => exact absurd (h3.1 e) hg
  unfold cnt
  rw [e]
  omega
set_option maxRecDepth 100000 in
set_option maxHeartbeats 4000000 in
theorem walk (x0 x1 : Int) (w0 : (Lit.int .i64 x0).wf = true) (w1 : (Lit.int .i64 x1).wf = true) (w : World) :
    Calls Try.prog 3 (#[.int .i64 x0, .int .i64 x1]) w fun e w' => e = .returned (.bool true) ∧ Below w.heap.size w w' := by
  have h63 : ∀ x, bits .and .i64 x 63 = x % 64 := Pl.and_i64_mask 6 (by decide)
  obtain ⟨M, hM⟩ : ∃ M, M = 1 + x0 % 64 := ⟨_, rfl⟩
  obtain ⟨G, hG⟩ : ∃ G, G = x1 % 64 % (M + 1) := ⟨_, rfl⟩
  have hM0 : 1 ≤ M := by omega
  have hM1 : M ≤ 64 := by omega
  have hG0 : 0 ≤ G := by rw [hG]; exact Int.emod_nonneg _ (by omega)
  have hG1 : G ≤ M := by have := Int.emod_lt_of_pos (x1 % 64) (b := M + 1) (by omega); omega
  refine enter (args := [.int .i64 x0, .int .i64 x1]) Try.func3 rfl Try.ntmps3 (by simp) ?_
  repeat' (first | (apply stop_loop) | (apply isC; first | apply c_seq | apply c_block | apply c_skip | apply c_exit | apply c_ret | (apply isCrg; apply c_rg; intro oPs qQ dD hQ) | (apply isCcond; first | refine c_cond_t rfl ?_ | refine c_cond_f rfl ?_ | (refine c_test rfl (fun hyes => ?_) (fun hno => ?_) <;> first | (exfalso; omega) | exact absurd rfl hyes | exact absurd rfl hno | exact absurd Iff.rfl hyes | exact absurd Iff.rfl hno | exact absurd (eqc_same _) hyes | exact absurd (eqc_same _) hno | exact absurd (by decide) hyes | exact absurd (by decide) hno | skip)) | (apply isCdr; first | (refine c_dr [] ?_; intro oPs qQ dD hQ) | (refine c_tl [] ?_; intro oPs qQ dD hQ; dsimp only [takeQ, dropQ, isEff, cond_true, cond_false, List.contains_nil, List.contains_cons, List.elem_nil, Bool.or_false, Nat.reduceBEq, Bool.or_true]))) | (apply isE; first | (apply e_hq; clear hQ qQ dD oPs) | apply e_seq | apply e_then_exit | apply e_then_ret | apply e_in_normal | apply e_in_ret | apply e_in_same | refine e_in_other rfl ?_) | (apply isW; first | apply w_nil | (apply isW0; first | (apply isWc; first | refine w_call rfl wn_a (by decide) (fun w hm => example_ret w) ?_ | (refine w_d wn_a (by first | (apply d_is_fcall; first | exact d_ret rfl (fun w hm => example_ret w) | exact d_con rfl (new_ok (m := M) (by omega) (by omega)) (no_pre) (fun _ => inferInstance)) | exact d_b) rfl (by decide) ?_; intro _)) | refine w_y0 (by first | (apply y_isBin; first | exact y_and_is rfl rfl (h63 x0) | exact y_to (.int .i64 M) (y_add_i64 rfl rfl (by omega) (by omega)) (by rw [hM])) | exact y_b) (by decide) ?_ | (refine w_d wn_a (by first | (apply d_is_fcall; first | exact d_ret rfl (fun w hm => example_ret w) | exact d_con rfl (new_ok (m := M) (by omega) (by omega)) (no_pre) (fun _ => inferInstance)) | exact d_b) rfl (by decide) ?_; intro _)) | (apply isWn; first | (refine w_d0 wn_a (by first | (apply d_is_fcall; first | exact d_ret rfl (fun w hm => example_ret w) | exact d_con rfl (new_ok (m := M) (by omega) (by omega)) (no_pre) (fun _ => inferInstance)) | exact d_b) rfl ?_; first | (intro (uu : Unit); clear uu) | intro _)) | (apply isWg; first | (apply isWc; first | refine w_call rfl wn_a (by decide) (fun w hm => example_ret w) ?_ | (refine w_d wn_a (by first | (apply d_is_fcall; first | exact d_ret rfl (fun w hm => example_ret w) | exact d_con rfl (new_ok (m := M) (by omega) (by omega)) (no_pre) (fun _ => inferInstance)) | exact d_b) rfl (by decide) ?_; intro _)) | refine w_y (by exact wn_d rfl rfl rfl) (by first | (apply y_isBin; first | exact y_and_is rfl rfl (h63 x0) | exact y_to (.int .i64 M) (y_add_i64 rfl rfl (by omega) (by omega)) (by rw [hM])) | exact y_b) rfl (by decide) ?_ | refine w_skipD rfl rfl rfl rfl (by decide) ?_ | refine w_skip0D rfl rfl rfl rfl ?_ | refine w_skipU rfl rfl rfl (by decide) ?_ | refine w_skip0U rfl rfl rfl ?_ | (refine w_d wn_a (by first | (apply d_is_fcall; first | exact d_ret rfl (fun w hm => example_ret w) | exact d_con rfl (new_ok (m := M) (by omega) (by omega)) (no_pre) (fun _ => inferInstance)) | exact d_b) rfl (by decide) ?_; intro _) | (refine w_d0 wn_a (by first | (apply d_is_fcall; first | exact d_ret rfl (fun w hm => example_ret w) | exact d_con rfl (new_ok (m := M) (by omega) (by omega)) (no_pre) (fun _ => inferInstance)) | exact d_b) rfl ?_; first | (intro (uu : Unit); clear uu) | intro _) | (refine w_splitD rfl rfl rfl (fun hyes => ?_) (fun hno => ?_) <;> first | (exfalso; omega) | exact absurd rfl hyes | exact absurd rfl hno | exact absurd Iff.rfl hyes | exact absurd Iff.rfl hno | exact absurd (eqc_same _) hyes | exact absurd (eqc_same _) hno | exact absurd (by decide) hyes | exact absurd (by decide) hno | skip))) | (apply isQ; first | apply q_nil | (apply isQ0; first | (apply isQc; first | refine q_call rfl wn_a (by decide) (fun w hm => example_ret w) ?_) | refine q_y0 (by first | (apply y_isBin; first | exact y_and_is rfl rfl (h63 x0) | exact y_to (.int .i64 M) (y_add_i64 rfl rfl (by omega) (by omega)) (by rw [hM])) | exact y_b) (by decide) ?_) | (apply isQg; first | (apply isQc; first | refine q_call rfl wn_a (by decide) (fun w hm => example_ret w) ?_) | refine q_y (by exact wn_d rfl rfl rfl) (by first | (apply y_isBin; first | exact y_and_is rfl rfl (h63 x0) | exact y_to (.int .i64 M) (y_add_i64 rfl rfl (by omega) (by omega)) (by rw [hM])) | exact y_b) rfl (by decide) ?_ | refine q_skipD rfl rfl rfl rfl (by decide) ?_ | refine q_skipU rfl rfl rfl (by decide) ?_ | (refine q_splitD rfl rfl rfl (fun hyes => ?_) (fun hno => ?_) <;> first | (exfalso; omega) | exact absurd rfl hyes | exact absurd rfl hno | exact absurd Iff.rfl hyes | exact absurd Iff.rfl hno | exact absurd (eqc_same _) hyes | exact absurd (eqc_same _) hno | exact absurd (by decide) hyes | exact absurd (by decide) hno | skip))))
  refine .mk ?_
  rename_i b
  refine c_loop2 (ι := { i : Nat // (i : Int) ≤ M }) (fun i => [(7, .int .i64 (i.1 : Nat)), (0, .int .i64 M), (1, .int .i64 x1), (5, .pointer (some ⟨b, 0, none⟩))]) (fun i => [⟨b, pl M (FA (i.1 : Nat))⟩]) (fun i => M.toNat - i.1) ⟨0, by omega⟩ ⟨rfl, rfl, rfl, rfl, trivial⟩ (fun _ h => by rw [← FA_zero] at h; exact h) ?_
  rintro ⟨i, hi⟩
  dsimp only
  by_cases hl : (i : Int) < M
  · repeat' (first | (apply isC; first | apply c_seq | apply c_block | apply c_skip | apply c_exit | apply c_ret | (apply isCrg; apply c_rg; intro oPs qQ dD hQ) | (apply isCcond; first | refine c_cond_t rfl ?_ | refine c_cond_f rfl ?_ | (refine c_test rfl (fun hyes => ?_) (fun hno => ?_) <;> first | (exfalso; omega) | exact absurd rfl hyes | exact absurd rfl hno | exact absurd Iff.rfl hyes | exact absurd Iff.rfl hno | exact absurd (eqc_same _) hyes | exact absurd (eqc_same _) hno | exact absurd (by decide) hyes | exact absurd (by decide) hno | skip)) | (apply isCdr; first | (refine c_dr [] ?_; intro oPs qQ dD hQ) | (refine c_tl [] ?_; intro oPs qQ dD hQ; dsimp only [takeQ, dropQ, isEff, cond_true, cond_false, List.contains_nil, List.contains_cons, List.elem_nil, Bool.or_false, Nat.reduceBEq, Bool.or_true]))) | (apply isE; first | (apply e_hq; clear hQ qQ dD oPs) | apply e_seq | apply e_then_exit | apply e_then_ret | apply e_in_normal | apply e_in_ret | apply e_in_same | refine e_in_other rfl ?_) | (apply isW; first | apply w_nil | (apply isW0; first | (apply isWc; first | (refine w_d wn_a (by first | (apply d_is_fcall; first | exact d_con rfl (new_eq (most := M) (A := FA i) (A' := FA (i + 1)) (k := ((i : Int), 0, 0)) (f := i) FA_in (FA_out i) (by omega) hl (by omega) (FA_no (by omega)) (FA_step (by omega))) (no_pre) (fun _ => inferInstance)) | exact d_b) rfl (by decide) ?_; intro _)) | refine w_y0 (by exact y_b) (by decide) ?_ | (refine w_d wn_a (by first | (apply d_is_fcall; first | exact d_con rfl (new_eq (most := M) (A := FA i) (A' := FA (i + 1)) (k := ((i : Int), 0, 0)) (f := i) FA_in (FA_out i) (by omega) hl (by omega) (FA_no (by omega)) (FA_step (by omega))) (no_pre) (fun _ => inferInstance)) | exact d_b) rfl (by decide) ?_; intro _)) | (apply isWn; first | (refine w_d0 wn_a (by first | (apply d_is_fcall; first | exact d_con rfl (new_eq (most := M) (A := FA i) (A' := FA (i + 1)) (k := ((i : Int), 0, 0)) (f := i) FA_in (FA_out i) (by omega) hl (by omega) (FA_no (by omega)) (FA_step (by omega))) (no_pre) (fun _ => inferInstance)) | exact d_b) rfl ?_; first | (intro (uu : Unit); clear uu) | intro _)) | (apply isWg; first | (apply isWc; first | (refine w_d wn_a (by first | (apply d_is_fcall; first | exact d_con rfl (new_eq (most := M) (A := FA i) (A' := FA (i + 1)) (k := ((i : Int), 0, 0)) (f := i) FA_in (FA_out i) (by omega) hl (by omega) (FA_no (by omega)) (FA_step (by omega))) (no_pre) (fun _ => inferInstance)) | exact d_b) rfl (by decide) ?_; intro _)) | refine w_y (by exact wn_d rfl rfl rfl) (by exact y_b) rfl (by decide) ?_ | refine w_skipD rfl rfl rfl rfl (by decide) ?_ | refine w_skip0D rfl rfl rfl rfl ?_ | refine w_skipU rfl rfl rfl (by decide) ?_ | refine w_skip0U rfl rfl rfl ?_ | (refine w_d wn_a (by first | (apply d_is_fcall; first | exact d_con rfl (new_eq (most := M) (A := FA i) (A' := FA (i + 1)) (k := ((i : Int), 0, 0)) (f := i) FA_in (FA_out i) (by omega) hl (by omega) (FA_no (by omega)) (FA_step (by omega))) (no_pre) (fun _ => inferInstance)) | exact d_b) rfl (by decide) ?_; intro _) | (refine w_d0 wn_a (by first | (apply d_is_fcall; first | exact d_con rfl (new_eq (most := M) (A := FA i) (A' := FA (i + 1)) (k := ((i : Int), 0, 0)) (f := i) FA_in (FA_out i) (by omega) hl (by omega) (FA_no (by omega)) (FA_step (by omega))) (no_pre) (fun _ => inferInstance)) | exact d_b) rfl ?_; first | (intro (uu : Unit); clear uu) | intro _) | (refine w_splitD rfl rfl rfl (fun hyes => ?_) (fun hno => ?_) <;> first | (exfalso; omega) | exact absurd rfl hyes | exact absurd rfl hno | exact absurd Iff.rfl hyes | exact absurd Iff.rfl hno | exact absurd (eqc_same _) hyes | exact absurd (eqc_same _) hno | exact absurd (by decide) hyes | exact absurd (by decide) hno | skip))) | (apply isQ; first | apply q_nil | (apply isQ0; first | refine q_y0 (by exact y_b) (by decide) ?_) | (apply isQg; first | refine q_y (by exact wn_d rfl rfl rfl) (by exact y_b) rfl (by decide) ?_ | refine q_skipD rfl rfl rfl rfl (by decide) ?_ | refine q_skipU rfl rfl rfl (by decide) ?_ | (refine q_splitD rfl rfl rfl (fun hyes => ?_) (fun hno => ?_) <;> first | (exfalso; omega) | exact absurd rfl hyes | exact absurd rfl hno | exact absurd Iff.rfl hyes | exact absurd Iff.rfl hno | exact absurd (eqc_same _) hyes | exact absurd (eqc_same _) hno | exact absurd (by decide) hyes | exact absurd (by decide) hno | skip))))
    exact e_next ⟨i + 1, by omega⟩ (by show M.toNat - (i + 1) < M.toNat - i; omega) (by repeat' (first | exact trivial | refine ⟨by first | rfl | exact int_eq (by omega), ?_⟩)) (fun _ h => h)
  · obtain hiM : (i : Int) = M := by omega
    rw [hiM]
    repeat' (first | (apply stop_loop) | (apply isC; first | apply c_seq | apply c_block | apply c_skip | apply c_exit | apply c_ret | (apply isCrg; apply c_rg; intro oPs qQ dD hQ) | (apply isCcond; first | refine c_cond_t rfl ?_ | refine c_cond_f rfl ?_ | (refine c_test rfl (fun hyes => ?_) (fun hno => ?_) <;> first | (exfalso; omega) | exact absurd rfl hyes | exact absurd rfl hno | exact absurd Iff.rfl hyes | exact absurd Iff.rfl hno | exact absurd (eqc_same _) hyes | exact absurd (eqc_same _) hno | exact absurd (by decide) hyes | exact absurd (by decide) hno | skip)) | (apply isCdr; first | (refine c_dr [] ?_; intro oPs qQ dD hQ) | (refine c_tl [] ?_; intro oPs qQ dD hQ; dsimp only [takeQ, dropQ, isEff, cond_true, cond_false, List.contains_nil, List.contains_cons, List.elem_nil, Bool.or_false, Nat.reduceBEq, Bool.or_true]))) | (apply isE; first | (apply e_hq; clear hQ qQ dD oPs) | apply e_seq | apply e_then_exit | apply e_then_ret | apply e_in_normal | apply e_in_ret | apply e_in_same | refine e_in_other rfl ?_) | (apply isW; first | apply w_nil | (apply isW0; first | (apply isWc; first | (refine w_d wn_a (by first | (apply d_is_fcall; first | exact d_con rfl (take_full (most := M) (A := FA M) (k := (M, 0, 0)) FA_in (by omega) (by omega) (FA_no (by omega))) (no_pre) (fun _ => inferInstance)) | exact d_b) rfl (by decide) ?_; intro _)) | refine w_y0 (by first | (apply y_isBin; first | exact y_and_is rfl rfl (h63 x1) | exact y_to (.int .i64 G) (y_rem_nn rfl rfl (by omega) (by omega)) (by rw [hG])) | exact y_b) (by decide) ?_ | (refine w_d wn_a (by first | (apply d_is_fcall; first | exact d_con rfl (take_full (most := M) (A := FA M) (k := (M, 0, 0)) FA_in (by omega) (by omega) (FA_no (by omega))) (no_pre) (fun _ => inferInstance)) | exact d_b) rfl (by decide) ?_; intro _)) | (apply isWn; first | (refine w_d0 wn_a (by first | (apply d_is_fcall; first | exact d_con rfl (take_full (most := M) (A := FA M) (k := (M, 0, 0)) FA_in (by omega) (by omega) (FA_no (by omega))) (no_pre) (fun _ => inferInstance)) | exact d_b) rfl ?_; first | (intro (uu : Unit); clear uu) | intro _)) | (apply isWg; first | (apply isWc; first | (refine w_d wn_a (by first | (apply d_is_fcall; first | exact d_con rfl (take_full (most := M) (A := FA M) (k := (M, 0, 0)) FA_in (by omega) (by omega) (FA_no (by omega))) (no_pre) (fun _ => inferInstance)) | exact d_b) rfl (by decide) ?_; intro _)) | refine w_y (by exact wn_d rfl rfl rfl) (by first | (apply y_isBin; first | exact y_and_is rfl rfl (h63 x1) | exact y_to (.int .i64 G) (y_rem_nn rfl rfl (by omega) (by omega)) (by rw [hG])) | exact y_b) rfl (by decide) ?_ | refine w_skipD rfl rfl rfl rfl (by decide) ?_ | refine w_skip0D rfl rfl rfl rfl ?_ | refine w_skipU rfl rfl rfl (by decide) ?_ | refine w_skip0U rfl rfl rfl ?_ | (refine w_d wn_a (by first | (apply d_is_fcall; first | exact d_con rfl (take_full (most := M) (A := FA M) (k := (M, 0, 0)) FA_in (by omega) (by omega) (FA_no (by omega))) (no_pre) (fun _ => inferInstance)) | exact d_b) rfl (by decide) ?_; intro _) | (refine w_d0 wn_a (by first | (apply d_is_fcall; first | exact d_con rfl (take_full (most := M) (A := FA M) (k := (M, 0, 0)) FA_in (by omega) (by omega) (FA_no (by omega))) (no_pre) (fun _ => inferInstance)) | exact d_b) rfl ?_; first | (intro (uu : Unit); clear uu) | intro _) | (refine w_splitD rfl rfl rfl (fun hyes => ?_) (fun hno => ?_) <;> first | (exfalso; omega) | exact absurd rfl hyes | exact absurd rfl hno | exact absurd Iff.rfl hyes | exact absurd Iff.rfl hno | exact absurd (eqc_same _) hyes | exact absurd (eqc_same _) hno | exact absurd (by decide) hyes | exact absurd (by decide) hno | skip))) | (apply isQ; first | apply q_nil | (apply isQ0; first | refine q_y0 (by first | (apply y_isBin; first | exact y_and_is rfl rfl (h63 x1) | exact y_to (.int .i64 G) (y_rem_nn rfl rfl (by omega) (by omega)) (by rw [hG])) | exact y_b) (by decide) ?_) | (apply isQg; first | refine q_y (by exact wn_d rfl rfl rfl) (by first | (apply y_isBin; first | exact y_and_is rfl rfl (h63 x1) | exact y_to (.int .i64 G) (y_rem_nn rfl rfl (by omega) (by omega)) (by rw [hG])) | exact y_b) rfl (by decide) ?_ | refine q_skipD rfl rfl rfl rfl (by decide) ?_ | refine q_skipU rfl rfl rfl (by decide) ?_ | (refine q_splitD rfl rfl rfl (fun hyes => ?_) (fun hno => ?_) <;> first | (exfalso; omega) | exact absurd rfl hyes | exact absurd rfl hno | exact absurd Iff.rfl hyes | exact absurd Iff.rfl hno | exact absurd (eqc_same _) hyes | exact absurd (eqc_same _) hno | exact absurd (by decide) hyes | exact absurd (by decide) hno | skip))))
    refine .mk ?_
    refine c_loop2 (ι := { j : Nat // (j : Int) ≤ G }) (fun j => [(12, .int .i64 (j.1 : Nat)), (0, .int .i64 M), (1, .int .i64 G), (11, .int .i64 31), (5, .pointer (some ⟨b, 0, none⟩))]) (fun j => [⟨b, pl M (GA M (j.1 : Nat))⟩]) (fun j => G.toNat - j.1) ⟨0, by omega⟩ ⟨rfl, rfl, rfl, rfl, rfl, trivial⟩ (fun _ h => by rw [FA_GA] at h; exact h) ?_
    rintro ⟨j, hj⟩
    dsimp only
    by_cases hjl : (j : Int) < G
    · repeat' (first | (apply isC; first | apply c_seq | apply c_block | apply c_skip | apply c_exit | apply c_ret | (apply isCrg; apply c_rg; intro oPs qQ dD hQ) | (apply isCcond; first | refine c_cond_t rfl ?_ | refine c_cond_f rfl ?_ | (refine c_test rfl (fun hyes => ?_) (fun hno => ?_) <;> first | (exfalso; omega) | exact absurd rfl hyes | exact absurd rfl hno | exact absurd Iff.rfl hyes | exact absurd Iff.rfl hno | exact absurd (eqc_same _) hyes | exact absurd (eqc_same _) hno | exact absurd (by decide) hyes | exact absurd (by decide) hno | skip)) | (apply isCdr; first | (refine c_dr [] ?_; intro oPs qQ dD hQ) | (refine c_tl [] ?_; intro oPs qQ dD hQ; dsimp only [takeQ, dropQ, isEff, cond_true, cond_false, List.contains_nil, List.contains_cons, List.elem_nil, Bool.or_false, Nat.reduceBEq, Bool.or_true]))) | (apply isE; first | (apply e_hq; clear hQ qQ dD oPs) | apply e_seq | apply e_then_exit | apply e_then_ret | apply e_in_normal | apply e_in_ret | apply e_in_same | refine e_in_other rfl ?_) | (apply isW; first | apply w_nil | (apply isW0; first | (apply isWc; first | (refine w_d wn_a (by first | (apply d_is_fcall; first | exact d_con rfl (give_eq (most := M) (A := GA M j) (A' := GA M (j + 1)) (t := j) (k := ((j : Int), 0, 0)) (u := 1) (GA_at (by omega) (by omega)) (by decide) (by decide) (GA_step (by omega) (by omega))) (no_pre) (fun _ => inferInstance)) | exact d_b) rfl (by decide) ?_; intro _)) | refine w_y0 (by exact y_b) (by decide) ?_ | (refine w_d wn_a (by first | (apply d_is_fcall; first | exact d_con rfl (give_eq (most := M) (A := GA M j) (A' := GA M (j + 1)) (t := j) (k := ((j : Int), 0, 0)) (u := 1) (GA_at (by omega) (by omega)) (by decide) (by decide) (GA_step (by omega) (by omega))) (no_pre) (fun _ => inferInstance)) | exact d_b) rfl (by decide) ?_; intro _)) | (apply isWn; first | (refine w_d0 wn_a (by first | (apply d_is_fcall; first | exact d_con rfl (give_eq (most := M) (A := GA M j) (A' := GA M (j + 1)) (t := j) (k := ((j : Int), 0, 0)) (u := 1) (GA_at (by omega) (by omega)) (by decide) (by decide) (GA_step (by omega) (by omega))) (no_pre) (fun _ => inferInstance)) | exact d_b) rfl ?_; first | (intro (uu : Unit); clear uu) | intro _)) | (apply isWg; first | (apply isWc; first | (refine w_d wn_a (by first | (apply d_is_fcall; first | exact d_con rfl (give_eq (most := M) (A := GA M j) (A' := GA M (j + 1)) (t := j) (k := ((j : Int), 0, 0)) (u := 1) (GA_at (by omega) (by omega)) (by decide) (by decide) (GA_step (by omega) (by omega))) (no_pre) (fun _ => inferInstance)) | exact d_b) rfl (by decide) ?_; intro _)) | refine w_y (by exact wn_d rfl rfl rfl) (by exact y_b) rfl (by decide) ?_ | refine w_skipD rfl rfl rfl rfl (by decide) ?_ | refine w_skip0D rfl rfl rfl rfl ?_ | refine w_skipU rfl rfl rfl (by decide) ?_ | refine w_skip0U rfl rfl rfl ?_ | (refine w_d wn_a (by first | (apply d_is_fcall; first | exact d_con rfl (give_eq (most := M) (A := GA M j) (A' := GA M (j + 1)) (t := j) (k := ((j : Int), 0, 0)) (u := 1) (GA_at (by omega) (by omega)) (by decide) (by decide) (GA_step (by omega) (by omega))) (no_pre) (fun _ => inferInstance)) | exact d_b) rfl (by decide) ?_; intro _) | (refine w_d0 wn_a (by first | (apply d_is_fcall; first | exact d_con rfl (give_eq (most := M) (A := GA M j) (A' := GA M (j + 1)) (t := j) (k := ((j : Int), 0, 0)) (u := 1) (GA_at (by omega) (by omega)) (by decide) (by decide) (GA_step (by omega) (by omega))) (no_pre) (fun _ => inferInstance)) | exact d_b) rfl ?_; first | (intro (uu : Unit); clear uu) | intro _) | (refine w_splitD rfl rfl rfl (fun hyes => ?_) (fun hno => ?_) <;> first | (exfalso; omega) | exact absurd rfl hyes | exact absurd rfl hno | exact absurd Iff.rfl hyes | exact absurd Iff.rfl hno | exact absurd (eqc_same _) hyes | exact absurd (eqc_same _) hno | exact absurd (by decide) hyes | exact absurd (by decide) hno | skip))) | (apply isQ; first | apply q_nil | (apply isQ0; first | refine q_y0 (by exact y_b) (by decide) ?_) | (apply isQg; first | refine q_y (by exact wn_d rfl rfl rfl) (by exact y_b) rfl (by decide) ?_ | refine q_skipD rfl rfl rfl rfl (by decide) ?_ | refine q_skipU rfl rfl rfl (by decide) ?_ | (refine q_splitD rfl rfl rfl (fun hyes => ?_) (fun hno => ?_) <;> first | (exfalso; omega) | exact absurd rfl hyes | exact absurd rfl hno | exact absurd Iff.rfl hyes | exact absurd Iff.rfl hno | exact absurd (eqc_same _) hyes | exact absurd (eqc_same _) hno | exact absurd (by decide) hyes | exact absurd (by decide) hno | skip))))
      exact e_next ⟨j + 1, by omega⟩ (by show G.toNat - (j + 1) < G.toNat - j; omega) (by repeat' (first | exact trivial | refine ⟨by first | rfl | exact int_eq (by omega), ?_⟩)) (fun _ h => h)
    · obtain hjG : (j : Int) = G := by omega
      rw [hjG]
      have c1 : (cnt M (GA M G) : Int) = M := by
        rw [cnt_from (g := 0) (by omega) (by omega) (fun t h0 h1 => by unfold GA; rw [if_pos ⟨h0, h1⟩]; simp; omega)]
        omega
      have c2 : (cnt M (RA M G 0) : Int) = M - G := cnt_from hG0 hG1 (fun t h0 h1 => by
        unfold RA
        rw [if_neg (by omega)]
        by_cases h2 : G ≤ t
        · rw [if_pos ⟨h2, h1⟩]; simp [h2]
        · rw [if_neg (by omega)]; simp [h2])
      have c3 : (cnt M (RA M G G) : Int) = M := by
        rw [cnt_from (g := 0) (by omega) (by omega) (fun t h0 h1 => by
          unfold RA
          by_cases h2 : t < G
          · rw [if_pos ⟨h0, h2⟩]; simp; omega
          · rw [if_neg (by omega), if_pos (by omega)]; simp; omega)]
        omega
      repeat' (first | (apply stop_loop) | (apply isC; first | apply c_seq | apply c_block | apply c_skip | apply c_exit | apply c_ret | (apply isCrg; apply c_rg; intro oPs qQ dD hQ) | (apply isCcond; first | refine c_cond_t rfl ?_ | refine c_cond_f rfl ?_ | (refine c_test rfl (fun hyes => ?_) (fun hno => ?_) <;> first | (exfalso; omega) | exact absurd rfl hyes | exact absurd rfl hno | exact absurd Iff.rfl hyes | exact absurd Iff.rfl hno | exact absurd (eqc_same _) hyes | exact absurd (eqc_same _) hno | exact absurd (by decide) hyes | exact absurd (by decide) hno | skip)) | (apply isCdr; first | (refine c_dr [] ?_; intro oPs qQ dD hQ) | (refine c_tl [] ?_; intro oPs qQ dD hQ; dsimp only [takeQ, dropQ, isEff, cond_true, cond_false, List.contains_nil, List.contains_cons, List.elem_nil, Bool.or_false, Nat.reduceBEq, Bool.or_true]))) | (apply isE; first | (apply e_hq; clear hQ qQ dD oPs) | apply e_seq | apply e_then_exit | apply e_then_ret | apply e_in_normal | apply e_in_ret | apply e_in_same | refine e_in_other rfl ?_) | (apply isW; first | apply w_nil | (apply isW0; first | (apply isWc; first | (refine w_d wn_a (by first | (apply d_is_fcall; first | exact d_con rfl (len_eq (most := M) (A := GA M G) (c := M) c1) (no_pre) (fun _ => inferInstance) | exact d_con rfl (sweep_eq (most := M) (A := GA M G) (A' := RA M G 0) (c := G) (by omega) (GA_sweep hG0) (by omega)) (no_pre) (fun _ => inferInstance) | exact d_con rfl (len_eq (most := M) (A := RA M G 0) (c := M - G) c2) (no_pre) (fun _ => inferInstance)) | exact d_b) rfl (by decide) ?_; intro _)) | refine w_y0 (by exact y_b) (by decide) ?_ | (refine w_d wn_a (by first | (apply d_is_fcall; first | exact d_con rfl (len_eq (most := M) (A := GA M G) (c := M) c1) (no_pre) (fun _ => inferInstance) | exact d_con rfl (sweep_eq (most := M) (A := GA M G) (A' := RA M G 0) (c := G) (by omega) (GA_sweep hG0) (by omega)) (no_pre) (fun _ => inferInstance) | exact d_con rfl (len_eq (most := M) (A := RA M G 0) (c := M - G) c2) (no_pre) (fun _ => inferInstance)) | exact d_b) rfl (by decide) ?_; intro _)) | (apply isWn; first | (refine w_d0 wn_a (by first | (apply d_is_fcall; first | exact d_con rfl (len_eq (most := M) (A := GA M G) (c := M) c1) (no_pre) (fun _ => inferInstance) | exact d_con rfl (sweep_eq (most := M) (A := GA M G) (A' := RA M G 0) (c := G) (by omega) (GA_sweep hG0) (by omega)) (no_pre) (fun _ => inferInstance) | exact d_con rfl (len_eq (most := M) (A := RA M G 0) (c := M - G) c2) (no_pre) (fun _ => inferInstance)) | exact d_b) rfl ?_; first | (intro (uu : Unit); clear uu) | intro _)) | (apply isWg; first | (apply isWc; first | (refine w_d wn_a (by first | (apply d_is_fcall; first | exact d_con rfl (len_eq (most := M) (A := GA M G) (c := M) c1) (no_pre) (fun _ => inferInstance) | exact d_con rfl (sweep_eq (most := M) (A := GA M G) (A' := RA M G 0) (c := G) (by omega) (GA_sweep hG0) (by omega)) (no_pre) (fun _ => inferInstance) | exact d_con rfl (len_eq (most := M) (A := RA M G 0) (c := M - G) c2) (no_pre) (fun _ => inferInstance)) | exact d_b) rfl (by decide) ?_; intro _)) | refine w_y (by exact wn_d rfl rfl rfl) (by exact y_b) rfl (by decide) ?_ | refine w_skipD rfl rfl rfl rfl (by decide) ?_ | refine w_skip0D rfl rfl rfl rfl ?_ | refine w_skipU rfl rfl rfl (by decide) ?_ | refine w_skip0U rfl rfl rfl ?_ | (refine w_d wn_a (by first | (apply d_is_fcall; first | exact d_con rfl (len_eq (most := M) (A := GA M G) (c := M) c1) (no_pre) (fun _ => inferInstance) | exact d_con rfl (sweep_eq (most := M) (A := GA M G) (A' := RA M G 0) (c := G) (by omega) (GA_sweep hG0) (by omega)) (no_pre) (fun _ => inferInstance) | exact d_con rfl (len_eq (most := M) (A := RA M G 0) (c := M - G) c2) (no_pre) (fun _ => inferInstance)) | exact d_b) rfl (by decide) ?_; intro _) | (refine w_d0 wn_a (by first | (apply d_is_fcall; first | exact d_con rfl (len_eq (most := M) (A := GA M G) (c := M) c1) (no_pre) (fun _ => inferInstance) | exact d_con rfl (sweep_eq (most := M) (A := GA M G) (A' := RA M G 0) (c := G) (by omega) (GA_sweep hG0) (by omega)) (no_pre) (fun _ => inferInstance) | exact d_con rfl (len_eq (most := M) (A := RA M G 0) (c := M - G) c2) (no_pre) (fun _ => inferInstance)) | exact d_b) rfl ?_; first | (intro (uu : Unit); clear uu) | intro _) | (refine w_splitD rfl rfl rfl (fun hyes => ?_) (fun hno => ?_) <;> first | (exfalso; omega) | exact absurd rfl hyes | exact absurd rfl hno | exact absurd Iff.rfl hyes | exact absurd Iff.rfl hno | exact absurd (eqc_same _) hyes | exact absurd (eqc_same _) hno | exact absurd (by decide) hyes | exact absurd (by decide) hno | skip))) | (apply isQ; first | apply q_nil | (apply isQ0; first | refine q_y0 (by exact y_b) (by decide) ?_) | (apply isQg; first | refine q_y (by exact wn_d rfl rfl rfl) (by exact y_b) rfl (by decide) ?_ | refine q_skipD rfl rfl rfl rfl (by decide) ?_ | refine q_skipU rfl rfl rfl (by decide) ?_ | (refine q_splitD rfl rfl rfl (fun hyes => ?_) (fun hno => ?_) <;> first | (exfalso; omega) | exact absurd rfl hyes | exact absurd rfl hno | exact absurd Iff.rfl hyes | exact absurd Iff.rfl hno | exact absurd (eqc_same _) hyes | exact absurd (eqc_same _) hno | exact absurd (by decide) hyes | exact absurd (by decide) hno | skip))))
      refine .mk ?_
      refine c_loop2 (ι := { r : Nat // (r : Int) ≤ G }) (fun r => [(13, .int .i64 (r.1 : Nat)), (0, .int .i64 M), (1, .int .i64 G), (5, .pointer (some ⟨b, 0, none⟩))]) (fun r => [⟨b, pl M (RA M G (r.1 : Nat))⟩]) (fun r => G.toNat - r.1) ⟨0, by omega⟩ ⟨rfl, rfl, rfl, rfl, trivial⟩ (fun _ h => h) ?_
      rintro ⟨r, hr⟩
      dsimp only
      by_cases hrl : (r : Int) < G
      · repeat' (first | (apply isC; first | apply c_seq | apply c_block | apply c_skip | apply c_exit | apply c_ret | (apply isCrg; apply c_rg; intro oPs qQ dD hQ) | (apply isCcond; first | refine c_cond_t rfl ?_ | refine c_cond_f rfl ?_ | (refine c_test rfl (fun hyes => ?_) (fun hno => ?_) <;> first | (exfalso; omega) | exact absurd rfl hyes | exact absurd rfl hno | exact absurd Iff.rfl hyes | exact absurd Iff.rfl hno | exact absurd (eqc_same _) hyes | exact absurd (eqc_same _) hno | exact absurd (by decide) hyes | exact absurd (by decide) hno | skip)) | (apply isCdr; first | (refine c_dr [] ?_; intro oPs qQ dD hQ) | (refine c_tl [] ?_; intro oPs qQ dD hQ; dsimp only [takeQ, dropQ, isEff, cond_true, cond_false, List.contains_nil, List.contains_cons, List.elem_nil, Bool.or_false, Nat.reduceBEq, Bool.or_true]))) | (apply isE; first | (apply e_hq; clear hQ qQ dD oPs) | apply e_seq | apply e_then_exit | apply e_then_ret | apply e_in_normal | apply e_in_ret | apply e_in_same | refine e_in_other rfl ?_) | (apply isW; first | apply w_nil | (apply isW0; first | (apply isWc; first | (refine w_d wn_a (by first | (apply d_is_fcall; first | exact d_con rfl (new_eq (most := M) (A := RA M G r) (A' := RA M G (r + 1)) (k := (0, 1 + (r : Int), 0)) (f := r) RA_in (RA_out hrl) (by omega) (by omega) (by omega) (RA_no (by omega)) (RA_step (by omega) hrl)) (no_pre) (fun _ => inferInstance)) | exact d_b) rfl (by decide) ?_; intro _)) | refine w_y0 (by exact y_b) (by decide) ?_ | (refine w_d wn_a (by first | (apply d_is_fcall; first | exact d_con rfl (new_eq (most := M) (A := RA M G r) (A' := RA M G (r + 1)) (k := (0, 1 + (r : Int), 0)) (f := r) RA_in (RA_out hrl) (by omega) (by omega) (by omega) (RA_no (by omega)) (RA_step (by omega) hrl)) (no_pre) (fun _ => inferInstance)) | exact d_b) rfl (by decide) ?_; intro _)) | (apply isWn; first | (refine w_d0 wn_a (by first | (apply d_is_fcall; first | exact d_con rfl (new_eq (most := M) (A := RA M G r) (A' := RA M G (r + 1)) (k := (0, 1 + (r : Int), 0)) (f := r) RA_in (RA_out hrl) (by omega) (by omega) (by omega) (RA_no (by omega)) (RA_step (by omega) hrl)) (no_pre) (fun _ => inferInstance)) | exact d_b) rfl ?_; first | (intro (uu : Unit); clear uu) | intro _)) | (apply isWg; first | (apply isWc; first | (refine w_d wn_a (by first | (apply d_is_fcall; first | exact d_con rfl (new_eq (most := M) (A := RA M G r) (A' := RA M G (r + 1)) (k := (0, 1 + (r : Int), 0)) (f := r) RA_in (RA_out hrl) (by omega) (by omega) (by omega) (RA_no (by omega)) (RA_step (by omega) hrl)) (no_pre) (fun _ => inferInstance)) | exact d_b) rfl (by decide) ?_; intro _)) | refine w_y (by exact wn_d rfl rfl rfl) (by exact y_b) rfl (by decide) ?_ | refine w_skipD rfl rfl rfl rfl (by decide) ?_ | refine w_skip0D rfl rfl rfl rfl ?_ | refine w_skipU rfl rfl rfl (by decide) ?_ | refine w_skip0U rfl rfl rfl ?_ | (refine w_d wn_a (by first | (apply d_is_fcall; first | exact d_con rfl (new_eq (most := M) (A := RA M G r) (A' := RA M G (r + 1)) (k := (0, 1 + (r : Int), 0)) (f := r) RA_in (RA_out hrl) (by omega) (by omega) (by omega) (RA_no (by omega)) (RA_step (by omega) hrl)) (no_pre) (fun _ => inferInstance)) | exact d_b) rfl (by decide) ?_; intro _) | (refine w_d0 wn_a (by first | (apply d_is_fcall; first | exact d_con rfl (new_eq (most := M) (A := RA M G r) (A' := RA M G (r + 1)) (k := (0, 1 + (r : Int), 0)) (f := r) RA_in (RA_out hrl) (by omega) (by omega) (by omega) (RA_no (by omega)) (RA_step (by omega) hrl)) (no_pre) (fun _ => inferInstance)) | exact d_b) rfl ?_; first | (intro (uu : Unit); clear uu) | intro _) | (refine w_splitD rfl rfl rfl (fun hyes => ?_) (fun hno => ?_) <;> first | (exfalso; omega) | exact absurd rfl hyes | exact absurd rfl hno | exact absurd Iff.rfl hyes | exact absurd Iff.rfl hno | exact absurd (eqc_same _) hyes | exact absurd (eqc_same _) hno | exact absurd (by decide) hyes | exact absurd (by decide) hno | skip))) | (apply isQ; first | apply q_nil | (apply isQ0; first | refine q_y0 (by exact y_b) (by decide) ?_) | (apply isQg; first | refine q_y (by exact wn_d rfl rfl rfl) (by exact y_b) rfl (by decide) ?_ | refine q_skipD rfl rfl rfl rfl (by decide) ?_ | refine q_skipU rfl rfl rfl (by decide) ?_ | (refine q_splitD rfl rfl rfl (fun hyes => ?_) (fun hno => ?_) <;> first | (exfalso; omega) | exact absurd rfl hyes | exact absurd rfl hno | exact absurd Iff.rfl hyes | exact absurd Iff.rfl hno | exact absurd (eqc_same _) hyes | exact absurd (eqc_same _) hno | exact absurd (by decide) hyes | exact absurd (by decide) hno | skip))))
        exact e_next ⟨r + 1, by omega⟩ (by show G.toNat - (r + 1) < G.toNat - r; omega) (by repeat' (first | exact trivial | refine ⟨by first | rfl | exact int_eq (by omega), ?_⟩)) (fun _ h => h)
      · obtain hrG : (r : Int) = G := by omega
        rw [hrG]
        repeat' (first | (apply isC; first | apply c_seq | apply c_block | apply c_skip | apply c_exit | apply c_ret | (apply isCrg; apply c_rg; intro oPs qQ dD hQ) | (apply isCcond; first | refine c_cond_t rfl ?_ | refine c_cond_f rfl ?_ | (refine c_test rfl (fun hyes => ?_) (fun hno => ?_) <;> first | (exfalso; omega) | exact absurd rfl hyes | exact absurd rfl hno | exact absurd Iff.rfl hyes | exact absurd Iff.rfl hno | exact absurd (eqc_same _) hyes | exact absurd (eqc_same _) hno | exact absurd (by decide) hyes | exact absurd (by decide) hno | skip)) | (apply isCdr; first | (refine c_dr [] ?_; intro oPs qQ dD hQ) | (refine c_tl [] ?_; intro oPs qQ dD hQ; dsimp only [takeQ, dropQ, isEff, cond_true, cond_false, List.contains_nil, List.contains_cons, List.elem_nil, Bool.or_false, Nat.reduceBEq, Bool.or_true]))) | (apply isE; first | (apply e_hq; clear hQ qQ dD oPs) | apply e_seq | apply e_then_exit | apply e_then_ret | apply e_in_normal | apply e_in_ret | apply e_in_same | refine e_in_other rfl ?_) | (apply isW; first | apply w_nil | (apply isW0; first | (apply isWc; first | (refine w_d wn_a (by first | (apply d_is_fcall; first | exact d_con rfl (len_eq (most := M) (A := RA M G G) (c := M) c3) (no_pre) (fun _ => inferInstance)) | exact d_b) rfl (by decide) ?_; intro _)) | refine w_y0 (by exact y_b) (by decide) ?_ | (refine w_d wn_a (by first | (apply d_is_fcall; first | exact d_con rfl (len_eq (most := M) (A := RA M G G) (c := M) c3) (no_pre) (fun _ => inferInstance)) | exact d_b) rfl (by decide) ?_; intro _)) | (apply isWn; first | (refine w_d0 wn_a (by first | (apply d_is_fcall; first | exact d_con rfl (len_eq (most := M) (A := RA M G G) (c := M) c3) (no_pre) (fun _ => inferInstance)) | exact d_b) rfl ?_; first | (intro (uu : Unit); clear uu) | intro _)) | (apply isWg; first | (apply isWc; first | (refine w_d wn_a (by first | (apply d_is_fcall; first | exact d_con rfl (len_eq (most := M) (A := RA M G G) (c := M) c3) (no_pre) (fun _ => inferInstance)) | exact d_b) rfl (by decide) ?_; intro _)) | refine w_y (by exact wn_d rfl rfl rfl) (by exact y_b) rfl (by decide) ?_ | refine w_skipD rfl rfl rfl rfl (by decide) ?_ | refine w_skip0D rfl rfl rfl rfl ?_ | refine w_skipU rfl rfl rfl (by decide) ?_ | refine w_skip0U rfl rfl rfl ?_ | (refine w_d wn_a (by first | (apply d_is_fcall; first | exact d_con rfl (len_eq (most := M) (A := RA M G G) (c := M) c3) (no_pre) (fun _ => inferInstance)) | exact d_b) rfl (by decide) ?_; intro _) | (refine w_d0 wn_a (by first | (apply d_is_fcall; first | exact d_con rfl (len_eq (most := M) (A := RA M G G) (c := M) c3) (no_pre) (fun _ => inferInstance)) | exact d_b) rfl ?_; first | (intro (uu : Unit); clear uu) | intro _) | (refine w_splitD rfl rfl rfl (fun hyes => ?_) (fun hno => ?_) <;> first | (exfalso; omega) | exact absurd rfl hyes | exact absurd rfl hno | exact absurd Iff.rfl hyes | exact absurd Iff.rfl hno | exact absurd (eqc_same _) hyes | exact absurd (eqc_same _) hno | exact absurd (by decide) hyes | exact absurd (by decide) hno | skip))) | (apply isQ; first | apply q_nil | (apply isQ0; first | refine q_y0 (by exact y_b) (by decide) ?_) | (apply isQg; first | refine q_y (by exact wn_d rfl rfl rfl) (by exact y_b) rfl (by decide) ?_ | refine q_skipD rfl rfl rfl rfl (by decide) ?_ | refine q_skipU rfl rfl rfl (by decide) ?_ | (refine q_splitD rfl rfl rfl (fun hyes => ?_) (fun hno => ?_) <;> first | (exfalso; omega) | exact absurd rfl hyes | exact absurd rfl hno | exact absurd Iff.rfl hyes | exact absurd Iff.rfl hno | exact absurd (eqc_same _) hyes | exact absurd (eqc_same _) hno | exact absurd (by decide) hyes | exact absurd (by decide) hno | skip))))
        exact post1 (.inl rfl) rfl (by first | exact res_tmp rfl | exact res_cell rfl (by rfl) | exact res_cell1 rfl) fun _ hm => ⟨by simp, hm.below⟩

/-! ### The row's step -/
set_option maxRecDepth 100000 in
theorem lifted (os : Os) (started : os.Started) (H : Type) (enc : TypeId × Value → H) :
    ReturnsInHanded {} Try.checked os 3 .any (Rows.tagsFullSpec.pre6 enc Try.prog Try.f3 Rows.tagsFullRow.domain false) (Rows.tagsFullSpec.post enc Try.prog Try.f3 false true false false) := by
  refine returnsInHanded_of_change (C := Try.checked) Law.own started (by kernel_rfl) Try.func3
    (ChangeSpec.witness6 (enc := enc) (C := Try.checked) false ⟨#[], #[.int .i64 0, .int .i64 0], []⟩ 8 (by kernel_rfl) (by kernel_rfl) (by kernel_rfl) (by kernel_rfl)) ?_
  intro W base args ds gs before hval0 hW hcnd _
  have hval : ∀ (j : Nat) t v, Try.f3.params[j]? = some t → args[j]? = some v → Value.okWide Try.prog W .any base t v := hval0
  have hW' := hW
  obtain ⟨p, q, hA0, hV, rfl, hfz, hnd⟩ := hW
  have hA : DataW.TrodAll enc Try.prog W 0 (fun _ => true) true Try.f3.params.toList args.toList ds p := hA0
  rw [Try.params3] at hA hval
  obtain ⟨v0, vs0, d0, ds0, p0, q0, hargs, rfl, rfl, h0, r0⟩ := trodAll_cons hA
  obtain ⟨v1, vs1, d1, ds1, p1, q1, rfl, rfl, rfl, h1, r1⟩ := trodAll_cons r0
  obtain ⟨rfl, rfl, rfl⟩ := trodAll_nil r1
  obtain rfl : args = #[v0, v1] := by cases args; simp_all
  obtain ⟨rfl, rfl⟩ := trodVars_none hV
  obtain ⟨x0, rfl, rfl, rfl, w0⟩ := open_int Try.underlying3 (hval 0 3 v0 rfl rfl) h0
  obtain ⟨x1, rfl, rfl, rfl, w1⟩ := open_int Try.underlying3 (hval 1 3 v1 rfl rfl) h1
  clear hA0 hval0
  exact (walk x0 x1 w0 w1 W).mono fun e W' ⟨he, hg⟩ => ⟨_, he, Law.post_law Law.laidOut (by kernel_rfl) hW' rfl rfl Try.underlying4 rfl hg⟩

theorem over : Rows.tagsFullRow.holds Try.pinned (OpenSpec.ofChange Rows.tagsFullSpec) :=
  OpenClaim.holds_of_wide 3 Try.f3 rfl rfl rfl rfl rfl rfl rfl ⟨rfl, rfl, rfl, rfl, rfl⟩ rfl rfl rfl rfl rfl (by kernel_rfl) Try.func3 (by kernel_rfl)
    (of_decide_eq_true (by kernel_rfl)) (by unfold Func.isWrapper; first | (rw [if_pos (by decide +kernel)]; kernel_rfl) | (rw [if_neg (by decide +kernel)]; exact ⟨rfl, rfl⟩))
    (fun os started H enc _ => lifted os started H enc)

/-- THE STATEMENT. -/
theorem proved : Rows.TagsFullSaid := over
#print axioms proved

end TagsFull
end Go.Proofs.Ytoghablinbmljaa
