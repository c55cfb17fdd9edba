/-
  MatchMakes: the match of some bits of a field, of a number, of a prefix, or why there is none: the call returns true for every field, number, mask, prefix and header. Conditions: the table 'widths' holds what its text lays.
-/
import Derived.Test.YtgoplihimajjkaaDoorMtF
import Derived.Test.YtgoplihimajjkaaDoorSlW
import Derived.Test.YtgoplihimajjkaaDoorHdrCard
import Derived.Test.YtgoplihimajjkaaDoorCards
import Derived.Test.YtgoplihimajjkaaDoorTie
namespace Go.Proofs.YtgoplihimajjkaaDoor
open Go.RowKit Go.ChangeShapes Go.WideShapes Go.ChangeAt
set_option linter.unusedVariables false
namespace MatchMakes
open Sl Mt
open Hd (Tab full get Hdr)

theorem hit_onI {f v m : Int} {h : Hdr} (f0 : 0 ≤ f) (f9 : f < 9) (e : onB f v m = true) : hitB (onM f v m) h = (bits .and .u64 (get h f) m == v) := by
  obtain ⟨k, rfl⟩ := Int.eq_ofNat_of_zero_le f0
  exact hit_on (by omega) e
theorem hit_exI {f v : Int} {h : Hdr} (ho : h.Ok) (f0 : 0 ≤ f) (f9 : f < 9) (e : onB f v (full f) = true) : hitB (onM f v (full f)) h = (get h f == v) := by
  obtain ⟨k, rfl⟩ := Int.eq_ofNat_of_zero_le f0
  exact hit_exact (by omega) ho e
theorem on_yes {f v m : Int} (hv : U v) (hm : U m) (e : onB f v m = true) : 0 ≤ f ∧ f < 9 ∧ m ≤ full f ∧ bits .and .u64 v m = v := by
  by_cases hf : 0 ≤ f ∧ f < 9
  · obtain ⟨k, rfl⟩ := Int.eq_ofNat_of_zero_le hf.1
    have := (onB_iff (by omega) hv hm).1 e
    exact ⟨hf.1, hf.2, this.1, this.2⟩
  · rw [onB_out hf] at e
    cases e
theorem on_no {f v m : Int} (hv : U v) (hm : U m) (e : onB f v m = false) : f < 0 ∨ 9 ≤ f ∨ full f < m ∨ bits .and .u64 v m ≠ v := by
  by_cases hf : 0 ≤ f ∧ f < 9
  · obtain ⟨k, rfl⟩ := Int.eq_ofNat_of_zero_le hf.1
    have h := mt (onB_iff (k := k) (by omega) hv hm).2 (by rw [e]; simp)
    by_cases h1 : m ≤ full k
    · exact .inr (.inr (.inr fun h2 => h ⟨h1, h2⟩))
    · omega
  · omega
theorem ex_yes {f v : Int} (hv : U v) (e : onB f v (full f) = true) : 0 ≤ f ∧ f < 9 ∧ v ≤ full f := by
  by_cases hf : 0 ≤ f ∧ f < 9
  · obtain ⟨k, rfl⟩ := Int.eq_ofNat_of_zero_le hf.1
    exact ⟨hf.1, hf.2, (onB_exact (by omega) hv).1 e⟩
  · rw [onB_out hf] at e
    cases e
theorem ex_no {f v : Int} (hv : U v) (e : onB f v (full f) = false) : f < 0 ∨ 9 ≤ f ∨ full f < v := by
  by_cases hf : 0 ≤ f ∧ f < 9
  · obtain ⟨k, rfl⟩ := Int.eq_ofNat_of_zero_le hf.1
    have h := mt (onB_exact (k := k) (by omega) hv).2 (by rw [e]; simp)
    omega
  · omega
theorem onM_no {f v m : Int} (e : onB f v m = false) : onM f v m = M.zero := by unfold onM; rw [e]; rfl
theorem net_is {f a n : Int} (h0 : 0 ≤ a) (h1 : a < 4294967296) {b : Int} (e2 : (if netF f a n then 0 else 1) = b) {w : World} (ht : Tab w) : Ret Tryd.prog 25 [.int .i64 f, .agg #[.int .u32 a, .int .i64 n]] w (.tuple #[.agg (netM f a n).cells.toArray, .int .i64 b]) := e2 ▸ net_ret f a n h0 h1 ht
set_option maxRecDepth 100000 in
set_option maxHeartbeats 8000000 in
theorem walk' (f v m a n : Int) (h : Hdr) (hv : U v) (hm : U m) (h0 : 0 ≤ a) (h1 : a < 4294967296) (ho : h.Ok) (w : World) (ht : Tab w) :
    Calls Tryd.prog 9 (#[.int .i64 f, .int .u64 v, .int .u64 m, .agg #[.int .u32 a, .int .i64 n], .agg h.cells.toArray]) w fun e w' => e = .returned (.bool true) ∧ Below w.heap.size w w' := by
  obtain ⟨z0, z1⟩ := Hd.full_bd f
  have o1 : (onB f v m = true ∧ onM f v m = onM f v m ∧ 0 ≤ f ∧ f < 9 ∧ m ≤ full f ∧ bits .and .u64 v m = v) ∨ (onB f v m = false ∧ onM f v m = M.zero ∧ (f < 0 ∨ 9 ≤ f ∨ full f < m ∨ bits .and .u64 v m ≠ v)) := by
    cases e : onB f v m with
    | true => exact .inl ⟨rfl, rfl, on_yes hv hm e⟩
    | false => exact .inr ⟨rfl, onM_no e, on_no hv hm e⟩
  have o2 : (onB f v (full f) = true ∧ 0 ≤ f ∧ f < 9 ∧ v ≤ full f) ∨ (onB f v (full f) = false ∧ (f < 0 ∨ 9 ≤ f ∨ full f < v)) := by
    cases e : onB f v (full f) with
    | true => exact .inl ⟨rfl, ex_yes hv e⟩
    | false => exact .inr ⟨rfl, ex_no hv e⟩
  have o3 : ((f = 4 ∨ f = 5) ∧ Ip.chk a n = 0 ∧ netF f a n = true ∧ hitB (netM f a n) h = Pl.has a n (get h f) ∧ 0 ≤ get h f ∧ get h f < 4294967296) ∨ (netF f a n = false ∧ ((f ≠ 4 ∧ f ≠ 5) ∨ Ip.chk a n = 1)) := by
    by_cases hf : f = 4 ∨ f = 5
    · cases e : Pl.ok a n with
      | true =>
        have hg := Hd.get_bd h ho f
        rw [full_45 hf] at hg
        exact .inl ⟨hf, Ip.chk_yes e, netF_yes h0 h1 hf e, hit_net h0 h1 hf e ho, hg.1, by omega⟩
      | false => exact .inr ⟨netF_no (by simp [e]), .inr (Ip.chk_no e)⟩
    · exact .inr ⟨netF_no (by simp [hf]), .inl (by omega)⟩
  have ck : Ip.chk a n = 0 ∨ Ip.chk a n = 1 := by unfold Ip.chk; split <;> simp
  refine enter (args := [.int .i64 f, .int .u64 v, .int .u64 m, .agg #[.int .u32 a, .int .i64 n], .agg h.cells.toArray]) Tryd.func9 rfl Tryd.ntmps9 (by simp) ?_
  rcases o1 with ⟨e1, _, p1, p2, p3, p4⟩ | ⟨e1, x1, p1⟩ <;> rcases o2 with ⟨e2, q1, q2, q3⟩ | ⟨e2, q1⟩ <;> rcases o3 with ⟨r0, r1, e3, r2, r3, r4⟩ | ⟨e3, r1⟩
  all_goals first | (exfalso; omega) | skip
  all_goals
    repeat' (first | (apply isC; first | apply c_seq | apply c_block | apply c_skip | apply c_exit | apply c_ret | (apply isCrg; apply c_rg; intro oPs qQ dD hQ) | (apply isCcond; first | refine c_cond_t rfl ?_ | refine c_cond_f rfl ?_ | (refine c_test rfl (fun hyes => ?_) (fun hno => ?_) <;> first | (exfalso; omega) | exact absurd rfl hyes | exact absurd rfl hno | exact absurd Iff.rfl hyes | exact absurd Iff.rfl hno | exact absurd (eqc_same _) hyes | exact absurd (eqc_same _) hno | exact absurd (by decide) hyes | exact absurd (by decide) hno | skip)) | (apply isCdr; first | (refine c_dr [] ?_; intro oPs qQ dD hQ) | (refine c_tl [] ?_; intro oPs qQ dD hQ; dsimp only [takeQ, dropQ, isEff, cond_true, cond_false, List.contains_nil, List.contains_cons, List.elem_nil, Bool.or_false, Nat.reduceBEq, Bool.or_true]))) | (apply isE; first | (apply e_hq; clear hQ qQ dD oPs) | apply e_seq | apply e_then_exit | apply e_then_ret | apply e_in_normal | apply e_in_ret | apply e_in_same | refine e_in_other rfl ?_) | (apply isW; first | apply w_nil | (apply isW0; first | (apply isWc; first | refine w_call rfl wn_a (by decide) (fun w hm => example_ret (tab hm ht)) ?_ | refine w_call rfl wn_a (by decide) (fun w hm => on_is (b := 0) rfl (by rw [e1]; rfl) (tab hm ht)) ?_ | refine w_call rfl wn_a (by decide) (fun w hm => on_is (b := 1) x1 (by rw [e1]; rfl) (tab hm ht)) ?_ | refine w_call rfl wn_a (by decide) (fun w hm => exact_is (b := 0) rfl (by rw [e2]; rfl) (tab hm ht)) ?_ | refine w_call rfl wn_a (by decide) (fun w hm => exact_is (b := 1) rfl (by rw [e2]; rfl) (tab hm ht)) ?_ | refine w_call rfl wn_a (by decide) (fun w hm => net_is h0 h1 (b := 0) (by rw [e3]; rfl) (tab hm ht)) ?_ | refine w_call rfl wn_a (by decide) (fun w hm => net_is h0 h1 (b := 1) (by rw [e3]; rfl) (tab hm ht)) ?_ | refine w_call rfl wn_a (by decide) (fun w hm => full_ret _ (tab hm ht)) ?_ | refine w_call rfl wn_a (by decide) (fun w hm => get_ret h ho _ (tab hm ht)) ?_ | refine w_call rfl wn_a (by decide) (fun w hm => chk_ret a n h0 h1) ?_ | refine w_call rfl wn_a (by decide) (fun w hm => hits_is ho (hit_onI p1 p2 e1) (tab hm ht)) ?_ | refine w_call rfl wn_a (by decide) (fun w hm => hits_is ho (hit_exI ho q1 q2 e2) (tab hm ht)) ?_ | refine w_call rfl wn_a (by decide) (fun w hm => hits_is ho r2 (tab hm ht)) ?_ | refine w_call rfl wn_a (by decide) (fun w hm => has_ret _ _ _ h0 h1 r3 r4) ?_ | (refine w_d wn_a (by first | (apply d_is_fcall; first | exact d_ret rfl (fun w hm => example_ret (tab hm ht)) | exact d_ret rfl (fun w hm => on_is (b := 0) rfl (by rw [e1]; rfl) (tab hm ht)) | exact d_ret rfl (fun w hm => on_is (b := 1) x1 (by rw [e1]; rfl) (tab hm ht)) | exact d_ret rfl (fun w hm => exact_is (b := 0) rfl (by rw [e2]; rfl) (tab hm ht)) | exact d_ret rfl (fun w hm => exact_is (b := 1) rfl (by rw [e2]; rfl) (tab hm ht)) | exact d_ret rfl (fun w hm => net_is h0 h1 (b := 0) (by rw [e3]; rfl) (tab hm ht)) | exact d_ret rfl (fun w hm => net_is h0 h1 (b := 1) (by rw [e3]; rfl) (tab hm ht)) | exact d_ret rfl (fun w hm => full_ret _ (tab hm ht)) | exact d_ret rfl (fun w hm => get_ret h ho _ (tab hm ht)) | exact d_ret rfl (fun w hm => chk_ret a n h0 h1) | exact d_ret rfl (fun w hm => hits_is ho (hit_onI p1 p2 e1) (tab hm ht)) | exact d_ret rfl (fun w hm => hits_is ho (hit_exI ho q1 q2 e2) (tab hm ht)) | exact d_ret rfl (fun w hm => hits_is ho r2 (tab hm ht)) | exact d_ret rfl (fun w hm => has_ret _ _ _ h0 h1 r3 r4)) | exact d_a) rfl (by decide) ?_; intro _)) | refine w_y0 (by exact y_a) (by decide) ?_ | (refine w_d wn_a (by first | (apply d_is_fcall; first | exact d_ret rfl (fun w hm => example_ret (tab hm ht)) | exact d_ret rfl (fun w hm => on_is (b := 0) rfl (by rw [e1]; rfl) (tab hm ht)) | exact d_ret rfl (fun w hm => on_is (b := 1) x1 (by rw [e1]; rfl) (tab hm ht)) | exact d_ret rfl (fun w hm => exact_is (b := 0) rfl (by rw [e2]; rfl) (tab hm ht)) | exact d_ret rfl (fun w hm => exact_is (b := 1) rfl (by rw [e2]; rfl) (tab hm ht)) | exact d_ret rfl (fun w hm => net_is h0 h1 (b := 0) (by rw [e3]; rfl) (tab hm ht)) | exact d_ret rfl (fun w hm => net_is h0 h1 (b := 1) (by rw [e3]; rfl) (tab hm ht)) | exact d_ret rfl (fun w hm => full_ret _ (tab hm ht)) | exact d_ret rfl (fun w hm => get_ret h ho _ (tab hm ht)) | exact d_ret rfl (fun w hm => chk_ret a n h0 h1) | exact d_ret rfl (fun w hm => hits_is ho (hit_onI p1 p2 e1) (tab hm ht)) | exact d_ret rfl (fun w hm => hits_is ho (hit_exI ho q1 q2 e2) (tab hm ht)) | exact d_ret rfl (fun w hm => hits_is ho r2 (tab hm ht)) | exact d_ret rfl (fun w hm => has_ret _ _ _ h0 h1 r3 r4)) | exact d_a) rfl (by decide) ?_; intro _)) | (apply isWn; first | (refine w_d0 wn_a (by first | (apply d_is_fcall; first | exact d_ret rfl (fun w hm => example_ret (tab hm ht)) | exact d_ret rfl (fun w hm => on_is (b := 0) rfl (by rw [e1]; rfl) (tab hm ht)) | exact d_ret rfl (fun w hm => on_is (b := 1) x1 (by rw [e1]; rfl) (tab hm ht)) | exact d_ret rfl (fun w hm => exact_is (b := 0) rfl (by rw [e2]; rfl) (tab hm ht)) | exact d_ret rfl (fun w hm => exact_is (b := 1) rfl (by rw [e2]; rfl) (tab hm ht)) | exact d_ret rfl (fun w hm => net_is h0 h1 (b := 0) (by rw [e3]; rfl) (tab hm ht)) | exact d_ret rfl (fun w hm => net_is h0 h1 (b := 1) (by rw [e3]; rfl) (tab hm ht)) | exact d_ret rfl (fun w hm => full_ret _ (tab hm ht)) | exact d_ret rfl (fun w hm => get_ret h ho _ (tab hm ht)) | exact d_ret rfl (fun w hm => chk_ret a n h0 h1) | exact d_ret rfl (fun w hm => hits_is ho (hit_onI p1 p2 e1) (tab hm ht)) | exact d_ret rfl (fun w hm => hits_is ho (hit_exI ho q1 q2 e2) (tab hm ht)) | exact d_ret rfl (fun w hm => hits_is ho r2 (tab hm ht)) | exact d_ret rfl (fun w hm => has_ret _ _ _ h0 h1 r3 r4)) | exact d_a) rfl ?_; first | (intro (uu : Unit); clear uu) | intro _)) | (apply isWg; first | (apply isWc; first | refine w_call rfl wn_a (by decide) (fun w hm => example_ret (tab hm ht)) ?_ | refine w_call rfl wn_a (by decide) (fun w hm => on_is (b := 0) rfl (by rw [e1]; rfl) (tab hm ht)) ?_ | refine w_call rfl wn_a (by decide) (fun w hm => on_is (b := 1) x1 (by rw [e1]; rfl) (tab hm ht)) ?_ | refine w_call rfl wn_a (by decide) (fun w hm => exact_is (b := 0) rfl (by rw [e2]; rfl) (tab hm ht)) ?_ | refine w_call rfl wn_a (by decide) (fun w hm => exact_is (b := 1) rfl (by rw [e2]; rfl) (tab hm ht)) ?_ | refine w_call rfl wn_a (by decide) (fun w hm => net_is h0 h1 (b := 0) (by rw [e3]; rfl) (tab hm ht)) ?_ | refine w_call rfl wn_a (by decide) (fun w hm => net_is h0 h1 (b := 1) (by rw [e3]; rfl) (tab hm ht)) ?_ | refine w_call rfl wn_a (by decide) (fun w hm => full_ret _ (tab hm ht)) ?_ | refine w_call rfl wn_a (by decide) (fun w hm => get_ret h ho _ (tab hm ht)) ?_ | refine w_call rfl wn_a (by decide) (fun w hm => chk_ret a n h0 h1) ?_ | refine w_call rfl wn_a (by decide) (fun w hm => hits_is ho (hit_onI p1 p2 e1) (tab hm ht)) ?_ | refine w_call rfl wn_a (by decide) (fun w hm => hits_is ho (hit_exI ho q1 q2 e2) (tab hm ht)) ?_ | refine w_call rfl wn_a (by decide) (fun w hm => hits_is ho r2 (tab hm ht)) ?_ | refine w_call rfl wn_a (by decide) (fun w hm => has_ret _ _ _ h0 h1 r3 r4) ?_ | (refine w_d wn_a (by first | (apply d_is_fcall; first | exact d_ret rfl (fun w hm => example_ret (tab hm ht)) | exact d_ret rfl (fun w hm => on_is (b := 0) rfl (by rw [e1]; rfl) (tab hm ht)) | exact d_ret rfl (fun w hm => on_is (b := 1) x1 (by rw [e1]; rfl) (tab hm ht)) | exact d_ret rfl (fun w hm => exact_is (b := 0) rfl (by rw [e2]; rfl) (tab hm ht)) | exact d_ret rfl (fun w hm => exact_is (b := 1) rfl (by rw [e2]; rfl) (tab hm ht)) | exact d_ret rfl (fun w hm => net_is h0 h1 (b := 0) (by rw [e3]; rfl) (tab hm ht)) | exact d_ret rfl (fun w hm => net_is h0 h1 (b := 1) (by rw [e3]; rfl) (tab hm ht)) | exact d_ret rfl (fun w hm => full_ret _ (tab hm ht)) | exact d_ret rfl (fun w hm => get_ret h ho _ (tab hm ht)) | exact d_ret rfl (fun w hm => chk_ret a n h0 h1) | exact d_ret rfl (fun w hm => hits_is ho (hit_onI p1 p2 e1) (tab hm ht)) | exact d_ret rfl (fun w hm => hits_is ho (hit_exI ho q1 q2 e2) (tab hm ht)) | exact d_ret rfl (fun w hm => hits_is ho r2 (tab hm ht)) | exact d_ret rfl (fun w hm => has_ret _ _ _ h0 h1 r3 r4)) | exact d_a) rfl (by decide) ?_; intro _)) | refine w_y (by exact wn_d rfl rfl rfl) (by exact y_a) rfl (by decide) ?_ | refine w_skipD rfl rfl rfl rfl (by decide) ?_ | refine w_skip0D rfl rfl rfl rfl ?_ | refine w_skipU rfl rfl rfl (by decide) ?_ | refine w_skip0U rfl rfl rfl ?_ | (refine w_d wn_a (by first | (apply d_is_fcall; first | exact d_ret rfl (fun w hm => example_ret (tab hm ht)) | exact d_ret rfl (fun w hm => on_is (b := 0) rfl (by rw [e1]; rfl) (tab hm ht)) | exact d_ret rfl (fun w hm => on_is (b := 1) x1 (by rw [e1]; rfl) (tab hm ht)) | exact d_ret rfl (fun w hm => exact_is (b := 0) rfl (by rw [e2]; rfl) (tab hm ht)) | exact d_ret rfl (fun w hm => exact_is (b := 1) rfl (by rw [e2]; rfl) (tab hm ht)) | exact d_ret rfl (fun w hm => net_is h0 h1 (b := 0) (by rw [e3]; rfl) (tab hm ht)) | exact d_ret rfl (fun w hm => net_is h0 h1 (b := 1) (by rw [e3]; rfl) (tab hm ht)) | exact d_ret rfl (fun w hm => full_ret _ (tab hm ht)) | exact d_ret rfl (fun w hm => get_ret h ho _ (tab hm ht)) | exact d_ret rfl (fun w hm => chk_ret a n h0 h1) | exact d_ret rfl (fun w hm => hits_is ho (hit_onI p1 p2 e1) (tab hm ht)) | exact d_ret rfl (fun w hm => hits_is ho (hit_exI ho q1 q2 e2) (tab hm ht)) | exact d_ret rfl (fun w hm => hits_is ho r2 (tab hm ht)) | exact d_ret rfl (fun w hm => has_ret _ _ _ h0 h1 r3 r4)) | exact d_a) rfl (by decide) ?_; intro _) | (refine w_d0 wn_a (by first | (apply d_is_fcall; first | exact d_ret rfl (fun w hm => example_ret (tab hm ht)) | exact d_ret rfl (fun w hm => on_is (b := 0) rfl (by rw [e1]; rfl) (tab hm ht)) | exact d_ret rfl (fun w hm => on_is (b := 1) x1 (by rw [e1]; rfl) (tab hm ht)) | exact d_ret rfl (fun w hm => exact_is (b := 0) rfl (by rw [e2]; rfl) (tab hm ht)) | exact d_ret rfl (fun w hm => exact_is (b := 1) rfl (by rw [e2]; rfl) (tab hm ht)) | exact d_ret rfl (fun w hm => net_is h0 h1 (b := 0) (by rw [e3]; rfl) (tab hm ht)) | exact d_ret rfl (fun w hm => net_is h0 h1 (b := 1) (by rw [e3]; rfl) (tab hm ht)) | exact d_ret rfl (fun w hm => full_ret _ (tab hm ht)) | exact d_ret rfl (fun w hm => get_ret h ho _ (tab hm ht)) | exact d_ret rfl (fun w hm => chk_ret a n h0 h1) | exact d_ret rfl (fun w hm => hits_is ho (hit_onI p1 p2 e1) (tab hm ht)) | exact d_ret rfl (fun w hm => hits_is ho (hit_exI ho q1 q2 e2) (tab hm ht)) | exact d_ret rfl (fun w hm => hits_is ho r2 (tab hm ht)) | exact d_ret rfl (fun w hm => has_ret _ _ _ h0 h1 r3 r4)) | exact d_a) rfl ?_; first | (intro (uu : Unit); clear uu) | intro _) | (refine w_splitD rfl rfl rfl (fun hyes => ?_) (fun hno => ?_) <;> first | (exfalso; omega) | exact absurd rfl hyes | exact absurd rfl hno | exact absurd Iff.rfl hyes | exact absurd Iff.rfl hno | exact absurd (eqc_same _) hyes | exact absurd (eqc_same _) hno | exact absurd (by decide) hyes | exact absurd (by decide) hno | skip))) | (apply isQ; first | apply q_nil | (apply isQ0; first | (apply isQc; first | refine q_call rfl wn_a (by decide) (fun w hm => example_ret (tab hm ht)) ?_ | refine q_call rfl wn_a (by decide) (fun w hm => on_is (b := 0) rfl (by rw [e1]; rfl) (tab hm ht)) ?_ | refine q_call rfl wn_a (by decide) (fun w hm => on_is (b := 1) x1 (by rw [e1]; rfl) (tab hm ht)) ?_ | refine q_call rfl wn_a (by decide) (fun w hm => exact_is (b := 0) rfl (by rw [e2]; rfl) (tab hm ht)) ?_ | refine q_call rfl wn_a (by decide) (fun w hm => exact_is (b := 1) rfl (by rw [e2]; rfl) (tab hm ht)) ?_ | refine q_call rfl wn_a (by decide) (fun w hm => net_is h0 h1 (b := 0) (by rw [e3]; rfl) (tab hm ht)) ?_ | refine q_call rfl wn_a (by decide) (fun w hm => net_is h0 h1 (b := 1) (by rw [e3]; rfl) (tab hm ht)) ?_ | refine q_call rfl wn_a (by decide) (fun w hm => full_ret _ (tab hm ht)) ?_ | refine q_call rfl wn_a (by decide) (fun w hm => get_ret h ho _ (tab hm ht)) ?_ | refine q_call rfl wn_a (by decide) (fun w hm => chk_ret a n h0 h1) ?_ | refine q_call rfl wn_a (by decide) (fun w hm => hits_is ho (hit_onI p1 p2 e1) (tab hm ht)) ?_ | refine q_call rfl wn_a (by decide) (fun w hm => hits_is ho (hit_exI ho q1 q2 e2) (tab hm ht)) ?_ | refine q_call rfl wn_a (by decide) (fun w hm => hits_is ho r2 (tab hm ht)) ?_ | refine q_call rfl wn_a (by decide) (fun w hm => has_ret _ _ _ h0 h1 r3 r4) ?_) | refine q_y0 (by exact y_a) (by decide) ?_) | (apply isQg; first | (apply isQc; first | refine q_call rfl wn_a (by decide) (fun w hm => example_ret (tab hm ht)) ?_ | refine q_call rfl wn_a (by decide) (fun w hm => on_is (b := 0) rfl (by rw [e1]; rfl) (tab hm ht)) ?_ | refine q_call rfl wn_a (by decide) (fun w hm => on_is (b := 1) x1 (by rw [e1]; rfl) (tab hm ht)) ?_ | refine q_call rfl wn_a (by decide) (fun w hm => exact_is (b := 0) rfl (by rw [e2]; rfl) (tab hm ht)) ?_ | refine q_call rfl wn_a (by decide) (fun w hm => exact_is (b := 1) rfl (by rw [e2]; rfl) (tab hm ht)) ?_ | refine q_call rfl wn_a (by decide) (fun w hm => net_is h0 h1 (b := 0) (by rw [e3]; rfl) (tab hm ht)) ?_ | refine q_call rfl wn_a (by decide) (fun w hm => net_is h0 h1 (b := 1) (by rw [e3]; rfl) (tab hm ht)) ?_ | refine q_call rfl wn_a (by decide) (fun w hm => full_ret _ (tab hm ht)) ?_ | refine q_call rfl wn_a (by decide) (fun w hm => get_ret h ho _ (tab hm ht)) ?_ | refine q_call rfl wn_a (by decide) (fun w hm => chk_ret a n h0 h1) ?_ | refine q_call rfl wn_a (by decide) (fun w hm => hits_is ho (hit_onI p1 p2 e1) (tab hm ht)) ?_ | refine q_call rfl wn_a (by decide) (fun w hm => hits_is ho (hit_exI ho q1 q2 e2) (tab hm ht)) ?_ | refine q_call rfl wn_a (by decide) (fun w hm => hits_is ho r2 (tab hm ht)) ?_ | refine q_call rfl wn_a (by decide) (fun w hm => has_ret _ _ _ h0 h1 r3 r4) ?_) | refine q_y (by exact wn_d rfl rfl rfl) (by exact y_a) rfl (by decide) ?_ | refine q_skipD rfl rfl rfl rfl (by decide) ?_ | refine q_skipU rfl rfl rfl (by decide) ?_ | (refine q_splitD rfl rfl rfl (fun hyes => ?_) (fun hno => ?_) <;> first | (exfalso; omega) | exact absurd rfl hyes | exact absurd rfl hno | exact absurd Iff.rfl hyes | exact absurd Iff.rfl hno | exact absurd (eqc_same _) hyes | exact absurd (eqc_same _) hno | exact absurd (by decide) hyes | exact absurd (by decide) hno | skip))))
  all_goals first | (exact post1 (.inl rfl) rfl (by first | exact res_tmp rfl | exact res_cell rfl (by rfl) | exact res_cell1 rfl) fun _ hm => ⟨rfl, hm.below⟩) | (exact post1 (.inl rfl) rfl (by first | exact res_tmp rfl | exact res_cell rfl (by rfl) | exact res_cell1 rfl) fun _ hm => ⟨by simp, hm.below⟩)
theorem walk (f v m a n : Int) (h : Hdr) (_ : (Lit.int .i64 f).wf = true) (wv : (Lit.int .u64 v).wf = true) (wm : (Lit.int .u64 m).wf = true) (wa : (Lit.int .u32 a).wf = true) (_ : (Lit.int .i64 n).wf = true) (ho : h.Ok) (w : World) (ht : Tab w) :
    Calls Tryd.prog 9 (#[.int .i64 f, .int .u64 v, .int .u64 m, .agg #[.int .u32 a, .int .i64 n], .agg h.cells.toArray]) w fun e w' => e = .returned (.bool true) ∧ Below w.heap.size w w' :=
  walk' f v m a n h (u64_U wv) (u64_U wm) (bounds_u32 wa).1 (by have := (bounds_u32 wa).2; omega) ho w ht

/-! ### The row's step -/
theorem contract (H : Type) (enc : TypeId × Value → H) (W : World) (base : Nat) (args : Array Value) (ds gs : List (DataW H)) (before : List MemPlace)
    (hval : ∀ (j : Nat) t v, Tryd.f9.params[j]? = some t → args[j]? = some v → Value.okWide Tryd.prog W .any base t v)
    (hW : DataW.Whole enc Tryd.prog Tryd.f9.params.toList Rows.matchMakesSpec.vars false W args.toList ds gs before) (hL : laidMetH Tryd.prog Rows.matchMakesRow.laid W) :
    Calls Tryd.prog 9 args W fun e W' => ∃ v, e = .returned v ∧ Rows.matchMakesSpec.post enc Tryd.prog Tryd.f9 false true false false W args v W' := by
  have hW' := hW
  obtain ⟨p, q, hA0, hV, rfl, hfz, hnd⟩ := hW
  have hA : DataW.TrodAll enc Tryd.prog W 0 (fun _ => true) true Tryd.f9.params.toList args.toList ds p := hA0
  rw [Tryd.params9] at hA hval
  obtain ⟨v0, vs0, d0, ds0, p0, q0, hargs, rfl, rfl, h0, r0⟩ := trodAll_cons hA
  obtain ⟨v1, vs1, d1, ds1, p1, q1, rfl, rfl, rfl, h1, r1⟩ := trodAll_cons r0
  obtain ⟨v2, vs2, d2, ds2, p2, q2, rfl, rfl, rfl, h2, r2⟩ := trodAll_cons r1
  obtain ⟨v3, vs3, d3, ds3, p3, q3, rfl, rfl, rfl, h3, r3⟩ := trodAll_cons r2
  obtain ⟨v4, vs4, d4, ds4, p4, q4, rfl, rfl, rfl, h4, r4⟩ := trodAll_cons r3
  obtain ⟨rfl, rfl, rfl⟩ := trodAll_nil r4
  obtain rfl : args = #[v0, v1, v2, v3, v4] := by cases args; simp_all
  obtain ⟨rfl, rfl⟩ := trodVars_none hV
  obtain ⟨x0, rfl, rfl, rfl, w0⟩ := open_int Tryd.underlying22 (hval 0 22 v0 rfl rfl) h0
  obtain ⟨x1, rfl, rfl, rfl, w1⟩ := open_int Tryd.underlying24 (hval 1 24 v1 rfl rfl) h1
  obtain ⟨x2, rfl, rfl, rfl, w2⟩ := open_int Tryd.underlying24 (hval 2 24 v2 rfl rfl) h2
  obtain ⟨cs3, rfl, g3⟩ := Law.open_flat (n := 8) (ks := [.int .u32, .int .i64]) (by first | exact .inl ⟨_, Tryd.underlying53⟩ | exact .inr ⟨_, _, Tryd.underlying53⟩) (by kernel_rfl) (hval 3 53 v3 rfl rfl) h3
  obtain ⟨_, _, rfl, ⟨x3, rfl, w3⟩, ⟨_, _, rfl, ⟨x4, rfl, w4⟩, rfl⟩⟩ := g3
  obtain ⟨cs4, rfl, g4⟩ := Law.open_flat (n := 8) (ks := [.int .i64, .int .u8, .int .u8, .int .u8, .int .u8, .int .u8, .int .u8, .int .u8, .int .u8, .int .u8, .int .u8, .int .u8, .int .u8, .int .i64, .int .u32, .int .u32, .int .i64, .int .i64, .int .i64]) (by first | exact .inl ⟨_, Tryd.underlying33⟩ | exact .inr ⟨_, _, Tryd.underlying33⟩) (by kernel_rfl) (hval 4 33 v4 rfl rfl) h4
  obtain ⟨y4, o4, e4⟩ := Hd.open_hdr g4
  clear hA0 hA hval
  rw [e4] at hW' ⊢
  exact (walk x0 x1 x2 x3 x4 y4 w0 w1 w2 w3 w4 o4 W (Hd.tab_of_laid hL (by kernel_rfl))).mono fun e W' ⟨he, hg⟩ => ⟨_, he, Law.post_law Law.laidOut (by kernel_rfl) hW' rfl rfl Tryd.underlying4 rfl hg⟩

theorem laid_met (os : Os) : laidMet Tryd.prog Rows.matchMakesRow.laid ((Hd.laidWorld os).forCall (fun _ _ => 0) ⟨#[], #[.int .i64 0, .int .u64 0, .int .u64 0, .agg #[.int .u32 0, .int .i64 0], .agg #[.int .i64 0, .int .u8 0, .int .u8 0, .int .u8 0, .int .u8 0, .int .u8 0, .int .u8 0, .int .u8 0, .int .u8 0, .int .u8 0, .int .u8 0, .int .u8 0, .int .u8 0, .int .i64 0, .int .u32 0, .int .u32 0, .int .i64 0, .int .i64 0, .int .i64 0]], []⟩).memory :=
  laidMet_of_run' 16 (by kernel_rfl) (by kernel_rfl)
theorem reads (os : Os) {H : Type} (enc : TypeId × Value → H) : ∃ places, DataW.whole enc Tryd.prog ((Hd.laidWorld os).forCall (fun _ _ => 0) ⟨#[], #[.int .i64 0, .int .u64 0, .int .u64 0, .agg #[.int .u32 0, .int .i64 0], .agg #[.int .i64 0, .int .u8 0, .int .u8 0, .int .u8 0, .int .u8 0, .int .u8 0, .int .u8 0, .int .u8 0, .int .u8 0, .int .u8 0, .int .u8 0, .int .u8 0, .int .u8 0, .int .i64 0, .int .u32 0, .int .u32 0, .int .i64 0, .int .i64 0, .int .i64 0]], []⟩).memory Tryd.f9.params.toList Rows.matchMakesSpec.vars false (#[.int .i64 0, .int .u64 0, .int .u64 0, .agg #[.int .u32 0, .int .i64 0], .agg #[.int .i64 0, .int .u8 0, .int .u8 0, .int .u8 0, .int .u8 0, .int .u8 0, .int .u8 0, .int .u8 0, .int .u8 0, .int .u8 0, .int .u8 0, .int .u8 0, .int .u8 0, .int .i64 0, .int .u32 0, .int .u32 0, .int .i64 0, .int .i64 0, .int .i64 0]] : Array Value).toList 8 = some ([.lit (.int .i64 0), .lit (.int .u64 0), .lit (.int .u64 0), .agg [.lit (.int .u32 0), .lit (.int .i64 0)], .agg [.lit (.int .i64 0), .agg [.lit (.int .u8 0), .lit (.int .u8 0), .lit (.int .u8 0), .lit (.int .u8 0), .lit (.int .u8 0), .lit (.int .u8 0)], .agg [.lit (.int .u8 0), .lit (.int .u8 0), .lit (.int .u8 0), .lit (.int .u8 0), .lit (.int .u8 0), .lit (.int .u8 0)], .lit (.int .i64 0), .lit (.int .u32 0), .lit (.int .u32 0), .lit (.int .i64 0), .lit (.int .i64 0), .lit (.int .i64 0)]], [], places) :=
  ⟨[], by kernel_rfl⟩

set_option maxRecDepth 100000 in
theorem lifted (os : Os) (started : os.Started) (H : Type) (enc : TypeId × Value → H) (F : Stop.Interp) :
    ReturnsInHanded {} Tryd.checked os 9 .any ((OpenSpec.ofChange Rows.matchMakesSpec).preRow enc Tryd.prog Tryd.f9 Rows.matchMakesRow.domain false Rows.matchMakesRow.laid) (((OpenSpec.ofChange Rows.matchMakesSpec).at F).post enc Tryd.prog Tryd.f9 false true false false) := by
  obtain ⟨places, hx⟩ := reads os enc
  refine returnsInHanded_of_row (C := Tryd.checked) (s := OpenSpec.ofChange Rows.matchMakesSpec) Law.own started (by kernel_rfl) Tryd.func9
    (witness_row_at (enc := enc) (C := Tryd.checked) false (Hd.laidWorld os) #[.int .i64 0, .int .u64 0, .int .u64 0, .agg #[.int .u32 0, .int .i64 0], .agg #[.int .i64 0, .int .u8 0, .int .u8 0, .int .u8 0, .int .u8 0, .int .u8 0, .int .u8 0, .int .u8 0, .int .u8 0, .int .u8 0, .int .u8 0, .int .u8 0, .int .u8 0, .int .i64 0, .int .u32 0, .int .u32 0, .int .i64 0, .int .i64 0, .int .i64 0]] rfl (by kernel_rfl) (by kernel_rfl) (by kernel_rfl)
      (OpenSpec.preRow_of_cond 8 hx (by kernel_rfl) (fun k hk => by cases hk) (by kernel_rfl) (laid_met os))) ?_
  intro W base args ds gs before hval hW _ _ _ hL _ _
  exact contract H enc W base args ds gs before hval hW hL

theorem said : Rows.MatchMakesSaid :=
  OpenClaim.holds_of_cond 9 Tryd.f9 rfl rfl rfl rfl rfl rfl rfl ⟨rfl, rfl, rfl, rfl, rfl⟩ rfl rfl rfl rfl rfl (by kernel_rfl) Tryd.func9 (by kernel_rfl)
    (of_decide_eq_true (by kernel_rfl)) (by unfold Func.isWrapper; first | (rw [if_pos (by decide +kernel)]; kernel_rfl) | (rw [if_neg (by decide +kernel)]; exact ⟨rfl, rfl⟩))
    (fun os started H enc _ F => by rw [OpenClaim.pre_eq_preRow]; exact lifted os started H enc F)

theorem plain (f : FuncId) (fn : Func) (hf : Tryd.pinned.checked.prog.funcNamed Tryd.f9.name = some f) (hfn : Tryd.pinned.checked.prog.funcs[f]? = some fn) :
    false = Tryd.pinned.checked.prog.looks [] ∧ ∀ (j : Nat) t, fn.params[j]? = some t → Tryd.pinned.checked.prog.wantsStandIn t = false := by
  obtain rfl : f = 9 := Option.some.inj ((show Tryd.prog.funcNamed Tryd.f9.name = some 9 by kernel_rfl).symm.trans hf) |>.symm
  obtain rfl : fn = Tryd.f9 := (Option.some.inj (Tryd.func9.symm.trans hfn)).symm
  refine ⟨by kernel_rfl, fun j t ht => ?_⟩
  rw [Tryd.params9] at ht
  have hall : ([22, 24, 24, 53, 33] : List TypeId).all (fun t => !Tryd.prog.wantsStandIn t) = true := by kernel_rfl
  have hm : t ∈ ([22, 24, 24, 53, 33] : List TypeId) := by simpa using Array.mem_of_getElem? ht
  exact (by simpa using List.all_eq_true.1 hall t hm : Tryd.prog.wantsStandIn t = false)

/-- THE STATEMENT: the card. -/
theorem card : Rows.MatchMakesCardSaid :=
  Claim7.holds_tied_plain_at .later [] _ _ _ _ said (fun _ h => by cases h) (by kernel_rfl) (fun _ h => by cases h) matchMakes_row_tie rfl ⟨rfl, rfl⟩ (by kernel_rfl) rfl plain (by kernel_rfl)
#print axioms card

end MatchMakes
end Go.Proofs.YtgoplihimajjkaaDoor
