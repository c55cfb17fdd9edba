/-
  The law 'IpBits': for every input it answers true. No conditions.
-/
import Derived.Test.YtflpmchckniihaaIpB
import Derived.Test.YtflpmchckniihaaRefThree
namespace Go.Proofs.Ytflpmchckniihaa
open Go.ChangeShapes Go.WideShapes Go.ChangeAt Go.RowKit
open Pl
set_option linter.unusedVariables false
namespace IpBits

theorem walk (a n : Int) (wa : (Lit.int .u32 a).wf = true) (wn : (Lit.int .i64 n).wf = true) (w : World) :
    Calls Try.prog 4 #[.int .u32 a, .int .i64 n] w fun e w' => e = .returned (.bool true) ∧ Below w.heap.size w w' := by
  obtain ⟨h0, h1⟩ := Law.bd_u32 wa
  have t1 : Ip.bit 1 31 = 1 := by decide
  have t2 : Ip.bit 2147483648 0 = 1 := by decide
  by_cases hr : n < 0 ∨ 31 < n
  · have t3 : Ip.bit a n = 0 := by unfold Ip.bit; rw [if_pos hr]
    rcases hr with hr | hr
    all_goals
      go_enter Try.func4, Try.ntmps4
      go_wp2_with fail
      refine (Ip.bit_any _ _ (by omega) (by omega) _).mono ?_
      rintro e w1 ⟨rfl, rfl⟩
      go_wp2_with fail
      refine (Ip.bit_any _ _ (by omega) (by omega) _).mono ?_
      rintro e w1 ⟨rfl, rfl⟩
      go_wp2_with fail
      refine (Ip.bit_any _ _ h0 h1 _).mono ?_
      rintro e w1 ⟨rfl, rfl⟩
      go_wp2
      go_ret
      exact ⟨rfl, Below.refl _ _⟩
  · obtain ⟨N, rfl⟩ := Int.eq_ofNat_of_zero_le (show 0 ≤ n by omega)
    have hN : N < 32 := by omega
    have n0 : (0 : Int) ≤ (N : Int) := by omega
    have n1 : (N : Int) ≤ 31 := by omega
    have t3 : Ip.bit a N = a / 2 ^ (31 - N) % 2 := by unfold Ip.bit; rw [if_neg hr, show (31 - (N : Int)).toNat = 31 - N from by omega]
    clear hr
    go_enter Try.func4, Try.ntmps4
    go_wp2_with fail
    refine (Ip.bit_any _ _ (by omega) (by omega) _).mono ?_
    rintro e w1 ⟨rfl, rfl⟩
    go_wp2_with fail
    refine (Ip.bit_any _ _ (by omega) (by omega) _).mono ?_
    rintro e w1 ⟨rfl, rfl⟩
    go_wp2_with fail
    refine (Ip.bit_any _ _ h0 h1 _).mono ?_
    rintro e w1 ⟨rfl, rfl⟩
    go_wp2_with fail
    refine (RefOne.bits_any _ h0 h1 _).mono ?_
    rintro e w2 ⟨g, cap, rfl, hg, hcap, hcm, hgs, hc, hb⟩
    have hcell := hc N hN
    clear hc
    go_wp2
    go_ret
    exact ⟨rfl, hb⟩

/-! ### The row's step -/
set_option maxRecDepth 100000 in
theorem lifted (os : Os) (started : os.Started) (H : Type) (enc : TypeId × Value → H) :
    ReturnsInHanded {} Try.checked os 4 .any (Rows.ipBitsSpec.pre6 enc Try.prog Try.f4 Rows.ipBitsRow.domain false) (Rows.ipBitsSpec.post enc Try.prog Try.f4 false true false false) := by
  refine returnsInHanded_of_change (C := Try.checked) Law.own started (by kernel_rfl) Try.func4
    (ChangeSpec.witness6 (enc := enc) (C := Try.checked) false ⟨#[], #[.int .u32 0, .int .i64 0], []⟩ 8 (by kernel_rfl) (by kernel_rfl) (by kernel_rfl) (by kernel_rfl)) ?_
  intro W base args ds gs before hval0 hW hcnd _
  have hval : ∀ (j : Nat) t v, Try.f4.params[j]? = some t → args[j]? = some v → Value.okWide Try.prog W .any base t v := hval0
  have hW' := hW
  obtain ⟨p, q, hA0, hV, rfl, hfz, hnd⟩ := hW
  have hA : DataW.TrodAll enc Try.prog W 0 (fun _ => true) true Try.f4.params.toList args.toList ds p := hA0
  rw [Try.params4] at hA hval
  obtain ⟨v0, vs0, d0, ds0, p0, q0, hargs, rfl, rfl, h0, r0⟩ := trodAll_cons hA
  obtain ⟨v1, vs1, d1, ds1, p1, q1, rfl, rfl, rfl, h1, r1⟩ := trodAll_cons r0
  obtain ⟨rfl, rfl, rfl⟩ := trodAll_nil r1
  obtain rfl : args = #[v0, v1] := by cases args; simp_all
  obtain ⟨rfl, rfl⟩ := trodVars_none hV
  obtain ⟨x0, rfl, rfl, rfl, w0⟩ := open_int Try.underlying25 (hval 0 25 v0 rfl rfl) h0
  obtain ⟨x1, rfl, rfl, rfl, w1⟩ := open_int Try.underlying3 (hval 1 3 v1 rfl rfl) h1
  clear hA0 hval0
  exact (walk x0 x1 w0 w1 W).mono fun e W' ⟨he, hg⟩ => ⟨_, he, Law.post_law Law.laidOut (by kernel_rfl) hW' rfl rfl Try.underlying4 rfl hg⟩

theorem over : Rows.ipBitsRow.holds Try.pinned (OpenSpec.ofChange Rows.ipBitsSpec) :=
  OpenClaim.holds_of_wide 4 Try.f4 rfl rfl rfl rfl rfl rfl rfl ⟨rfl, rfl, rfl, rfl, rfl⟩ rfl rfl rfl rfl rfl (by kernel_rfl) Try.func4 (by kernel_rfl)
    (of_decide_eq_true (by kernel_rfl)) (by unfold Func.isWrapper; first | (rw [if_pos (by decide +kernel)]; kernel_rfl) | (rw [if_neg (by decide +kernel)]; exact ⟨rfl, rfl⟩))
    (fun os started H enc _ => lifted os started H enc)

/-- THE STATEMENT. -/
theorem proved : Rows.IpBitsSaid := over
#print axioms proved

end IpBits
end Go.Proofs.Ytflpmchckniihaa
