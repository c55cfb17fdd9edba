/-
  The law 'IpMasks': for every input it answers true. No conditions.
-/
import Derived.Test.YtflpmchckniihaaIpB
import Derived.Test.YtflpmchckniihaaRefThree
namespace Go.Proofs.Ytflpmchckniihaa
open Go.ChangeShapes Go.WideShapes Go.ChangeAt Go.RowKit
open Pl
set_option linter.unusedVariables false
namespace IpMasks

theorem cl_cl (n : Int) : cl (cl n : Nat) = cl n := by unfold cl; omega
theorem ok_of (a n : Int) : ok (a - a % K n) (cl n) = true := by
  have h := cl_le n
  refine ok_iff.2 ⟨by omega, by omega, ?_⟩
  rw [Ip.K_same (cl_cl n), Int.sub_emod, Int.emod_emod_of_dvd _ (Int.dvd_refl _)]
  simp
theorem has_of (a n : Int) : has (a - a % K n) (cl n) a = true := by
  unfold has
  rw [ok_of, Ip.K_same (cl_cl n)]
  simp
theorem of_lo (a n : Int) (h0 : 0 ≤ a) : 0 ≤ a - a % K n := by
  have := K_pos n
  have := Int.emod_nonneg a (show K n ≠ 0 by omega)
  have h3 : a % K n ≤ a := by
    rw [Int.emod_def]
    have := Int.mul_nonneg (show 0 ≤ K n by omega) (Int.ediv_nonneg h0 (show 0 ≤ K n by omega))
    omega
  omega
theorem of_hi (a n : Int) (h1 : a < 4294967296) : a - a % K n < 4294967296 := by
  have := K_pos n
  have := Int.emod_nonneg a (show K n ≠ 0 by omega)
  omega

theorem walk (a n : Int) (wa : (Lit.int .u32 a).wf = true) (wn : (Lit.int .i64 n).wf = true) (w : World) :
    Calls Try.prog 5 #[.int .u32 a, .int .i64 n] w fun e w' => e = .returned (.bool true) ∧ Below w.heap.size w w' := by
  obtain ⟨h0, h1⟩ := Law.bd_u32 wa
  have t1 : mk 8 = 4278190080 := by decide
  have ho := ok_of a n
  have hh := has_of a n
  by_cases hn : n < 0
  · have hc : ((cl n : Nat) : Int) = 0 := by unfold cl; omega
    rw [hc] at ho hh
    go_enter Try.func5, Try.ntmps5
    go_wp2_with fail
    refine (Ip.mask_any _ _).mono ?_
    rintro e w1 ⟨rfl, rfl⟩
    go_wp2_with fail
    refine (Ip.mask_any _ _).mono ?_
    rintro e w2 ⟨rfl, rfl⟩
    have hB := Below.refl w.heap.size w
    go_wp2_with fail
    refine (RefOne.mask_any _ _).mono ?_
    rintro e w3 ⟨rfl, hb3⟩
    replace hB := hB.trans (hb3.mono (Nat.le_trans (by simp) hB.size))
    clear hb3
    go_wp2_with fail
    refine (Ip.of_any _ _ h0 h1 _).mono ?_
    rintro e w4 ⟨rfl, hb4⟩
    replace hB := hB.trans (hb4.mono (Nat.le_trans (by simp) hB.size))
    clear hb4
    go_wp2_with fail
    refine (RefOne.right_any _ _ (of_lo a n h0) (of_hi a n h1) _).mono ?_
    rintro e w5 ⟨rfl, hb5⟩
    obtain ⟨c0, c1⟩ := Law.box2b hb5 (by simp)
    replace hB := (hB.alloc hB.size _).trans (hb5.mono (by have := hB.size; simp; omega))
    clear hb5
    go_wp2_with fail
    refine (RefOne.has_any _ _ _ (of_lo a n h0) (of_hi a n h1) h0 h1 _).mono ?_
    rintro e w5 ⟨rfl, hb5⟩
    replace hB := hB.trans (hb5.mono (Nat.le_trans (by simp) hB.size))
    clear hb5
    go_wp2
    go_ret
    exact ⟨rfl, hB⟩
  · by_cases hg : 32 < n
    · have hc : ((cl n : Nat) : Int) = 32 := by unfold cl; omega
      rw [hc] at ho hh
      go_enter Try.func5, Try.ntmps5
      go_wp2_with fail
      refine (Ip.mask_any _ _).mono ?_
      rintro e w1 ⟨rfl, rfl⟩
      go_wp2_with fail
      refine (Ip.mask_any _ _).mono ?_
      rintro e w2 ⟨rfl, rfl⟩
      have hB := Below.refl w.heap.size w
      go_wp2_with fail
      refine (RefOne.mask_any _ _).mono ?_
      rintro e w3 ⟨rfl, hb3⟩
      replace hB := hB.trans (hb3.mono (Nat.le_trans (by simp) hB.size))
      clear hb3
      go_wp2_with fail
      refine (Ip.of_any _ _ h0 h1 _).mono ?_
      rintro e w4 ⟨rfl, hb4⟩
      replace hB := hB.trans (hb4.mono (Nat.le_trans (by simp) hB.size))
      clear hb4
      go_wp2_with fail
      refine (RefOne.right_any _ _ (of_lo a n h0) (of_hi a n h1) _).mono ?_
      rintro e w5 ⟨rfl, hb5⟩
      obtain ⟨c0, c1⟩ := Law.box2b hb5 (by simp)
      replace hB := (hB.alloc hB.size _).trans (hb5.mono (by have := hB.size; simp; omega))
      clear hb5
      go_wp2_with fail
      refine (RefOne.has_any _ _ _ (of_lo a n h0) (of_hi a n h1) h0 h1 _).mono ?_
      rintro e w5 ⟨rfl, hb5⟩
      replace hB := hB.trans (hb5.mono (Nat.le_trans (by simp) hB.size))
      clear hb5
      go_wp2
      go_ret
      exact ⟨rfl, hB⟩
    · have hc : ((cl n : Nat) : Int) = n := cl_of n (by omega) (by omega)
      rw [hc] at ho hh
      go_enter Try.func5, Try.ntmps5
      go_wp2_with fail
      refine (Ip.mask_any _ _).mono ?_
      rintro e w1 ⟨rfl, rfl⟩
      go_wp2_with fail
      refine (Ip.mask_any _ _).mono ?_
      rintro e w2 ⟨rfl, rfl⟩
      have hB := Below.refl w.heap.size w
      go_wp2_with fail
      refine (RefOne.mask_any _ _).mono ?_
      rintro e w3 ⟨rfl, hb3⟩
      replace hB := hB.trans (hb3.mono (Nat.le_trans (by simp) hB.size))
      clear hb3
      go_wp2_with fail
      refine (Ip.of_any _ _ h0 h1 _).mono ?_
      rintro e w4 ⟨rfl, hb4⟩
      replace hB := hB.trans (hb4.mono (Nat.le_trans (by simp) hB.size))
      clear hb4
      go_wp2_with fail
      refine (RefOne.right_any _ _ (of_lo a n h0) (of_hi a n h1) _).mono ?_
      rintro e w5 ⟨rfl, hb5⟩
      obtain ⟨c0, c1⟩ := Law.box2b hb5 (by simp)
      replace hB := (hB.alloc hB.size _).trans (hb5.mono (by have := hB.size; simp; omega))
      clear hb5
      go_wp2_with fail
      refine (RefOne.has_any _ _ _ (of_lo a n h0) (of_hi a n h1) h0 h1 _).mono ?_
      rintro e w5 ⟨rfl, hb5⟩
      replace hB := hB.trans (hb5.mono (Nat.le_trans (by simp) hB.size))
      clear hb5
      go_wp2
      go_ret
      exact ⟨rfl, hB⟩

/-! ### The row's step -/
set_option maxRecDepth 100000 in
theorem lifted (os : Os) (started : os.Started) (H : Type) (enc : TypeId × Value → H) :
    ReturnsInHanded {} Try.checked os 5 .any (Rows.ipMasksSpec.pre6 enc Try.prog Try.f5 Rows.ipMasksRow.domain false) (Rows.ipMasksSpec.post enc Try.prog Try.f5 false true false false) := by
  refine returnsInHanded_of_change (C := Try.checked) Law.own started (by kernel_rfl) Try.func5
    (ChangeSpec.witness6 (enc := enc) (C := Try.checked) false ⟨#[], #[.int .u32 0, .int .i64 0], []⟩ 8 (by kernel_rfl) (by kernel_rfl) (by kernel_rfl) (by kernel_rfl)) ?_
  intro W base args ds gs before hval0 hW hcnd _
  have hval : ∀ (j : Nat) t v, Try.f5.params[j]? = some t → args[j]? = some v → Value.okWide Try.prog W .any base t v := hval0
  have hW' := hW
  obtain ⟨p, q, hA0, hV, rfl, hfz, hnd⟩ := hW
  have hA : DataW.TrodAll enc Try.prog W 0 (fun _ => true) true Try.f5.params.toList args.toList ds p := hA0
  rw [Try.params5] at hA hval
  obtain ⟨v0, vs0, d0, ds0, p0, q0, hargs, rfl, rfl, h0, r0⟩ := trodAll_cons hA
  obtain ⟨v1, vs1, d1, ds1, p1, q1, rfl, rfl, rfl, h1, r1⟩ := trodAll_cons r0
  obtain ⟨rfl, rfl, rfl⟩ := trodAll_nil r1
  obtain rfl : args = #[v0, v1] := by cases args; simp_all
  obtain ⟨rfl, rfl⟩ := trodVars_none hV
  obtain ⟨x0, rfl, rfl, rfl, w0⟩ := open_int Try.underlying25 (hval 0 25 v0 rfl rfl) h0
  obtain ⟨x1, rfl, rfl, rfl, w1⟩ := open_int Try.underlying3 (hval 1 3 v1 rfl rfl) h1
  clear hA0 hval0
  exact (walk x0 x1 w0 w1 W).mono fun e W' ⟨he, hg⟩ => ⟨_, he, Law.post_law Law.laidOut (by kernel_rfl) hW' rfl rfl Try.underlying4 rfl hg⟩

theorem over : Rows.ipMasksRow.holds Try.pinned (OpenSpec.ofChange Rows.ipMasksSpec) :=
  OpenClaim.holds_of_wide 5 Try.f5 rfl rfl rfl rfl rfl rfl rfl ⟨rfl, rfl, rfl, rfl, rfl⟩ rfl rfl rfl rfl rfl (by kernel_rfl) Try.func5 (by kernel_rfl)
    (of_decide_eq_true (by kernel_rfl)) (by unfold Func.isWrapper; first | (rw [if_pos (by decide +kernel)]; kernel_rfl) | (rw [if_neg (by decide +kernel)]; exact ⟨rfl, rfl⟩))
    (fun os started H enc _ => lifted os started H enc)

/-- THE STATEMENT. -/
theorem proved : Rows.IpMasksSaid := over
#print axioms proved

end IpMasks
end Go.Proofs.Ytflpmchckniihaa
