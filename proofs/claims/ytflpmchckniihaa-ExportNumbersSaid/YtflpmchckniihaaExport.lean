/-
  The community of two numbers, and the law 'ExportNumbers': for every input it answers true. No conditions.
-/
import Derived.Test.YtflpmchckniihaaLaw
import Derived.Test.YtflpmchckniihaaBits
namespace Go.Proofs.Ytflpmchckniihaa
open Go.ChangeShapes Go.WideShapes Go.ChangeAt Go.RowKit
namespace Export

theorem of_any (h l : Int) (w : World) :
    Calls Try.prog 12 #[.int .i64 h, .int .i64 l] w fun e w' => e = .returned (.int .i64 (h % 65536 * 65536 + l % 65536)) ∧ w = w' := by
  have e1 := Pl.and_i64_65535 h
  have e2 := Pl.and_i64_65535 l
  have e3 := Pl.or_i64_16 (h % 65536) (l % 65536) (by omega) (by omega) (by omega) (by omega)
  have b1 : 0 ≤ h % 65536 := by omega
  have b2 : h % 65536 < 65536 := by omega
  go_enter Try.func12, Try.ntmps12
  go_wp2
  go_ret
  exact ⟨rfl, rfl⟩

end Export

namespace ExportNumbers
/-- The walk of the law. -/
theorem walk0 (h l : Int) (w : World) :
    Calls Try.prog 3 #[.int .i64 h, .int .i64 l] w fun e w' => e = .returned (.bool true) ∧ w = w' := by
  have e1 := Pl.and_i64_65535 h
  have e2 := Pl.and_i64_65535 l
  have t1 : (0 : Int) ≤ h % 65536 * 65536 + l % 65536 := by omega
  have t2 : h % 65536 * 65536 + l % 65536 < 4294967296 := by omega
  have t3 : (h % 65536 * 65536 + l % 65536) / 65536 = h % 65536 := by omega
  have t4 : (h % 65536 * 65536 + l % 65536) % 65536 = l % 65536 := by omega
  go_enter Try.func3, Try.ntmps3
  go_wp2_with (go_at_call 12; refine (Export.of_any _ _ _).mono ?_; rintro e w' ⟨rfl, rfl⟩)
  go_ret
  exact ⟨rfl, rfl⟩

theorem walk (h l : Int) (_ : (Lit.int .i64 h).wf = true) (_ : (Lit.int .i64 l).wf = true) (w : World) :
    Calls Try.prog 3 #[.int .i64 h, .int .i64 l] w fun e w' => e = .returned (.bool true) ∧ Below w.heap.size w w' :=
  (walk0 h l w).mono fun _ _ ⟨he, hw⟩ => ⟨he, hw ▸ Below.refl _ _⟩

/-! ### The row's step -/
set_option maxRecDepth 100000 in
theorem lifted (os : Os) (started : os.Started) (H : Type) (enc : TypeId × Value → H) :
    ReturnsInHanded {} Try.checked os 3 .any (Rows.exportNumbersSpec.pre6 enc Try.prog Try.f3 Rows.exportNumbersRow.domain false) (Rows.exportNumbersSpec.post enc Try.prog Try.f3 false true false false) := by
  refine returnsInHanded_of_change (C := Try.checked) Law.own started (by kernel_rfl) Try.func3
    (ChangeSpec.witness6 (enc := enc) (C := Try.checked) false ⟨#[], #[.int .i64 0, .int .i64 0], []⟩ 8 (by kernel_rfl) (by kernel_rfl) (by kernel_rfl) (by kernel_rfl)) ?_
  intro W base args ds gs before hval0 hW hcnd _
  have hval : ∀ (j : Nat) t v, Try.f3.params[j]? = some t → args[j]? = some v → Value.okWide Try.prog W .any base t v := hval0
  have hW' := hW
  obtain ⟨p, q, hA0, hV, rfl, hfz, hnd⟩ := hW
  have hA : DataW.TrodAll enc Try.prog W 0 (fun _ => true) true Try.f3.params.toList args.toList ds p := hA0
  rw [Try.params3] at hA hval
  obtain ⟨v0, vs0, d0, ds0, p0, q0, hargs, rfl, rfl, h0, r0⟩ := trodAll_cons hA
  obtain ⟨v1, vs1, d1, ds1, p1, q1, rfl, rfl, rfl, h1, r1⟩ := trodAll_cons r0
  obtain ⟨rfl, rfl, rfl⟩ := trodAll_nil r1
  obtain rfl : args = #[v0, v1] := by cases args; simp_all
  obtain ⟨rfl, rfl⟩ := trodVars_none hV
  obtain ⟨x0, rfl, rfl, rfl, w0⟩ := open_int Try.underlying3 (hval 0 3 v0 rfl rfl) h0
  obtain ⟨x1, rfl, rfl, rfl, w1⟩ := open_int Try.underlying3 (hval 1 3 v1 rfl rfl) h1
  clear hA0 hval0
  exact (walk x0 x1 w0 w1 W).mono fun e W' ⟨he, hg⟩ => ⟨_, he, Law.post_law Law.laidOut (by kernel_rfl) hW' rfl rfl Try.underlying4 rfl hg⟩

theorem over : Rows.exportNumbersRow.holds Try.pinned (OpenSpec.ofChange Rows.exportNumbersSpec) :=
  OpenClaim.holds_of_wide 3 Try.f3 rfl rfl rfl rfl rfl rfl rfl ⟨rfl, rfl, rfl, rfl, rfl⟩ rfl rfl rfl rfl rfl (by kernel_rfl) Try.func3 (by kernel_rfl)
    (of_decide_eq_true (by kernel_rfl)) (by unfold Func.isWrapper; first | (rw [if_pos (by decide +kernel)]; kernel_rfl) | (rw [if_neg (by decide +kernel)]; exact ⟨rfl, rfl⟩))
    (fun os started H enc _ => lifted os started H enc)

/-- THE STATEMENT. -/
theorem proved : Rows.ExportNumbersSaid := over
#print axioms proved
end ExportNumbers
end Go.Proofs.Ytflpmchckniihaa
