/-
  The law 'IpForms': for every input it answers true. No conditions.
-/
import Derived.Test.YtflpmchckniihaaIpB
import Derived.Test.YtflpmchckniihaaRefThree
namespace Go.Proofs.Ytflpmchckniihaa
open Go.ChangeShapes Go.WideShapes Go.ChangeAt Go.RowKit
open Pl
set_option linter.unusedVariables false
namespace IpForms

theorem walk (a n x : Int) (wa : (Lit.int .u32 a).wf = true) (wn : (Lit.int .i64 n).wf = true) (wx : (Lit.int .u32 x).wf = true) (w : World) :
    Calls Try.prog 6 #[.agg #[.int .u32 a, .int .i64 n], .int .u32 x] w fun e w' => e = .returned (.bool true) ∧ Below w.heap.size w w' := by
  obtain ⟨h0, h1⟩ := Law.bd_u32 wa
  obtain ⟨x0, x1⟩ := Law.bd_u32 wx
  have t1 : has 167772160 8 167838211 = true := by decide
  have t2 : Ip.chk 1 8 = 1 := by decide
  have c0 := fun p => (Law.box2 w (.int .u32 a) (.int .i64 n) 33 p).1
  have c1 := fun p => (Law.box2 w (.int .u32 a) (.int .i64 n) 33 p).2
  have hB := Below.refl (w.heap.size + 1) (w.alloc (.cells #[.int .u32 a, .int .i64 n] 33))
  cases hk : ok a n with
  | true =>
    have hc := Ip.chk_yes hk
    go_enter Try.func6, Try.ntmps6
    go_wp2_with fail
    refine (Ip.has_any _ _ _ (by omega) (by omega) (by omega) (by omega) _).mono ?_
    rintro e w1 ⟨rfl, hb1⟩
    replace hB := hB.trans (hb1.mono (Nat.le_trans (by simp) hB.size))
    clear hb1
    obtain ⟨b0, b1⟩ := Law.box2b hB (Nat.lt_succ_self _)
    clear b0 b1
    go_wp2_with fail
    refine (Ip.check_any _ _ (by omega) (by omega) _).mono ?_
    rintro e w2 ⟨rfl, hb2⟩
    replace hB := hB.trans (hb2.mono (Nat.le_trans (by simp) hB.size))
    clear hb2
    obtain ⟨b0, b1⟩ := Law.box2b hB (Nat.lt_succ_self _)
    go_wp2_with fail
    refine (RefOne.right_any _ _ h0 h1 _).mono ?_
    rintro e w3 ⟨rfl, hb3⟩
    replace hB := hB.trans (hb3.mono (Nat.le_trans (by simp) hB.size))
    clear hb3
    clear b0 b1
    go_wp2
    refine Law.wp_region_below (by kernel_rfl) (by kernel_rfl) hB ?_
    repeat (go_big_quiet_step (first | (go_at_call 21; exact Law.calls_below (by simp) (Ip.check_any _ _ h0 h1 _)) | (go_at_call 20; exact Law.calls_below (by simp) (Ip.has_any _ _ _ h0 h1 x0 x1 _)) | (go_at_call 19; exact Law.calls_below (by simp) (RefOne.has_any _ _ _ h0 h1 x0 x1 _))))
    refine wpQuiet_nil ?_
    rintro _ ⟨p, rfl⟩
    go_wp2
    go_ret
    exact ⟨rfl, Law.below_box (Nat.le_succ _) p.below⟩
  | false =>
    have hc := Ip.chk_no hk
    go_enter Try.func6, Try.ntmps6
    go_wp2_with fail
    refine (Ip.has_any _ _ _ (by omega) (by omega) (by omega) (by omega) _).mono ?_
    rintro e w1 ⟨rfl, hb1⟩
    replace hB := hB.trans (hb1.mono (Nat.le_trans (by simp) hB.size))
    clear hb1
    obtain ⟨b0, b1⟩ := Law.box2b hB (Nat.lt_succ_self _)
    clear b0 b1
    go_wp2_with fail
    refine (Ip.check_any _ _ (by omega) (by omega) _).mono ?_
    rintro e w2 ⟨rfl, hb2⟩
    replace hB := hB.trans (hb2.mono (Nat.le_trans (by simp) hB.size))
    clear hb2
    obtain ⟨b0, b1⟩ := Law.box2b hB (Nat.lt_succ_self _)
    go_wp2_with fail
    refine (RefOne.right_any _ _ h0 h1 _).mono ?_
    rintro e w3 ⟨rfl, hb3⟩
    replace hB := hB.trans (hb3.mono (Nat.le_trans (by simp) hB.size))
    clear hb3
    clear b0 b1
    go_wp2
    refine Law.wp_region_below (by kernel_rfl) (by kernel_rfl) hB ?_
    repeat (go_big_quiet_step (first | (go_at_call 21; exact Law.calls_below (by simp) (Ip.check_any _ _ h0 h1 _)) | (go_at_call 20; exact Law.calls_below (by simp) (Ip.has_any _ _ _ h0 h1 x0 x1 _)) | (go_at_call 19; exact Law.calls_below (by simp) (RefOne.has_any _ _ _ h0 h1 x0 x1 _))))
    refine wpQuiet_nil ?_
    rintro _ ⟨p, rfl⟩
    go_wp2
    go_ret
    exact ⟨rfl, Law.below_box (Nat.le_succ _) p.below⟩

/-! ### The row's step -/
set_option maxRecDepth 100000 in
theorem lifted (os : Os) (started : os.Started) (H : Type) (enc : TypeId × Value → H) :
    ReturnsInHanded {} Try.checked os 6 .any (Rows.ipFormsSpec.pre6 enc Try.prog Try.f6 Rows.ipFormsRow.domain false) (Rows.ipFormsSpec.post enc Try.prog Try.f6 false true false false) := by
  refine returnsInHanded_of_change (C := Try.checked) Law.own started (by kernel_rfl) Try.func6
    (ChangeSpec.witness6 (enc := enc) (C := Try.checked) false ⟨#[], #[.agg #[.int .u32 0, .int .i64 0], .int .u32 0], []⟩ 8 (by kernel_rfl) (by kernel_rfl) (by kernel_rfl) (by kernel_rfl)) ?_
  intro W base args ds gs before hval0 hW hcnd _
  have hval : ∀ (j : Nat) t v, Try.f6.params[j]? = some t → args[j]? = some v → Value.okWide Try.prog W .any base t v := hval0
  have hW' := hW
  obtain ⟨p, q, hA0, hV, rfl, hfz, hnd⟩ := hW
  have hA : DataW.TrodAll enc Try.prog W 0 (fun _ => true) true Try.f6.params.toList args.toList ds p := hA0
  rw [Try.params6] at hA hval
  obtain ⟨v0, vs0, d0, ds0, p0, q0, hargs, rfl, rfl, h0, r0⟩ := trodAll_cons hA
  obtain ⟨v1, vs1, d1, ds1, p1, q1, rfl, rfl, rfl, h1, r1⟩ := trodAll_cons r0
  obtain ⟨rfl, rfl, rfl⟩ := trodAll_nil r1
  obtain rfl : args = #[v0, v1] := by cases args; simp_all
  obtain ⟨rfl, rfl⟩ := trodVars_none hV
  obtain ⟨cs0, rfl, g0⟩ := Law.open_flat (n := 8) (ks := [.int .u32, .int .i64]) (by first | exact .inl ⟨_, Try.underlying33⟩ | exact .inr ⟨_, _, Try.underlying33⟩) (by kernel_rfl) (hval 0 33 v0 rfl rfl) h0
  obtain ⟨_, _, rfl, ⟨x0, rfl, w0⟩, ⟨_, _, rfl, ⟨x1, rfl, w1⟩, rfl⟩⟩ := g0
  obtain ⟨x2, rfl, rfl, rfl, w2⟩ := open_int Try.underlying25 (hval 1 25 v1 rfl rfl) h1
  clear hA0 hval0
  exact (walk x0 x1 x2 w0 w1 w2 W).mono fun e W' ⟨he, hg⟩ => ⟨_, he, Law.post_law Law.laidOut (by kernel_rfl) hW' rfl rfl Try.underlying4 rfl hg⟩

theorem over : Rows.ipFormsRow.holds Try.pinned (OpenSpec.ofChange Rows.ipFormsSpec) :=
  OpenClaim.holds_of_wide 6 Try.f6 rfl rfl rfl rfl rfl rfl rfl ⟨rfl, rfl, rfl, rfl, rfl⟩ rfl rfl rfl rfl rfl (by kernel_rfl) Try.func6 (by kernel_rfl)
    (of_decide_eq_true (by kernel_rfl)) (by unfold Func.isWrapper; first | (rw [if_pos (by decide +kernel)]; kernel_rfl) | (rw [if_neg (by decide +kernel)]; exact ⟨rfl, rfl⟩))
    (fun os started H enc _ => lifted os started H enc)

/-- THE STATEMENT. -/
theorem proved : Rows.IpFormsSaid := over
#print axioms proved

end IpForms
end Go.Proofs.Ytflpmchckniihaa
