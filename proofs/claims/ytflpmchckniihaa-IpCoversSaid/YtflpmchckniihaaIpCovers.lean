/-
  The law 'IpCovers': for every input it answers true. No conditions.
-/
import Derived.Test.YtflpmchckniihaaIpB
import Derived.Test.YtflpmchckniihaaRefThree
namespace Go.Proofs.Ytflpmchckniihaa
open Go.ChangeShapes Go.WideShapes Go.ChangeAt Go.RowKit
open Pl
set_option linter.unusedVariables false
namespace IpCovers

theorem walk (a n b m : Int) (wa : (Lit.int .u32 a).wf = true) (wn : (Lit.int .i64 n).wf = true) (wb : (Lit.int .u32 b).wf = true) (wm : (Lit.int .i64 m).wf = true) (w : World) :
    Calls Try.prog 7 #[.agg #[.int .u32 a, .int .i64 n], .agg #[.int .u32 b, .int .i64 m]] w fun e w' => e = .returned (.bool true) ∧ Below w.heap.size w w' := by
  obtain ⟨h0, h1⟩ := Law.bd_u32 wa
  obtain ⟨b0, b1⟩ := Law.bd_u32 wb
  have t1 : covers 167772160 8 167837696 16 = true := by decide
  have hB := Below.refl (w.heap.size + 2) ((w.alloc (.cells #[.int .u32 a, .int .i64 n] 33)).alloc (.cells #[.int .u32 b, .int .i64 m] 33))
  cases hA : covers a n b m <;> cases hC : covers b m a n
  all_goals
    have m1 : meets a n b m = (covers a n b m || covers b m a n) := rfl
    have m2 : meets b m a n = (covers b m a n || covers a n b m) := rfl
    rw [hA, hC] at m1 m2
    simp only [Bool.or_true, Bool.or_false, Bool.or_self] at m1 m2
    go_enter Try.func7, Try.ntmps7
    go_wp2_with fail
    refine (Ip.covers_any _ _ _ _ (by omega) (by omega) (by omega) (by omega) _).mono ?_
    rintro e w1 ⟨rfl, hb1⟩
    replace hB := hB.trans (hb1.mono (Nat.le_trans (by simp) hB.size))
    clear hb1
    obtain ⟨c0, c1, c2, c3⟩ := Ip.box22 _ _ _ _ _ _ _ hB (Nat.le_refl _)
    go_wp2_with fail
    refine (RefOne.covers_any _ _ _ _ h0 h1 b0 b1 _).mono ?_
    rintro e w2 ⟨rfl, hb2⟩
    replace hB := hB.trans (hb2.mono (Nat.le_trans (by simp) hB.size))
    clear hb2
    clear c0 c1 c2 c3
    obtain ⟨c0, c1, c2, c3⟩ := Ip.box22 _ _ _ _ _ _ _ hB (Nat.le_refl _)
    go_wp2_with fail
    refine (RefOne.covers_any _ _ _ _ b0 b1 h0 h1 _).mono ?_
    rintro e w3 ⟨rfl, hb3⟩
    replace hB := hB.trans (hb3.mono (Nat.le_trans (by simp) hB.size))
    clear hb3
    clear c0 c1 c2 c3
    obtain ⟨c0, c1, c2, c3⟩ := Ip.box22 _ _ _ _ _ _ _ hB (Nat.le_refl _)
    go_wp2_with fail
    refine (Ip.covers_any _ _ _ _ h0 h1 b0 b1 _).mono ?_
    rintro e w4 ⟨rfl, hb4⟩
    replace hB := hB.trans (hb4.mono (Nat.le_trans (by simp) hB.size))
    clear hb4
    clear c0 c1 c2 c3
    obtain ⟨c0, c1, c2, c3⟩ := Ip.box22 _ _ _ _ _ _ _ hB (Nat.le_refl _)
    go_wp2_with fail
    refine (Ip.covers_any _ _ _ _ b0 b1 h0 h1 _).mono ?_
    rintro e w5 ⟨rfl, hb5⟩
    replace hB := hB.trans (hb5.mono (Nat.le_trans (by simp) hB.size))
    clear hb5
    clear c0 c1 c2 c3
    obtain ⟨c0, c1, c2, c3⟩ := Ip.box22 _ _ _ _ _ _ _ hB (Nat.le_refl _)
    go_wp2_with fail
    refine (Ip.meets_any _ _ _ _ h0 h1 b0 b1 _).mono ?_
    rintro e w6 ⟨rfl, hb6⟩
    replace hB := hB.trans (hb6.mono (Nat.le_trans (by simp) hB.size))
    clear hb6
    clear c0 c1 c2 c3
    obtain ⟨c0, c1, c2, c3⟩ := Ip.box22 _ _ _ _ _ _ _ hB (Nat.le_refl _)
    go_wp2_with fail
    refine (Ip.meets_any _ _ _ _ b0 b1 h0 h1 _).mono ?_
    rintro e w7 ⟨rfl, hb7⟩
    replace hB := hB.trans (hb7.mono (Nat.le_trans (by simp) hB.size))
    clear hb7
    clear c0 c1 c2 c3
    obtain ⟨c0, c1, c2, c3⟩ := Ip.box22 _ _ _ _ _ _ _ hB (Nat.le_refl _)
    go_wp2
    go_ret
    exact ⟨rfl, Ip.below_box2 (by omega) hB⟩

/-! ### The row's step -/
set_option maxRecDepth 100000 in
theorem lifted (os : Os) (started : os.Started) (H : Type) (enc : TypeId × Value → H) :
    ReturnsInHanded {} Try.checked os 7 .any (Rows.ipCoversSpec.pre6 enc Try.prog Try.f7 Rows.ipCoversRow.domain false) (Rows.ipCoversSpec.post enc Try.prog Try.f7 false true false false) := by
  refine returnsInHanded_of_change (C := Try.checked) Law.own started (by kernel_rfl) Try.func7
    (ChangeSpec.witness6 (enc := enc) (C := Try.checked) false ⟨#[], #[.agg #[.int .u32 0, .int .i64 0], .agg #[.int .u32 0, .int .i64 0]], []⟩ 8 (by kernel_rfl) (by kernel_rfl) (by kernel_rfl) (by kernel_rfl)) ?_
  intro W base args ds gs before hval0 hW hcnd _
  have hval : ∀ (j : Nat) t v, Try.f7.params[j]? = some t → args[j]? = some v → Value.okWide Try.prog W .any base t v := hval0
  have hW' := hW
  obtain ⟨p, q, hA0, hV, rfl, hfz, hnd⟩ := hW
  have hA : DataW.TrodAll enc Try.prog W 0 (fun _ => true) true Try.f7.params.toList args.toList ds p := hA0
  rw [Try.params7] at hA hval
  obtain ⟨v0, vs0, d0, ds0, p0, q0, hargs, rfl, rfl, h0, r0⟩ := trodAll_cons hA
  obtain ⟨v1, vs1, d1, ds1, p1, q1, rfl, rfl, rfl, h1, r1⟩ := trodAll_cons r0
  obtain ⟨rfl, rfl, rfl⟩ := trodAll_nil r1
  obtain rfl : args = #[v0, v1] := by cases args; simp_all
  obtain ⟨rfl, rfl⟩ := trodVars_none hV
  obtain ⟨cs0, rfl, g0⟩ := Law.open_flat (n := 8) (ks := [.int .u32, .int .i64]) (by first | exact .inl ⟨_, Try.underlying33⟩ | exact .inr ⟨_, _, Try.underlying33⟩) (by kernel_rfl) (hval 0 33 v0 rfl rfl) h0
  obtain ⟨_, _, rfl, ⟨x0, rfl, w0⟩, ⟨_, _, rfl, ⟨x1, rfl, w1⟩, rfl⟩⟩ := g0
  obtain ⟨cs1, rfl, g1⟩ := Law.open_flat (n := 8) (ks := [.int .u32, .int .i64]) (by first | exact .inl ⟨_, Try.underlying33⟩ | exact .inr ⟨_, _, Try.underlying33⟩) (by kernel_rfl) (hval 1 33 v1 rfl rfl) h1
  obtain ⟨_, _, rfl, ⟨x2, rfl, w2⟩, ⟨_, _, rfl, ⟨x3, rfl, w3⟩, rfl⟩⟩ := g1
  clear hA0 hval0
  exact (walk x0 x1 x2 x3 w0 w1 w2 w3 W).mono fun e W' ⟨he, hg⟩ => ⟨_, he, Law.post_law Law.laidOut (by kernel_rfl) hW' rfl rfl Try.underlying4 rfl hg⟩

theorem over : Rows.ipCoversRow.holds Try.pinned (OpenSpec.ofChange Rows.ipCoversSpec) :=
  OpenClaim.holds_of_wide 7 Try.f7 rfl rfl rfl rfl rfl rfl rfl ⟨rfl, rfl, rfl, rfl, rfl⟩ rfl rfl rfl rfl rfl (by kernel_rfl) Try.func7 (by kernel_rfl)
    (of_decide_eq_true (by kernel_rfl)) (by unfold Func.isWrapper; first | (rw [if_pos (by decide +kernel)]; kernel_rfl) | (rw [if_neg (by decide +kernel)]; exact ⟨rfl, rfl⟩))
    (fun os started H enc _ => lifted os started H enc)

/-- THE STATEMENT. -/
theorem proved : Rows.IpCoversSaid := over
#print axioms proved

end IpCovers
end Go.Proofs.Ytflpmchckniihaa
