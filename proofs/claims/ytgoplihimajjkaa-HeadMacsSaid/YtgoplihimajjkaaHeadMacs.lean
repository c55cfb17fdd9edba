/-
  The law 'HeadMacs': for every input it answers true. No conditions.
-/
import Derived.Test.YtgoplihimajjkaaHead
namespace Go.Proofs.Ytgoplihimajjkaa
open Go.ChangeShapes Go.WideShapes Go.ChangeAt Go.RowKit
set_option linter.unusedVariables false
namespace HeadMacs
open Hd
set_option maxHeartbeats 1000000 in
theorem walk (m0 m1 m2 m3 m4 m5 n : Int) (w0 : (Lit.int .u8 m0).wf = true) (w1 : (Lit.int .u8 m1).wf = true) (w2 : (Lit.int .u8 m2).wf = true) (w3 : (Lit.int .u8 m3).wf = true) (w4 : (Lit.int .u8 m4).wf = true) (w5 : (Lit.int .u8 m5).wf = true) (wn : (Lit.int .u64 n).wf = true) (w : World) :
    Calls Try.prog 3 #[.agg #[.int .u8 m0, .int .u8 m1, .int .u8 m2, .int .u8 m3, .int .u8 m4, .int .u8 m5], .int .u64 n] w fun e w' => e = .returned (.bool true) ∧ Below w.heap.size w w' := by
  have b0 := Law.bd_u8 w0
  have b1 := Law.bd_u8 w1
  have b2 := Law.bd_u8 w2
  have b3 := Law.bd_u8 w3
  have b4 := Law.bd_u8 w4
  have b5 := Law.bd_u8 w5
  obtain ⟨n0, n1⟩ := Law.bd_u64 wn
  have i0 : ∀ w, (Instr.index 23 (.agg #[.int .u8 m0, .int .u8 m1, .int .u8 m2, .int .u8 m3, .int .u8 m4, .int .u8 m5]) (.int .i64 0)).run Try.prog w = .ok (.int .u8 m0) w := fun _ => by kernel_rfl
  have i1 : ∀ w, (Instr.index 23 (.agg #[.int .u8 m0, .int .u8 m1, .int .u8 m2, .int .u8 m3, .int .u8 m4, .int .u8 m5]) (.int .i64 1)).run Try.prog w = .ok (.int .u8 m1) w := fun _ => by kernel_rfl
  have i2 : ∀ w, (Instr.index 23 (.agg #[.int .u8 m0, .int .u8 m1, .int .u8 m2, .int .u8 m3, .int .u8 m4, .int .u8 m5]) (.int .i64 2)).run Try.prog w = .ok (.int .u8 m2) w := fun _ => by kernel_rfl
  have i3 : ∀ w, (Instr.index 23 (.agg #[.int .u8 m0, .int .u8 m1, .int .u8 m2, .int .u8 m3, .int .u8 m4, .int .u8 m5]) (.int .i64 3)).run Try.prog w = .ok (.int .u8 m3) w := fun _ => by kernel_rfl
  have i4 : ∀ w, (Instr.index 23 (.agg #[.int .u8 m0, .int .u8 m1, .int .u8 m2, .int .u8 m3, .int .u8 m4, .int .u8 m5]) (.int .i64 4)).run Try.prog w = .ok (.int .u8 m4) w := fun _ => by kernel_rfl
  have i5 : ∀ w, (Instr.index 23 (.agg #[.int .u8 m0, .int .u8 m1, .int .u8 m2, .int .u8 m3, .int .u8 m4, .int .u8 m5]) (.int .i64 5)).run Try.prog w = .ok (.int .u8 m5) w := fun _ => by kernel_rfl
  have q1 : num 0 0 0 0 1 2 = 258 := by decide
  have q2 := num_of n
  obtain ⟨x0, x1, x2, x3, x4, x5, x6, x7⟩ := of_num m0 m1 m2 m3 m4 m5 b0 b1 b2 b3 b4 b5
  have me := mac_eq
  go_enter Try.func3, Try.ntmps3
  go_wp2_with fail
  refine (of_any _ _).mono ?_
  rintro e w1 ⟨rfl, hB⟩
  have c0 : w1.cell? ⟨w.heap.size, 0, none⟩ = some (.int .u8 m0) := Law.boxn hB (by simp) 0
  have c1 : w1.cell? ⟨w.heap.size, 1, none⟩ = some (.int .u8 m1) := Law.boxn hB (by simp) 1
  have c2 : w1.cell? ⟨w.heap.size, 2, none⟩ = some (.int .u8 m2) := Law.boxn hB (by simp) 2
  have c3 : w1.cell? ⟨w.heap.size, 3, none⟩ = some (.int .u8 m3) := Law.boxn hB (by simp) 3
  have c4 : w1.cell? ⟨w.heap.size, 4, none⟩ = some (.int .u8 m4) := Law.boxn hB (by simp) 4
  have c5 : w1.cell? ⟨w.heap.size, 5, none⟩ = some (.int .u8 m5) := Law.boxn hB (by simp) 5
  replace hB := Law.next1 (Below.refl w.heap.size w) (Nat.le_refl _) hB (by simp)
  go_wp2_with fail
  refine (num_any _ _ _ _ _ _ (by omega) (by omega) (by omega) (by omega) (by omega) (by omega) _).mono ?_
  rintro e w2 ⟨rfl, hb2⟩
  replace c0 := Law.keep0 hb2 (Nat.le_refl _) c0
  replace c1 := Law.keep0 hb2 (Nat.le_refl _) c1
  replace c2 := Law.keep0 hb2 (Nat.le_refl _) c2
  replace c3 := Law.keep0 hb2 (Nat.le_refl _) c3
  replace c4 := Law.keep0 hb2 (Nat.le_refl _) c4
  replace c5 := Law.keep0 hb2 (Nat.le_refl _) c5
  replace hB := Law.next0 hB (Nat.le_refl _) hb2 (Nat.le_refl _)
  clear hb2
  go_wp2
  refine wp_loop_rounds 7 ?_
  iterate 6 (rw [rounds_succ]; go_wp2)
  rw [rounds_succ]
  clear i0 i1 i2 i3 i4 i5
  go_wp2
  have hR := Below.refl w2.heap.size w2
  have hz : w2.heap.size ≤ w2.heap.size := Nat.le_refl _
  have d0 := Law.carry hR (Nat.le_refl _) c0
  have d1 := Law.carry hR (Nat.le_refl _) c1
  have d2 := Law.carry hR (Nat.le_refl _) c2
  have d3 := Law.carry hR (Nat.le_refl _) c3
  have d4 := Law.carry hR (Nat.le_refl _) c4
  have d5 := Law.carry hR (Nat.le_refl _) c5
  unfold num at x0 x1 x2 x3 x4 x5 x6 x7
  have nb0 : 0 ≤ n / 1099511627776 % 256 ∧ n / 1099511627776 % 256 < 256 := by omega
  have nb1 : 0 ≤ n / 4294967296 % 256 ∧ n / 4294967296 % 256 < 256 := by omega
  have nb2 : 0 ≤ n / 16777216 % 256 ∧ n / 16777216 % 256 < 256 := by omega
  have nb3 : 0 ≤ n / 65536 % 256 ∧ n / 65536 % 256 < 256 := by omega
  have nb4 : 0 ≤ n / 256 % 256 ∧ n / 256 % 256 < 256 := by omega
  have nb5 : 0 ≤ n % 256 ∧ n % 256 < 256 := by omega
  refine Law.wp_region_below (by kernel_rfl) (by kernel_rfl) hR ?_
  repeat (go_big_quiet_step (first | (go_at_call 5; with_reducible exact Law.calls_below hz (num_exp _ _ _ _ _ _ b0 b1 b2 b3 b4 b5 _)) | (go_at_call 5; with_reducible exact Law.calls_below hz (num_any _ _ _ _ _ _ nb0 nb1 nb2 nb3 nb4 nb5 _)) | (go_at_call 4; with_reducible exact Law.calls_below hz (of_any _ _))))
  refine wpQuiet_nil ?_
  rintro _ ⟨p, rfl⟩
  go_wp2
  go_ret
  exact ⟨rfl, Law.next0 hB (Nat.le_refl _) p.below (Nat.le_refl _)⟩

/-! ### The row's step -/
set_option maxRecDepth 100000 in
theorem lifted (os : Os) (started : os.Started) (H : Type) (enc : TypeId × Value → H) :
    ReturnsInHanded {} Try.checked os 3 .any (Rows.headMacsSpec.pre6 enc Try.prog Try.f3 Rows.headMacsRow.domain false) (Rows.headMacsSpec.post enc Try.prog Try.f3 false true false false) := by
  refine returnsInHanded_of_change (C := Try.checked) Law.own started (by kernel_rfl) Try.func3
    (ChangeSpec.witness6 (enc := enc) (C := Try.checked) false ⟨#[], #[.agg #[.int .u8 0, .int .u8 0, .int .u8 0, .int .u8 0, .int .u8 0, .int .u8 0], .int .u64 0], []⟩ 8 (by kernel_rfl) (by kernel_rfl) (by kernel_rfl) (by kernel_rfl)) ?_
  intro W base args ds gs before hval0 hW hcnd _
  have hval : ∀ (j : Nat) t v, Try.f3.params[j]? = some t → args[j]? = some v → Value.okWide Try.prog W .any base t v := hval0
  have hW' := hW
  obtain ⟨p, q, hA0, hV, rfl, hfz, hnd⟩ := hW
  have hA : DataW.TrodAll enc Try.prog W 0 (fun _ => true) true Try.f3.params.toList args.toList ds p := hA0
  rw [Try.params3] at hA hval
  obtain ⟨v0, vs0, d0, ds0, p0, q0, hargs, rfl, rfl, h0, r0⟩ := trodAll_cons hA
  obtain ⟨v1, vs1, d1, ds1, p1, q1, rfl, rfl, rfl, h1, r1⟩ := trodAll_cons r0
  obtain ⟨rfl, rfl, rfl⟩ := trodAll_nil r1
  obtain rfl : args = #[v0, v1] := by cases args; simp_all
  obtain ⟨rfl, rfl⟩ := trodVars_none hV
  obtain ⟨cs0, rfl, g0⟩ := Law.open_flat (n := 8) (ks := [.int .u8, .int .u8, .int .u8, .int .u8, .int .u8, .int .u8]) (by first | exact .inl ⟨_, Try.underlying23⟩ | exact .inr ⟨_, _, Try.underlying23⟩) (by kernel_rfl) (hval 0 23 v0 rfl rfl) h0
  obtain ⟨_, _, rfl, ⟨x0, rfl, w0⟩, ⟨_, _, rfl, ⟨x1, rfl, w1⟩, ⟨_, _, rfl, ⟨x2, rfl, w2⟩, ⟨_, _, rfl, ⟨x3, rfl, w3⟩, ⟨_, _, rfl, ⟨x4, rfl, w4⟩, ⟨_, _, rfl, ⟨x5, rfl, w5⟩, rfl⟩⟩⟩⟩⟩⟩ := g0
  obtain ⟨x6, rfl, rfl, rfl, w6⟩ := open_int Try.underlying24 (hval 1 24 v1 rfl rfl) h1
  clear hA0 hval0
  exact (walk x0 x1 x2 x3 x4 x5 x6 w0 w1 w2 w3 w4 w5 w6 W).mono fun e W' ⟨he, hg⟩ => ⟨_, he, Law.post_law Law.laidOut (by kernel_rfl) hW' rfl rfl Try.underlying4 rfl hg⟩

theorem over : Rows.headMacsRow.holds Try.pinned (OpenSpec.ofChange Rows.headMacsSpec) :=
  OpenClaim.holds_of_wide 3 Try.f3 rfl rfl rfl rfl rfl rfl rfl ⟨rfl, rfl, rfl, rfl, rfl⟩ rfl rfl rfl rfl rfl (by kernel_rfl) Try.func3 (by kernel_rfl)
    (of_decide_eq_true (by kernel_rfl)) (by unfold Func.isWrapper; first | (rw [if_pos (by decide +kernel)]; kernel_rfl) | (rw [if_neg (by decide +kernel)]; exact ⟨rfl, rfl⟩))
    (fun os started H enc _ => lifted os started H enc)

/-- THE STATEMENT. -/
theorem proved : Rows.HeadMacsSaid := over
#print axioms proved

end HeadMacs
end Go.Proofs.Ytgoplihimajjkaa
