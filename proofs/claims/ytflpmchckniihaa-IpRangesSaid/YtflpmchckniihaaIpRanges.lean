/-
  The law 'IpRanges': for every input it answers true. No conditions.
-/
import Derived.Test.YtflpmchckniihaaIpC
import Derived.Test.YtflpmchckniihaaIpLawMath
namespace Go.Proofs.Ytflpmchckniihaa
open Go.ChangeShapes Go.WideShapes Go.ChangeAt Go.RowKit
open Pl
set_option linter.unusedVariables false
namespace IpRanges

theorem t0 : (167772160 : Int) % K 8 = 0 := by decide
theorem bit_mk (n : Nat) (hn : n ≤ 32) (i : Nat) (hi : i < 32) : Ip.bit (mk n) i = if i < n then 1 else 0 := by
  unfold Ip.bit
  rw [if_neg (by omega), show (31 - (i : Int)).toNat = 31 - i from by omega, mk_bit n hn i hi]
set_option maxHeartbeats 1000000 in
theorem walk (a n : Int) (wa : (Lit.int .u32 a).wf = true) (wn : (Lit.int .i64 n).wf = true) (w : World) :
    Calls Try.prog 8 #[.agg #[.int .u32 a, .int .i64 n]] w fun e w' => e = .returned (.bool true) ∧ Below w.heap.size w w' := by
  obtain ⟨h0, h1⟩ := Law.bd_u32 wa
  have t1 : 167772160 + (K 8 - 1) = 184549375 := by decide
  cases hk : ok a n with
  | false =>
    have hc := Ip.chk_no hk
    go_enter Try.func8, Try.ntmps8
    have hB := Below.refl w.heap.size w
    go_wp2_with fail
    refine (Ip.last_ok _ _ (by omega) (by omega) t0 _).mono ?_
    rintro e w1 ⟨rfl, hb1⟩
    obtain ⟨c0, c1⟩ := Law.box2b hb1 (by simp)
    replace hB := Law.next1 hB (Nat.le_refl _) hb1 (by simp)
    clear hb1
    have lc0 := Law.blk_lt c0
    go_wp2_with fail
    refine (Ip.check_any _ _ h0 h1 _).mono ?_
    rintro e w2 ⟨rfl, hb2⟩
    replace c0 := Law.keep0 hb2 (by simp) c0
    replace c1 := Law.keep0 hb2 (by simp) c1
    replace hB := Law.next0 hB (Nat.le_refl _) hb2 (by simp)
    clear hb2
    replace lc0 := Law.blk_lt c0
    go_wp2
    go_ret
    exact ⟨rfl, hB⟩
  | true =>
    have hc := Ip.chk_yes hk
    obtain ⟨n0, n1, m0⟩ := ok_iff.1 hk
    obtain ⟨N, rfl⟩ := Int.eq_ofNat_of_zero_le n0
    have hN : N ≤ 32 := by omega
    go_enter Try.func8, Try.ntmps8
    have hB := Below.refl w.heap.size w
    go_wp2_with fail
    refine (Ip.last_ok _ _ (by omega) (by omega) t0 _).mono ?_
    rintro e w1 ⟨rfl, hb1⟩
    obtain ⟨c0, c1⟩ := Law.box2b hb1 (by simp)
    replace hB := Law.next1 hB (Nat.le_refl _) hb1 (by simp)
    clear hb1
    have lc0 := Law.blk_lt c0
    go_wp2_with fail
    refine (Ip.check_any _ _ h0 h1 _).mono ?_
    rintro e w2 ⟨rfl, hb2⟩
    replace c0 := Law.keep0 hb2 (by simp) c0
    replace c1 := Law.keep0 hb2 (by simp) c1
    replace hB := Law.next0 hB (Nat.le_refl _) hb2 (by simp)
    clear hb2
    replace lc0 := Law.blk_lt c0
    go_wp2
    go_loop [3, 4] (fun s i => ∃ k : Nat, k ≤ 32 ∧ i = .int .i64 k ∧ s = .int .i64 ((min k N : Nat) : Int)) (fun _ i => 32 - (intOf i).toNat)
    case atStart => exact ⟨0, by omega, rfl, by simp⟩
    case round =>
      obtain ⟨k, hkk, rfl, rfl⟩ := hrel
      by_cases hlt : k < 32
      · have hbit := bit_mk N hN k hlt
        by_cases hkN : k < N
        · rw [if_pos hkN] at hbit
          have hm : min k N = k := by omega
          go_wp2_with fail
          refine (Ip.mask_any _ _).mono ?_
          rintro e w' ⟨rfl, rfl⟩
          go_wp2_with fail
          refine (Ip.bit_any _ _ (mk_lo _) (mk_hi _) _).mono ?_
          rintro e w' ⟨rfl, rfl⟩
          go_wp2
          go_round
          case rel => exact ⟨k + 1, by omega, by go_num, by rw [show min (k + 1) N = k + 1 from by omega]; go_num⟩
          case measure => simp [intOf]; omega
        · rw [if_neg hkN] at hbit
          have hm : min k N = N := by omega
          go_wp2_with fail
          refine (Ip.mask_any _ _).mono ?_
          rintro e w' ⟨rfl, rfl⟩
          go_wp2_with fail
          refine (Ip.bit_any _ _ (mk_lo _) (mk_hi _) _).mono ?_
          rintro e w' ⟨rfl, rfl⟩
          go_wp2
          go_round
          case rel => exact ⟨k + 1, by omega, by go_num, by rw [show min (k + 1) N = N from by omega]; try go_num⟩
          case measure => simp [intOf]; omega
      · obtain rfl : k = 32 := by omega
        have hm : min 32 N = N := by omega
        obtain ⟨l, hl⟩ : ∃ l, a + (K N - 1) = l := ⟨_, rfl⟩
        have HL := Lib.hid hl
        have hR := Below.refl w2.heap.size w2
        have hz : w2.heap.size ≤ w2.heap.size := Nat.le_refl _
        have d0 := Law.carry hR (Nat.le_refl _) c0
        have d1 := Law.carry hR (Nat.le_refl _) c1
        have kp := K_pos (N : Int)
        have l0 : a ≤ l := by omega
        have l1 : l < 4294967296 := by have := ok_top hk h1; omega
        have f1 : has a N a = true := by rw [has_range hk]; simp; omega
        have f2 : has a N l = true := by rw [has_range hk]; simp; omega
        have f0 : (l - a + 1 == IntKind.u64.wrap (2 ^ (32 - N))) = true := by
          have e : (2 : Int) ^ (32 - N) = K N := by rw [K_of (N : Int) (by omega) (by omega)]; congr 1; omega
          have := K_le (N : Int)
          rw [e, IntKind.wrap_u64]
          simp
          omega
        have l2 : 0 ≤ l := by omega
        by_cases ha : a = 0
        · have q1 : (a == 0) = true := by simp [ha]
          by_cases hm : l = 4294967295
          · have q2 : (l == 4294967295) = true := by simp [hm]
            clear hl kp ha hm
            go_wp2
            refine Law.wp_region_below (by kernel_rfl) (by kernel_rfl) hR ?_
            repeat (go_big_quiet_step (first | (go_at_call 25; with_reducible exact Law.calls_below hz (Ip.last_is HL.out h0 h1 m0 _)) | (go_at_call 26; with_reducible exact Law.calls_below hz (Ip.first_any _ _ _))))
            refine wpQuiet_nil ?_
            rintro _ ⟨p, rfl⟩
            go_wp2
            refine Law.wp_region_below (by kernel_rfl) (by kernel_rfl) p.below ?_
            repeat (go_big_quiet_step (first | (go_at_call 25; with_reducible exact Law.calls_below hz (Ip.last_is HL.out h0 h1 m0 _)) | (go_at_call 26; with_reducible exact Law.calls_below hz (Ip.first_any _ _ _)) | (go_at_call 20; with_reducible exact Law.calls_below hz (Ip.has_is f1 h0 h1 h0 h1 _)) | (go_at_call 20; with_reducible exact Law.calls_below hz (Ip.has_is f2 h0 h1 l2 l1 _)) | (go_at_call 20; with_reducible exact Law.calls_below hz (Ip.has_is f3 h0 h1 z0 z1 _)) | (go_at_call 20; with_reducible exact Law.calls_below hz (Ip.has_is f4 h0 h1 z2 z3 _))))
            refine wpQuiet_nil ?_
            rintro _ ⟨q, rfl⟩
            go_wp2
            go_ret
            exact ⟨rfl, Law.next0 hB (Nat.le_refl _) q.below (Nat.le_refl _)⟩
          · have q2 : (l == 4294967295) = false := by simp [hm]
            have f4 : has a N (l + 1) = false := by rw [has_range hk]; simp; omega
            have z2 : 0 ≤ l + 1 := by omega
            have z3 : l + 1 < 4294967296 := by omega
            clear hl kp ha hm
            go_wp2
            refine Law.wp_region_below (by kernel_rfl) (by kernel_rfl) hR ?_
            repeat (go_big_quiet_step (first | (go_at_call 25; with_reducible exact Law.calls_below hz (Ip.last_is HL.out h0 h1 m0 _)) | (go_at_call 26; with_reducible exact Law.calls_below hz (Ip.first_any _ _ _))))
            refine wpQuiet_nil ?_
            rintro _ ⟨p, rfl⟩
            go_wp2
            refine Law.wp_region_below (by kernel_rfl) (by kernel_rfl) p.below ?_
            repeat (go_big_quiet_step (first | (go_at_call 25; with_reducible exact Law.calls_below hz (Ip.last_is HL.out h0 h1 m0 _)) | (go_at_call 26; with_reducible exact Law.calls_below hz (Ip.first_any _ _ _)) | (go_at_call 20; with_reducible exact Law.calls_below hz (Ip.has_is f1 h0 h1 h0 h1 _)) | (go_at_call 20; with_reducible exact Law.calls_below hz (Ip.has_is f2 h0 h1 l2 l1 _)) | (go_at_call 20; with_reducible exact Law.calls_below hz (Ip.has_is f3 h0 h1 z0 z1 _)) | (go_at_call 20; with_reducible exact Law.calls_below hz (Ip.has_is f4 h0 h1 z2 z3 _))))
            refine wpQuiet_nil ?_
            rintro _ ⟨q, rfl⟩
            go_wp2
            go_ret
            exact ⟨rfl, Law.next0 hB (Nat.le_refl _) q.below (Nat.le_refl _)⟩
        · have q1 : (a == 0) = false := by simp [ha]
          have f3 : has a N (a - 1) = false := by rw [has_range hk]; simp; omega
          have z0 : 0 ≤ a - 1 := by omega
          have z1 : a - 1 < 4294967296 := by omega
          by_cases hm : l = 4294967295
          · have q2 : (l == 4294967295) = true := by simp [hm]
            clear hl kp ha hm
            go_wp2
            refine Law.wp_region_below (by kernel_rfl) (by kernel_rfl) hR ?_
            repeat (go_big_quiet_step (first | (go_at_call 25; with_reducible exact Law.calls_below hz (Ip.last_is HL.out h0 h1 m0 _)) | (go_at_call 26; with_reducible exact Law.calls_below hz (Ip.first_any _ _ _))))
            refine wpQuiet_nil ?_
            rintro _ ⟨p, rfl⟩
            go_wp2
            refine Law.wp_region_below (by kernel_rfl) (by kernel_rfl) p.below ?_
            repeat (go_big_quiet_step (first | (go_at_call 25; with_reducible exact Law.calls_below hz (Ip.last_is HL.out h0 h1 m0 _)) | (go_at_call 26; with_reducible exact Law.calls_below hz (Ip.first_any _ _ _)) | (go_at_call 20; with_reducible exact Law.calls_below hz (Ip.has_is f1 h0 h1 h0 h1 _)) | (go_at_call 20; with_reducible exact Law.calls_below hz (Ip.has_is f2 h0 h1 l2 l1 _)) | (go_at_call 20; with_reducible exact Law.calls_below hz (Ip.has_is f3 h0 h1 z0 z1 _)) | (go_at_call 20; with_reducible exact Law.calls_below hz (Ip.has_is f4 h0 h1 z2 z3 _))))
            refine wpQuiet_nil ?_
            rintro _ ⟨q, rfl⟩
            go_wp2
            go_ret
            exact ⟨rfl, Law.next0 hB (Nat.le_refl _) q.below (Nat.le_refl _)⟩
          · have q2 : (l == 4294967295) = false := by simp [hm]
            have f4 : has a N (l + 1) = false := by rw [has_range hk]; simp; omega
            have z2 : 0 ≤ l + 1 := by omega
            have z3 : l + 1 < 4294967296 := by omega
            clear hl kp ha hm
            go_wp2
            refine Law.wp_region_below (by kernel_rfl) (by kernel_rfl) hR ?_
            repeat (go_big_quiet_step (first | (go_at_call 25; with_reducible exact Law.calls_below hz (Ip.last_is HL.out h0 h1 m0 _)) | (go_at_call 26; with_reducible exact Law.calls_below hz (Ip.first_any _ _ _))))
            refine wpQuiet_nil ?_
            rintro _ ⟨p, rfl⟩
            go_wp2
            refine Law.wp_region_below (by kernel_rfl) (by kernel_rfl) p.below ?_
            repeat (go_big_quiet_step (first | (go_at_call 25; with_reducible exact Law.calls_below hz (Ip.last_is HL.out h0 h1 m0 _)) | (go_at_call 26; with_reducible exact Law.calls_below hz (Ip.first_any _ _ _)) | (go_at_call 20; with_reducible exact Law.calls_below hz (Ip.has_is f1 h0 h1 h0 h1 _)) | (go_at_call 20; with_reducible exact Law.calls_below hz (Ip.has_is f2 h0 h1 l2 l1 _)) | (go_at_call 20; with_reducible exact Law.calls_below hz (Ip.has_is f3 h0 h1 z0 z1 _)) | (go_at_call 20; with_reducible exact Law.calls_below hz (Ip.has_is f4 h0 h1 z2 z3 _))))
            refine wpQuiet_nil ?_
            rintro _ ⟨q, rfl⟩
            go_wp2
            go_ret
            exact ⟨rfl, Law.next0 hB (Nat.le_refl _) q.below (Nat.le_refl _)⟩

/-! ### The row's step -/
set_option maxRecDepth 100000 in
theorem lifted (os : Os) (started : os.Started) (H : Type) (enc : TypeId × Value → H) :
    ReturnsInHanded {} Try.checked os 8 .any (Rows.ipRangesSpec.pre6 enc Try.prog Try.f8 Rows.ipRangesRow.domain false) (Rows.ipRangesSpec.post enc Try.prog Try.f8 false true false false) := by
  refine returnsInHanded_of_change (C := Try.checked) Law.own started (by kernel_rfl) Try.func8
    (ChangeSpec.witness6 (enc := enc) (C := Try.checked) false ⟨#[], #[.agg #[.int .u32 0, .int .i64 0]], []⟩ 8 (by kernel_rfl) (by kernel_rfl) (by kernel_rfl) (by kernel_rfl)) ?_
  intro W base args ds gs before hval0 hW hcnd _
  have hval : ∀ (j : Nat) t v, Try.f8.params[j]? = some t → args[j]? = some v → Value.okWide Try.prog W .any base t v := hval0
  have hW' := hW
  obtain ⟨p, q, hA0, hV, rfl, hfz, hnd⟩ := hW
  have hA : DataW.TrodAll enc Try.prog W 0 (fun _ => true) true Try.f8.params.toList args.toList ds p := hA0
  rw [Try.params8] at hA hval
  obtain ⟨v0, vs0, d0, ds0, p0, q0, hargs, rfl, rfl, h0, r0⟩ := trodAll_cons hA
  obtain ⟨rfl, rfl, rfl⟩ := trodAll_nil r0
  obtain rfl : args = #[v0] := by cases args; simp_all
  obtain ⟨rfl, rfl⟩ := trodVars_none hV
  obtain ⟨cs0, rfl, g0⟩ := Law.open_flat (n := 8) (ks := [.int .u32, .int .i64]) (by first | exact .inl ⟨_, Try.underlying33⟩ | exact .inr ⟨_, _, Try.underlying33⟩) (by kernel_rfl) (hval 0 33 v0 rfl rfl) h0
  obtain ⟨_, _, rfl, ⟨x0, rfl, w0⟩, ⟨_, _, rfl, ⟨x1, rfl, w1⟩, rfl⟩⟩ := g0
  clear hA0 hval0
  exact (walk x0 x1 w0 w1 W).mono fun e W' ⟨he, hg⟩ => ⟨_, he, Law.post_law Law.laidOut (by kernel_rfl) hW' rfl rfl Try.underlying4 rfl hg⟩

theorem over : Rows.ipRangesRow.holds Try.pinned (OpenSpec.ofChange Rows.ipRangesSpec) :=
  OpenClaim.holds_of_wide 8 Try.f8 rfl rfl rfl rfl rfl rfl rfl ⟨rfl, rfl, rfl, rfl, rfl⟩ rfl rfl rfl rfl rfl (by kernel_rfl) Try.func8 (by kernel_rfl)
    (of_decide_eq_true (by kernel_rfl)) (by unfold Func.isWrapper; first | (rw [if_pos (by decide +kernel)]; kernel_rfl) | (rw [if_neg (by decide +kernel)]; exact ⟨rfl, rfl⟩))
    (fun os started H enc _ => lifted os started H enc)

/-- THE STATEMENT. -/
theorem proved : Rows.IpRangesSaid := over
#print axioms proved

end IpRanges
end Go.Proofs.Ytflpmchckniihaa
