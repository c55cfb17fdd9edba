/-
  Headers: what Check answers. Conditions: the table 'widths' holds what its text lays ('Tab'); a header's numbers fit their kinds ('Hdr.Ok').
-/
import Derived.Test.YtgoplihimajjkaaDoorHdrB
namespace Go.Proofs.YtgoplihimajjkaaDoor
open Go.RowKit
namespace Hd
/-- The five numbers that are ints, and their fields. -/
def fv (h : Hdr) (k : Nat) : Int := ([h.po, h.ty, h.pr, h.sp, h.dp] : List Int).getD k 0
def fi (k : Nat) : Int := ([0, 3, 6, 7, 8] : List Int).getD k 0
def fit (h : Hdr) (k : Nat) : Prop := 0 ≤ fv h k ∧ fv h k ≤ full (fi k)
/-- All of a header's numbers fit their fields. -/
def okH (h : Hdr) : Bool := decide (0 ≤ h.po ∧ h.po ≤ 255 ∧ 0 ≤ h.ty ∧ h.ty ≤ 65535 ∧ 0 ≤ h.pr ∧ h.pr ≤ 255 ∧ 0 ≤ h.sp ∧ h.sp ≤ 65535 ∧ 0 ≤ h.dp ∧ h.dp ≤ 65535)
theorem okH_of {h : Hdr} (hf : ∀ j, j < 5 → fit h j) : okH h = true := by
  have f0 := hf 0 (by omega)
  have f1 := hf 1 (by omega)
  have f2 := hf 2 (by omega)
  have f3 := hf 3 (by omega)
  have f4 := hf 4 (by omega)
  simp only [okH, decide_eq_true_eq]
  exact ⟨f0.1, f0.2, f1.1, f1.2, f2.1, f2.2, f3.1, f3.2, f4.1, f4.2⟩
theorem okH_not {h : Hdr} {k : Nat} (hk : k < 5) (hf : ¬ fit h k) : okH h = false := by
  cases ho : okH h with
  | false => rfl
  | true =>
    simp only [okH, decide_eq_true_eq] at ho
    obtain ⟨a0, a1, b0, b1, c0, c1, d0, d1, e0, e1⟩ := ho
    refine absurd ?_ hf
    match k, hk with
    | 0, _ => exact ⟨a0, a1⟩
    | 1, _ => exact ⟨b0, b1⟩
    | 2, _ => exact ⟨c0, c1⟩
    | 3, _ => exact ⟨d0, d1⟩
    | 4, _ => exact ⟨e0, e1⟩
def chkH (h : Hdr) : Int := if okH h then 0 else 1
theorem chkH_yes {h : Hdr} (e : okH h = true) : chkH h = 0 := by unfold chkH; rw [if_pos e]
theorem chkH_no {h : Hdr} (e : okH h = false) : chkH h = 1 := by unfold chkH; rw [if_neg (by simp [e])]
theorem fv_bd {h : Hdr} (ho : h.Ok) : ∀ k, -9223372036854775808 ≤ fv h k ∧ fv h k ≤ 9223372036854775807
  | 0 => ho.po
  | 1 => ho.ty
  | 2 => ho.pr
  | 3 => ho.sp
  | 4 => ho.dp
  | n + 5 => by
    have e : fv h (n + 5) = 0 := by simp [fv]
    rw [e]
    omega
theorem xs_cell (h : Hdr) : ∀ k, k < 5 → (#[.int .i64 h.po, .int .i64 0, .int .i64 h.ty, .int .i64 3, .int .i64 h.pr, .int .i64 6, .int .i64 h.sp, .int .i64 7, .int .i64 h.dp, .int .i64 8] : Array Value)[k * 2]? = some (.int .i64 (fv h k)) ∧ (#[.int .i64 h.po, .int .i64 0, .int .i64 h.ty, .int .i64 3, .int .i64 h.pr, .int .i64 6, .int .i64 h.sp, .int .i64 7, .int .i64 h.dp, .int .i64 8] : Array Value)[k * 2 + 1]? = some (.int .i64 (fi k))
  | 0, _ => ⟨rfl, rfl⟩
  | 1, _ => ⟨rfl, rfl⟩
  | 2, _ => ⟨rfl, rfl⟩
  | 3, _ => ⟨rfl, rfl⟩
  | 4, _ => ⟨rfl, rfl⟩

set_option maxHeartbeats 1000000 in
theorem check_any (h : Hdr) (ho : h.Ok) (w : World) (ht : Tab w) :
    Calls Tryd.prog 16 #[.agg #[.int .i64 h.po, .int .u8 h.s0, .int .u8 h.s1, .int .u8 h.s2, .int .u8 h.s3, .int .u8 h.s4, .int .u8 h.s5, .int .u8 h.d0, .int .u8 h.d1, .int .u8 h.d2, .int .u8 h.d3, .int .u8 h.d4, .int .u8 h.d5, .int .i64 h.ty, .int .u32 h.si, .int .u32 h.di, .int .i64 h.pr, .int .i64 h.sp, .int .i64 h.dp]] w fun e w' => e = .returned (.int .i64 (chkH h)) ∧ Below w.heap.size w w' := by
  have hx : ∀ w1, Below (w.heap.size + 2) ((w.alloc (.cells #[.int .i64 h.po, .int .u8 h.s0, .int .u8 h.s1, .int .u8 h.s2, .int .u8 h.s3, .int .u8 h.s4, .int .u8 h.s5, .int .u8 h.d0, .int .u8 h.d1, .int .u8 h.d2, .int .u8 h.d3, .int .u8 h.d4, .int .u8 h.d5, .int .i64 h.ty, .int .u32 h.si, .int .u32 h.di, .int .i64 h.pr, .int .i64 h.sp, .int .i64 h.dp] 33)).alloc (.cells #[.int .i64 h.po, .int .i64 0, .int .i64 h.ty, .int .i64 3, .int .i64 h.pr, .int .i64 6, .int .i64 h.sp, .int .i64 7, .int .i64 h.dp, .int .i64 8] 68)) w1 → ∀ k, k < 5 → w1.cell? ⟨w.heap.size + 1, k * 2, none⟩ = some (.int .i64 (fv h k)) ∧ w1.cell? ⟨w.heap.size + 1, k * 2 + 1, none⟩ = some (.int .i64 (fi k)) := fun w1 hb k hk =>
    have hb' : Below (w.heap.size + 2) (Law.allocs w [(#[.int .i64 h.po, .int .u8 h.s0, .int .u8 h.s1, .int .u8 h.s2, .int .u8 h.s3, .int .u8 h.s4, .int .u8 h.s5, .int .u8 h.d0, .int .u8 h.d1, .int .u8 h.d2, .int .u8 h.d3, .int .u8 h.d4, .int .u8 h.d5, .int .i64 h.ty, .int .u32 h.si, .int .u32 h.di, .int .i64 h.pr, .int .i64 h.sp, .int .i64 h.dp], 33), (#[.int .i64 h.po, .int .i64 0, .int .i64 h.ty, .int .i64 3, .int .i64 h.pr, .int .i64 6, .int .i64 h.sp, .int .i64 7, .int .i64 h.dp, .int .i64 8], 68)]) w1 := hb
    ⟨(Law.box_at hb' (by simp) (i := 1) rfl _).trans (xs_cell h k hk).1, (Law.box_at hb' (by simp) (i := 1) rfl _).trans (xs_cell h k hk).2⟩
  have hT := (ht.alloc (.cells #[.int .i64 h.po, .int .u8 h.s0, .int .u8 h.s1, .int .u8 h.s2, .int .u8 h.s3, .int .u8 h.s4, .int .u8 h.s5, .int .u8 h.d0, .int .u8 h.d1, .int .u8 h.d2, .int .u8 h.d3, .int .u8 h.d4, .int .u8 h.d5, .int .i64 h.ty, .int .u32 h.si, .int .u32 h.di, .int .i64 h.pr, .int .i64 h.sp, .int .i64 h.dp] 33)).alloc (.cells #[.int .i64 h.po, .int .i64 0, .int .i64 h.ty, .int .i64 3, .int .i64 h.pr, .int .i64 6, .int .i64 h.sp, .int .i64 7, .int .i64 h.dp, .int .i64 8] 68)
  have hB0 : Below w.heap.size w ((w.alloc (.cells #[.int .i64 h.po, .int .u8 h.s0, .int .u8 h.s1, .int .u8 h.s2, .int .u8 h.s3, .int .u8 h.s4, .int .u8 h.s5, .int .u8 h.d0, .int .u8 h.d1, .int .u8 h.d2, .int .u8 h.d3, .int .u8 h.d4, .int .u8 h.d5, .int .i64 h.ty, .int .u32 h.si, .int .u32 h.di, .int .i64 h.pr, .int .i64 h.sp, .int .i64 h.dp] 33)).alloc (.cells #[.int .i64 h.po, .int .i64 0, .int .i64 h.ty, .int .i64 3, .int .i64 h.pr, .int .i64 6, .int .i64 h.sp, .int .i64 7, .int .i64 h.dp, .int .i64 8] 68)) := Law.below_allocs (bs := [(#[.int .i64 h.po, .int .u8 h.s0, .int .u8 h.s1, .int .u8 h.s2, .int .u8 h.s3, .int .u8 h.s4, .int .u8 h.s5, .int .u8 h.d0, .int .u8 h.d1, .int .u8 h.d2, .int .u8 h.d3, .int .u8 h.d4, .int .u8 h.d5, .int .i64 h.ty, .int .u32 h.si, .int .u32 h.di, .int .i64 h.pr, .int .i64 h.sp, .int .i64 h.dp], 33), (#[.int .i64 h.po, .int .i64 0, .int .i64 h.ty, .int .i64 3, .int .i64 h.pr, .int .i64 6, .int .i64 h.sp, .int .i64 7, .int .i64 h.dp, .int .i64 8], 68)]) (Below.refl w.heap.size _) (Nat.le_refl _)
  have HX := Lib.hid hx
  clear hx
  go_enter Tryd.func16, Tryd.ntmps16
  go_wp2
  go_loopw [4, 22] (fun _ i wr => ∃ k : Nat, k ≤ 5 ∧ i = .int .i64 k ∧ (∀ j, j < k → fit h j) ∧ Below (w.heap.size + 2) ((w.alloc (.cells #[.int .i64 h.po, .int .u8 h.s0, .int .u8 h.s1, .int .u8 h.s2, .int .u8 h.s3, .int .u8 h.s4, .int .u8 h.s5, .int .u8 h.d0, .int .u8 h.d1, .int .u8 h.d2, .int .u8 h.d3, .int .u8 h.d4, .int .u8 h.d5, .int .i64 h.ty, .int .u32 h.si, .int .u32 h.di, .int .i64 h.pr, .int .i64 h.sp, .int .i64 h.dp] 33)).alloc (.cells #[.int .i64 h.po, .int .i64 0, .int .i64 h.ty, .int .i64 3, .int .i64 h.pr, .int .i64 6, .int .i64 h.sp, .int .i64 7, .int .i64 h.dp, .int .i64 8] 68)) wr) (fun _ i _ => 5 - (intOf i).toNat)
  case atStart => exact ⟨0, by omega, rfl, fun j hj => by omega, Below.refl _ _⟩
  case round =>
    obtain ⟨k, hk, rfl, hfit, hbr⟩ := hrel
    have hTr : Tab wr := hT.keep hbr (by simp)
    by_cases hlt : k < 5
    · obtain ⟨x0, x1⟩ := HX.out wr hbr k hlt
      obtain ⟨f0, f1⟩ := fv_bd ho k
      have hR := Below.refl (wr.heap.size + 1) (wr.alloc (.cells #[.int .i64 (fv h k), .int .i64 (fi k)] 68))
      have hz := Law.hz1 hR
      have y0 := fun p => (Law.box2 wr (.int .i64 (fv h k)) (.int .i64 (fi k)) 68 p).1
      have y1 := fun p => (Law.box2 wr (.int .i64 (fv h k)) (.int .i64 (fi k)) 68 p).2
      have hTp : ∀ p : Law.BelowOf (wr.heap.size + 1) (wr.alloc (.cells #[.int .i64 (fv h k), .int .i64 (fi k)] 68)), Tab p.world := fun p => (hTr.alloc _).keep p.below (by simp)
      by_cases hneg : fv h k < 0
      · have HR := Lib.hid (chkH_no (okH_not hlt (show ¬ fit h k from fun hf => absurd hf.1 (by omega))))
        clear hfit
        go_wp2
        refine Law.wp_region_below (by kernel_rfl) (by kernel_rfl) hR ?_
        repeat (go_big_quiet_step ((go_at_call 13; with_reducible exact Law.calls_same (full_any _ _ (hTp _)))))
        refine wpQuiet_nil ?_
        rintro _ ⟨p, rfl⟩
        go_wp2
        go_ret
        exact ⟨by rw [HR.out]; rfl, Law.next1 (Law.next0 hB0 (Nat.le_refl _) hbr (by simp)) (Nat.le_refl _) p.below (Nat.le_succ _)⟩
      · have d0 : decide (fv h k < 0) = false := by simp; omega
        have e0 : IntKind.u64.wrap (fv h k) = fv h k := by rw [IntKind.wrap_u64]; omega
        by_cases hgt : full (fi k) < fv h k
        · have HR := Lib.hid (chkH_no (okH_not hlt (show ¬ fit h k from fun hf => absurd hf.2 (by omega))))
          clear hfit hneg
          go_wp2
          refine Law.wp_region_below (by kernel_rfl) (by kernel_rfl) hR ?_
          repeat (go_big_quiet_step ((go_at_call 13; with_reducible exact Law.calls_same (full_any _ _ (hTp _)))))
          refine wpQuiet_nil ?_
          rintro _ ⟨p, rfl⟩
          go_wp2
          go_ret
          exact ⟨by rw [HR.out]; rfl, Law.next1 (Law.next0 hB0 (Nat.le_refl _) hbr (by simp)) (Nat.le_refl _) p.below (Nat.le_succ _)⟩
        · have HZ := Lib.hid (show ∀ j, j < k + 1 → fit h j from fun j hj => by
            rcases Nat.lt_succ_iff_lt_or_eq.1 hj with h1 | rfl
            · exact hfit j h1
            · exact ⟨by omega, by omega⟩)
          have d1 : decide (full (fi k) < fv h k) = false := by simp; omega
          clear hfit hneg hgt
          go_wp2
          refine Law.wp_region_below (by kernel_rfl) (by kernel_rfl) hR ?_
          repeat (go_big_quiet_step ((go_at_call 13; with_reducible exact Law.calls_same (full_any _ _ (hTp _)))))
          refine wpQuiet_nil ?_
          rintro _ ⟨p, rfl⟩
          go_wp2
          go_roundw
          case rel => exact ⟨k + 1, by omega, by go_num, HZ.out, Law.next1 hbr (by simp) p.below (Nat.le_succ _)⟩
          case measure => simp [intOf]; omega
    · obtain rfl : k = 5 := by omega
      have HR := Lib.hid (chkH_yes (okH_of hfit))
      clear hfit
      go_wp2
      go_ret
      exact ⟨by rw [HR.out]; rfl, Law.next0 hB0 (Nat.le_refl _) hbr (by simp)⟩

end Hd
end Go.Proofs.YtgoplihimajjkaaDoor
