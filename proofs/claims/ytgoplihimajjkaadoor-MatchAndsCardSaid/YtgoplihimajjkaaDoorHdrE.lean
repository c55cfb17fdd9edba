/-
  Headers: what Cmp answers. Conditions: the table 'widths' holds what its text lays ('Tab'); a header's numbers fit their kinds ('Hdr.Ok').
-/
import Derived.Test.YtgoplihimajjkaaDoorHdrD
import Derived.Test.YtgoplihimajjkaaDoorRow
namespace Go.Proofs.YtgoplihimajjkaaDoor
open Go.RowKit
namespace Hd
theorem quiet_hdr {ops : Array Oper} {rest : List Oper} {o : Oper} {a : Act} {B : Nat} {w0 : World} {Q : Act → Prop} (hw : Region.wanted o (yielded ops a.tmps) = true) (x : Operand) (ho : o.op = .load 33 x)
    (g : Nat) (hx : a.eval x = .pointer (some ⟨g, 0, none⟩)) (h : Hdr) (t : TypeId) (fr : Nat × Nat) (hg : ∀ p : Law.BelowOf B w0, p.world.heap[g]? = some (.cells #[.int .i64 h.po, .int .u8 h.s0, .int .u8 h.s1, .int .u8 h.s2, .int .u8 h.s3, .int .u8 h.s4, .int .u8 h.s5, .int .u8 h.d0, .int .u8 h.d1, .int .u8 h.d2, .int .u8 h.d3, .int .u8 h.d4, .int .u8 h.d5, .int .i64 h.ty, .int .u32 h.si, .int .u32 h.di, .int .i64 h.pr, .int .i64 h.sp, .int .i64 h.dp] t fr))
    (hk : wpQuiet Tryd.prog ops (fun w' => ∃ p : Law.BelowOf B w0, w' = p.world) Q rest (a.put o.dst (.agg #[.int .i64 h.po, .int .u8 h.s0, .int .u8 h.s1, .int .u8 h.s2, .int .u8 h.s3, .int .u8 h.s4, .int .u8 h.s5, .int .u8 h.d0, .int .u8 h.d1, .int .u8 h.d2, .int .u8 h.d3, .int .u8 h.d4, .int .u8 h.d5, .int .i64 h.ty, .int .u32 h.si, .int .u32 h.di, .int .i64 h.pr, .int .i64 h.sp, .int .i64 h.dp]))) : wpQuiet Tryd.prog ops (fun w' => ∃ p : Law.BelowOf B w0, w' = p.world) Q (o :: rest) a :=
  Law.quiet_row hw 33 x ho g hx t _ fr _ (fun w ⟨p, e⟩ => e ▸ hg p) Tryd.underlying33 rfl (by kernel_rfl) hk
/-- The sign of a comparison. -/
def sgn (a b : Int) : Int := if a < b then -1 else if b < a then 1 else 0
/-- The order of two headers by their first fields. -/
def cmpTo (g h : Hdr) : Nat → Int
  | 0 => 0
  | k + 1 => if cmpTo g h k = 0 then sgn (get g k) (get h k) else cmpTo g h k
def cmpH (g h : Hdr) : Int := cmpTo g h 9
theorem cmp_next {g h : Hdr} {k : Nat} (e : cmpTo g h k = 0) : cmpTo g h (k + 1) = sgn (get g k) (get h k) := by
  show (if cmpTo g h k = 0 then sgn (get g k) (get h k) else cmpTo g h k) = _
  rw [if_pos e]
theorem cmp_keep {g h : Hdr} {k : Nat} (e : cmpTo g h k ≠ 0) : cmpTo g h (k + 1) = cmpTo g h k := by
  show (if cmpTo g h k = 0 then sgn (get g k) (get h k) else cmpTo g h k) = _
  rw [if_neg e]
theorem cmp_stay {g h : Hdr} {k : Nat} (e : cmpTo g h k ≠ 0) : ∀ m, cmpTo g h (k + m) = cmpTo g h k
  | 0 => rfl
  | m + 1 => by
    have ih := cmp_stay e m
    rw [← Nat.add_assoc, cmp_keep (by rw [ih]; exact e), ih]
theorem cmp_end {g h : Hdr} {k : Nat} (e : cmpTo g h k ≠ 0) (hk : k ≤ 9) : cmpH g h = cmpTo g h k := by
  obtain ⟨m, hm⟩ := Nat.exists_eq_add_of_le hk
  unfold cmpH
  rw [hm]
  exact cmp_stay e m
theorem sgn_lt {a b : Int} (h : a < b) : sgn a b = -1 := by unfold sgn; rw [if_pos h]
theorem sgn_gt {a b : Int} (h : b < a) : sgn a b = 1 := by unfold sgn; rw [if_neg (by omega), if_pos h]
theorem sgn_eq {a b : Int} (h0 : ¬ a < b) (h1 : ¬ b < a) : sgn a b = 0 := by unfold sgn; rw [if_neg h0, if_neg h1]
theorem sgn_neg (a b : Int) : sgn b a = - sgn a b := by unfold sgn; split <;> split <;> first | omega | (split <;> omega) | skip
theorem cmp_neg (g h : Hdr) : ∀ k, cmpTo h g k = - cmpTo g h k
  | 0 => rfl
  | k + 1 => by
    have ih := cmp_neg g h k
    by_cases e : cmpTo g h k = 0
    · rw [cmp_next e, cmp_next (by rw [ih, e]; rfl), sgn_neg]
    · rw [cmp_keep e, cmp_keep (by rw [ih]; omega), ih]
theorem cmp_bd (g h : Hdr) : ∀ k, cmpTo g h k = -1 ∨ cmpTo g h k = 0 ∨ cmpTo g h k = 1
  | 0 => .inr (.inl rfl)
  | k + 1 => by
    have ih := cmp_bd g h k
    by_cases e : cmpTo g h k = 0
    · rw [cmp_next e]
      unfold sgn
      split
      · exact .inl rfl
      · split
        · exact .inr (.inr rfl)
        · exact .inr (.inl rfl)
    · rw [cmp_keep e]
      exact ih

set_option maxHeartbeats 1000000 in
theorem cmp_any (h : Hdr) (ho : h.Ok) (g : Hdr) (go : g.Ok) (w : World) (ht : Tab w) :
    Calls Tryd.prog 18 #[.agg #[.int .i64 h.po, .int .u8 h.s0, .int .u8 h.s1, .int .u8 h.s2, .int .u8 h.s3, .int .u8 h.s4, .int .u8 h.s5, .int .u8 h.d0, .int .u8 h.d1, .int .u8 h.d2, .int .u8 h.d3, .int .u8 h.d4, .int .u8 h.d5, .int .i64 h.ty, .int .u32 h.si, .int .u32 h.di, .int .i64 h.pr, .int .i64 h.sp, .int .i64 h.dp], .agg #[.int .i64 g.po, .int .u8 g.s0, .int .u8 g.s1, .int .u8 g.s2, .int .u8 g.s3, .int .u8 g.s4, .int .u8 g.s5, .int .u8 g.d0, .int .u8 g.d1, .int .u8 g.d2, .int .u8 g.d3, .int .u8 g.d4, .int .u8 g.d5, .int .i64 g.ty, .int .u32 g.si, .int .u32 g.di, .int .i64 g.pr, .int .i64 g.sp, .int .i64 g.dp]] w fun e w' => e = .returned (.int .i64 (cmpH h g)) ∧ Below w.heap.size w w' := by
  have hT := ((ht.alloc (.cells #[.int .i64 h.po, .int .u8 h.s0, .int .u8 h.s1, .int .u8 h.s2, .int .u8 h.s3, .int .u8 h.s4, .int .u8 h.s5, .int .u8 h.d0, .int .u8 h.d1, .int .u8 h.d2, .int .u8 h.d3, .int .u8 h.d4, .int .u8 h.d5, .int .i64 h.ty, .int .u32 h.si, .int .u32 h.di, .int .i64 h.pr, .int .i64 h.sp, .int .i64 h.dp] 33)).alloc (.cells #[.int .i64 g.po, .int .u8 g.s0, .int .u8 g.s1, .int .u8 g.s2, .int .u8 g.s3, .int .u8 g.s4, .int .u8 g.s5, .int .u8 g.d0, .int .u8 g.d1, .int .u8 g.d2, .int .u8 g.d3, .int .u8 g.d4, .int .u8 g.d5, .int .i64 g.ty, .int .u32 g.si, .int .u32 g.di, .int .i64 g.pr, .int .i64 g.sp, .int .i64 g.dp] 33))
  have hA : Below w.heap.size w ((w.alloc (.cells #[.int .i64 h.po, .int .u8 h.s0, .int .u8 h.s1, .int .u8 h.s2, .int .u8 h.s3, .int .u8 h.s4, .int .u8 h.s5, .int .u8 h.d0, .int .u8 h.d1, .int .u8 h.d2, .int .u8 h.d3, .int .u8 h.d4, .int .u8 h.d5, .int .i64 h.ty, .int .u32 h.si, .int .u32 h.di, .int .i64 h.pr, .int .i64 h.sp, .int .i64 h.dp] 33)).alloc (.cells #[.int .i64 g.po, .int .u8 g.s0, .int .u8 g.s1, .int .u8 g.s2, .int .u8 g.s3, .int .u8 g.s4, .int .u8 g.s5, .int .u8 g.d0, .int .u8 g.d1, .int .u8 g.d2, .int .u8 g.d3, .int .u8 g.d4, .int .u8 g.d5, .int .i64 g.ty, .int .u32 g.si, .int .u32 g.di, .int .i64 g.pr, .int .i64 g.sp, .int .i64 g.dp] 33)) := Law.below_allocs (bs := [(#[.int .i64 h.po, .int .u8 h.s0, .int .u8 h.s1, .int .u8 h.s2, .int .u8 h.s3, .int .u8 h.s4, .int .u8 h.s5, .int .u8 h.d0, .int .u8 h.d1, .int .u8 h.d2, .int .u8 h.d3, .int .u8 h.d4, .int .u8 h.d5, .int .i64 h.ty, .int .u32 h.si, .int .u32 h.di, .int .i64 h.pr, .int .i64 h.sp, .int .i64 h.dp], 33), (#[.int .i64 g.po, .int .u8 g.s0, .int .u8 g.s1, .int .u8 g.s2, .int .u8 g.s3, .int .u8 g.s4, .int .u8 g.s5, .int .u8 g.d0, .int .u8 g.d1, .int .u8 g.d2, .int .u8 g.d3, .int .u8 g.d4, .int .u8 g.d5, .int .i64 g.ty, .int .u32 g.si, .int .u32 g.di, .int .i64 g.pr, .int .i64 g.sp, .int .i64 g.dp], 33)]) (Below.refl w.heap.size _) (Nat.le_refl _)
  have HX := Lib.hid (show ∀ w1, Below (w.heap.size + 2) ((w.alloc (.cells #[.int .i64 h.po, .int .u8 h.s0, .int .u8 h.s1, .int .u8 h.s2, .int .u8 h.s3, .int .u8 h.s4, .int .u8 h.s5, .int .u8 h.d0, .int .u8 h.d1, .int .u8 h.d2, .int .u8 h.d3, .int .u8 h.d4, .int .u8 h.d5, .int .i64 h.ty, .int .u32 h.si, .int .u32 h.di, .int .i64 h.pr, .int .i64 h.sp, .int .i64 h.dp] 33)).alloc (.cells #[.int .i64 g.po, .int .u8 g.s0, .int .u8 g.s1, .int .u8 g.s2, .int .u8 g.s3, .int .u8 g.s4, .int .u8 g.s5, .int .u8 g.d0, .int .u8 g.d1, .int .u8 g.d2, .int .u8 g.d3, .int .u8 g.d4, .int .u8 g.d5, .int .i64 g.ty, .int .u32 g.si, .int .u32 g.di, .int .i64 g.pr, .int .i64 g.sp, .int .i64 g.dp] 33)) w1 → w1.heap[w.heap.size]? = some (.cells #[.int .i64 h.po, .int .u8 h.s0, .int .u8 h.s1, .int .u8 h.s2, .int .u8 h.s3, .int .u8 h.s4, .int .u8 h.s5, .int .u8 h.d0, .int .u8 h.d1, .int .u8 h.d2, .int .u8 h.d3, .int .u8 h.d4, .int .u8 h.d5, .int .i64 h.ty, .int .u32 h.si, .int .u32 h.di, .int .i64 h.pr, .int .i64 h.sp, .int .i64 h.dp] 33) ∧ w1.heap[w.heap.size + 1]? = some (.cells #[.int .i64 g.po, .int .u8 g.s0, .int .u8 g.s1, .int .u8 g.s2, .int .u8 g.s3, .int .u8 g.s4, .int .u8 g.s5, .int .u8 g.d0, .int .u8 g.d1, .int .u8 g.d2, .int .u8 g.d3, .int .u8 g.d4, .int .u8 g.d5, .int .i64 g.ty, .int .u32 g.si, .int .u32 g.di, .int .i64 g.pr, .int .i64 g.sp, .int .i64 g.dp] 33) from fun w1 hb =>
    ⟨(hb.block _ (by omega)).trans ((heap_alloc_old _ _ (by simp)).trans (heap_alloc_new w _)), (hb.block _ (by omega)).trans (heap_alloc2_new w _ _)⟩)
  clear ht
  go_enter Tryd.func18, Tryd.ntmps18
  go_wp2
  go_loopw [8] (fun i wr => ∃ k : Nat, k ≤ 9 ∧ i = .int .i64 k ∧ cmpTo h g k = 0 ∧ Below (w.heap.size + 2) ((w.alloc (.cells #[.int .i64 h.po, .int .u8 h.s0, .int .u8 h.s1, .int .u8 h.s2, .int .u8 h.s3, .int .u8 h.s4, .int .u8 h.s5, .int .u8 h.d0, .int .u8 h.d1, .int .u8 h.d2, .int .u8 h.d3, .int .u8 h.d4, .int .u8 h.d5, .int .i64 h.ty, .int .u32 h.si, .int .u32 h.di, .int .i64 h.pr, .int .i64 h.sp, .int .i64 h.dp] 33)).alloc (.cells #[.int .i64 g.po, .int .u8 g.s0, .int .u8 g.s1, .int .u8 g.s2, .int .u8 g.s3, .int .u8 g.s4, .int .u8 g.s5, .int .u8 g.d0, .int .u8 g.d1, .int .u8 g.d2, .int .u8 g.d3, .int .u8 g.d4, .int .u8 g.d5, .int .i64 g.ty, .int .u32 g.si, .int .u32 g.di, .int .i64 g.pr, .int .i64 g.sp, .int .i64 g.dp] 33)) wr) (fun i _ => 9 - (intOf i).toNat)
  case atStart => exact ⟨0, by omega, rfl, rfl, Below.refl _ _⟩
  case round =>
    obtain ⟨k, hk, rfl, he, hbr⟩ := hrel
    have hTr : Tab wr := hT.keep hbr (by simp)
    have HE := Lib.hid he
    clear he
    by_cases hlt : k < 9
    · have HL := Lib.hid hlt
      have hR := Below.refl wr.heap.size wr
      have hz := Nat.le_refl wr.heap.size
      have hl0 := fun p : Law.BelowOf wr.heap.size wr => (HX.out p.world (Law.next0 hbr (by simp) p.below (Nat.le_refl _))).1
      have hl1 := fun p : Law.BelowOf wr.heap.size wr => (HX.out p.world (Law.next0 hbr (by simp) p.below (Nat.le_refl _))).2
      have hTp : ∀ p : Law.BelowOf wr.heap.size wr, Tab p.world := fun p => hTr.keep p.below (Nat.le_refl _)
      go_wp2
      refine Law.wp_region_below (by kernel_rfl) (by kernel_rfl) hR ?_
      repeat (first | (refine quiet_hdr rfl _ rfl _ rfl h _ _ hl0 ?_; simp only [Act.put, List.setIfInBounds_toArray, List.set_cons_succ, List.set_cons_zero]) | (refine quiet_hdr rfl _ rfl _ rfl g _ _ hl1 ?_; simp only [Act.put, List.setIfInBounds_toArray, List.set_cons_succ, List.set_cons_zero]) | go_big_quiet_step ((go_at_call 15; first | with_reducible exact Law.calls_below hz (get_any h ho _ _ (hTp _)) | with_reducible exact Law.calls_below hz (get_any g go _ _ (hTp _)))))
      refine wpQuiet_nil ?_
      rintro _ ⟨p, rfl⟩
      clear hl0 hl1 hTp hTr
      by_cases h1 : get h k < get g k
      · have HR := Lib.hid (show cmpH h g = -1 from (cmp_end (by rw [cmp_next HE.out, sgn_lt h1]; decide) (show k + 1 ≤ 9 from HL.out)).trans ((cmp_next HE.out).trans (sgn_lt h1)))
        go_wp2
        go_ret
        exact ⟨by rw [HR.out]; rfl, Law.next0 (Law.next0 hA (Nat.le_refl _) hbr (by simp)) (Nat.le_refl _) p.below (Nat.le_refl _)⟩
      · by_cases h2 : get g k < get h k
        · have HR := Lib.hid (show cmpH h g = 1 from (cmp_end (by rw [cmp_next HE.out, sgn_gt h2]; decide) (show k + 1 ≤ 9 from HL.out)).trans ((cmp_next HE.out).trans (sgn_gt h2)))
          go_wp2
          go_ret
          exact ⟨by rw [HR.out]; rfl, Law.next0 (Law.next0 hA (Nat.le_refl _) hbr (by simp)) (Nat.le_refl _) p.below (Nat.le_refl _)⟩
        · have HR := Lib.hid (show cmpTo h g (k + 1) = 0 from (cmp_next HE.out).trans (sgn_eq h1 h2))
          go_wp2
          go_roundw
          case rel => exact ⟨k + 1, by omega, by go_num, HR.out, Law.next0 hbr (by simp) p.below (Nat.le_refl _)⟩
          case measure => simp [intOf]; omega
    · obtain rfl : k = 9 := by omega
      go_wp2
      go_ret
      exact ⟨by rw [show cmpH h g = 0 from HE.out]; rfl, Law.next0 hA (Nat.le_refl _) hbr (by simp)⟩

end Hd
end Go.Proofs.YtgoplihimajjkaaDoor
