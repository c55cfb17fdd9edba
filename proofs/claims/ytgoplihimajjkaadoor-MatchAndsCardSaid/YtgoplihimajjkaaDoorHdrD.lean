/-
  A boxed header, read in later worlds. No conditions beyond those in each statement.
-/
import Derived.Test.YtgoplihimajjkaaDoorHdrC
import Derived.Laws.Rows
namespace Go.Proofs.YtgoplihimajjkaaDoor
open Go.RowKit
namespace Hd
theorem box_hdr {w w1 : World} {h : Hdr} {t : TypeId} (hb : Below (w.heap.size + 1) (w.alloc (.cells #[.int .i64 h.po, .int .u8 h.s0, .int .u8 h.s1, .int .u8 h.s2, .int .u8 h.s3, .int .u8 h.s4, .int .u8 h.s5, .int .u8 h.d0, .int .u8 h.d1, .int .u8 h.d2, .int .u8 h.d3, .int .u8 h.d4, .int .u8 h.d5, .int .i64 h.ty, .int .u32 h.si, .int .u32 h.di, .int .i64 h.pr, .int .i64 h.sp, .int .i64 h.dp] t)) w1) :
    w1.cell? ⟨w.heap.size, 0, none⟩ = some (.int .i64 h.po) ∧ w1.cell? ⟨w.heap.size, 1, none⟩ = some (.int .u8 h.s0) ∧ w1.cell? ⟨w.heap.size, 2, none⟩ = some (.int .u8 h.s1) ∧ w1.cell? ⟨w.heap.size, 3, none⟩ = some (.int .u8 h.s2) ∧ w1.cell? ⟨w.heap.size, 4, none⟩ = some (.int .u8 h.s3) ∧ w1.cell? ⟨w.heap.size, 5, none⟩ = some (.int .u8 h.s4) ∧ w1.cell? ⟨w.heap.size, 6, none⟩ = some (.int .u8 h.s5) ∧ w1.cell? ⟨w.heap.size, 7, none⟩ = some (.int .u8 h.d0) ∧ w1.cell? ⟨w.heap.size, 8, none⟩ = some (.int .u8 h.d1) ∧ w1.cell? ⟨w.heap.size, 9, none⟩ = some (.int .u8 h.d2) ∧ w1.cell? ⟨w.heap.size, 10, none⟩ = some (.int .u8 h.d3) ∧ w1.cell? ⟨w.heap.size, 11, none⟩ = some (.int .u8 h.d4) ∧ w1.cell? ⟨w.heap.size, 12, none⟩ = some (.int .u8 h.d5) ∧ w1.cell? ⟨w.heap.size, 13, none⟩ = some (.int .i64 h.ty) ∧ w1.cell? ⟨w.heap.size, 14, none⟩ = some (.int .u32 h.si) ∧ w1.cell? ⟨w.heap.size, 15, none⟩ = some (.int .u32 h.di) ∧ w1.cell? ⟨w.heap.size, 16, none⟩ = some (.int .i64 h.pr) ∧ w1.cell? ⟨w.heap.size, 17, none⟩ = some (.int .i64 h.sp) ∧ w1.cell? ⟨w.heap.size, 18, none⟩ = some (.int .i64 h.dp) :=
  ⟨Law.boxn hb (Nat.lt_succ_self _) 0, Law.boxn hb (Nat.lt_succ_self _) 1, Law.boxn hb (Nat.lt_succ_self _) 2, Law.boxn hb (Nat.lt_succ_self _) 3, Law.boxn hb (Nat.lt_succ_self _) 4, Law.boxn hb (Nat.lt_succ_self _) 5, Law.boxn hb (Nat.lt_succ_self _) 6, Law.boxn hb (Nat.lt_succ_self _) 7, Law.boxn hb (Nat.lt_succ_self _) 8, Law.boxn hb (Nat.lt_succ_self _) 9, Law.boxn hb (Nat.lt_succ_self _) 10, Law.boxn hb (Nat.lt_succ_self _) 11, Law.boxn hb (Nat.lt_succ_self _) 12, Law.boxn hb (Nat.lt_succ_self _) 13, Law.boxn hb (Nat.lt_succ_self _) 14, Law.boxn hb (Nat.lt_succ_self _) 15, Law.boxn hb (Nat.lt_succ_self _) 16, Law.boxn hb (Nat.lt_succ_self _) 17, Law.boxn hb (Nat.lt_succ_self _) 18⟩
theorem row_hdr {w w1 : World} {h : Hdr} {t : TypeId} (hb : Below (w.heap.size + 1) (w.alloc (.cells #[.int .i64 h.po, .int .u8 h.s0, .int .u8 h.s1, .int .u8 h.s2, .int .u8 h.s3, .int .u8 h.s4, .int .u8 h.s5, .int .u8 h.d0, .int .u8 h.d1, .int .u8 h.d2, .int .u8 h.d3, .int .u8 h.d4, .int .u8 h.d5, .int .i64 h.ty, .int .u32 h.si, .int .u32 h.di, .int .i64 h.pr, .int .i64 h.sp, .int .i64 h.dp] t)) w1) :
    w1.heap[w.heap.size]? = some (.cells #[.int .i64 h.po, .int .u8 h.s0, .int .u8 h.s1, .int .u8 h.s2, .int .u8 h.s3, .int .u8 h.s4, .int .u8 h.s5, .int .u8 h.d0, .int .u8 h.d1, .int .u8 h.d2, .int .u8 h.d3, .int .u8 h.d4, .int .u8 h.d5, .int .i64 h.ty, .int .u32 h.si, .int .u32 h.di, .int .i64 h.pr, .int .i64 h.sp, .int .i64 h.dp] t) ∧ w1.cell? ⟨w.heap.size, 0, none⟩ = some (.int .i64 h.po) ∧ w1.cell? ⟨w.heap.size, 13, none⟩ = some (.int .i64 h.ty) ∧
      w1.cell? ⟨w.heap.size, 16, none⟩ = some (.int .i64 h.pr) ∧ w1.cell? ⟨w.heap.size, 17, none⟩ = some (.int .i64 h.sp) ∧ w1.cell? ⟨w.heap.size, 18, none⟩ = some (.int .i64 h.dp) :=
  ⟨(hb.block _ (Nat.lt_succ_self _)).trans (heap_alloc_new w _), Law.boxn hb (Nat.lt_succ_self _) 0, Law.boxn hb (Nat.lt_succ_self _) 13, Law.boxn hb (Nat.lt_succ_self _) 16, Law.boxn hb (Nat.lt_succ_self _) 17, Law.boxn hb (Nat.lt_succ_self _) 18⟩
theorem load_hdr {ops : Array Oper} {rest : List Oper} {o : Oper} {a : Act} {w : World} {Q : Exit → Act → World → Prop} (hgd : Region.wanted o (yielded ops a.tmps) = true) (x : Operand) (ho : o.op = .load 33 x)
    (g : Nat) (hx : a.eval x = .pointer (some ⟨g, 0, none⟩)) (h : Hdr) (t : TypeId) (fr : Nat × Nat) (hg : w.heap[g]? = some (.cells #[.int .i64 h.po, .int .u8 h.s0, .int .u8 h.s1, .int .u8 h.s2, .int .u8 h.s3, .int .u8 h.s4, .int .u8 h.s5, .int .u8 h.d0, .int .u8 h.d1, .int .u8 h.d2, .int .u8 h.d3, .int .u8 h.d4, .int .u8 h.d5, .int .i64 h.ty, .int .u32 h.si, .int .u32 h.di, .int .i64 h.pr, .int .i64 h.sp, .int .i64 h.dp] t fr))
    (hk : wpList Tryd.prog ops Q rest (a.put o.dst (.agg #[.int .i64 h.po, .int .u8 h.s0, .int .u8 h.s1, .int .u8 h.s2, .int .u8 h.s3, .int .u8 h.s4, .int .u8 h.s5, .int .u8 h.d0, .int .u8 h.d1, .int .u8 h.d2, .int .u8 h.d3, .int .u8 h.d4, .int .u8 h.d5, .int .i64 h.ty, .int .u32 h.si, .int .u32 h.di, .int .i64 h.pr, .int .i64 h.sp, .int .i64 h.dp])) w) : wpList Tryd.prog ops Q (o :: rest) a w :=
  wpList_step fun _ hK => by
    rw [if_pos hgd]
    exact wp_load_row 33 x ho g hx t _ fr _ hg Tryd.underlying33 rfl (by kernel_rfl) (hK _ _ hk)
theorem index9 (a0 a1 a2 a3 a4 a5 a6 a7 a8 : Int) : ∀ N : Nat, N < 9 → ∀ w, (Instr.index 39 (.agg #[.int .u64 a0, .int .u64 a1, .int .u64 a2, .int .u64 a3, .int .u64 a4, .int .u64 a5, .int .u64 a6, .int .u64 a7, .int .u64 a8]) (.int .i64 N)).run Tryd.prog w = .ok (.int .u64 (([a0, a1, a2, a3, a4, a5, a6, a7, a8] : List Int).getD N 0)) w
  | 0, _ => fun _ => by kernel_rfl
  | 1, _ => fun _ => by kernel_rfl
  | 2, _ => fun _ => by kernel_rfl
  | 3, _ => fun _ => by kernel_rfl
  | 4, _ => fun _ => by kernel_rfl
  | 5, _ => fun _ => by kernel_rfl
  | 6, _ => fun _ => by kernel_rfl
  | 7, _ => fun _ => by kernel_rfl
  | 8, _ => fun _ => by kernel_rfl
theorem get_nat (h : Hdr) (N : Nat) (hN : N < 9) : get h N = ([h.po % 256, num h.s0 h.s1 h.s2 h.s3 h.s4 h.s5, num h.d0 h.d1 h.d2 h.d3 h.d4 h.d5, h.ty % 65536, h.si, h.di, h.pr % 256, h.sp % 65536, h.dp % 65536] : List Int).getD N 0 := by
  unfold get
  rw [if_neg (by omega), Int.toNat_natCast]
end Hd
end Go.Proofs.YtgoplihimajjkaaDoor
