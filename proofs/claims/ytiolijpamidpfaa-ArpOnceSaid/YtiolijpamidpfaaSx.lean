/-
  A run of the model's code told by lists: 'T' are the slots that are known, the newest first; 'H' are the blocks that the call itself has made and still owns, whole. One lemma for each form of code and each operation. Over any program; no conditions beyond those in each statement.
-/
import Derived.Test.YtiolijpamidpfaaTail
import Derived.Laws.Rows
import Derived.Laws.Tables
import Derived.Deep.LoopGhost
namespace Go.Proofs.Ytiolijpamidpfaa
open Go.RowKit
namespace Sx

/-! ### Slots -/
abbrev Tm := List (Nat × Value)
/-- What a slot holds. -/
def find : Tm → Nat → Option Value
  | [], _ => none
  | (j, v) :: r, i => bif Nat.beq i j then some v else find r i
/-- What an operand is. -/
def ev (T : Tm) : Operand → Option Value
  | .tmp t => find T t
  | .const v => some v
  | .global g => some (.pointer (some ⟨g, 0, none⟩))
  | .func f => some (.func (.func f) #[] #[])
def evs (T : Tm) : List Operand → Option (List Value)
  | [] => some []
  | x :: xs => match ev T x, evs T xs with
    | some v, some vs => some (v :: vs)
    | _, _ => none
/-- A frame of n slots that holds what is known. -/
structure Fr (n : Nat) (T : Tm) (a : Act) : Prop where
  size : a.tmps.size = n
  get : ∀ i v, find T i = some v → a.tmps.getD i undef = v
  nodef : a.defers = []

theorem find_same (T : Tm) (d : Nat) (v : Value) : find ((d, v) :: T) d = some v := by simp [find]
theorem find_other (T : Tm) {d i : Nat} (v : Value) (h : i ≠ d) : find ((d, v) :: T) i = find T i := by
  have : Nat.beq i d = false := by
    cases hb : Nat.beq i d with
    | false => rfl
    | true => exact absurd (Nat.eq_of_beq_eq_true hb) h
  simp [find, this]

section
variable {n : Nat} {T T' : Tm} {a : Act}
theorem Fr.ev (h : Fr n T a) {x : Operand} {v : Value} (hx : Sx.ev T x = some v) : a.eval x = v := by
  cases x with
  | tmp t => exact h.get t v hx
  | const u => simpa [Sx.ev, Act.eval] using hx
  | global g => simpa [Sx.ev, Act.eval] using hx
  | func f => simpa [Sx.ev, Act.eval] using hx
theorem Fr.evs (h : Fr n T a) : ∀ {xs : List Operand} {vs : List Value}, Sx.evs T xs = some vs → xs.map a.eval = vs
  | [], vs, hx => by simpa [Sx.evs] using hx
  | x :: xs, vs, hx => by
    simp only [Sx.evs] at hx
    split at hx
    · rename_i v vs' h1 h2
      obtain rfl : v :: vs' = vs := by simpa using hx
      simp [h.ev h1, h.evs h2]
    · cases hx
theorem Fr.put (h : Fr n T a) {d : Nat} (hd : d < n) (v : Value) : Fr n ((d, v) :: T) (a.put (some d) v) where
  size := by simp [Act.put, h.size]
  get := fun i u hf => by
    by_cases e : i = d
    · subst e
      rw [find_same] at hf
      obtain rfl : v = u := by simpa using hf
      simp [Act.put, h.size, hd]
    · rw [find_other T v e] at hf
      have := h.get i u hf
      simp only [Act.put, Array.getD_eq_getD_getElem?, Array.getElem?_setIfInBounds] at this ⊢
      rw [if_neg (fun e' => e e'.symm)]
      exact this
  nodef := h.nodef
theorem Fr.put0 (h : Fr n T a) (v : Value) : Fr n T (a.put none v) := h
/-- Fewer things known. -/
def Sub (T : Tm) : Tm → Prop
  | [] => True
  | (i, v) :: r => find T i = some v ∧ Sub T r
theorem Sub.find : ∀ {T' : Tm}, Sub T T' → ∀ i v, Sx.find T' i = some v → Sx.find T i = some v
  | [], _, i, v, h => by cases h
  | (j, u) :: r, ⟨h1, h2⟩, i, v, h => by
    by_cases e : i = j
    · subst e
      rw [find_same] at h
      rw [h1, h]
    · rw [find_other r u e] at h
      exact Sub.find h2 i v h
theorem Fr.sub (h : Fr n T a) (hs : Sub T T') : Fr n T' a := ⟨h.size, fun i v hf => h.get i v (hs.find i v hf), h.nodef⟩
end

/-! ### Blocks -/
structure Blk where
  b : Nat
  cs : List Value
  t : TypeId
/-- The call's own blocks, from number B on; below B nothing has turned. -/
structure Mem (B : Nat) (w0 w : World) (H : List Blk) : Prop where
  below : Below B w0 w
  base : B ≤ w.heap.size
  at_ : ∀ x ∈ H, w.heap[x.b]? = some (.cells x.cs.toArray x.t (0, 0))
  own : ∀ x ∈ H, B ≤ x.b
  ne : H.Pairwise fun x y => x.b ≠ y.b

section
variable {B : Nat} {w0 w w1 : World} {H H' : List Blk} {old : List Value}
theorem Mem.start (w : World) : Mem w.heap.size w w [] := ⟨Below.refl _ _, Nat.le_refl _, (fun _ h => by cases h), (fun _ h => by cases h), List.Pairwise.nil⟩
theorem Mem.lt (h : Mem B w0 w H) {x : Blk} (hx : x ∈ H) : x.b < w.heap.size := (Array.getElem?_eq_some_iff.1 (h.at_ x hx)).1
theorem Mem.alloc (h : Mem B w0 w H) (cs : List Value) (t : TypeId) : Mem B w0 (w.alloc (.cells cs.toArray t)) (⟨w.heap.size, cs, t⟩ :: H) where
  below := h.below.alloc h.base _
  base := by simp; exact Nat.le_succ_of_le h.base
  at_ := fun x hx => by
    cases hx with
    | head => exact heap_alloc_new w _
    | tail _ hx => exact (Below.heap_alloc w _ _ (h.lt hx)).trans (h.at_ x hx)
  own := fun x hx => by
    cases hx with
    | head => exact h.base
    | tail _ hx => exact h.own x hx
  ne := .cons (fun y hy => by have := h.lt hy; show w.heap.size ≠ y.b; omega) h.ne
theorem Mem.drew (h : Mem B w0 w H) : Mem B w0 { w with drawn := w.drawn + 1 } H := ⟨⟨h.below.os, h.below.tape, h.below.output, h.below.size, h.below.block⟩, h.base, h.at_, h.own, h.ne⟩
theorem Mem.call (h : Mem B w0 w H) (hb : Below w.heap.size w w1) : Mem B w0 w1 H :=
  ⟨h.below.trans (hb.mono h.base), Nat.le_trans h.base hb.size, fun x hx => (hb.block x.b (h.lt hx)).trans (h.at_ x hx), h.own, h.ne⟩
/-- A new block that a callee has made. -/
theorem Mem.call_new (h : Mem B w0 w H) (hb : Below w.heap.size w w1) {b : Nat} {cs : List Value} {t : TypeId} (hlo : w.heap.size ≤ b) (hat : w1.heap[b]? = some (.cells cs.toArray t (0, 0))) : Mem B w0 w1 (⟨b, cs, t⟩ :: H) :=
  let h1 := h.call hb
  ⟨h1.below, h1.base, fun x hx => by cases hx with | head => exact hat | tail _ hx => exact h1.at_ x hx,
    fun x hx => by cases hx with | head => exact Nat.le_trans h.base hlo | tail _ hx => exact h1.own x hx,
    .cons (fun y hy => by have := h.lt hy; show b ≠ y.b; omega) h1.ne⟩
theorem Mem.sub (h : Mem B w0 w H) (hs : H'.Sublist H) : Mem B w0 w H' := ⟨h.below, h.base, fun x hx => h.at_ x (hs.subset hx), fun x hx => h.own x (hs.subset hx), h.ne.sublist hs⟩
/-- One block of the list, by its number. -/
class Has (H : List Blk) (b : Nat) (cs : outParam (List Value)) (t : outParam TypeId) : Prop where
  mem : (⟨b, cs, t⟩ : Blk) ∈ H
instance (priority := high) hasHead (b : Nat) (cs : List Value) (t : TypeId) (H : List Blk) : Has (⟨b, cs, t⟩ :: H) b cs t := ⟨by simp⟩
instance hasTail (x : Blk) (H : List Blk) (b : Nat) (cs : List Value) (t : TypeId) [h : Has H b cs t] : Has (x :: H) b cs t := ⟨List.mem_cons_of_mem _ h.mem⟩
/-- The list with other cells in one block. -/
class Upd (H : List Blk) (b : Nat) (cs : List Value) (H' : outParam (List Blk)) : Prop where
  split : ∃ (l r : List Blk) (old : List Value) (t : TypeId), H = l ++ ⟨b, old, t⟩ :: r ∧ H' = l ++ ⟨b, cs, t⟩ :: r
instance (priority := high) updHead (b : Nat) (old cs : List Value) (t : TypeId) (H : List Blk) : Upd (⟨b, old, t⟩ :: H) b cs (⟨b, cs, t⟩ :: H) := ⟨[], H, old, t, rfl, rfl⟩
instance updTail (y : Blk) (b : Nat) (cs : List Value) (H H' : List Blk) [h : Upd H b cs H'] : Upd (y :: H) b cs (y :: H') := by
  obtain ⟨l, r, old, t, e1, e2⟩ := h.split
  exact ⟨y :: l, r, old, t, by simp [e1], by simp [e2]⟩
theorem pair_mid {l r : List Blk} {x : Blk} (h : (l ++ x :: r).Pairwise fun x y => x.b ≠ y.b) : ∀ y ∈ l ++ r, y.b ≠ x.b := by
  intro y hy
  rw [List.pairwise_append] at h
  obtain ⟨_, h2, h3⟩ := h
  rw [List.pairwise_cons] at h2
  rcases List.mem_append.1 hy with hy | hy
  · exact h3 y hy x (by simp)
  · exact (h2.1 y hy).symm
theorem Mem.upd (h : Mem B w0 w H) {b : Nat} {cs : List Value} {t : TypeId} [hs : Has H b old t] [hu : Upd H b cs H'] (h1 : w1.heap[b]? = some (.cells cs.toArray t (0, 0))) (h2 : ∀ k, k ≠ b → w1.heap[k]? = w.heap[k]?)
    (h3 : w1.os = w.os) (h4 : w1.tape = w.tape) (h5 : w1.output = w.output) (h6 : w.heap.size ≤ w1.heap.size) : Mem B w0 w1 H' := by
  obtain ⟨l, r, old', t', e1, e2⟩ := hu.split
  subst e1 e2
  have hm := pair_mid h.ne
  have e : (⟨b, old, t⟩ : Blk) = ⟨b, old', t'⟩ := by
    have h7 := hs.mem
    rcases List.mem_append.1 h7 with h8 | h8
    · exact absurd rfl (hm ⟨b, old, t⟩ (List.mem_append_left _ h8))
    · cases h8 with
      | head => rfl
      | tail _ h8 => exact absurd rfl (hm ⟨b, old, t⟩ (List.mem_append_right _ h8))
  obtain ⟨rfl, rfl⟩ : old = old' ∧ t = t' := by simpa using e
  have hb : B ≤ b := h.own ⟨b, old, t⟩ (by simp)
  refine ⟨h.below.trans ⟨h3, h4, h5, h6, fun k hk => h2 k (by omega)⟩, Nat.le_trans h.base h6, fun x hx => ?_, fun x hx => ?_, ?_⟩
  · rcases List.mem_append.1 hx with hx | hx
    · rw [h2 _ (hm x (List.mem_append_left _ hx))]
      exact h.at_ x (by simp [hx])
    · cases hx with
      | head => exact h1
      | tail _ hx =>
        rw [h2 _ (hm x (List.mem_append_right _ hx))]
        exact h.at_ x (List.mem_append_right _ (List.mem_cons_of_mem _ hx))
  · rcases List.mem_append.1 hx with hx | hx
    · exact h.own x (by simp [hx])
    · cases hx with
      | head => exact hb
      | tail _ hx => exact h.own x (List.mem_append_right _ (List.mem_cons_of_mem _ hx))
  · have := h.ne
    rw [List.pairwise_append] at this ⊢
    obtain ⟨p1, p2, p3⟩ := this
    rw [List.pairwise_cons] at p2 ⊢
    refine ⟨p1, ⟨fun y hy => p2.1 y hy, p2.2⟩, fun x hx y hy => ?_⟩
    cases hy with
    | head => exact p3 x hx ⟨b, old, t⟩ (by simp)
    | tail _ hy => exact p3 x hx y (List.mem_cons_of_mem _ hy)
theorem Mem.setCell (h : Mem B w0 w H) {b i : Nat} {old cs : List Value} {t : TypeId} [hs : Has H b old t] [hu : Upd H b cs H'] {v : Value} (hc : old.set i v = cs) : Mem B w0 (w.setCell ⟨b, i, none⟩ v) H' := by
  have hat := h.at_ _ hs.mem
  refine h.upd (b := b) (old := old) (t := t) (cs := cs) ?_ (fun k hk => heap_setCell_other w _ k v hk) rfl rfl rfl (by simp)
  rw [heap_setCell_same w b i _ t v hat, ← hc]
  simp
theorem Mem.setRow (h : Mem B w0 w H) {b : Nat} {old cs : List Value} {t : TypeId} [hs : Has H b old t] [hu : Upd H b cs H'] : Mem B w0 (w.setRow b cs.toArray) H' := by
  have hat := h.at_ _ hs.mem
  exact h.upd (b := b) (old := old) (t := t) (cs := cs) (setRow_heap w b _ _ t _ hat) (fun k hk => setRow_other w b k _ hk) rfl rfl rfl (by simp)
end

/-! ### Code -/
section
variable (P : Program) (B n : Nat) (w0 : World)
/-- A list of operations, from what is known. -/
structure W (ops : Array Oper) (Q : Exit → Act → World → Prop) (l : List Oper) (T : Tm) (H : List Blk) : Prop where of ::
  run : ∀ a w, Fr n T a → Mem B w0 w H → wpList P ops Q l a w
/-- A piece of code, from what is known. -/
structure C (Q : Exit → Act → World → Prop) (c : Code) (T : Tm) (H : List Blk) : Prop where of ::
  run : ∀ a w, Fr n T a → Mem B w0 w H → c.wp P Q a w
/-- What is asked at an end. -/
structure E (Q : Exit → Act → World → Prop) (e : Exit) (T : Tm) (H : List Blk) : Prop where of ::
  run : ∀ a w, Fr n T a → Mem B w0 w H → Q e a w
/-- The operations of a region that draws its order, all of which only read; 'tl': what comes behind them all. -/
structure WQ (ops : Array Oper) (Q : Exit → Act → World → Prop) (tl l : List Oper) (T : Tm) (H : List Blk) : Prop where of ::
  run : ∀ a, Fr n T a → wpQuiet P ops (fun w' => Mem B w0 w' H) (fun a' => ∀ w', Mem B w0 w' H → wpList P ops Q tl a' w') l a
end
section
variable {P : Program} {B n : Nat} {w0 : World} {Q K : Exit → Act → World → Prop} {T T' : Tm} {H H' : List Blk} {ops : Array Oper} {l : List Oper}

theorem c_seq {x y : Code} (h : C P B n w0 (Exit.then (y.wp P Q) Q) x T H) : C P B n w0 Q (.seq x y) T H := .of fun a w hf hm => wp_seq (h.run a w hf hm)
theorem c_block {id : Nat} {c : Code} (h : C P B n w0 (Exit.inBlock id Q) c T H) : C P B n w0 Q (.block id c) T H := .of fun a w hf hm => wp_block (h.run a w hf hm)
theorem c_skip (h : E B n w0 Q .normal T H) : C P B n w0 Q .skip T H := .of fun a w hf hm => wp_skip (h.run a w hf hm)
theorem c_exit {id : Nat} (h : E B n w0 Q (.exit id) T H) : C P B n w0 Q (.exit id) T H := .of fun a w hf hm => wp_exit (h.run a w hf hm)
theorem c_ret (h : E B n w0 Q .ret T H) : C P B n w0 Q .ret T H := .of fun a w hf hm => wp_ret (h.run a w hf hm)
theorem c_region {id : Nat} (h : W P B n w0 l.toArray Q l T H) : C P B n w0 Q (.region id l.toArray false) T H := .of fun a w hf hm => wp_region_lit (h.run a w hf hm)
theorem c_draw {id : Nat} (hm : P.follows .mixedOrders = true) (hB : Region.lexB .any l.toArray = true) (h : WQ P B n w0 l.toArray Q [] l T H) : C P B n w0 Q (.region id l.toArray true) T H :=
  .of fun a _ hf hw => wp_region_quiet (C := fun w' => Mem B w0 w' H) hm hB hw.drew (by simpa [wpList] using h.run a hf)
theorem c_tail {id : Nat} (m : Nat) (hm : P.follows .mixedOrders = true) (hB : Region.lexTailB .any l.toArray m = true) (h : WQ P B n w0 l.toArray Q (l.drop m) (l.take m) T H) : C P B n w0 Q (.region id l.toArray true) T H := .of fun a w hf hw => by
  simp only [Region.lexTailB, Bool.and_eq_true, decide_eq_true_eq] at hB
  obtain ⟨⟨⟨⟨hsel, hn⟩, hs⟩, hc⟩, hlex⟩ := hB
  have hn' : m < l.length := by simpa using hn
  have htl : (l.take m).length = m := by simp; omega
  have hdl : (l.drop m).length = l.toArray.size - m := by simp
  have inv0 : HeadInv .any l.toArray m (Array.replicate l.toArray.size false) :=
    ⟨by simp, fun j oj _ hl => (by rw [getD_replicate_false] at hl; cases hl), fun t _ ht => getD_in (by simpa using ht) (getD_replicate_false _ _)⟩
  have H0 := Law.HeadWalk.lex (md := .any) (g := l.toArray.size - m) hsel hs hc hn (l.take m) 0 _ a (fun j hj => by
    have hj' : j < m := by rw [htl] at hj; exact hj
    simp [hj']) (by simpa using htl) inv0 (by rw [htl]; exact hlex) (h.run a hf)
  refine wp_region_any hm ?_
  have := Law.HeadWalk.any (Q := Q) (g := l.toArray.size - m) (fun done a w' hw' hL => by
    have := wpAny_of_seq (md := .any) (Q' := Q) (l.drop m) m done a w' (fun j => by simp [List.getElem?_drop]) (by rw [hdl]; exact hL.1) (hL.2 w' hw')
    rwa [hdl] at this) _ _ _ _ hw.drew H0
  rw [htl, show m + (l.toArray.size - m) = l.toArray.size by omega] at this
  exact this
theorem c_cond {c : Operand} {x y : Code} {b : Bool} (hc : ev T c = some (.bool b)) (ht : b = true → C P B n w0 Q x T H) (hf : b = false → C P B n w0 Q y T H) : C P B n w0 Q (.cond c x y) T H :=
  .of fun a w h hm => wp_cond_split (h.ev hc) (fun e => (ht e).run a w h hm) (fun e => (hf e).run a w h hm)
theorem c_cond_t {c : Operand} {x y : Code} (hc : ev T c = some (.bool true)) (h : C P B n w0 Q x T H) : C P B n w0 Q (.cond c x y) T H :=
  .of fun a w hf hm => wp_cond_true (hf.ev hc) (h.run a w hf hm)
theorem c_cond_f {c : Operand} {x y : Code} (hc : ev T c = some (.bool false)) (h : C P B n w0 Q y T H) : C P B n w0 Q (.cond c x y) T H :=
  .of fun a w hf hm => wp_cond_false (hf.ev hc) (h.run a w hf hm)
theorem c_cond_dec {c : Operand} {x y : Code} {p : Prop} [Decidable p] (hc : ev T c = some (.bool (decide p))) (ht : p → C P B n w0 Q x T H) (hf : ¬ p → C P B n w0 Q y T H) : C P B n w0 Q (.cond c x y) T H :=
  c_cond hc (fun e => ht (of_decide_eq_true e)) (fun e => hf (of_decide_eq_false e))
theorem c_cond_eq {c : Operand} {x y : Code} {p q : Int} (hc : ev T c = some (.bool (p == q))) (ht : p = q → C P B n w0 Q x T H) (hf : p ≠ q → C P B n w0 Q y T H) : C P B n w0 Q (.cond c x y) T H :=
  c_cond hc (fun e => ht (by simpa using e)) (fun e => hf (by simpa using e))
theorem c_cond_ne {c : Operand} {x y : Code} {p q : Int} (hc : ev T c = some (.bool (p != q))) (ht : p ≠ q → C P B n w0 Q x T H) (hf : p = q → C P B n w0 Q y T H) : C P B n w0 Q (.cond c x y) T H :=
  c_cond hc (fun e => ht (by simpa using e)) (fun e => hf (by simpa using e))
theorem c_cond_not {c : Operand} {x y : Code} {p : Bool} (hc : ev T c = some (.bool (!p))) (ht : p = false → C P B n w0 Q x T H) (hf : p = true → C P B n w0 Q y T H) : C P B n w0 Q (.cond c x y) T H :=
  c_cond hc (fun e => ht (by simpa using e)) (fun e => hf (by simpa using e))
/-- A loop: 'S i' is what is known at a round's head, 'μ i' how many rounds at most are to come. -/
theorem c_loop {ι : Type} {c : Code} (S : ι → Tm × List Blk) (μ : ι → Nat) (i0 : ι) (hs : Sub T (S i0).1) (hh : ∀ w, Mem B w0 w H → Mem B w0 w (S i0).2)
    (round : ∀ i, C P B n w0 (Exit.then (fun a w => ∃ j, μ j < μ i ∧ Fr n (S j).1 a ∧ Mem B w0 w (S j).2) Q) c (S i).1 (S i).2) : C P B n w0 Q (.loop c) T H := by
  refine .of fun a w hf hm => ?_
  refine wp_loop_ghost (fun k a w => ∃ i, μ i = k ∧ Fr n (S i).1 a ∧ Mem B w0 w (S i).2) (μ i0) ⟨i0, rfl, hf.sub hs, hh w hm⟩ ?_
  rintro k a w ⟨i, rfl, hf, hm⟩
  refine wp_mono ((round i).run a w hf hm) (fun e a w hq => ?_)
  cases e with
  | normal =>
    obtain ⟨j, hj, h1, h2⟩ := hq
    exact ⟨μ j, hj, j, rfl, h1, h2⟩
  | exit id => exact hq
  | goto l => exact hq
  | ret => exact hq
  | panic ch => exact hq
  | outgrown => exact hq
theorem e_round {ι : Type} {S : ι → Tm × List Blk} {μ : ι → Nat} {i : ι} (j : ι) (hj : μ j < μ i) (hs : Sub T (S j).1) (hh : ∀ w, Mem B w0 w H → Mem B w0 w (S j).2) :
    E B n w0 (Exit.then (fun a w => ∃ j, μ j < μ i ∧ Fr n (S j).1 a ∧ Mem B w0 w (S j).2) Q) .normal T H := .of fun _ w hf hm => ⟨j, hj, hf.sub hs, hh w hm⟩
/-- Ways that meet again: the first piece ends, in whatever way, in one of the states 'S i' (or leaves). -/
theorem c_cut {ι : Type} {x y : Code} (S : ι → Tm × List Blk) (hx : C P B n w0 (Exit.then (fun a w => ∃ i, Fr n (S i).1 a ∧ Mem B w0 w (S i).2) Q) x T H) (hy : ∀ i, C P B n w0 Q y (S i).1 (S i).2) : C P B n w0 Q (.seq x y) T H := by
  refine .of fun a w hf hm => ?_
  refine wp_seq (wp_mono (hx.run a w hf hm) (fun e a w hq => ?_))
  cases e with
  | normal =>
    obtain ⟨i, h1, h2⟩ := hq
    exact (hy i).run a w h1 h2
  | exit id => exact hq
  | goto l => exact hq
  | ret => exact hq
  | panic ch => exact hq
  | outgrown => exact hq
theorem e_cut {ι : Type} {S : ι → Tm × List Blk} (i : ι) (hs : Sub T (S i).1) (hh : ∀ w, Mem B w0 w H → Mem B w0 w (S i).2) : E B n w0 (Exit.then (fun a w => ∃ i, Fr n (S i).1 a ∧ Mem B w0 w (S i).2) Q) .normal T H :=
  .of fun _ w hf hm => ⟨i, hf.sub hs, hh w hm⟩
theorem c_sub {c : Code} (T' : Tm) (h : C P B n w0 Q c T' H) (hs : Sub T T') : C P B n w0 Q c T H := .of fun a w hf hm => h.run a w (hf.sub hs) hm
theorem c_mem {c : Code} (H' : List Blk) (hh : ∀ w, Mem B w0 w H → Mem B w0 w H') (h : C P B n w0 Q c T H') : C P B n w0 Q c T H := .of fun a w hf hm => h.run a w hf (hh w hm)

theorem e_seq {y : Code} (h : C P B n w0 Q y T H) : E B n w0 (Exit.then (y.wp P Q) Q) .normal T H := .of fun a w hf hm => h.run a w hf hm
theorem e_then_exit {id : Nat} {N : Act → World → Prop} (h : E B n w0 Q (.exit id) T H) : E B n w0 (Exit.then N Q) (.exit id) T H := .of fun a w hf hm => h.run a w hf hm
theorem e_then_ret {N : Act → World → Prop} (h : E B n w0 Q .ret T H) : E B n w0 (Exit.then N Q) .ret T H := .of fun a w hf hm => h.run a w hf hm
theorem e_in_normal {id : Nat} (h : E B n w0 Q .normal T H) : E B n w0 (Exit.inBlock id Q) .normal T H := .of fun a w hf hm => h.run a w hf hm
theorem e_in_ret {id : Nat} (h : E B n w0 Q .ret T H) : E B n w0 (Exit.inBlock id Q) .ret T H := .of fun a w hf hm => h.run a w hf hm
theorem e_in_same {id : Nat} (h : E B n w0 Q .normal T H) : E B n w0 (Exit.inBlock id Q) (.exit id) T H := .of fun a w hf hm => by
  show if id = id then _ else _
  rw [if_pos rfl]
  exact h.run a w hf hm
theorem e_in_other {id id' : Nat} (hne : Nat.beq id' id = false) (h : E B n w0 Q (.exit id') T H) : E B n w0 (Exit.inBlock id Q) (.exit id') T H := .of fun a w hf hm => by
  show if id' = id then _ else _
  rw [if_neg (fun e => by subst e; simp at hne)]
  exact h.run a w hf hm
theorem w_nil (h : E B n w0 Q .normal T H) : W P B n w0 ops Q [] T H := .of fun a w hf hm => wpList_nil (h.run a w hf hm)
theorem q_nil {tl : List Oper} (h : W P B n w0 ops Q tl T H) : WQ P B n w0 ops Q tl [] T H := .of fun a hf => wpQuiet_nil fun w hm => h.run a w hf hm
end
end Sx
end Go.Proofs.Ytiolijpamidpfaa
