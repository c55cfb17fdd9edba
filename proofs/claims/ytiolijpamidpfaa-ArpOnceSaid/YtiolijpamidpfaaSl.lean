/-
  A run of the model's code told by lists: 'T' are the slots that are known, the newest first; 'H' are the pieces of memory that the call may turn, each with what it holds; all other elder memory stays as it is. Over any program; no conditions beyond those in each statement.
-/
import Derived.Below
import Derived.StillTail
import Derived.Deep.Quiet
import Derived.WalkKit
import Derived.ProofKit
import Derived.Laws.Rows
import Derived.Laws.Tables
import Derived.Deep.LoopGhost
namespace Go.Proofs.Ytiolijpamidpfaa
open Go.RowKit
namespace Sl
set_option linter.unusedVariables false

/-! ### Slots -/
abbrev Tm := List (Nat × Value)
/-- What a slot holds. -/
def find : Tm → Nat → Option Value
  | [], _ => none
  | (j, v) :: r, i => bif Nat.beq i j then some v else find r i
/-- What an operand is. -/
def ev (T : Tm) : Operand → Option Value
  | .tmp t => find T t
  | .const v => some v
  | .global g => some (.pointer (some ⟨g, 0, none⟩))
  | .func f => some (.func (.func f) #[] #[])
def evs (T : Tm) : List Operand → Option (List Value)
  | [] => some []
  | x :: xs => match ev T x, evs T xs with
    | some v, some vs => some (v :: vs)
    | _, _ => none
/-- A frame of n slots that holds what is known. -/
structure Fr (n : Nat) (T : Tm) (a : Act) : Prop where
  size : a.tmps.size = n
  get : ∀ i v, find T i = some v → a.tmps.getD i undef = v
  nodef : a.defers = []

theorem find_same (T : Tm) (d : Nat) (v : Value) : find ((d, v) :: T) d = some v := by simp [find]
theorem find_other (T : Tm) {d i : Nat} (v : Value) (h : i ≠ d) : find ((d, v) :: T) i = find T i := by
  have : Nat.beq i d = false := by
    cases hb : Nat.beq i d with
    | false => rfl
    | true => exact absurd (Nat.eq_of_beq_eq_true hb) h
  simp [find, this]

section
variable {n : Nat} {T T' : Tm} {a : Act}
theorem Fr.ev (h : Fr n T a) {x : Operand} {v : Value} (hx : Sl.ev T x = some v) : a.eval x = v := by
  cases x with
  | tmp t => exact h.get t v hx
  | const u => simpa [Sl.ev, Act.eval] using hx
  | global g => simpa [Sl.ev, Act.eval] using hx
  | func f => simpa [Sl.ev, Act.eval] using hx
theorem Fr.evs (h : Fr n T a) : ∀ {xs : List Operand} {vs : List Value}, Sl.evs T xs = some vs → xs.map a.eval = vs
  | [], vs, hx => by simpa [Sl.evs] using hx
  | x :: xs, vs, hx => by
    simp only [Sl.evs] at hx
    split at hx
    · rename_i v vs' h1 h2
      obtain rfl : v :: vs' = vs := by simpa using hx
      simp [h.ev h1, h.evs h2]
    · cases hx
theorem Fr.put (h : Fr n T a) {d : Nat} (hd : d < n) (v : Value) : Fr n ((d, v) :: T) (a.put (some d) v) where
  size := by simp [Act.put, h.size]
  get := fun i u hf => by
    by_cases e : i = d
    · subst e
      rw [find_same] at hf
      obtain rfl : v = u := by simpa using hf
      simp [Act.put, h.size, hd]
    · rw [find_other T v e] at hf
      have := h.get i u hf
      simp only [Act.put, Array.getD_eq_getD_getElem?, Array.getElem?_setIfInBounds] at this ⊢
      rw [if_neg (fun e' => e e'.symm)]
      exact this
  nodef := h.nodef
theorem Fr.put0 (h : Fr n T a) (v : Value) : Fr n T (a.put none v) := h
/-- Fewer things known. -/
def Sub (T : Tm) : Tm → Prop
  | [] => True
  | (i, v) :: r => find T i = some v ∧ Sub T r
theorem Sub.find : ∀ {T' : Tm}, Sub T T' → ∀ i v, Sl.find T' i = some v → Sl.find T i = some v
  | [], _, i, v, h => by cases h
  | (j, u) :: r, ⟨h1, h2⟩, i, v, h => by
    by_cases e : i = j
    · subst e
      rw [find_same] at h
      rw [h1, h]
    · rw [find_other r u e] at h
      exact Sub.find h2 i v h
theorem Fr.sub (h : Fr n T a) (hs : Sub T T') : Fr n T' a := ⟨h.size, fun i v hf => h.get i v (hs.find i v hf), h.nodef⟩
end

/-! ### Memory -/
abbrev Foot := Nat → Prop
/-- A kind of thing in memory: what it says of the heap, and which blocks it is made of. -/
structure Kind where
  sat : Nat → Array Obj → Foot → Prop
  dom : ∀ {b h S}, sat b h S → ∀ i, S i → i < h.size
  loc : ∀ {b h h' S}, sat b h S → (∀ i, S i → h'[i]? = h[i]?) → sat b h' S
structure Blk where
  b : Nat
  k : Kind
/-- A block of cells, whole. -/
def cells (cs : List Value) (t : TypeId) : Kind where
  sat b h S := h[b]? = some (.cells cs.toArray t (0, 0)) ∧ ∀ i, S i ↔ i = b
  dom := fun ⟨h1, h2⟩ i hi => by
    rw [(h2 i).1 hi]
    exact (Array.getElem?_eq_some_iff.1 h1).1
  loc := fun ⟨h1, h2⟩ h => ⟨(h _ ((h2 _).2 rfl)).trans h1, h2⟩
/-- All of them, each in blocks of its own; 'S': the blocks that there are to be had. -/
def Sat : List Blk → Array Obj → Foot → Prop
  | [], _, _ => True
  | x :: H, h, S => ∃ S1 : Foot, x.k.sat x.b h S1 ∧ (∀ i, S1 i → S i) ∧ Sat H h (fun i => S i ∧ ¬ S1 i)
section
variable {h h' : Array Obj} {S S' : Foot} {H H' R : List Blk}
theorem Sat.mono : ∀ {H : List Blk} {S S' : Foot}, Sat H h S → (∀ i, S i → i < h.size → S' i) → Sat H h S'
  | [], _, _, _, _ => trivial
  | _ :: _, _, _, ⟨S1, h1, h2, h3⟩, hs => ⟨S1, h1, fun i hi => hs i (h2 i hi) (Kind.dom _ h1 i hi), h3.mono fun i hi hl => ⟨hs i hi.1 hl, hi.2⟩⟩
theorem Sat.loc : ∀ {H : List Blk} {S : Foot}, Sat H h S → (∀ i, S i → i < h.size → h'[i]? = h[i]?) → Sat H h' S
  | [], _, _, _ => trivial
  | _ :: _, _, ⟨S1, h1, h2, h3⟩, hs => ⟨S1, Kind.loc _ h1 fun i hi => hs i (h2 i hi) (Kind.dom _ h1 i hi), h2, h3.loc fun i hi => hs i hi.1⟩
theorem Sat.mem : ∀ {H : List Blk} {S : Foot}, Sat H h S → ∀ {x : Blk}, x ∈ H → ∃ S1 : Foot, x.k.sat x.b h S1 ∧ ∀ i, S1 i → S i
  | _ :: _, _, ⟨S1, h1, h2, _⟩, _, .head _ => ⟨S1, h1, h2⟩
  | _ :: _, _, ⟨_, _, _, h3⟩, _, .tail _ hx => let ⟨S2, e1, e2⟩ := h3.mem hx; ⟨S2, e1, fun i hi => (e2 i hi).1⟩
theorem Sat.append : ∀ {H R : List Blk} {S : Foot}, Sat (H ++ R) h S → ∃ S1 : Foot, (∀ i, S1 i → S i ∧ i < h.size) ∧ Sat H h S1 ∧ Sat R h (fun i => S i ∧ ¬ S1 i)
  | [], R, S, hs => ⟨fun _ => False, fun _ e => e.elim, trivial, hs.mono fun _ hi _ => ⟨hi, id⟩⟩
  | x :: H, R, S, ⟨S1, h1, h2, h3⟩ =>
    let ⟨S2, e1, e2, e3⟩ := h3.append
    ⟨fun i => S1 i ∨ S2 i, fun i hi => hi.elim (fun h => ⟨h2 i h, Kind.dom _ h1 i h⟩) (fun h => ⟨(e1 i h).1.1, (e1 i h).2⟩),
      ⟨S1, h1, fun _ => .inl, e2.mono fun i hi _ => ⟨.inr hi, (e1 i hi).1.2⟩⟩, e3.mono fun i hi _ => ⟨hi.1.1, fun h => h.elim hi.1.2 hi.2⟩⟩
theorem Sat.join : ∀ {H R : List Blk} {S1 S : Foot}, Sat H h S1 → (∀ i, S1 i → i < h.size → S i) → Sat R h (fun i => S i ∧ ¬ S1 i) → Sat (H ++ R) h S
  | [], R, _, _, _, _, hr => hr.mono fun _ hi _ => hi.1
  | x :: H, R, S1, S, ⟨S2, h1, h2, h3⟩, hs, hr =>
    ⟨S2, h1, fun i hi => hs i (h2 i hi) (Kind.dom _ h1 i hi), h3.join (fun i hi hl => ⟨hs i hi.1 hl, hi.2⟩) (hr.mono fun i hi _ => ⟨⟨hi.1, fun h => hi.2 (h2 i h)⟩, fun h => hi.2 h.1⟩)⟩
theorem Sat.swap {x y : Blk} (hs : Sat (x :: y :: H) h S) : Sat (y :: x :: H) h S :=
  let ⟨S1, a1, a2, S2, b1, b2, c⟩ := hs
  ⟨S2, b1, fun i hi => (b2 i hi).1, S1, a1, fun i hi => ⟨a2 i hi, fun h => (b2 i h).2 hi⟩, c.mono fun _ hi _ => ⟨⟨hi.1.1, hi.2⟩, hi.1.2⟩⟩
theorem Sat.cons {x : Blk} (f : ∀ S, Sat H h S → Sat H' h S) (hs : Sat (x :: H) h S) : Sat (x :: H') h S :=
  let ⟨S1, a1, a2, a3⟩ := hs
  ⟨S1, a1, a2, f _ a3⟩
theorem Sat.perm (hp : H.Perm H') : ∀ {S : Foot}, Sat H h S → Sat H' h S := by
  induction hp with
  | nil => exact fun h => h
  | cons x _ ih => exact fun h => h.cons fun _ => ih
  | swap x y l => exact fun h => h.swap
  | trans _ _ ih1 ih2 => exact fun h => ih2 (ih1 h)
theorem Sat.sub (hs : H'.Sublist H) : ∀ {S : Foot}, Sat H h S → Sat H' h S := by
  induction hs with
  | slnil => exact fun h => h
  | cons x _ ih => exact fun ⟨S1, _, _, h3⟩ => (ih h3).mono fun _ hi _ => hi.1
  | cons_cons x _ ih => exact fun h => h.cons fun _ => ih
end
/-- What may have turned since: the blocks of S0, and new ones. -/
abbrev Av (S0 : Foot) (w0 : World) : Foot := fun i => S0 i ∨ w0.heap.size ≤ i
structure Keep (S0 : Foot) (w0 w : World) : Prop where
  os : w.os = w0.os
  tape : w.tape = w0.tape
  output : w.output = w0.output
  size : w0.heap.size ≤ w.heap.size
  keep : ∀ k, k < w0.heap.size → ¬ S0 k → w.heap[k]? = w0.heap[k]?
structure Mem (S0 : Foot) (w0 w : World) (H : List Blk) : Prop where
  kept : Keep S0 w0 w
  sat : Sat H w.heap (Av S0 w0)
/-- Nothing of the caller's. -/
abbrev none0 : Foot := fun _ => False
section
variable {S0 : Foot} {w0 w w1 : World} {H H' R : List Blk} {old : List Value}
theorem Keep.refl (S0 : Foot) (w : World) : Keep S0 w w := ⟨rfl, rfl, rfl, Nat.le_refl _, fun _ _ _ => rfl⟩
theorem Keep.trans {S1 : Foot} (h : Keep S0 w0 w) (k : Keep S1 w w1) (hs : ∀ i, S1 i → Av S0 w0 i) : Keep S0 w0 w1 :=
  ⟨k.os.trans h.os, k.tape.trans h.tape, k.output.trans h.output, Nat.le_trans h.size k.size, fun i hi hn =>
    (k.keep i (Nat.lt_of_lt_of_le hi h.size) fun h1 => (hs i h1).elim hn (fun h2 => absurd hi (Nat.not_lt.2 h2))).trans (h.keep i hi hn)⟩
theorem Keep.below (h : Keep none0 w0 w) : Below w0.heap.size w0 w := ⟨h.os, h.tape, h.output, h.size, fun k hk => h.keep k hk id⟩
theorem Keep.ofBelow (h : Below w0.heap.size w0 w) : Keep S0 w0 w := ⟨h.os, h.tape, h.output, h.size, fun k hk _ => h.block k hk⟩
theorem Mem.below (h : Mem none0 w0 w H) : Below w0.heap.size w0 w := h.kept.below
theorem Mem.start (w : World) : Mem none0 w w [] := ⟨Keep.refl _ _, trivial⟩
theorem Mem.at_ (h : Mem S0 w0 w H) {b : Nat} {cs : List Value} {t : TypeId} (hx : (⟨b, cells cs t⟩ : Blk) ∈ H) : w.heap[b]? = some (.cells cs.toArray t (0, 0)) :=
  let ⟨_, h1, _⟩ := h.sat.mem hx
  h1.1
theorem Mem.call (h : Mem S0 w0 w H) (hb : Below w.heap.size w w1) : Mem S0 w0 w1 H :=
  ⟨h.kept.trans (.ofBelow hb) (S1 := none0) (fun _ e => e.elim), h.sat.loc fun i _ hl => hb.block i hl⟩
theorem Mem.drew (h : Mem S0 w0 w H) : Mem S0 w0 { w with drawn := w.drawn + 1 } H := h.call ⟨rfl, rfl, rfl, Nat.le_refl _, fun _ _ => rfl⟩
theorem Mem.sub (h : Mem S0 w0 w H) (hs : H'.Sublist H) : Mem S0 w0 w H' := ⟨h.kept, h.sat.sub hs⟩
theorem Mem.perm (h : Mem S0 w0 w H) (hp : H.Perm H') : Mem S0 w0 w H' := ⟨h.kept, h.sat.perm hp⟩
theorem Mem.swap {x y : Blk} (h : Mem S0 w0 w (x :: y :: H)) : Mem S0 w0 w (y :: x :: H) := ⟨h.kept, h.sat.swap⟩
/-- New memory, that a callee or an operation has made. -/
theorem Mem.call_more (h : Mem S0 w0 w H) (hb : Below w.heap.size w w1) (hs : Sat R w1.heap (fun i => w.heap.size ≤ i)) : Mem S0 w0 w1 (R ++ H) :=
  let h1 := h.call hb
  ⟨h1.kept, hs.join (fun i hi _ => .inr (Nat.le_trans h.kept.size hi)) ((h.sat.mono (S' := fun i => Av S0 w0 i ∧ i < w.heap.size) fun i hi hl => ⟨hi, hl⟩).loc (fun i hi _ => hb.block i hi.2) |>.mono fun i hi _ => ⟨hi.1, fun h2 => absurd hi.2 (Nat.not_lt.2 h2)⟩)⟩
theorem sat_one {b : Nat} {cs : List Value} {t : TypeId} {h : Array Obj} {S : Foot} (hat : h[b]? = some (.cells cs.toArray t (0, 0))) (hb : S b) : Sat [⟨b, cells cs t⟩] h S :=
  ⟨fun i => i = b, ⟨hat, fun _ => Iff.rfl⟩, fun i e => by rw [e]; exact hb, trivial⟩
theorem Mem.call_new (h : Mem S0 w0 w H) (hb : Below w.heap.size w w1) {b : Nat} {cs : List Value} {t : TypeId} (hlo : w.heap.size ≤ b) (hat : w1.heap[b]? = some (.cells cs.toArray t (0, 0))) : Mem S0 w0 w1 (⟨b, cells cs t⟩ :: H) :=
  h.call_more hb (R := [⟨b, cells cs t⟩]) (sat_one hat hlo)
theorem Mem.alloc (h : Mem S0 w0 w H) (cs : List Value) (t : TypeId) : Mem S0 w0 (w.alloc (.cells cs.toArray t)) (⟨w.heap.size, cells cs t⟩ :: H) :=
  h.call_new ((Below.refl _ _).alloc (Nat.le_refl _) _) (Nat.le_refl _) (heap_alloc_new w _)
/-- One piece turned into another. -/
theorem Sat.upd {h h' : Array Obj} {x x' : Blk} (hsz : h.size ≤ h'.size) (step : ∀ S1 : Foot, x.k.sat x.b h S1 → (∃ S2 : Foot, x'.k.sat x'.b h' S2 ∧ ∀ i, S2 i → S1 i ∨ h.size ≤ i) ∧ ∀ i, i < h.size → ¬ S1 i → h'[i]? = h[i]?) :
    ∀ {l r : List Blk} {S : Foot}, (∀ i, h.size ≤ i → S i) → Sat (l ++ x :: r) h S → Sat (l ++ x' :: r) h' S
  | [], r, S, hS, ⟨S1, h1, h2, h3⟩ =>
    let ⟨⟨S2, e1, e2⟩, e3⟩ := step S1 h1
    ⟨S2, e1, fun i hi => (e2 i hi).elim (h2 i) (hS i), ((h3.mono (S' := fun i => (S i ∧ ¬ S1 i) ∧ i < h.size) fun i hi hl => ⟨hi, hl⟩).loc (fun i hi hl => e3 i hl hi.1.2)).mono fun i hi _ => ⟨hi.1.1, fun h5 => (e2 i h5).elim hi.1.2 (fun h6 => absurd hi.2 (Nat.not_lt.2 h6))⟩⟩
  | y :: l, r, S, hS, ⟨Sy, h1, h2, h3⟩ => by
    have h3' : Sat (l ++ x :: r) h (fun i => S i ∧ ¬ Sy i) := h3
    refine ⟨Sy, Kind.loc _ h1 fun i hi => ?_, h2, Sat.upd hsz step (fun i hi => ⟨hS i hi, fun h5 => absurd (Kind.dom _ h1 i h5) (Nat.not_lt.2 hi)⟩) h3'⟩
    obtain ⟨S1, e1, e2⟩ := h3'.mem (x := x) (by simp)
    exact (step S1 e1).2 i (Kind.dom _ h1 i hi) fun h5 => (e2 i h5).2 hi
/-- One piece of the list, by its number. -/
class Has (H : List Blk) (b : Nat) (cs : outParam (List Value)) (t : outParam TypeId) : Prop where
  mem : (⟨b, cells cs t⟩ : Blk) ∈ H
instance (priority := high) hasHead (b : Nat) (cs : List Value) (t : TypeId) (H : List Blk) : Has (⟨b, cells cs t⟩ :: H) b cs t := ⟨by simp⟩
instance hasTail (x : Blk) (H : List Blk) (b : Nat) (cs : List Value) (t : TypeId) [h : Has H b cs t] : Has (x :: H) b cs t := ⟨List.mem_cons_of_mem _ h.mem⟩
/-- The list with another thing in one block. -/
class UpdK (H : List Blk) (b : Nat) (k : outParam Kind) (k' : Kind) (H' : outParam (List Blk)) : Prop where
  split : ∃ l r : List Blk, H = l ++ ⟨b, k⟩ :: r ∧ H' = l ++ ⟨b, k'⟩ :: r
instance (priority := high) updHead (b : Nat) (k k' : Kind) (H : List Blk) : UpdK (⟨b, k⟩ :: H) b k k' (⟨b, k'⟩ :: H) := ⟨[], H, rfl, rfl⟩
instance updTail (y : Blk) (b : Nat) (k k' : Kind) (H H' : List Blk) [h : UpdK H b k k' H'] : UpdK (y :: H) b k k' (y :: H') := by
  obtain ⟨l, r, e1, e2⟩ := h.split
  exact ⟨y :: l, r, by simp [e1], by simp [e2]⟩
/-- The same for the cells of one block. -/
class Upd (H : List Blk) (b : Nat) (cs : List Value) (t : outParam TypeId) (old : outParam (List Value)) (H' : outParam (List Blk)) : Prop where
  u : UpdK H b (cells old t) (cells cs t) H'
instance (priority := high) updCellsHead (b : Nat) (old cs : List Value) (t : TypeId) (H : List Blk) : Upd (⟨b, cells old t⟩ :: H) b cs t old (⟨b, cells cs t⟩ :: H) := ⟨inferInstance⟩
instance updCellsTail (y : Blk) (H H' : List Blk) (b : Nat) (old cs : List Value) (t : TypeId) [h : Upd H b cs t old H'] : Upd (y :: H) b cs t old (y :: H') := ⟨@updTail y b _ _ H H' h.u⟩
theorem Mem.updK (h : Mem S0 w0 w H) {b : Nat} {k k' : Kind} (hu : UpdK H b k k' H') (hsz : w.heap.size ≤ w1.heap.size)
    (step : ∀ S1 : Foot, k.sat b w.heap S1 → (∃ S2 : Foot, k'.sat b w1.heap S2 ∧ ∀ i, S2 i → S1 i ∨ w.heap.size ≤ i) ∧ ∀ i, i < w.heap.size → ¬ S1 i → w1.heap[i]? = w.heap[i]?)
    (h3 : w1.os = w.os) (h4 : w1.tape = w.tape) (h5 : w1.output = w.output) : Mem S0 w0 w1 H' := by
  obtain ⟨l, r, e1, e2⟩ := hu.split
  subst e1 e2
  obtain ⟨S1, s1, s2⟩ := h.sat.mem (x := ⟨b, k⟩) (by simp)
  refine ⟨h.kept.trans (S1 := S1) ⟨h3, h4, h5, hsz, fun i hi hn => (step S1 s1).2 i hi hn⟩ s2, ?_⟩
  exact h.sat.upd hsz (x := ⟨b, k⟩) (x' := ⟨b, k'⟩) step fun i hi => .inr (Nat.le_trans h.kept.size hi)
theorem Mem.upd (h : Mem S0 w0 w H) {b : Nat} {cs : List Value} {t : TypeId} [hu : Upd H b cs t old H'] (h1 : w1.heap[b]? = some (.cells cs.toArray t (0, 0))) (h2 : ∀ k, k ≠ b → w1.heap[k]? = w.heap[k]?)
    (h3 : w1.os = w.os) (h4 : w1.tape = w.tape) (h5 : w1.output = w.output) (h6 : w.heap.size ≤ w1.heap.size) : Mem S0 w0 w1 H' :=
  h.updK hu.u h6 (fun S1 s => ⟨⟨S1, ⟨h1, s.2⟩, fun _ hi => .inl hi⟩, fun i _ hn => h2 i fun e => hn ((s.2 i).2 e)⟩) h3 h4 h5
theorem Upd.at_ {b : Nat} {cs : List Value} {t : TypeId} (hu : Upd H b cs t old H') (h : Mem S0 w0 w H) : w.heap[b]? = some (.cells old.toArray t (0, 0)) := by
  obtain ⟨l, r, e1, _⟩ := hu.u.split
  exact h.at_ (by rw [e1]; simp)
theorem Mem.setCell (h : Mem S0 w0 w H) {b i : Nat} {old cs : List Value} {t : TypeId} [hu : Upd H b cs t old H'] {v : Value} (hc : old.set i v = cs) : Mem S0 w0 (w.setCell ⟨b, i, none⟩ v) H' := by
  have hat := hu.at_ h
  refine h.upd (b := b) (old := old) (t := t) (cs := cs) ?_ (fun k hk => heap_setCell_other w _ k v hk) rfl rfl rfl (by simp)
  rw [heap_setCell_same w b i _ t v hat, ← hc]
  simp
theorem Mem.setRow (h : Mem S0 w0 w H) {b : Nat} {old cs : List Value} {t : TypeId} [hu : Upd H b cs t old H'] : Mem S0 w0 (w.setRow b cs.toArray) H' := by
  have hat := hu.at_ h
  exact h.upd (b := b) (old := old) (t := t) (cs := cs) (setRow_heap w b _ _ t _ hat) (fun k hk => setRow_other w b k _ hk) rfl rfl rfl (by simp)
/-- Some of the list, the rest behind them. -/
class Split (H : List Blk) (G : List Blk) (R : outParam (List Blk)) : Prop where
  perm : H.Perm (G ++ R)
/-- One taken out. -/
class Out (H : List Blk) (b : Nat) (k : outParam Kind) (R : outParam (List Blk)) : Prop where
  perm : H.Perm (⟨b, k⟩ :: R)
instance (priority := high) outHead (b : Nat) (k : Kind) (H : List Blk) : Out (⟨b, k⟩ :: H) b k H := ⟨List.Perm.refl _⟩
instance outTail (y : Blk) (b : Nat) (k : Kind) (H R : List Blk) [h : Out H b k R] : Out (y :: H) b k (y :: R) := ⟨(h.perm.cons y).trans (List.Perm.swap _ _ _)⟩
instance split0 (H : List Blk) : Split H [] H := ⟨List.Perm.refl _⟩
instance split1 (H R R' G : List Blk) (b : Nat) (k : Kind) [h : Out H b k R] [h' : Split R G R'] : Split H (⟨b, k⟩ :: G) R' := ⟨h.perm.trans (h'.perm.cons _)⟩
end

/-! ### Code -/
section
variable (P : Program) (B : Foot) (n : Nat) (w0 : World)
/-- A list of operations, from what is known. -/
structure W (ops : Array Oper) (Q : Exit → Act → World → Prop) (l : List Oper) (T : Tm) (H : List Blk) : Prop where of ::
  run : ∀ a w, Fr n T a → Mem B w0 w H → wpList P ops Q l a w
/-- A piece of code, from what is known. -/
structure C (Q : Exit → Act → World → Prop) (c : Code) (T : Tm) (H : List Blk) : Prop where of ::
  run : ∀ a w, Fr n T a → Mem B w0 w H → c.wp P Q a w
/-- What is asked at an end. -/
structure E (Q : Exit → Act → World → Prop) (e : Exit) (T : Tm) (H : List Blk) : Prop where of ::
  run : ∀ a w, Fr n T a → Mem B w0 w H → Q e a w
/-- The operations of a region that draws its order, all of which only read; 'tl': what comes behind them all. -/
structure WQ (ops : Array Oper) (Q : Exit → Act → World → Prop) (tl l : List Oper) (T : Tm) (H : List Blk) : Prop where of ::
  run : ∀ a, Fr n T a → wpQuiet P ops (fun w' => Mem B w0 w' H) (fun a' => ∀ w', Mem B w0 w' H → wpList P ops Q tl a' w') l a
end
section
variable {P : Program} {B : Foot} {n : Nat} {w0 : World} {Q K : Exit → Act → World → Prop} {T T' : Tm} {H H' : List Blk} {ops : Array Oper} {l : List Oper}

theorem c_seq {x y : Code} (h : C P B n w0 (Exit.then (y.wp P Q) Q) x T H) : C P B n w0 Q (.seq x y) T H := .of fun a w hf hm => wp_seq (h.run a w hf hm)
theorem c_block {id : Nat} {c : Code} (h : C P B n w0 (Exit.inBlock id Q) c T H) : C P B n w0 Q (.block id c) T H := .of fun a w hf hm => wp_block (h.run a w hf hm)
theorem c_skip (h : E B n w0 Q .normal T H) : C P B n w0 Q .skip T H := .of fun a w hf hm => wp_skip (h.run a w hf hm)
theorem c_exit {id : Nat} (h : E B n w0 Q (.exit id) T H) : C P B n w0 Q (.exit id) T H := .of fun a w hf hm => wp_exit (h.run a w hf hm)
theorem c_ret (h : E B n w0 Q .ret T H) : C P B n w0 Q .ret T H := .of fun a w hf hm => wp_ret (h.run a w hf hm)
theorem c_region {id : Nat} (h : W P B n w0 l.toArray Q l T H) : C P B n w0 Q (.region id l.toArray false) T H := .of fun a w hf hm => wp_region_lit (h.run a w hf hm)
theorem c_draw {id : Nat} (hm : P.follows .mixedOrders = true) (hB : Region.lexB .any l.toArray = true) (h : WQ P B n w0 l.toArray Q [] l T H) : C P B n w0 Q (.region id l.toArray true) T H :=
  .of fun a _ hf hw => wp_region_quiet (C := fun w' => Mem B w0 w' H) hm hB hw.drew (by simpa [wpList] using h.run a hf)
theorem c_cond {c : Operand} {x y : Code} {b : Bool} (hc : ev T c = some (.bool b)) (ht : b = true → C P B n w0 Q x T H) (hf : b = false → C P B n w0 Q y T H) : C P B n w0 Q (.cond c x y) T H :=
  .of fun a w h hm => wp_cond_split (h.ev hc) (fun e => (ht e).run a w h hm) (fun e => (hf e).run a w h hm)
theorem c_cond_t {c : Operand} {x y : Code} (hc : ev T c = some (.bool true)) (h : C P B n w0 Q x T H) : C P B n w0 Q (.cond c x y) T H :=
  .of fun a w hf hm => wp_cond_true (hf.ev hc) (h.run a w hf hm)
theorem c_cond_f {c : Operand} {x y : Code} (hc : ev T c = some (.bool false)) (h : C P B n w0 Q y T H) : C P B n w0 Q (.cond c x y) T H :=
  .of fun a w hf hm => wp_cond_false (hf.ev hc) (h.run a w hf hm)
theorem c_cond_dec {c : Operand} {x y : Code} {p : Prop} [Decidable p] (hc : ev T c = some (.bool (decide p))) (ht : p → C P B n w0 Q x T H) (hf : ¬ p → C P B n w0 Q y T H) : C P B n w0 Q (.cond c x y) T H :=
  c_cond hc (fun e => ht (of_decide_eq_true e)) (fun e => hf (of_decide_eq_false e))
theorem c_cond_eq {c : Operand} {x y : Code} {p q : Int} (hc : ev T c = some (.bool (p == q))) (ht : p = q → C P B n w0 Q x T H) (hf : p ≠ q → C P B n w0 Q y T H) : C P B n w0 Q (.cond c x y) T H :=
  c_cond hc (fun e => ht (by simpa using e)) (fun e => hf (by simpa using e))
theorem c_cond_ne {c : Operand} {x y : Code} {p q : Int} (hc : ev T c = some (.bool (p != q))) (ht : p ≠ q → C P B n w0 Q x T H) (hf : p = q → C P B n w0 Q y T H) : C P B n w0 Q (.cond c x y) T H :=
  c_cond hc (fun e => ht (by simpa using e)) (fun e => hf (by simpa using e))
theorem c_cond_not {c : Operand} {x y : Code} {p : Bool} (hc : ev T c = some (.bool (!p))) (ht : p = false → C P B n w0 Q x T H) (hf : p = true → C P B n w0 Q y T H) : C P B n w0 Q (.cond c x y) T H :=
  c_cond hc (fun e => ht (by simpa using e)) (fun e => hf (by simpa using e))
/-- A loop: 'S i' is what is known at a round's head, 'μ i' how many rounds at most are to come. -/
theorem c_loop {ι : Type} {c : Code} (S : ι → Tm × List Blk) (μ : ι → Nat) (i0 : ι) (hs : Sub T (S i0).1) (hh : ∀ w, Mem B w0 w H → Mem B w0 w (S i0).2)
    (round : ∀ i, C P B n w0 (Exit.then (fun a w => ∃ j, μ j < μ i ∧ Fr n (S j).1 a ∧ Mem B w0 w (S j).2) Q) c (S i).1 (S i).2) : C P B n w0 Q (.loop c) T H := by
  refine .of fun a w hf hm => ?_
  refine wp_loop_ghost (fun k a w => ∃ i, μ i = k ∧ Fr n (S i).1 a ∧ Mem B w0 w (S i).2) (μ i0) ⟨i0, rfl, hf.sub hs, hh w hm⟩ ?_
  rintro k a w ⟨i, rfl, hf, hm⟩
  refine wp_mono ((round i).run a w hf hm) (fun e a w hq => ?_)
  cases e with
  | normal =>
    obtain ⟨j, hj, h1, h2⟩ := hq
    exact ⟨μ j, hj, j, rfl, h1, h2⟩
  | exit id => exact hq
  | goto l => exact hq
  | ret => exact hq
  | panic ch => exact hq
  | outgrown => exact hq
theorem e_round {ι : Type} {S : ι → Tm × List Blk} {μ : ι → Nat} {i : ι} (j : ι) (hj : μ j < μ i) (hs : Sub T (S j).1) (hh : ∀ w, Mem B w0 w H → Mem B w0 w (S j).2) :
    E B n w0 (Exit.then (fun a w => ∃ j, μ j < μ i ∧ Fr n (S j).1 a ∧ Mem B w0 w (S j).2) Q) .normal T H := .of fun _ w hf hm => ⟨j, hj, hf.sub hs, hh w hm⟩
/-- Ways that meet again: the first piece ends, in whatever way, in one of the states 'S i' (or leaves). -/
theorem c_cut {ι : Type} {x y : Code} (S : ι → Tm × List Blk) (hx : C P B n w0 (Exit.then (fun a w => ∃ i, Fr n (S i).1 a ∧ Mem B w0 w (S i).2) Q) x T H) (hy : ∀ i, C P B n w0 Q y (S i).1 (S i).2) : C P B n w0 Q (.seq x y) T H := by
  refine .of fun a w hf hm => ?_
  refine wp_seq (wp_mono (hx.run a w hf hm) (fun e a w hq => ?_))
  cases e with
  | normal =>
    obtain ⟨i, h1, h2⟩ := hq
    exact (hy i).run a w h1 h2
  | exit id => exact hq
  | goto l => exact hq
  | ret => exact hq
  | panic ch => exact hq
  | outgrown => exact hq
theorem e_cut {ι : Type} {S : ι → Tm × List Blk} (i : ι) (hs : Sub T (S i).1) (hh : ∀ w, Mem B w0 w H → Mem B w0 w (S i).2) : E B n w0 (Exit.then (fun a w => ∃ i, Fr n (S i).1 a ∧ Mem B w0 w (S i).2) Q) .normal T H :=
  .of fun _ w hf hm => ⟨i, hf.sub hs, hh w hm⟩
theorem c_sub {c : Code} (T' : Tm) (h : C P B n w0 Q c T' H) (hs : Sub T T') : C P B n w0 Q c T H := .of fun a w hf hm => h.run a w (hf.sub hs) hm
theorem c_mem {c : Code} (H' : List Blk) (hh : ∀ w, Mem B w0 w H → Mem B w0 w H') (h : C P B n w0 Q c T H') : C P B n w0 Q c T H := .of fun a w hf hm => h.run a w hf (hh w hm)

theorem e_seq {y : Code} (h : C P B n w0 Q y T H) : E B n w0 (Exit.then (y.wp P Q) Q) .normal T H := .of fun a w hf hm => h.run a w hf hm
theorem e_then_exit {id : Nat} {N : Act → World → Prop} (h : E B n w0 Q (.exit id) T H) : E B n w0 (Exit.then N Q) (.exit id) T H := .of fun a w hf hm => h.run a w hf hm
theorem e_then_ret {N : Act → World → Prop} (h : E B n w0 Q .ret T H) : E B n w0 (Exit.then N Q) .ret T H := .of fun a w hf hm => h.run a w hf hm
theorem e_in_normal {id : Nat} (h : E B n w0 Q .normal T H) : E B n w0 (Exit.inBlock id Q) .normal T H := .of fun a w hf hm => h.run a w hf hm
theorem e_in_ret {id : Nat} (h : E B n w0 Q .ret T H) : E B n w0 (Exit.inBlock id Q) .ret T H := .of fun a w hf hm => h.run a w hf hm
theorem e_in_same {id : Nat} (h : E B n w0 Q .normal T H) : E B n w0 (Exit.inBlock id Q) (.exit id) T H := .of fun a w hf hm => by
  show if id = id then _ else _
  rw [if_pos rfl]
  exact h.run a w hf hm
theorem e_in_other {id id' : Nat} (hne : Nat.beq id' id = false) (h : E B n w0 Q (.exit id') T H) : E B n w0 (Exit.inBlock id Q) (.exit id') T H := .of fun a w hf hm => by
  show if id' = id then _ else _
  rw [if_neg (fun e => by subst e; simp at hne)]
  exact h.run a w hf hm
theorem w_nil (h : E B n w0 Q .normal T H) : W P B n w0 ops Q [] T H := .of fun a w hf hm => wpList_nil (h.run a w hf hm)
theorem q_nil {tl : List Oper} (h : W P B n w0 ops Q tl T H) : WQ P B n w0 ops Q tl [] T H := .of fun a hf => wpQuiet_nil fun w hm => h.run a w hf hm
end
end Sl
end Go.Proofs.Ytiolijpamidpfaa
