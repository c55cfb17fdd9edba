/-
  What every law of this seat shares: arguments read again after a call that only laid new blocks; the post of a row that says 'true'; and plain arguments (numbers, structs and arrays of numbers) opened as lists of cells. No conditions beyond those in each statement.
-/
import Derived.Test.YtiolijpamidpfaaRows
import Derived.WalkKit
import Derived.ProofKit
import Derived.OpenShut
import Derived.Carry
import Derived.Lib.SmallJoins
import Derived.Deep.QuietTactic
import Derived.BigQuiet
namespace Go.Proofs.Ytiolijpamidpfaa
open Go.ChangeShapes Go.WideShapes Go.ChangeAt Go.RowKit
namespace Law

theorem own : ownKnob Try.prog.godebug = none := by kernel_rfl
theorem laidOut : laidOutB Try.prog = true := by kernel_rfl

section
variable {H : Type} {enc : TypeId × Value → H} {P : Program}

theorem trodAll_below (hl : laidOutB P = true) {W W' : World} (hb : Below W.heap.size W W') :
    ∀ (ts : List TypeId) (vs : List Value) (ds : List (DataW H)) (ps : List MemPlace), (ts.all fun t => P.readableRec t && decide (t < P.types.size)) = true →
      DataW.TrodAll enc P W 0 (fun _ => true) true ts vs ds ps → (∀ x ∈ ps, x.block < W.heap.size) →
      DataW.TrodAll enc P W' 0 (fun b => decide (b < W.heap.size)) true ts vs ds ps
  | [], vs, ds, ps, _, h, _ => by
    obtain ⟨rfl, rfl, rfl⟩ := trodAll_nil h
    exact trodAll_mk0
  | t :: ts, vs, ds, ps, hr, h, hlt => by
    obtain ⟨v, vs', d, ds', p, q, rfl, rfl, rfl, h0, h1⟩ := trodAll_cons h
    simp only [List.all_cons, Bool.and_eq_true, decide_eq_true_eq] at hr
    exact trodAll_cons_mk (Below.trod hl hr.1.1 hr.1.2 h0 hb (fun x hx => hlt x (List.mem_append_left _ hx)))
      (trodAll_below hl hb ts vs' ds' q (by simpa using hr.2) h1 (fun x hx => hlt x (List.mem_append_right _ hx)))

/-- The post of a row that answers 'true' and leaves its arguments alone. -/
theorem post_law {f : Func} {s : ChangeSpec} {W W' : World} {args : Array Value} {ds gs : List (DataW H)} {before : List MemPlace} {tb : TypeId}
    (hl : laidOutB P = true) (hr : (f.params.toList.all fun t => P.readableRec t && decide (t < P.types.size)) = true)
    (hW : DataW.Whole enc P f.params.toList s.vars false W args.toList ds gs before) (hv : s.vars = [])
    (hrt : f.resultTypes = #[tb]) (htb : P.underlying tb = some .bool)
    (hfn : s.fn H (ds ++ gs) = { results := [.lit (.bool true)], args := ds })
    (hb : Below W.heap.size W W') : s.post enc P f false true false false W args (.bool true) W' := by
  have hW' := hW
  obtain ⟨p, q, hA, hV, hpq, hfz, hnd⟩ := hW
  have hlt : ∀ x ∈ p, x.block < W.heap.size := fun x hx => by
    have := hW'.lt x (by rw [hpq]; exact List.mem_append_left _ hx)
    simpa using this
  refine ⟨ds, gs, before, [], p, [], hW', ?_, ?_, ?_, hb.frame _, fun h => by cases h⟩
  · rw [hfn, hrt]
    exact trodAll_mk1 (shut_bool htb true)
  · rw [hfn]
    exact trodAll_below hl hb _ _ _ _ hr hA hlt
  · rw [hfn, hv]
    rfl
end

/-! ### Plain cells -/

/-- The kinds of the cells of a plain type; 'sub t': a cell of another type, with its reading kept. -/
inductive Kind where
  | int (k : IntKind)
  | bool
  | sub (t : TypeId)

/-- The fields' kinds, one field behind the other. -/
def kindsFields (K : TypeId → Option (List Kind)) (cells : TypeId → Nat) : List Field → List Kind → Option (List Kind)
  | [], acc => some acc
  | f :: fs, acc =>
    match K f.type with
    | some l => if acc.length = f.offset ∧ l.length = cells f.type then kindsFields K cells fs (acc ++ l) else none
    | none => none

/-- The cells of a type, one kind each; none where its layout isn't one cell behind the other. -/
def kindsOf (P : Program) : Nat → TypeId → Option (List Kind)
  | 0, _ => none
  | n + 1, t =>
    match P.underlying t with
    | some (.int k) => some [.int k]
    | some .bool => some [.bool]
    | some (.array m e) =>
      match kindsOf P n e with
      | some l => if l.length = P.cellsOf e ∧ P.cellsOf t = m * P.cellsOf e then some (List.replicate m l).flatten else none
      | none => none
    | some (.struct fs) =>
      match kindsFields (kindsOf P n) P.cellsOf fs.toList [] with
      | some l => if l.length = P.cellsOf t then some l else none
      | none => none
    | _ => some [.sub t]

section
variable {H : Type} {enc : TypeId × Value → H} {P : Program} {W : World} {base : Nat} {spare : Nat → Bool} {held : Bool}

/-- A cell that fits its kind. -/
def Fits (enc : TypeId × Value → H) (P : Program) (W : World) (base : Nat) (spare : Nat → Bool) (held : Bool) : Kind → Value → Prop
  | .int k, v => ∃ n, v = .int k n ∧ (Lit.int k n).wf = true
  | .bool, v => ∃ b, v = .bool b
  | .sub t, v => ∃ fuel x, DataW.trod enc P W base spare held fuel t [v] = some x

/-- Cells that fit their kinds, one by one. -/
def FitsAll (enc : TypeId × Value → H) (P : Program) (W : World) (base : Nat) (spare : Nat → Bool) (held : Bool) : List Kind → List Value → Prop
  | [], vs => vs = []
  | k :: ks, vs => ∃ v vs', vs = v :: vs' ∧ Fits enc P W base spare held k v ∧ FitsAll enc P W base spare held ks vs'

theorem fitsAll_append : ∀ {ks ks' : List Kind} {vs vs' : List Value}, FitsAll enc P W base spare held ks vs → FitsAll enc P W base spare held ks' vs' → FitsAll enc P W base spare held (ks ++ ks') (vs ++ vs')
  | [], _, _, _, h, h' => by subst h; exact h'
  | _ :: _, _, _, _, ⟨v, vs, e, hv, hr⟩, h' => by
    subst e
    exact ⟨v, _, rfl, hv, fitsAll_append hr h'⟩

theorem fitsAll_length : ∀ {ks : List Kind} {vs : List Value}, FitsAll enc P W base spare held ks vs → vs.length = ks.length
  | [], _, h => by subst h; rfl
  | _ :: _, _, ⟨v, vs, e, _, hr⟩ => by subst e; simp [fitsAll_length hr]

theorem fits_struct {n : Nat} (ih : ∀ (t : TypeId) (ks : List Kind) (fuel : Nat) (cs : List Value) (x : DataW H × List MemPlace), kindsOf P n t = some ks → DataW.trod enc P W base spare held fuel t cs = some x → FitsAll enc P W base spare held ks cs)
    (fuel : Nat) (cs : List Value) : ∀ (fs : List Field) (acc ks : List Kind), FitsAll enc P W base spare held acc (cs.take acc.length) → acc.length ≤ cs.length →
      (∀ f ∈ fs, ∃ x, DataW.trod enc P W base spare held fuel f.type ((cs.drop f.offset).take (P.cellsOf f.type)) = some x) →
      kindsFields (kindsOf P n) P.cellsOf fs acc = some ks → FitsAll enc P W base spare held ks (cs.take ks.length) ∧ ks.length ≤ cs.length
  | [], acc, ks, h, hl, _, e => by
    simp only [kindsFields, Option.some.injEq] at e
    subst e
    exact ⟨h, hl⟩
  | f :: fs, acc, ks, h, hl, hf, e => by
    unfold kindsFields at e
    obtain ⟨x, hx⟩ := hf f (by simp)
    split at e
    · rename_i l' hk
      split at e
      · rename_i hc
        have h2 := ih f.type l' fuel _ x hk hx
        have hxl := fitsAll_length h2
        have hlen : acc.length + l'.length ≤ cs.length := by
          simp only [List.length_take, List.length_drop] at hxl
          omega
        refine fits_struct ih fuel cs fs (acc ++ l') ks ?_ (by rw [List.length_append]; exact hlen) (fun g hg => hf g (by simp [hg])) e
        have : cs.take (acc ++ l').length = cs.take acc.length ++ (cs.drop f.offset).take (P.cellsOf f.type) := by
          rw [List.length_append, List.take_add, hc.1, hc.2]
        rw [this]
        exact fitsAll_append h h2
      · cases e
    · cases e

theorem fits_array {c : Nat} {l : List Kind} (hlc : l.length = c) : ∀ (m : Nat) (cs : List Value), cs.length = m * c →
    (∀ i, i < m → FitsAll enc P W base spare held l ((cs.drop (i * c)).take c)) → FitsAll enc P W base spare held (List.replicate m l).flatten cs
  | 0, cs, hl, _ => by
    have : cs = [] := List.length_eq_zero_iff.1 (by simpa using hl)
    subst this
    rfl
  | m + 1, cs, hl, h => by
    have h0 := h 0 (by omega)
    have e : cs = cs.take c ++ cs.drop c := (List.take_append_drop c cs).symm
    rw [List.replicate_succ, List.flatten_cons, e]
    refine fitsAll_append (by simpa using h0) (fits_array hlc m (cs.drop c) ?_ ?_)
    · rw [List.length_drop, hl, Nat.succ_mul]; omega
    · intro i hi
      have := h (i + 1) (by omega)
      rw [List.drop_drop]
      rwa [show c + i * c = (i + 1) * c from by rw [Nat.succ_mul]; omega]

theorem trod_one {t : TypeId} {fuel : Nat} {cs : List Value} {x : DataW H × List MemPlace} (hs : ∀ fs, P.underlying t ≠ some (.struct fs)) (ha : ∀ m e, P.underlying t ≠ some (.array m e))
    (h : DataW.trod enc P W base spare held fuel t cs = some x) : ∃ v, cs = [v] := by
  cases fuel with
  | zero => simp [DataW.trod] at h
  | succ n =>
    unfold DataW.trod at h
    split at h <;> first | exact ⟨_, rfl⟩ | (exfalso; rename_i e; exact hs _ e) | (exfalso; rename_i e; exact ha _ _ e) | cases h | skip

theorem fits_of_trod : ∀ (n : Nat) (t : TypeId) (ks : List Kind) (fuel : Nat) (cs : List Value) (x : DataW H × List MemPlace), kindsOf P n t = some ks →
    DataW.trod enc P W base spare held fuel t cs = some x → FitsAll enc P W base spare held ks cs
  | 0, _, _, _, _, _, e, _ => by cases e
  | n + 1, t, ks, fuel, cs, x, e, h => by
    unfold kindsOf at e
    split at e
    · rename_i k hu
      simp only [Option.some.injEq] at e
      subst e
      obtain ⟨z, rfl, _, hw⟩ := DataW.trod_int hu h
      exact ⟨_, _, rfl, ⟨z, rfl, hw⟩, rfl⟩
    · rename_i hu
      simp only [Option.some.injEq] at e
      subst e
      obtain ⟨b, rfl, _⟩ := DataW.trod_bool hu h
      exact ⟨_, _, rfl, ⟨b, rfl⟩, rfl⟩
    · rename_i m el hu
      split at e
      · rename_i l hk
        split at e
        · rename_i hc
          simp only [Option.some.injEq] at e
          subst e
          obtain ⟨xs, f', rfl, _, hl, hxl, hi⟩ := DataW.trod_array hu h
          refine fits_array hc.1 m cs (by rw [hl, hc.2]) (fun i hlt => ?_)
          have hx := hi i hlt
          rw [List.getElem?_eq_getElem (by omega)] at hx
          exact fits_of_trod n el l f' _ _ hk hx
        · cases e
      · cases e
    · rename_i fs hu
      split at e
      · rename_i l hk
        split at e
        · rename_i hc
          simp only [Option.some.injEq] at e
          subst e
          obtain ⟨xs, f', rfl, _, hl, hxl, hi⟩ := DataW.trod_struct hu h
          have := fits_struct (fun t ks fuel cs x => fits_of_trod n t ks fuel cs x) f' cs fs.toList [] l (by simp [FitsAll]) (by simp) (fun f hf => ?_) hk
          · rw [hc, ← hl, List.take_length] at this
            exact this.1
          · obtain ⟨i, hlt, hfi⟩ := List.getElem_of_mem hf
            have hlt' : i < fs.size := by simpa using hlt
            have := hi i f (by rw [Array.getElem?_eq_getElem hlt']; simpa using hfi)
            rw [List.getElem?_eq_getElem (by omega)] at this
            exact ⟨_, this⟩
        · cases e
      · cases e
    · rename_i h1 h2 h3 h4
      simp only [Option.some.injEq] at e
      subst e
      obtain ⟨v, rfl⟩ := trod_one (fun fs hfs => h4 fs hfs) (fun m el he => h3 m el he) h
      exact ⟨_, _, rfl, ⟨fuel, x, h⟩, rfl⟩
/-- A struct or an array by value: its cells. -/
theorem open_flat {t : TypeId} {ks : List Kind} {n : Nat} {r : Reach} {b0 : Nat} {v : Value} {d : DataW H} {ps : List MemPlace}
    (hu : (∃ fs, P.underlying t = some (.struct fs)) ∨ ∃ m e, P.underlying t = some (.array m e)) (hk : kindsOf P n t = some ks)
    (hv : Value.okWide P W r b0 t v) (h : DataW.Trod enc P W base spare held t v d ps) : ∃ cs : List Value, v = .agg cs.toArray ∧ FitsAll enc P W base spare held ks cs := by
  have hv' : ∃ cs, v = .agg cs := by
    rcases hu with ⟨fs, hu⟩ | ⟨m, e, hu⟩ <;> (unfold Value.okWide at hv; rw [hu] at hv; obtain ⟨cs, e, _⟩ := hv; exact ⟨cs, e⟩)
  obtain ⟨cs, rfl⟩ := hv'
  obtain ⟨fuel, hf⟩ := h
  exact ⟨cs.toList, by simp, fits_of_trod n t ks fuel _ _ hk hf⟩
end

/-! ### A region that draws its order, whose operations only read, and whose callees may lay blocks of their own -/

/-- A world that is, below block number B, as w is. -/
structure BelowOf (B : Nat) (w : World) where
  world : World
  below : Below B w world

instance (B : Nat) (w : World) : Inhabited (BelowOf B w) := ⟨⟨w, Below.refl B w⟩⟩

theorem wp_region_below {P : Program} {id : Nat} {Q : Exit → Act → World → Prop} {a : Act} {B : Nat} {w0 w : World} {l : List Oper} (hm : P.follows .mixedOrders = true) (hB : Region.lexB .any l.toArray = true)
    (hb : Below B w0 w)
    (h : wpQuiet P l.toArray (fun w' => ∃ p : BelowOf B w0, w' = p.world) (fun a' => ∀ w', (∃ p : BelowOf B w0, w' = p.world) → Q .normal a' w') l a) : (Code.region id l.toArray true).wp P Q a w :=
  wp_region_quiet (C := fun w' => ∃ p : BelowOf B w0, w' = p.world) hm hB ⟨⟨{ w with drawn := w.drawn + 1 }, ⟨hb.os, hb.tape, hb.output, hb.size, hb.block⟩⟩, rfl⟩ (by simpa using h)

/-- A callee's contract, met in such a world. -/
theorem calls_below {P : Program} {f : FuncId} {args : Array Value} {B : Nat} {w0 : World} {p : BelowOf B w0} {v : Value} (hB : B ≤ w0.heap.size)
    (h : Calls P f args p.world fun e w' => e = .returned v ∧ Below p.world.heap.size p.world w') :
    Calls P f args p.world fun e w' => e = .returned v ∧ ∃ q : BelowOf B w0, w' = q.world :=
  h.mono fun _ w' ⟨he, hw⟩ => ⟨he, ⟨w', p.below.trans (hw.mono (Nat.le_trans hB p.below.size))⟩, rfl⟩
theorem calls_same {P : Program} {f : FuncId} {args : Array Value} {B : Nat} {w0 : World} {p : BelowOf B w0} {v : Value}
    (h : Calls P f args p.world fun e w' => e = .returned v ∧ p.world = w') :
    Calls P f args p.world fun e w' => e = .returned v ∧ ∃ q : BelowOf B w0, w' = q.world :=
  h.mono fun _ _ ⟨he, hw⟩ => ⟨he, p, hw.symm⟩

theorem heap_new (w : World) (o : Obj) : (w.alloc o).heap[w.heap.size]? = some o := (MapKept.heap_alloc w o).1
theorem cell_new (w : World) (cs : Array Value) (t : TypeId) (i : Nat) : (w.alloc (.cells cs t)).cell? ⟨w.heap.size, i, none⟩ = cs[i]? := by
  unfold World.cell?
  rw [heap_new]
  rfl
theorem frozen_new (w : World) (cs : Array Value) (t : TypeId) (i : Nat) : (w.alloc (.cells cs t)).frozen? ⟨w.heap.size, i, none⟩ = false := by
  unfold World.frozen?
  rw [heap_new]
  simp

/-- A boxed struct of two cells, in every later world. -/
theorem box2 (w : World) (x y : Value) (t : TypeId) (p : BelowOf (w.heap.size + 1) (w.alloc (.cells #[x, y] t))) :
    p.world.cell? ⟨w.heap.size, 0, none⟩ = some x ∧ p.world.cell? ⟨w.heap.size, 1, none⟩ = some y :=
  ⟨(p.below.cell (p := ⟨w.heap.size, 0, none⟩) (Nat.lt_succ_self _)).trans (cell_new w _ t 0), (p.below.cell (p := ⟨w.heap.size, 1, none⟩) (Nat.lt_succ_self _)).trans (cell_new w _ t 1)⟩
theorem box2b {w w1 : World} {x y : Value} {t : TypeId} {B : Nat} (h : Below B (w.alloc (.cells #[x, y] t)) w1) (hB : w.heap.size < B) :
    w1.cell? ⟨w.heap.size, 0, none⟩ = some x ∧ w1.cell? ⟨w.heap.size, 1, none⟩ = some y :=
  ⟨(h.cell (p := ⟨w.heap.size, 0, none⟩) hB).trans (cell_new w _ t 0), (h.cell (p := ⟨w.heap.size, 1, none⟩) hB).trans (cell_new w _ t 1)⟩
/-- Several boxes, one behind the other. -/
def allocs (w : World) : List (Array Value × TypeId) → World
  | [] => w
  | (cs, t) :: bs => allocs (w.alloc (.cells cs t)) bs
theorem allocs_size : ∀ (bs : List (Array Value × TypeId)) (w : World), (allocs w bs).heap.size = w.heap.size + bs.length
  | [], _ => rfl
  | (cs, t) :: bs, w => by
    unfold allocs
    rw [allocs_size bs]
    simp
    omega
theorem allocs_old : ∀ (bs : List (Array Value × TypeId)) (w : World) (k : Nat), k < w.heap.size → (allocs w bs).heap[k]? = w.heap[k]?
  | [], _, _, _ => rfl
  | (cs, t) :: bs, w, k, h => by
    unfold allocs
    rw [allocs_old bs _ k (by simp; omega)]
    exact Below.heap_alloc w _ k h
theorem allocs_at : ∀ (bs : List (Array Value × TypeId)) (w : World) (i : Nat) (cs : Array Value) (t : TypeId), bs[i]? = some (cs, t) → (allocs w bs).heap[w.heap.size + i]? = some (.cells cs t)
  | [], _, _, _, _, h => by simp at h
  | (cs', t') :: bs, w, 0, cs, t, h => by
    simp only [List.getElem?_cons_zero, Option.some.injEq, Prod.mk.injEq] at h
    obtain ⟨rfl, rfl⟩ := h
    unfold allocs
    rw [allocs_old bs _ _ (by simp)]
    exact heap_new w _
  | (cs', t') :: bs, w, i + 1, cs, t, h => by
    unfold allocs
    have := allocs_at bs (w.alloc (.cells cs' t')) i cs t (by simpa using h)
    rwa [show (w.alloc (.cells cs' t')).heap.size + i = w.heap.size + (i + 1) from by simp; omega] at this
theorem box_at {bs : List (Array Value × TypeId)} {w w1 : World} {B : Nat} (h : Below B (allocs w bs) w1) (hB : w.heap.size + bs.length ≤ B) {i : Nat} {cs : Array Value} {t : TypeId} (hi : bs[i]? = some (cs, t)) (j : Nat) :
    w1.cell? ⟨w.heap.size + i, j, none⟩ = cs[j]? := by
  have hlt : i < bs.length := (List.getElem?_eq_some_iff.1 hi).1
  rw [h.cell (p := ⟨w.heap.size + i, j, none⟩) (by show w.heap.size + i < B; omega)]
  unfold World.cell?
  rw [allocs_at bs w i cs t hi]
  rfl
theorem allocs_below : ∀ (bs : List (Array Value × TypeId)) (w : World), Below w.heap.size w (allocs w bs)
  | [], w => Below.refl _ _
  | (cs, t) :: bs, w => ((Below.refl w.heap.size w).alloc (Nat.le_refl _) _).trans ((allocs_below bs (w.alloc (.cells cs t))).mono (by simp))
theorem below_allocs {bs : List (Array Value × TypeId)} {w w1 : World} {B : Nat} (h : Below B (allocs w bs) w1) (hB : w.heap.size ≤ B) : Below w.heap.size w w1 :=
  (allocs_below bs w).trans (h.mono hB)
theorem below_box3 {w w1 : World} {x y x' y' x'' y'' : Value} {t t' t'' : TypeId} {B : Nat} (h : Below B (((w.alloc (.cells #[x, y] t)).alloc (.cells #[x', y'] t')).alloc (.cells #[x'', y''] t'')) w1) (hB : w.heap.size ≤ B) : Below w.heap.size w w1 :=
  below_allocs (bs := [(#[x, y], t), (#[x', y'], t'), (#[x'', y''], t'')]) h hB
/-- Three boxed structs of two cells. -/
theorem box3 {w w1 : World} {x y x' y' x'' y'' : Value} {t t' t'' : TypeId} {B : Nat} (h : Below B (((w.alloc (.cells #[x, y] t)).alloc (.cells #[x', y'] t')).alloc (.cells #[x'', y''] t'')) w1) (hB : w.heap.size + 3 ≤ B) :
    w1.cell? ⟨w.heap.size, 0, none⟩ = some x ∧ w1.cell? ⟨w.heap.size, 1, none⟩ = some y ∧ w1.cell? ⟨w.heap.size + 1, 0, none⟩ = some x' ∧ w1.cell? ⟨w.heap.size + 1, 1, none⟩ = some y' ∧
      w1.cell? ⟨w.heap.size + 2, 0, none⟩ = some x'' ∧ w1.cell? ⟨w.heap.size + 2, 1, none⟩ = some y'' := by
  have h' : Below B (allocs w [(#[x, y], t), (#[x', y'], t'), (#[x'', y''], t'')]) w1 := h
  exact ⟨box_at h' (by simpa using hB) (i := 0) rfl 0, box_at h' (by simpa using hB) (i := 0) rfl 1, box_at h' (by simpa using hB) (i := 1) rfl 0, box_at h' (by simpa using hB) (i := 1) rfl 1, box_at h' (by simpa using hB) (i := 2) rfl 0, box_at h' (by simpa using hB) (i := 2) rfl 1⟩
/-- What follows a box: below the old size nothing has turned. -/
theorem below_box {w w' : World} {o : Obj} {B : Nat} (hB : w.heap.size ≤ B) (h : Below B (w.alloc o) w') : Below w.heap.size w w' :=
  ((Below.refl w.heap.size w).alloc (Nat.le_refl _) o).trans (h.mono hB)

theorem next0 {B B' : Nat} {w0 w1 w2 : World} (h : Below B w0 w1) (hB : B ≤ w0.heap.size) (hb : Below B' w1 w2) (hB' : w1.heap.size ≤ B') : Below B w0 w2 :=
  h.trans (hb.mono (Nat.le_trans hB (Nat.le_trans h.size hB')))
theorem next1 {B B' : Nat} {w0 w1 w2 : World} {o : Obj} (h : Below B w0 w1) (hB : B ≤ w0.heap.size) (hb : Below B' (w1.alloc o) w2) (hB' : w1.heap.size ≤ B') : Below B w0 w2 :=
  (h.alloc (Nat.le_trans hB h.size) o).trans (hb.mono (Nat.le_trans hB (Nat.le_trans h.size hB')))
/-! ### Cells that stay -/
theorem keep0 {B : Nat} {w w1 : World} {a : Addr} {v : Value} (hb : Below B w w1) (hB : w.heap.size ≤ B) (c : w.cell? a = some v) : w1.cell? a = some v :=
  (hb.cell (Nat.lt_of_lt_of_le (World.block_lt_of_cell? w a c) hB)).trans c
theorem hz1 {w w1 : World} {o : Obj} (_ : Below (w.heap.size + 1) (w.alloc o) w1) : w.heap.size + 1 ≤ (w.alloc o).heap.size := by simp
theorem hz2 {w w1 : World} {o o' : Obj} (_ : Below (w.heap.size + 2) ((w.alloc o).alloc o') w1) : w.heap.size + 2 ≤ ((w.alloc o).alloc o').heap.size := by simp
theorem hz3 {w w1 : World} {o o' o'' : Obj} (_ : Below (w.heap.size + 3) (((w.alloc o).alloc o').alloc o'') w1) : w.heap.size + 3 ≤ (((w.alloc o).alloc o').alloc o'').heap.size := by simp
theorem boxn {w w1 : World} {cs : Array Value} {t : TypeId} {B : Nat} (h : Below B (w.alloc (.cells cs t)) w1) (hB : w.heap.size < B) (j : Nat) : w1.cell? ⟨w.heap.size, j, none⟩ = cs[j]? :=
  (h.cell (p := ⟨w.heap.size, j, none⟩) hB).trans (cell_new w cs t j)
theorem blk_lt {w : World} {b o : Nat} {v : Value} (c : w.cell? ⟨b, o, none⟩ = some v) : b < w.heap.size := World.block_lt_of_cell? w _ c
theorem cell_old {w : World} {a : Addr} {v : Value} {o : Obj} (c : w.cell? a = some v) : (w.alloc o).cell? a = some v :=
  (World.cell?_of_block (Below.heap_alloc w o _ (World.block_lt_of_cell? w a c))).trans c
theorem keep1 {B : Nat} {w w1 : World} {o : Obj} {a : Addr} {v : Value} (hb : Below B (w.alloc o) w1) (hB : w.heap.size ≤ B) (c : w.cell? a = some v) : w1.cell? a = some v :=
  (hb.cell (Nat.lt_of_lt_of_le (World.block_lt_of_cell? w a c) hB)).trans (cell_old c)
theorem carry {B : Nat} {w0 w1 : World} {a : Addr} {v : Value} (_ : Below B w0 w1) (hB : w0.heap.size ≤ B) (c : w0.cell? a = some v) : ∀ p : BelowOf B w0, p.world.cell? a = some v :=
  fun p => keep0 p.below hB c

theorem bd_u8 {n : Int} (h : (Lit.int .u8 n).wf = true) : 0 ≤ n ∧ n < 256 := by
  simp [Lit.wf, IntKind.min, IntKind.max, IntKind.signed, IntKind.bits] at h
  omega
theorem bd_u32 {n : Int} (h : (Lit.int .u32 n).wf = true) : 0 ≤ n ∧ n < 4294967296 := by
  simp [Lit.wf, IntKind.min, IntKind.max, IntKind.signed, IntKind.bits] at h
  omega
theorem bd_i64 {n : Int} (h : (Lit.int .i64 n).wf = true) : -9223372036854775808 ≤ n ∧ n ≤ 9223372036854775807 := by
  simp [Lit.wf, IntKind.min, IntKind.max, IntKind.signed, IntKind.bits] at h
  omega
theorem bd_u64 {n : Int} (h : (Lit.int .u64 n).wf = true) : 0 ≤ n ∧ n < 18446744073709551616 := by
  simp [Lit.wf, IntKind.min, IntKind.max, IntKind.signed, IntKind.bits] at h
  omega
end Law
end Go.Proofs.Ytiolijpamidpfaa
