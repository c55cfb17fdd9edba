/-
  A region that draws its order, in which those that turn memory may come in several orders: every order is walked. Over any program; no conditions beyond those in each statement.
-/
import Derived.Test.YtiolijpamidpfaaSxA
namespace Go.Proofs.Ytiolijpamidpfaa
open Go.RowKit
namespace Sx
section
variable (P : Program) (B n : Nat) (w0 : World)
/-- From here on any order that is left. -/
structure SA (ops : Array Oper) (Q : Exit → Act → World → Prop) (H0 : List Blk) (f : Nat) (done : Array Bool) (T : Tm) (H : List Blk) : Prop where of ::
  run : ∀ a, Fr n T a → sAny P .any ops (fun w => Mem B w0 w H0) Q f done a (fun w => Mem B w0 w H)
/-- One operation, then any order that is left. -/
structure SO (ops : Array Oper) (Q : Exit → Act → World → Prop) (H0 : List Blk) (f : Nat) (done : Array Bool) (o : Oper) (T : Tm) (H : List Blk) : Prop where of ::
  run : ∀ a, Fr n T a → (Region.wanted o (yielded ops a.tmps) = true ∧ Sdo P (fun w => Mem B w0 w H0) o a (fun w => Mem B w0 w H) fun v M' => sAny P .any ops (fun w => Mem B w0 w H0) Q f done (a.put o.dst v) M') ∨ (Region.wanted o (yielded ops a.tmps) = false ∧ sAny P .any ops (fun w => Mem B w0 w H0) Q f done (a.put o.dst undef) (fun w => Mem B w0 w H))
/-- The quiet ones, any order of the others behind them. -/
structure SQA (ops : Array Oper) (Q : Exit → Act → World → Prop) (H0 : List Blk) (f : Nat) (done : Array Bool) (H : List Blk) (l : List Oper) (T : Tm) : Prop where of ::
  run : ∀ a, Fr n T a → qRun P ops (fun w => Mem B w0 w H0) (fun a' => sAny P .any ops (fun w => Mem B w0 w H0) Q f done a' (fun w => Mem B w0 w H)) l a
end
def doneBy : List Nat → Array Bool → Array Bool
  | [], d => d
  | i :: r, d => doneBy r (d.setIfInBounds i true)
def treeH (md : Region.Mode) (ops : Array Oper) : List Nat → Array Bool → Bool
  | [], _ => true
  | i :: hd, done => (Region.ready md ops done).contains i && Region.free md ops done i && treeH md ops hd (done.setIfInBounds i true)
def treeB (l : List Oper) (hd : List Nat) (f : Nat) : Bool :=
  Region.noSelect l.toArray && hd.all (fun i => decide (i < l.length)) && decide (hd.length + f = l.length) && treeH .any l.toArray hd (Array.replicate l.length false)
section
variable {P : Program} {B n : Nat} {w0 : World} {Q : Exit → Act → World → Prop} {T : Tm} {H H0 : List Blk} {ops : Array Oper} {l : List Oper} {o : Oper} {d f : Nat} {v : Value} {done : Array Bool}
theorem treeH_any {Cq : World → Prop} (hsel : Region.noSelect l.toArray = true) {M : World → Prop} (hM : Closed M) (hC : ∀ w, M w → Cq w) : ∀ (hd : List Nat) (done : Array Bool) (a : Act), hd.all (fun i => decide (i < l.length)) = true → treeH .any l.toArray hd done = true →
    qRun P l.toArray Cq (fun a' => sAny P .any l.toArray Cq Q f (doneBy hd done) a' M) (pick l hd) a → sAny P .any l.toArray Cq Q (hd.length + f) done a M
  | [], done, a, _, _, h => by simpa [pick, qRun, doneBy] using h
  | i :: hd, done, a, hl, hB, ⟨v, hy, h⟩ => by
    simp only [treeH, Bool.and_eq_true] at hB
    simp only [List.all_cons, Bool.and_eq_true, decide_eq_true_eq] at hl
    have h0 : l.toArray[i]? = some (nth l i) := by simpa using nth_at l i hl.1
    rw [show (i :: hd).length + f = (hd.length + f) + 1 by simp; omega]
    exact sAny_first h0 (Region.noSelect_spec hsel) _ _ _ _ hM hC (Region.free_spec h0 hB.1.2) (by simpa using hB.1.1) hy (treeH_any hsel hM hC hd _ _ hl.2 hB.2 h)
theorem c_tree {id : Nat} (hd : List Nat) (f : Nat) (H0 : List Blk) (hm : P.follows .mixedOrders = true) (hB : treeB l hd f = true) [hs : SubH H0 H] (h : SQA P B n w0 l.toArray Q H0 f (doneBy hd (Array.replicate l.length false)) H (pick l hd) T) : C P B n w0 Q (.region id l.toArray true) T H := .of fun a w hf hw => by
  simp only [treeB, Bool.and_eq_true, decide_eq_true_eq] at hB
  obtain ⟨⟨⟨b1, b2⟩, b4⟩, b5⟩ := hB
  refine wp_region_any hm ?_
  have := treeH_any (P := P) (Q := Q) (Cq := fun w => Mem B w0 w H0) b1 (Mem.closed H) (fun w hw => hw.sub hs.h) hd _ a b2 b5 (h.run a hf)
  rw [b4] at this
  simpa using sAny_sound _ _ _ _ this _ hw.drew
theorem sqa_nil (h : SA P B n w0 ops Q H0 f done T H) : SQA P B n w0 ops Q H0 f done H [] T := .of fun a hf => h.run a hf
theorem sqa_y (hw : Wn n ops T o) (hy : Y P B n w0 o T H0 v) (hd : o.dst = some d) (hn : d < n) (k : SQA P B n w0 ops Q H0 f done H l ((d, v) :: T)) : SQA P B n w0 ops Q H0 f done H (o :: l) T := .of fun a hf =>
  ⟨v, .inl ⟨hw.run a hf, fun w hm => by rw [hy.run a w hf hm]; exact ⟨rfl, rfl⟩⟩, by rw [hd]; exact k.run _ (hf.put hn v)⟩
theorem sqa_skip {j : Nat} {b want : Bool} (h : o.guard = some (j, want)) (hg : gv ops T j = some b) (hb : (b == want) = false) (hd : o.dst = some d) (hn : d < n) (k : SQA P B n w0 ops Q H0 f done H l ((d, undef) :: T)) : SQA P B n w0 ops Q H0 f done H (o :: l) T := .of fun a hf =>
  ⟨undef, .inr ⟨by simp [Region.wanted, h, gv_yielded hg hf]; simpa using hb, rfl⟩, by rw [hd]; exact k.run _ (hf.put hn undef)⟩
theorem sqa_call {fn : FuncId} {xs : List Operand} {ats : Array TypeId} {args : List Value} {ty : TypeId} {ps : String} {af : Array Edge} {g : Option (Nat × Bool)} (hx : evs T xs = some args) [hi : IsFn P fn] (hw : Wn n ops T ⟨some d, .call ⟨.value (.func fn), xs.toArray, ats⟩, ty, ps, af, g⟩) (hn : d < n)
    (hc : ∀ w, Mem B w0 w H0 → Ret P fn args w v) (k : SQA P B n w0 ops Q H0 f done H l ((d, v) :: T)) : SQA P B n w0 ops Q H0 f done H (⟨some d, .call ⟨.value (.func fn), xs.toArray, ats⟩, ty, ps, af, g⟩ :: l) T := .of fun a hf => by
  refine ⟨v, .inl ⟨hw.run a hf, fun w hm => ?_⟩, k.run _ (hf.put hn v)⟩
  have e : (execOp a.eval ⟨some d, .call ⟨.value (.func fn), xs.toArray, ats⟩, ty, ps, af, g⟩).run P w = .ok (.enter fn args.toArray) w := by
    have := hf.evs hx
    simp [execOp, resolve, Act.eval, Deferred.ofValue, invoke, hi.run, this]
  rw [e]
  exact ⟨rfl, (hc w hm).run⟩
theorem sa_0 (hr : Region.ready .any l.toArray done = []) (h : E B n w0 Q .normal T H) : SA P B n w0 l.toArray Q H0 f done T H := .of fun a hf => by
  cases f with
  | zero => exact ⟨hr, fun w hm => h.run a w hf hm⟩
  | succ f => exact ⟨fun _ w hm => h.run a w hf hm, fun i hi => by rw [hr] at hi; cases hi⟩
/-- Each of those that may come next. -/
def All (l : List Nat) (p : Nat → Prop) : Prop := match l with
  | [] => True
  | i :: r => p i ∧ All r p
theorem All.mem {p : Nat → Prop} : ∀ {l : List Nat}, All l p → ∀ i ∈ l, p i
  | _ :: _, ⟨h, _⟩, _, .head _ => h
  | _ :: _, ⟨_, h⟩, _, .tail _ hi => All.mem h _ hi
theorem sa_any (rs : List Nat) (hr : Region.ready .any l.toArray done = rs) (hl : (rs.all fun i => decide (i < l.length)) = true) (hne : rs ≠ []) (h : All rs fun i => SO P B n w0 l.toArray Q H0 f (done.setIfInBounds i true) (nth l i) T H) : SA P B n w0 l.toArray Q H0 (f + 1) done T H := .of fun a hf =>
  ⟨fun h0 => absurd (hr.symm.trans h0) hne, fun i hi => by
    rw [hr] at hi
    have hlt : i < l.length := by simpa using (List.all_eq_true.1 hl) i hi
    exact ⟨nth l i, by simpa using nth_at l i hlt, (h.mem i hi).run a hf⟩⟩
theorem sa_1 (i : Nat) (hr : Region.ready .any l.toArray done = [i]) (hl : i < l.length) (h : SO P B n w0 l.toArray Q H0 f (done.setIfInBounds i true) (nth l i) T H) : SA P B n w0 l.toArray Q H0 (f + 1) done T H :=
  sa_any [i] hr (by simpa using hl) (by simp) ⟨h, trivial⟩
theorem sa_2 (i j : Nat) (hr : Region.ready .any l.toArray done = [i, j]) (hl : i < l.length ∧ j < l.length) (h1 : SO P B n w0 l.toArray Q H0 f (done.setIfInBounds i true) (nth l i) T H) (h2 : SO P B n w0 l.toArray Q H0 f (done.setIfInBounds j true) (nth l j) T H) : SA P B n w0 l.toArray Q H0 (f + 1) done T H :=
  sa_any [i, j] hr (by simpa using hl) (by simp) ⟨h1, h2, trivial⟩
theorem sa_3 (i j k : Nat) (hr : Region.ready .any l.toArray done = [i, j, k]) (hl : i < l.length ∧ j < l.length ∧ k < l.length) (h1 : SO P B n w0 l.toArray Q H0 f (done.setIfInBounds i true) (nth l i) T H) (h2 : SO P B n w0 l.toArray Q H0 f (done.setIfInBounds j true) (nth l j) T H) (h3 : SO P B n w0 l.toArray Q H0 f (done.setIfInBounds k true) (nth l k) T H) : SA P B n w0 l.toArray Q H0 (f + 1) done T H :=
  sa_any [i, j, k] hr (by simpa using hl) (by simp) ⟨h1, h2, h3, trivial⟩
theorem so_y (hw : Wn n ops T o) (hy : Y P B n w0 o T H v) [hs : SubH H0 H] (hd : o.dst = some d) (hn : d < n) (k : SA P B n w0 ops Q H0 f done ((d, v) :: T) H) : SO P B n w0 ops Q H0 f done o T H := .of fun a hf =>
  .inl ⟨hw.run a hf, Unit, fun _ => v, fun _ w => Mem B w0 w H, fun w hm => by rw [hy.run a w hf hm]; exact ⟨(), rfl, hm⟩, fun _ => Mem.closed H, fun _ w hw => hw.sub hs.h, fun _ => by rw [hd]; exact k.run _ (hf.put hn v)⟩
theorem so_d {ι : Type} {V : ι → Value} {G : ι → List Blk} (hw : Wn n ops T o) (hD : D P B n w0 o T H V G) (hs : ∀ x, SubH H0 (G x)) (hd : o.dst = some d) (hn : d < n) (k : ∀ x, SA P B n w0 ops Q H0 f done ((d, V x) :: T) (G x)) : SO P B n w0 ops Q H0 f done o T H := .of fun a hf =>
  .inl ⟨hw.run a hf, ι, V, fun x w => Mem B w0 w (G x), fun w hm => hD.run a w hf hm, fun x => Mem.closed _, fun x w hw => hw.sub (hs x).h, fun x => by rw [hd]; exact (k x).run _ (hf.put hn _)⟩
theorem so_d0 {ι : Type} {V : ι → Value} {G : ι → List Blk} (hw : Wn n ops T o) (hD : D P B n w0 o T H V G) (hs : ∀ x, SubH H0 (G x)) (hd : o.dst = none) (k : ∀ x, SA P B n w0 ops Q H0 f done T (G x)) : SO P B n w0 ops Q H0 f done o T H := .of fun a hf =>
  .inl ⟨hw.run a hf, ι, V, fun x w => Mem B w0 w (G x), fun w hm => hD.run a w hf hm, fun x => Mem.closed _, fun x w hw => hw.sub (hs x).h, fun x => by rw [hd]; exact (k x).run _ (hf.put0 _)⟩
theorem so_skip {j : Nat} {b want : Bool} (h : o.guard = some (j, want)) (hg : gv ops T j = some b) (hb : (b == want) = false) (hd : o.dst = some d) (hn : d < n) (k : SA P B n w0 ops Q H0 f done ((d, undef) :: T) H) : SO P B n w0 ops Q H0 f done o T H := .of fun a hf =>
  .inr ⟨by simp [Region.wanted, h, gv_yielded hg hf]; simpa using hb, by rw [hd]; exact k.run _ (hf.put hn undef)⟩
end
section
variable {B : Nat} {w0 w : World} {H H' : List Blk}
theorem Mem.perm (h : Mem B w0 w H) (hp : H.Perm H') : Mem B w0 w H' :=
  ⟨h.below, h.base, fun x hx => h.at_ x (hp.mem_iff.2 hx), fun x hx => h.own x (hp.mem_iff.2 hx), (hp.pairwise_iff (fun {x y} (h : x.b ≠ y.b) => h.symm)).1 h.ne⟩
theorem Mem.swap {x y : Blk} (h : Mem B w0 w (x :: y :: H)) : Mem B w0 w (y :: x :: H) := h.perm (List.Perm.swap y x H)
end
/-- What comes behind a region. -/
def behind (id : Nat) : Code → Code
  | .seq (.region j _ _) y => bif Nat.beq j id then y else behind id y
  | .seq _ y => behind id y
  | .block _ c => behind id c
  | .loop c => behind id c
  | c => c
/-- A place to stop at. -/
structure Stop (p : Prop) : Prop where
  h : p
theorem stop_at {P : Program} {B n : Nat} {w0 : World} {Q : Exit → Act → World → Prop} {T : Tm} {H : List Blk} (id : Nat) {ops : Array Oper} {d : Bool} {y : Code} (h : Stop (C P B n w0 Q (.seq (.region id ops d) y) T H)) : C P B n w0 Q (.seq (.region id ops d) y) T H := h.h
theorem stop_on {P : Program} {B n : Nat} {w0 : World} {Q : Exit → Act → World → Prop} {T : Tm} {H : List Blk} (id : Nat) {ops : Array Oper} {d : Bool} (h : Stop (C P B n w0 Q (.region id ops d) T H)) : C P B n w0 Q (.region id ops d) T H := h.h
theorem stop_loop {P : Program} {B n : Nat} {w0 : World} {Q : Exit → Act → World → Prop} {T : Tm} {H : List Blk} {c : Code} (h : Stop (C P B n w0 Q (.loop c) T H)) : C P B n w0 Q (.loop c) T H := h.h
end Sx
end Go.Proofs.Ytiolijpamidpfaa
