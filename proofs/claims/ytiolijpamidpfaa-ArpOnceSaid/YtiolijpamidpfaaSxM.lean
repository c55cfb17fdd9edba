/-
  A region that draws its order and in which some operations make or write memory: those that only read are taken first, those that write come in the one order that the region allows among them. Over any program; no conditions beyond those in each statement.
-/
import Derived.Test.YtiolijpamidpfaaSxE
namespace Go.Proofs.Ytiolijpamidpfaa
open Go.RowKit
namespace Sx
/-- A set of worlds that no callee of ours leaves. -/
def Closed (M : World → Prop) : Prop := ∀ w w', M w → Below w.heap.size w w' → M w'
/-- What an operation's run hands on. -/
def does (P : Program) (post : Value → World → Prop) : Result Next → Prop
  | .ok (.value v) w' => post v w'
  | .ok .skip w' => post undef w'
  | .ok (.enter f args) w' => Calls P f args w' fun e w'' => ∃ v, e = .returned v ∧ post v w''
  | _ => False
/-- It yields one value, whatever the world, and makes at most what is let go. -/
def quietR (P : Program) (w : World) (v : Value) : Result Next → Prop
  | .ok (.value u) w' => w' = w ∧ u = v
  | .ok (.enter f args) w' => w' = w ∧ Calls P f args w fun e w'' => e = .returned v ∧ Below w.heap.size w w''
  | _ => False
section
variable (P : Program) (md : Region.Mode) (ops : Array Oper) (Cq : World → Prop) (Q : Exit → Act → World → Prop)
def Quiet (o : Oper) (a : Act) (v : Value) : Prop :=
  (Region.wanted o (yielded ops a.tmps) = true ∧ ∀ w, Cq w → quietR P w v ((execOp a.eval o).run P w)) ∨ (Region.wanted o (yielded ops a.tmps) = false ∧ v = undef)
def Sdo (o : Oper) (a : Act) (M : World → Prop) (K : Value → (World → Prop) → Prop) : Prop :=
  ∃ (ι : Type) (V : ι → Value) (M' : ι → World → Prop), (∀ w, M w → does P (fun v w' => ∃ x, v = V x ∧ M' x w') ((execOp a.eval o).run P w)) ∧ (∀ x, Closed (M' x)) ∧ (∀ x w, M' x w → Cq w) ∧ ∀ x, K (V x) (M' x)
def sOp (i : Nat) (K : Act → (World → Prop) → Prop) (a : Act) (M : World → Prop) : Prop :=
  ∃ o, ops[i]? = some o ∧ ((Region.wanted o (yielded ops a.tmps) = true ∧ Sdo P Cq o a M fun v M' => K (a.put o.dst v) M') ∨ (Region.wanted o (yielded ops a.tmps) = false ∧ K (a.put o.dst undef) M))
def sAny : Nat → Array Bool → Act → (World → Prop) → Prop
  | 0, done, a, M => Region.ready md ops done = [] ∧ ∀ w, M w → Q .normal a w
  | f + 1, done, a, M => (Region.ready md ops done = [] → ∀ w, M w → Q .normal a w) ∧ ∀ i ∈ Region.ready md ops done, sOp P ops Cq i (sAny f (done.setIfInBounds i true)) a M
/-- The quiet ones, in their order; then L. -/
def qRun (L : Act → Prop) : List Oper → Act → Prop
  | [], a => L a
  | o :: l, a => ∃ v, Quiet P ops Cq o a v ∧ qRun L l (a.put o.dst v)
/-- The others, in their order. -/
def sRun : List Oper → Act → (World → Prop) → Prop
  | [], a, M => ∀ w, M w → Q .normal a w
  | o :: l, a, M => (Region.wanted o (yielded ops a.tmps) = true ∧ Sdo P Cq o a M fun v M' => sRun l (a.put o.dst v) M') ∨ (Region.wanted o (yielded ops a.tmps) = false ∧ sRun l (a.put o.dst undef) M)
end
section
variable {P : Program} {md : Region.Mode} {ops : Array Oper} {Cq : World → Prop} {Q : Exit → Act → World → Prop}
theorem Sdo.mono {o : Oper} {a : Act} {M : World → Prop} {K K' : Value → (World → Prop) → Prop} (h : Sdo P Cq o a M K) (hk : ∀ v M', Closed M' → (∀ w, M' w → Cq w) → K v M' → K' v M') : Sdo P Cq o a M K' :=
  let ⟨ι, V, M', h1, h2, h3, h4⟩ := h
  ⟨ι, V, M', h1, h2, h3, fun x => hk _ _ (h2 x) (h3 x) (h4 x)⟩
theorem Sdo.same {o : Oper} {a a' : Act} {M : World → Prop} {K : Value → (World → Prop) → Prop} (e : execOp a'.eval o = execOp a.eval o) (h : Sdo P Cq o a' M K) : Sdo P Cq o a M K := by
  unfold Sdo at *
  rwa [e] at h
theorem does_wp {o : Oper} {a : Act} {K : Act → World → Prop} {post : Value → World → Prop} {w : World} (h : does P post ((execOp a.eval o).run P w)) (hk : ∀ v w', post v w' → K (a.put o.dst v) w') : o.wp P a w K Q := by
  unfold Oper.wp
  generalize (execOp a.eval o).run P w = r at *
  cases r with
  | halt x w' => exact h.elim
  | ok x w' =>
    cases x <;> simp only [does] at h <;> simp only [Oper.upon]
    case value v => exact hk _ _ h
    case skip => exact hk _ _ h
    case enter f args =>
      refine h.mono ?_
      rintro e w'' ⟨v, rfl, hp⟩
      exact hk _ _ hp
theorem sAny_sound : ∀ (f : Nat) (done : Array Bool) (a : Act) (M : World → Prop), sAny P md ops Cq Q f done a M → ∀ w, M w → wpAny P md ops Q f done a w
  | 0, _, _, _, h, w, hw => ⟨h.1, h.2 w hw⟩
  | f + 1, done, a, M, h, w, hw => ⟨fun h0 => h.1 h0 w hw, fun i hi => by
    obtain ⟨o, ho, h1⟩ := h.2 i hi
    unfold wpOp
    simp only [ho]
    rcases h1 with ⟨hw1, ι, V, M', g1, _, _, g4⟩ | ⟨hw0, hk⟩
    · simp only [hw1, if_true]
      refine .inl (does_wp (g1 w hw) ?_)
      rintro v w' ⟨x, rfl, hx⟩
      exact sAny_sound f _ _ _ (g4 x) w' hx
    · simp only [hw0, Bool.false_eq_true, if_false]
      exact sAny_sound f _ _ _ hk w hw⟩
theorem Quiet.put {oi oj : Oper} {a : Act} {v : Value} (hy : Quiet P ops Cq oi a v) (hs : ∀ cs b, oi.op ≠ .select cs b) (h3 : ∀ d, oj.dst = some d → d ∉ oi.looksAt ops) (u : Value) : Quiet P ops Cq oi (a.put oj.dst u) v := by
  unfold Quiet at *
  rw [execOp_put oi hs a oj.dst u h3, wanted_put oi a oj.dst u h3]
  exact hy
theorem sAny_first {i : Nat} {oi : Oper} {v : Value} (hi : ops[i]? = some oi) (hsel : ∀ (j : Nat) (o : Oper) cs b, ops[j]? = some o → o.op ≠ .select cs b) :
    ∀ (f : Nat) (done : Array Bool) (a : Act) (M : World → Prop), Closed M → (∀ w, M w → Cq w) →
      (∀ j oj, ops[j]? = some oj → j ≠ i → done.getD j true = false → (∀ e ∈ oj.after, Region.binds md e = true → e.on ≠ i) → oi.apart ops oj = true) →
      i ∈ Region.ready md ops done → Quiet P ops Cq oi a v → sAny P md ops Cq Q f (done.setIfInBounds i true) (a.put oi.dst v) M → sAny P md ops Cq Q (f + 1) done a M := by
  intro f
  induction f with
  | zero =>
    intro done a M hM hC _ hr hy H
    refine ⟨fun h => (by rw [h] at hr; cases hr), fun j hj => ?_⟩
    by_cases e : j = i
    · subst e
      refine ⟨oi, hi, ?_⟩
      rcases hy with ⟨hw, hq⟩ | ⟨hw, rfl⟩
      · refine .inl ⟨hw, Unit, fun _ => v, fun _ => M, fun w hw' => ?_, fun _ => hM, fun _ => hC, fun _ => H⟩
        have h1 := hq w (hC w hw')
        generalize (execOp a.eval oi).run P w = r at *
        cases r with
        | halt x w' => exact h1.elim
        | ok x w' =>
          cases x <;> simp only [quietR] at h1 <;> simp only [does]
          case value u => obtain ⟨rfl, rfl⟩ := h1; exact ⟨(), rfl, hw'⟩
          case enter f args => obtain ⟨rfl, hc⟩ := h1; exact hc.mono fun e w'' ⟨he, hb⟩ => ⟨v, he, (), rfl, hM _ _ hw' hb⟩
      · exact .inr ⟨hw, H⟩
    · have := ready_mono hj e
      rw [H.1] at this
      cases this
  | succ f ih =>
    intro done a M hM hC hfree hr hy H
    refine ⟨fun h => (by rw [h] at hr; cases hr), fun j hj => ?_⟩
    by_cases e : j = i
    · subst e
      refine ⟨oi, hi, ?_⟩
      rcases hy with ⟨hw, hq⟩ | ⟨hw, rfl⟩
      · refine .inl ⟨hw, Unit, fun _ => v, fun _ => M, fun w hw' => ?_, fun _ => hM, fun _ => hC, fun _ => H⟩
        have h1 := hq w (hC w hw')
        generalize (execOp a.eval oi).run P w = r at *
        cases r with
        | halt x w' => exact h1.elim
        | ok x w' =>
          cases x <;> simp only [quietR] at h1 <;> simp only [does]
          case value u => obtain ⟨rfl, rfl⟩ := h1; exact ⟨(), rfl, hw'⟩
          case enter f args => obtain ⟨rfl, hc⟩ := h1; exact hc.mono fun e w'' ⟨he, hb⟩ => ⟨v, he, (), rfl, hM _ _ hw' hb⟩
      · exact .inr ⟨hw, H⟩
    · obtain ⟨oj', hoj', h1⟩ := H.2 j (ready_mono hj e)
      obtain ⟨hjun, oj, hoj, hall⟩ := mem_ready.1 hj
      obtain rfl : oj = oj' := Option.some.inj (hoj.symm.trans hoj')
      have hiun := getD_both (mem_ready.1 hr).1
      have hnot : ∀ e ∈ oj.after, Region.binds md e = true → e.on ≠ i := fun e' he hb heq => by
        have := hall e' he hb
        rw [heq, hiun] at this
        cases this
      obtain ⟨p1, p2, p3⟩ := Oper.apart_spec (hfree j oj hoj e hjun hnot)
      have hsi := fun cs b => hsel i oi cs b hi
      have hsj := fun cs b => hsel j oj cs b hoj
      have hfree' : ∀ k ok, ops[k]? = some ok → k ≠ i → (done.setIfInBounds j true).getD k true = false → (∀ e ∈ ok.after, Region.binds md e = true → e.on ≠ i) → oi.apart ops ok = true := fun k ok hk hki hun hno => by
        refine hfree k ok hk hki ?_ hno
        by_cases hjk : j = k
        · subst hjk
          exact hjun
        · rwa [getD_set_ne true hjk] at hun
      rw [wanted_put oj a oi.dst v p1] at h1
      refine ⟨oj, hoj, ?_⟩
      rcases h1 with ⟨hw, hs⟩ | ⟨hw, hk⟩
      · refine .inl ⟨hw, ?_⟩
        refine Sdo.mono (Sdo.same (execOp_put oj hsj a oi.dst v p1) hs) fun u M' hM' hC' hk => ?_
        refine ih _ _ _ hM' hC' hfree' (ready_mono hr (Ne.symm e)) (hy.put hsi p3 u) ?_
        rw [Array.setIfInBounds_comm _ _ e, ← Act.put_comm a v u p2]
        exact hk
      · refine .inr ⟨hw, ?_⟩
        refine ih _ _ _ hM hC hfree' (ready_mono hr (Ne.symm e)) (hy.put hsi p3 undef) ?_
        rw [Array.setIfInBounds_comm _ _ e, ← Act.put_comm a v undef p2]
        exact hk
/-- The operations of some numbers. -/
def nth : List Oper → Nat → Oper
  | [], _ => default
  | o :: _, 0 => o
  | _ :: l, n + 1 => nth l n
def pick (l : List Oper) : List Nat → List Oper
  | [] => []
  | i :: r => nth l i :: pick l r
theorem nth_at : ∀ (l : List Oper) (i : Nat), i < l.length → l[i]? = some (nth l i)
  | [], _, h => absurd h (by simp)
  | o :: l, 0, _ => rfl
  | o :: l, i + 1, h => by simpa [nth] using nth_at l i (by simpa using h)
/-- The quiet ones may come first, one by one; then the others come in one order alone. -/
def mixT (md : Region.Mode) (ops : Array Oper) : List Nat → Array Bool → Bool
  | [], done => (Region.ready md ops done).isEmpty
  | k :: tl, done => decide (Region.ready md ops done = [k]) && mixT md ops tl (done.setIfInBounds k true)
def mixH (md : Region.Mode) (ops : Array Oper) (tl : List Nat) : List Nat → Array Bool → Bool
  | [], done => mixT md ops tl done
  | i :: hd, done => (Region.ready md ops done).contains i && Region.free md ops done i && mixH md ops tl hd (done.setIfInBounds i true)
theorem mixT_any {l : List Oper} : ∀ (tl : List Nat) (done : Array Bool) (a : Act) (M : World → Prop), tl.all (fun i => decide (i < l.length)) = true → mixT md l.toArray tl done = true → sRun P l.toArray Cq Q (pick l tl) a M → sAny P md l.toArray Cq Q tl.length done a M
  | [], _, _, _, _, hB, h => ⟨by simpa [mixT] using hB, h⟩
  | k :: tl, done, a, M, hl, hB, h => by
    simp only [mixT, Bool.and_eq_true, decide_eq_true_eq] at hB
    simp only [List.all_cons, Bool.and_eq_true, decide_eq_true_eq] at hl
    refine ⟨fun h0 => (by rw [hB.1] at h0; cases h0), fun i hi => ?_⟩
    rw [hB.1] at hi
    obtain rfl : i = k := by simpa using hi
    refine ⟨nth l i, by simpa using nth_at l i hl.1, ?_⟩
    rcases h with ⟨hw, hs⟩ | ⟨hw, hk⟩
    · exact .inl ⟨hw, Sdo.mono hs fun v M' _ _ hk => mixT_any tl _ _ _ hl.2 hB.2 hk⟩
    · exact .inr ⟨hw, mixT_any tl _ _ _ hl.2 hB.2 hk⟩
theorem mixH_any {l : List Oper} (hsel : Region.noSelect l.toArray = true) {tl : List Nat} (hlt : tl.all (fun i => decide (i < l.length)) = true) {M : World → Prop} (hM : Closed M) (hC : ∀ w, M w → Cq w) : ∀ (hd : List Nat) (done : Array Bool) (a : Act), hd.all (fun i => decide (i < l.length)) = true → mixH md l.toArray tl hd done = true →
    qRun P l.toArray Cq (fun a' => sRun P l.toArray Cq Q (pick l tl) a' M) (pick l hd) a → sAny P md l.toArray Cq Q (hd.length + tl.length) done a M
  | [], done, a, _, hB, h => by simpa using mixT_any tl done a M hlt hB h
  | i :: hd, done, a, hl, hB, ⟨v, hy, h⟩ => by
    simp only [mixH, Bool.and_eq_true] at hB
    simp only [List.all_cons, Bool.and_eq_true, decide_eq_true_eq] at hl
    have h0 : l.toArray[i]? = some (nth l i) := by simpa using nth_at l i hl.1
    rw [show (i :: hd).length + tl.length = (hd.length + tl.length) + 1 by simp; omega]
    exact sAny_first h0 (Region.noSelect_spec hsel) _ _ _ _ hM hC (Region.free_spec h0 hB.1.2) (by simpa using hB.1.1) hy (mixH_any hsel hlt hM hC hd _ _ hl.2 hB.2 h)
def mixB (l : List Oper) (hd tl : List Nat) : Bool :=
  Region.noSelect l.toArray && hd.all (fun i => decide (i < l.length)) && tl.all (fun i => decide (i < l.length)) && decide (hd.length + tl.length = l.length) && mixH .any l.toArray tl hd (Array.replicate l.length false)
end

/-! ### The same, told by lists -/
theorem Mem.closed {B : Nat} {w0 : World} (H : List Blk) : Closed fun w => Mem B w0 w H := fun _ _ h hb => h.call hb
section
variable (P : Program) (B n : Nat) (w0 : World)
/-- Those that write; 'H0': the blocks that the quiet ones may read. -/
structure S (ops : Array Oper) (Q : Exit → Act → World → Prop) (H0 : List Blk) (l : List Oper) (T : Tm) (H : List Blk) : Prop where of ::
  run : ∀ a, Fr n T a → sRun P ops (fun w => Mem B w0 w H0) Q l a (fun w => Mem B w0 w H)
/-- The quiet ones, the others behind them. -/
structure SQ (ops : Array Oper) (Q : Exit → Act → World → Prop) (H0 : List Blk) (tl : List Oper) (H : List Blk) (l : List Oper) (T : Tm) : Prop where of ::
  run : ∀ a, Fr n T a → qRun P ops (fun w => Mem B w0 w H0) (fun a' => sRun P ops (fun w => Mem B w0 w H0) Q tl a' (fun w => Mem B w0 w H)) l a
/-- What an operation does to what is known. -/
structure D (o : Oper) (T : Tm) (H : List Blk) {ι : Type} (V : ι → Value) (G : ι → List Blk) : Prop where of ::
  run : ∀ a w, Fr n T a → Mem B w0 w H → does P (fun v w' => ∃ x, v = V x ∧ Mem B w0 w' (G x)) ((execOp a.eval o).run P w)
end
class SubH (H0 H : List Blk) : Prop where
  h : H0.Sublist H
instance (priority := high) subSame (H : List Blk) : SubH H H := ⟨List.Sublist.refl _⟩
instance (H : List Blk) : SubH [] H := ⟨List.nil_sublist _⟩
instance subCons (x : Blk) (H0 H : List Blk) [h : SubH H0 H] : SubH (x :: H0) (x :: H) := ⟨h.h.cons_cons x⟩
instance (priority := low) subSkip (x : Blk) (H0 H : List Blk) [h : SubH H0 H] : SubH H0 (x :: H) := ⟨h.h.cons x⟩
section
variable {P : Program} {B n : Nat} {w0 : World} {Q : Exit → Act → World → Prop} {T : Tm} {H H0 : List Blk} {ops : Array Oper} {l tl : List Oper} {o : Oper} {d : Nat} {v : Value}
theorem c_mix {id : Nat} (hd tls : List Nat) (H0 : List Blk) (hm : P.follows .mixedOrders = true) (hB : mixB l hd tls = true) [hs : SubH H0 H] (h : SQ P B n w0 l.toArray Q H0 (pick l tls) H (pick l hd) T) : C P B n w0 Q (.region id l.toArray true) T H := .of fun a w hf hw => by
  simp only [mixB, Bool.and_eq_true, decide_eq_true_eq] at hB
  obtain ⟨⟨⟨⟨b1, b2⟩, b3⟩, b4⟩, b5⟩ := hB
  refine wp_region_any hm ?_
  have := mixH_any (P := P) (Q := Q) (Cq := fun w => Mem B w0 w H0) b1 b3 (Mem.closed H) (fun w hw => hw.sub hs.h) hd _ a b2 b5 (h.run a hf)
  rw [b4] at this
  simpa using sAny_sound _ _ _ _ this _ hw.drew
theorem sq_nil (h : S P B n w0 ops Q H0 tl T H) : SQ P B n w0 ops Q H0 tl H [] T := .of fun a hf => h.run a hf
theorem s_nil (h : E B n w0 Q .normal T H) : S P B n w0 ops Q H0 [] T H := .of fun a hf w hw => h.run a w hf hw
theorem sq_y (hw : Wn n ops T o) (hy : Y P B n w0 o T H0 v) (hd : o.dst = some d) (hn : d < n) (k : SQ P B n w0 ops Q H0 tl H l ((d, v) :: T)) : SQ P B n w0 ops Q H0 tl H (o :: l) T := .of fun a hf =>
  ⟨v, .inl ⟨hw.run a hf, fun w hm => by rw [hy.run a w hf hm]; exact ⟨rfl, rfl⟩⟩, by rw [hd]; exact k.run _ (hf.put hn v)⟩
theorem sq_skip {j : Nat} {b want : Bool} (h : o.guard = some (j, want)) (hg : gv ops T j = some b) (hb : (b == want) = false) (hd : o.dst = some d) (hn : d < n) (k : SQ P B n w0 ops Q H0 tl H l ((d, undef) :: T)) : SQ P B n w0 ops Q H0 tl H (o :: l) T := .of fun a hf =>
  ⟨undef, .inr ⟨by simp [Region.wanted, h, gv_yielded hg hf]; simpa using hb, rfl⟩, by rw [hd]; exact k.run _ (hf.put hn undef)⟩
theorem sq_call {f : FuncId} {xs : List Operand} {ats : Array TypeId} {args : List Value} {ty : TypeId} {ps : String} {af : Array Edge} {g : Option (Nat × Bool)} (hx : evs T xs = some args) [hi : IsFn P f] (hw : Wn n ops T ⟨some d, .call ⟨.value (.func f), xs.toArray, ats⟩, ty, ps, af, g⟩) (hn : d < n)
    (hc : ∀ w, Mem B w0 w H0 → Ret P f args w v) (k : SQ P B n w0 ops Q H0 tl H l ((d, v) :: T)) : SQ P B n w0 ops Q H0 tl H (⟨some d, .call ⟨.value (.func f), xs.toArray, ats⟩, ty, ps, af, g⟩ :: l) T := .of fun a hf => by
  refine ⟨v, .inl ⟨hw.run a hf, fun w hm => ?_⟩, k.run _ (hf.put hn v)⟩
  have e : (execOp a.eval ⟨some d, .call ⟨.value (.func f), xs.toArray, ats⟩, ty, ps, af, g⟩).run P w = .ok (.enter f args.toArray) w := by
    have := hf.evs hx
    simp [execOp, resolve, Act.eval, Deferred.ofValue, invoke, hi.run, this]
  rw [e]
  exact ⟨rfl, (hc w hm).run⟩
theorem s_y (hw : Wn n ops T o) (hy : Y P B n w0 o T H v) [hs : SubH H0 H] (hd : o.dst = some d) (hn : d < n) (k : S P B n w0 ops Q H0 l ((d, v) :: T) H) : S P B n w0 ops Q H0 (o :: l) T H := .of fun a hf =>
  .inl ⟨hw.run a hf, Unit, fun _ => v, fun _ w => Mem B w0 w H, fun w hm => by rw [hy.run a w hf hm]; exact ⟨(), rfl, hm⟩, fun _ => Mem.closed H, fun _ w hw => hw.sub hs.h, fun _ => by rw [hd]; exact k.run _ (hf.put hn v)⟩
theorem s_d {ι : Type} {V : ι → Value} {G : ι → List Blk} (hw : Wn n ops T o) (hD : D P B n w0 o T H V G) (hs : ∀ x, SubH H0 (G x)) (hd : o.dst = some d) (hn : d < n) (k : ∀ x, S P B n w0 ops Q H0 l ((d, V x) :: T) (G x)) : S P B n w0 ops Q H0 (o :: l) T H := .of fun a hf =>
  .inl ⟨hw.run a hf, ι, V, fun x w => Mem B w0 w (G x), fun w hm => hD.run a w hf hm, fun x => Mem.closed _, fun x w hw => hw.sub (hs x).h, fun x => by rw [hd]; exact (k x).run _ (hf.put hn _)⟩
theorem s_d0 {ι : Type} {V : ι → Value} {G : ι → List Blk} (hw : Wn n ops T o) (hD : D P B n w0 o T H V G) (hs : ∀ x, SubH H0 (G x)) (hd : o.dst = none) (k : ∀ x, S P B n w0 ops Q H0 l T (G x)) : S P B n w0 ops Q H0 (o :: l) T H := .of fun a hf =>
  .inl ⟨hw.run a hf, ι, V, fun x w => Mem B w0 w (G x), fun w hm => hD.run a w hf hm, fun x => Mem.closed _, fun x w hw => hw.sub (hs x).h, fun x => by rw [hd]; exact (k x).run _ (hf.put0 _)⟩
theorem w_d {ι : Type} {V : ι → Value} {G : ι → List Blk} (hw : Wn n ops T o) (hD : D P B n w0 o T H V G) (hd : o.dst = some d) (hn : d < n) (k : ∀ x, W P B n w0 ops Q l ((d, V x) :: T) (G x)) : W P B n w0 ops Q (o :: l) T H := .of fun a w hf hm =>
  wpList_step fun K hK => by
    rw [if_pos (hw.run a hf)]
    refine does_wp (hD.run a w hf hm) ?_
    rintro v w' ⟨x, rfl, hx⟩
    rw [hd]
    exact hK _ _ ((k x).run _ _ (hf.put hn _) hx)
theorem w_d0 {ι : Type} {V : ι → Value} {G : ι → List Blk} (hw : Wn n ops T o) (hD : D P B n w0 o T H V G) (hd : o.dst = none) (k : ∀ x, W P B n w0 ops Q l T (G x)) : W P B n w0 ops Q (o :: l) T H := .of fun a w hf hm =>
  wpList_step fun K hK => by
    rw [if_pos (hw.run a hf)]
    refine does_wp (hD.run a w hf hm) ?_
    rintro v w' ⟨x, rfl, hx⟩
    rw [hd]
    exact hK _ _ ((k x).run _ _ (hf.put0 _) hx)
section
variable {ty : TypeId} {ps : String} {af : Array Edge} {g : Option (Nat × Bool)} {x y : Operand} {t : TypeId} {dd : Option Tmp} {H' : List Blk} {u : Value}
theorem d_new {cs : List Value} {et : TypeId} (hr : ∀ a w, Fr n T a → (execOp a.eval o).run P w = .ok (.value (.pointer (some ⟨w.heap.size, 0, none⟩))) (w.alloc (.cells cs.toArray et))) : D P B n w0 o T H (fun b : Nat => .pointer (some ⟨b, 0, none⟩)) (fun b => ⟨b, cs, et⟩ :: H) := .of fun a w hf hm => by
  rw [hr a w hf]
  exact ⟨w.heap.size, rfl, hm.alloc cs et⟩
theorem d_alloc {z : List Value} [hz : ZeroT P t z] : D P B n w0 ⟨dd, .alloc t, ty, ps, af, g⟩ T H (fun b : Nat => .pointer (some ⟨b, 0, none⟩)) (fun b => ⟨b, z, t⟩ :: H) :=
  d_new (fun a w _ => by
    obtain ⟨i, hi, hz'⟩ := Option.bind_eq_some_iff.1 hz.z
    obtain ⟨zv, hzv, e⟩ := Option.map_eq_some_iff.1 hz'
    have e' : zv.cells = z.toArray := by rw [← e]
    simp [execOp, Instr.alloc, zeroValue, typeInfo, hi, hzv, newVar, newRow, e'])
theorem d_box {cs : List Value} (hx : ev T x = some (.agg cs.toArray)) : D P B n w0 ⟨dd, .box t x, ty, ps, af, g⟩ T H (fun b : Nat => .pointer (some ⟨b, 0, none⟩)) (fun b => ⟨b, cs, t⟩ :: H) :=
  d_new (fun a w hf => by simp [execOp, Instr.box, newVar, newRow, hf.ev hx, Value.cells])
theorem d_box1 (hx : ev T x = some v) (h1 : one v = true) : D P B n w0 ⟨dd, .box t x, ty, ps, af, g⟩ T H (fun b : Nat => .pointer (some ⟨b, 0, none⟩)) (fun b => ⟨b, [v], t⟩ :: H) :=
  d_new (fun a w hf => by simp [execOp, Instr.box, newVar, newRow, hf.ev hx, one_cells h1])
theorem d_store {b o : Nat} {cs cs' : List Value} {et : TypeId} (hx : ev T x = some (.pointer (some ⟨b, o, none⟩))) (hy : ev T y = some v) (h1 : one v = true) [hs : Siz P t 1] [hh : Has H b cs et] [hc : SetL cs o v cs'] [hu : Upd H b cs' H'] : D P B n w0 ⟨dd, .store t x y, ty, ps, af, g⟩ T H (fun _ : Unit => undef) (fun _ => H') := .of fun a w hf hm => by
  have hat := hm.at_ _ hh.mem
  have ho := hc.h.2
  have hl : w.cell? ⟨b, o, none⟩ = some cs[o] := by rw [cell_of_row w b o _ _ _ hat]; simp [hc.h.2]
  have hfr : w.frozen? ⟨b, o, none⟩ = false := frozen_of_row w b o _ _ hat
  have hst : (store ((⟨b, o, none⟩ : Addr).add 0) v).run P w = .ok () (w.setCell ⟨b, o, none⟩ v) := by
    rw [addr_add, run_store P w _ v _ (one_cell' h1)]
    simp [hl, hfr]
  have : (execOp a.eval ⟨dd, .store t x y, ty, ps, af, g⟩).run P w = .ok .skip (w.setCell ⟨b, o, none⟩ v) := by
    simp [execOp, hf.ev hx, hf.ev hy, Instr.storeAt, Instr.sureAddr, storeVar, one_cells h1, Siz.run hs.s, storeCells, hst]
  rw [this]
  exact ⟨(), rfl, hm.setCell hc.h.1⟩
theorem d_store_row {b o m : Nat} {cs vs cs' : List Value} {et : TypeId} (hx : ev T x = some (.pointer (some ⟨b, o, none⟩))) (hy : ev T y = some (.agg vs.toArray)) (h1 : vs.all one = true) (hm : vs.length = m) [hs : Siz P t m] [hh : Has H b cs et] [hc : Lay cs o vs cs'] [hu : Upd H b cs' H'] : D P B n w0 ⟨dd, .store t x y, ty, ps, af, g⟩ T H (fun _ : Unit => undef) (fun _ => H') := .of fun a w hf hm' => by
  have hat := hm'.at_ _ hh.mem
  obtain ⟨w1, e1, e2, e3, e4, e5, e6, e7⟩ := run_storeCells_row (P := P) vs 0 o cs w hat (by have := hc.h.2; omega) (fun v hv => one_cell' ((List.all_eq_true.1 h1) v hv))
  have : (execOp a.eval ⟨dd, .store t x y, ty, ps, af, g⟩).run P w = .ok .skip w1 := by
    simp [execOp, hf.ev hx, hf.ev hy, Instr.storeAt, Instr.sureAddr, storeVar, Value.cells, hm, Siz.run hs.s, e1]
  rw [this]
  rw [Nat.add_zero, hc.h.1] at e2
  exact ⟨(), rfl, hm'.upd (b := b) (old := cs) (cs := cs') e2 e3 e4 e5 e6 (by omega)⟩
theorem d_store_all {b m : Nat} {cs vs : List Value} {et : TypeId} (hx : ev T x = some (.pointer (some ⟨b, 0, none⟩))) (hy : ev T y = some (.agg vs.toArray)) (h1 : vs.all one = true) (hm : vs.length = m) [hs : Siz P t m] [hh : Has H b cs et] (hl : cs.length = m) [hu : Upd H b vs H'] : D P B n w0 ⟨dd, .store t x y, ty, ps, af, g⟩ T H (fun _ : Unit => undef) (fun _ => H') :=
  have : Lay cs 0 vs vs := ⟨by simp [hm, ← hl], by omega⟩
  d_store_row hx hy h1 hm
theorem d_callx {ι : Type} {f : FuncId} {xs : List Operand} {ats : Array TypeId} {args : List Value} {V : ι → Value} {G : ι → List Blk} (hx : evs T xs = some args) [hi : IsFn P f] (hc : ∀ w, Mem B w0 w H → Calls P f args.toArray w fun e w' => ∃ i, e = .returned (V i) ∧ Mem B w0 w' (G i)) : D P B n w0 ⟨dd, .call ⟨.value (.func f), xs.toArray, ats⟩, ty, ps, af, g⟩ T H V G := .of fun a w hf hm => by
  have e : (execOp a.eval ⟨dd, .call ⟨.value (.func f), xs.toArray, ats⟩, ty, ps, af, g⟩).run P w = .ok (.enter f args.toArray) w := by
    have := hf.evs hx
    simp [execOp, resolve, Act.eval, Deferred.ofValue, invoke, hi.run, this]
  rw [e]
  exact (hc w hm).mono fun e' w' ⟨i, he, hm'⟩ => ⟨V i, he, i, rfl, hm'⟩

/-! ### Structs built of parts -/
/-- The parts laid, one behind the other, into 'cur'. -/
structure Bld (P : Program) (n : Nat) (T : Tm) (t : TypeId) (cur : List Value) (parts : List (Nat × Operand)) (r : List Value) : Prop where of ::
  run : ∀ a (fields : Array Field) (places : List (Nat × Nat)), Fr n T a → P.underlying t = some (.struct fields) → fields.toList.mapM (fun f => (P.info? f.type).map fun i => (f.offset, i.size)) = some places →
    Instr.fill (places.toArray[·]?) cur.toArray (parts.map fun (i, x) => (i, a.eval x)) = some r.toArray
theorem places_get : ∀ (fs : List Field) (places : List (Nat × Nat)), fs.mapM (fun f => (P.info? f.type).map fun i => (f.offset, i.size)) = some places → ∀ (j : Nat) (f : Field) (m : Nat), fs[j]? = some f → (P.info? f.type).map (·.size) = some m → places[j]? = some (f.offset, m)
  | [], places, h, j, f, m, hj, _ => by simp at hj
  | f0 :: fs, places, h, j, f, m, hj, hm => by
    simp only [List.mapM_cons, Option.bind_eq_bind, Option.pure_def] at h
    cases hi : P.info? f0.type with
    | none => simp [hi] at h
    | some i =>
      cases hr : fs.mapM (fun f => (P.info? f.type).map fun i => (f.offset, i.size)) with
      | none => simp [hi, hr] at h
      | some rest =>
        simp [hi, hr] at h
        subst h
        cases j with
        | zero =>
          obtain rfl : f0 = f := by simpa using hj
          simp [hi] at hm
          simp [hm]
        | succ j => simpa using places_get fs rest hr j f m (by simpa using hj) hm
theorem fold_lay : ∀ (vs : List Value) (j o : Nat) (cur : List Value), o + j + vs.length ≤ cur.length →
    (vs.zipIdx j).foldl (fun (cs : Array Value) (p : Value × Nat) => cs.setIfInBounds (o + p.2) p.1) cur.toArray = (cur.take (o + j) ++ vs ++ cur.drop (o + j + vs.length)).toArray
  | [], j, o, cur, _ => by simp
  | v :: vs, j, o, cur, hl => by
    simp only [List.length_cons] at hl
    rw [List.zipIdx_cons, List.foldl_cons]
    simp only [List.setIfInBounds_toArray]
    rw [fold_lay vs (j + 1) o (cur.set (o + j) v) (by simp; omega)]
    congr 1
    apply List.ext_getElem?
    intro k
    simp only [List.getElem?_append, List.length_take, List.length_set, List.length_append, List.length_cons, List.getElem?_take, List.getElem?_set, List.getElem?_drop]
    by_cases c1 : k < o + j
    · simp [show k < o + (j + 1) by omega, c1, show k < min (o + j) cur.length by omega, show k < min (o + j) cur.length + (vs.length + 1) by omega, show k < min (o + (j + 1)) cur.length by omega, show k < min (o + (j + 1)) cur.length + vs.length by omega, show ¬ o + j = k by omega]
    · by_cases c2 : k = o + j
      · subst c2
        simp [show o + j < min (o + (j + 1)) cur.length by omega, show o + j < min (o + (j + 1)) cur.length + vs.length by omega, show min (o + j) cur.length = o + j by omega, show o + j < cur.length by omega, show o + j < o + (j + 1) by omega]
      · by_cases c3 : k < o + j + 1 + vs.length
        · simp [show min (o + (j + 1)) cur.length = o + j + 1 by omega, show min (o + j) cur.length = o + j by omega, show ¬ k < o + j + 1 by omega, show k < o + j + 1 + vs.length by omega, c1, show k < o + j + (vs.length + 1) by omega, show k - (o + j) = (k - (o + j + 1)) + 1 by omega]
        · simp [show min (o + (j + 1)) cur.length = o + j + 1 by omega, show min (o + j) cur.length = o + j by omega, show ¬ k < o + j + 1 + vs.length by omega, show ¬ k < o + j + (vs.length + 1) by omega]
          rw [if_neg (by omega)]
          congr 1
          omega
theorem fill_cons {place : Nat → Option (Nat × Nat)} {cells : Array Value} {i off size : Nat} {v : Value} {vs : List Value} {rest : List (Nat × Value)} (hp : place i = some (off, size)) (hv : v.cells = vs.toArray) (hs : vs.length = size) (hb : off + vs.length ≤ cells.size) :
    Instr.fill place cells ((i, v) :: rest) = Instr.fill place ((vs.zipIdx).foldl (fun (cs : Array Value) (p : Value × Nat) => cs.setIfInBounds (off + p.2) p.1) cells) rest := by
  have e : v.cells.size = vs.length := by rw [hv]; simp
  rw [Instr.fill]
  simp only [hp]
  rw [if_neg (by simp [e]; omega), hv, ← Array.foldl_toList, Array.toList_zipIdx]
theorem b_nil {cur : List Value} : Bld P n T t cur [] cur := .of fun _ _ _ _ _ _ => rfl
theorem b_one {cur cur' r : List Value} {i off ft : Nat} {ps : List (Nat × Operand)} [h : FieldT P t i off ft] (hx : ev T x = some v) (h1 : one v = true) [hs : Siz P ft 1] [hc : SetL cur off v cur'] (k : Bld P n T t cur' ps r) : Bld P n T t cur ((i, x) :: ps) r := .of fun a fields places hf hu hp => by
  obtain ⟨fs, f, hu', hy, rfl, rfl⟩ := h.get
  obtain rfl : fs = fields := by rw [hu] at hu'; simpa using hu'.symm
  have hg := places_get _ _ hp i f 1 (by simpa using hy) hs.s
  have hlt := hc.h.2
  simp only [List.map_cons, Instr.fill, List.getElem?_toArray, hg, hf.ev hx, one_cells h1]
  rw [if_neg (by simp; omega)]
  simpa [hc.h.1] using k.run a fs places hf hu hp
theorem b_row {cur cur' vs r : List Value} {i off ft m : Nat} {ps : List (Nat × Operand)} [h : FieldT P t i off ft] (hx : ev T x = some (.agg vs.toArray)) (hm : vs.length = m) [hs : Siz P ft m] [hc : Lay cur off vs cur'] (k : Bld P n T t cur' ps r) : Bld P n T t cur ((i, x) :: ps) r := .of fun a fields places hf hu hp => by
  obtain ⟨fs, f, hu', hy, rfl, rfl⟩ := h.get
  obtain rfl : fs = fields := by rw [hu] at hu'; simpa using hu'.symm
  have hg := places_get _ _ hp i f m (by simpa using hy) hs.s
  have hlt := hc.h.2
  have hfold := fold_lay vs 0 f.offset cur (by omega)
  rw [Nat.add_zero, hc.h.1] at hfold
  rw [List.map_cons]
  dsimp only
  rw [hf.ev hx, fill_cons (vs := vs) (by simpa using hg) rfl hm (by simpa using hlt), hfold]
  exact k.run a fs places hf hu hp
theorem y_build {z r : List Value} {m : Nat} {ps' : List (Nat × Operand)} [hz : ZeroT P t z] (hu : (P.underlying t).any (fun d => match d with | .struct fs => (fs.toList.mapM (fun f => (P.info? f.type).map fun i => (f.offset, i.size))).isSome | _ => false) = true) (h : Bld P n T t z ps' r) : Y P B n w0 ⟨dd, .build t ps'.toArray, ty, ps, af, g⟩ T H (.agg r.toArray) := .of fun a w hf _ => by
  have _ := m
  cases hq : P.underlying t with
  | none => simp [hq] at hu
  | some d =>
    cases d <;> try (simp [hq] at hu; done)
    case struct fields =>
      simp only [hq, Option.any_some] at hu
      obtain ⟨places, hp⟩ := Option.isSome_iff_exists.1 hu
      obtain ⟨i, hi, hz'⟩ := Option.bind_eq_some_iff.1 hz.z
      obtain ⟨zv, hzv, e⟩ := Option.map_eq_some_iff.1 hz'
      have e' : zv.cells = z.toArray := by rw [← e]
      have := run_build (P := P) w t (ps'.map fun (i, x) => (i, a.eval x)).toArray r.toArray (by
        simp only [Program.built, hi, hq, hzv, hp, e']
        exact h.run a fields places hf hq hp)
      simp [execOp] at this ⊢
      rw [this]
      rfl
theorem y_eql_agg {cs ds : List Value} {b : Bool} {t' : TypeId} (hx : ev T x = some (.agg cs.toArray)) (hy : ev T y = some (.agg ds.toArray)) (hg : P.eqGuardType P.depth t = false) (he : ∀ w, (Op.equal t (.agg cs.toArray) (.agg ds.toArray)).run P w = .ok b w) : Y P B n w0 ⟨dd, .binOp .eql t x y t', ty, ps, af, g⟩ T H (.bool b) := .of fun a w hf _ => by
  simp [execOp, eqGuard, binOp, hf.ev hx, hf.ev hy, hg, he]
theorem y_neq_agg {cs ds : List Value} {b : Bool} {t' : TypeId} (hx : ev T x = some (.agg cs.toArray)) (hy : ev T y = some (.agg ds.toArray)) (hg : P.eqGuardType P.depth t = false) (he : ∀ w, (Op.equal t (.agg cs.toArray) (.agg ds.toArray)).run P w = .ok b w) : Y P B n w0 ⟨dd, .binOp .neq t x y t', ty, ps, af, g⟩ T H (.bool (!b)) := .of fun a w hf _ => by
  simp [execOp, eqGuard, binOp, hf.ev hx, hf.ev hy, hg, he]
theorem y_build0 {z : List Value} [hz : ZeroT P t z] (hu : (P.underlying t).any (fun d => match d with | .struct fs => (fs.toList.mapM (fun f => (P.info? f.type).map fun i => (f.offset, i.size))).isSome | _ => false) = true) : Y P B n w0 ⟨dd, .build t #[], ty, ps, af, g⟩ T H (.agg z.toArray) := y_build (m := 0) (ps' := []) hu b_nil
end
end
end Sx
end Go.Proofs.Ytiolijpamidpfaa
