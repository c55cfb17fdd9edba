/-
  A run told by lists: callees that turn memory handed over to them; tests that are not decided; loops and ways that meet again. Over any program; no conditions beyond those in each statement.
-/
import Derived.Test.YtiolijpamidpfaaSlU
namespace Go.Proofs.Ytiolijpamidpfaa
open Go.RowKit
namespace Sl
set_option linter.unusedVariables false

/-! ### Callees -/
/-- What a callee does with the memory that is handed over ('Hp'): what it gives back, what that memory is then; 'Pre': what it asks of other memory, of which it turns nothing. -/
structure Con (P : Program) (f : FuncId) (args : List Value) (Pre : World → Foot → Prop) (Hp : List Blk) {ι : Type} (V : ι → Value) (G : ι → List Blk) : Prop where of ::
  run : ∀ (w : World) (S : Foot), (∀ i, S i → i < w.heap.size) → Pre w S → Sat Hp w.heap S → Calls P f args.toArray w fun e w' => ∃ i, e = .returned (V i) ∧ Mem S w w' (G i)
/-- A list ahead of another one. -/
class App (A R : List Blk) (r : outParam (List Blk)) : Prop where
  h : A ++ R = r
instance (R : List Blk) : App [] R R := ⟨rfl⟩
instance (x : Blk) (A R r : List Blk) [h : App A R r] : App (x :: A) R (x :: r) := ⟨by rw [List.cons_append, h.h]⟩
section
variable {P : Program} {B : Foot} {n : Nat} {w0 : World} {T : Tm} {H R : List Blk} {dd : Option Tmp} {ty : TypeId} {ps : String} {af : Array Edge} {g : Option (Nat × Bool)} {v : Value}
theorem Mem.con {f : FuncId} {args : List Value} {Pre : World → Foot → Prop} {Hp : List Blk} {ι : Type} {V : ι → Value} {G G' : ι → List Blk} {w : World} (hm : Mem B w0 w H) (hs : H.Perm (Hp ++ R)) (hc : Con P f args Pre Hp V G)
    (hp : ∀ (w : World) (S1 : Foot), Keep B w0 w → Sat R w.heap (fun i => Av B w0 i ∧ ¬ S1 i) → (∀ i, S1 i → Av B w0 i) → Pre w S1) (hA : ∀ i, App (G i) R (G' i)) : Calls P f args.toArray w fun e w' => ∃ i, e = .returned (V i) ∧ Mem B w0 w' (G' i) := by
  obtain ⟨S1, a1, a2, a3⟩ := (hm.sat.perm hs).append
  have hS : ∀ i, S1 i → Av B w0 i := fun i hi => (a1 i hi).1
  refine (hc.run w S1 (fun i hi => (a1 i hi).2) (hp w S1 hm.kept a3 hS) a2).mono ?_
  rintro e w' ⟨i, rfl, hm'⟩
  refine ⟨i, rfl, hm.kept.trans hm'.kept hS, ?_⟩
  rw [← (hA i).h]
  refine hm'.sat.join (fun j hj _ => hj.elim (hS j) fun h => .inr (Nat.le_trans hm.kept.size h)) ?_
  refine ((a3.mono (S' := fun j => (Av B w0 j ∧ ¬ S1 j) ∧ j < w.heap.size) fun j hj hl => ⟨hj, hl⟩).loc fun j hj _ => hm'.kept.keep j hj.2 hj.1.2).mono fun j hj _ => ⟨hj.1.1, fun h => h.elim hj.1.2 fun h2 => absurd hj.2 (Nat.not_lt.2 h2)⟩
theorem d_con {f : FuncId} {xs : List Operand} {ats : Array TypeId} {args : List Value} {Pre : World → Foot → Prop} {Hp : List Blk} {ι : Type} {V : ι → Value} {G G' : ι → List Blk} (hx : evs T xs = some args) [hi : IsFn P f] (hc : Con P f args Pre Hp V G) [hs : Split H Hp R]
    (hp : ∀ (w : World) (S1 : Foot), Keep B w0 w → Sat R w.heap (fun i => Av B w0 i ∧ ¬ S1 i) → (∀ i, S1 i → Av B w0 i) → Pre w S1) (hA : ∀ i, App (G i) R (G' i)) : D P B n w0 ⟨dd, .call ⟨.value (.func f), xs.toArray, ats⟩, ty, ps, af, g⟩ T H V G' :=
  d_callx hx fun w hm => hm.con hs.perm hc hp hA
theorem d_ret {f : FuncId} {xs : List Operand} {ats : Array TypeId} {args : List Value} (hx : evs T xs = some args) [hi : IsFn P f] (hc : ∀ w, Mem B w0 w H → Ret P f args w v) : D P B n w0 ⟨dd, .call ⟨.value (.func f), xs.toArray, ats⟩, ty, ps, af, g⟩ T H (fun _ : Unit => v) (fun _ => H) :=
  d_callx hx fun w hm => (hc w hm).run.mono fun _ _ ⟨he, hb⟩ => ⟨(), he, hm.call hb⟩
/-- A slice that the callee only reads, for 'hp'. -/
theorem rdc {α : Type} {enc : α → List Value} {m : Nat} {xs : List α} [r : Rd B w0 R v enc m xs] (w : World) (S1 : Foot) (hk : Keep B w0 w) (hs : Sat R w.heap (fun i => Av B w0 i ∧ ¬ S1 i)) (h1 : ∀ i, S1 i → Av B w0 i) : SlV w.heap S1 v enc m xs := r.h w S1 hk hs h1
theorem no_pre (w : World) (S1 : Foot) (hk : Keep B w0 w) (hs : Sat R w.heap (fun i => Av B w0 i ∧ ¬ S1 i)) (h1 : ∀ i, S1 i → Av B w0 i) : True := trivial
/-- The beginning of a call to which memory is handed over. -/
theorem enterC {f : FuncId} {fn : Func} {c : Code} {args : List Value} {Pre : World → Foot → Prop} {Hp : List Blk} {ι : Type} {V : ι → Value} {G : ι → List Blk} (hf : P.funcs[f]? = some fn) (hb : fn.body = some c) (hn : fn.ntmps = n) (ha : args.length ≤ n)
    (h : ∀ (w : World) (S : Foot), Pre w S → C P S n w (bodyPost P fn fun e w' => ∃ i, e = .returned (V i) ∧ Mem S w w' (G i)) c (nums args 0) Hp) : Con P f args Pre Hp V G := .of fun w S hS hp hs => by
  refine calls_of_wp hf hb ((h w S hp).run _ _ ⟨by simp [hn]; omega, fun i v hv => ?_, rfl⟩ ⟨Keep.refl _ _, hs.mono fun i hi _ => .inl hi⟩)
  obtain ⟨_, h2⟩ := nums_find args 0 i v hv
  have hlt : i < args.length := (List.getElem?_eq_some_iff.1 (by simpa using h2)).1
  rw [Array.getD_eq_getD_getElem?, Array.getElem?_append_left (by simpa using hlt)]
  simpa using congrArg (fun o => o.getD undef) h2
/-- A callee that hands back new memory. -/
theorem Con.ofCalls {f : FuncId} {args : List Value} {Pre : World → Foot → Prop} {ι : Type} {V : ι → Value} {G : ι → List Blk} (h : ∀ (w : World) (S : Foot), Pre w S → Calls P f args.toArray w fun e w' => ∃ i, e = .returned (V i) ∧ Mem none0 w w' (G i)) : Con P f args Pre [] V G := .of fun w S _ hp _ =>
  (h w S hp).mono fun e w' ⟨i, he, hm⟩ => ⟨i, he, ⟨hm.kept.os, hm.kept.tape, hm.kept.output, hm.kept.size, fun k hk _ => hm.kept.keep k hk id⟩, hm.sat.mono fun j hj _ => hj.elim (fun h => h.elim) .inr⟩
/-- What a contract says of no memory handed over, as a 'Ret'. -/
theorem Con.ret {f : FuncId} {args : List Value} {Pre : World → Foot → Prop} {ι : Type} {G : ι → List Blk} (h : Con P f args Pre [] (fun _ : ι => v) G) {w : World} (hp : Pre w none0) : Ret P f args w v := .of
  ((h.run w none0 (fun _ e => e.elim) hp trivial).mono fun e w' ⟨_, he, hm⟩ => ⟨he, hm.below⟩)
/-- Memory, seen otherwise. -/
theorem c_mems {ι : Type} {Q : Exit → Act → World → Prop} {c : Code} (G : ι → List Blk) (hh : ∀ w, Mem B w0 w H → ∃ i, Mem B w0 w (G i)) (k : ∀ i, C P B n w0 Q c T (G i)) : C P B n w0 Q c T H := .of fun a w hf hm =>
  let ⟨i, h⟩ := hh w hm
  (k i).run a w hf h
/-- What memory says. -/
theorem c_fact {p : Prop} {Q : Exit → Act → World → Prop} {c : Code} (hh : ∀ w, Mem B w0 w H → p) (k : p → C P B n w0 Q c T H) : C P B n w0 Q c T H := .of fun a w hf hm => (k (hh w hm)).run a w hf hm
theorem w_fact {p : Prop} {Q : Exit → Act → World → Prop} {ops : Array Oper} {l : List Oper} (hh : ∀ w, Mem B w0 w H → p) (k : p → W P B n w0 ops Q l T H) : W P B n w0 ops Q l T H := .of fun a w hf hm => (k (hh w hm)).run a w hf hm
theorem w_mems {ι : Type} {Q : Exit → Act → World → Prop} {ops : Array Oper} {l : List Oper} (G : ι → List Blk) (hh : ∀ w, Mem B w0 w H → ∃ i, Mem B w0 w (G i)) (k : ∀ i, W P B n w0 ops Q l T (G i)) : W P B n w0 ops Q l T H := .of fun a w hf hm =>
  let ⟨i, h⟩ := hh w hm
  (k i).run a w hf h
end

/-! ### Tests that are not decided -/
/-- What a Bool says. -/
class BP (b : Bool) (p : outParam Prop) : Prop where
  h : b = true ↔ p
instance (priority := low) bpAny (b : Bool) : BP b (b = true) := ⟨Iff.rfl⟩
instance bpDec (p : Prop) [Decidable p] : BP (decide p) p := ⟨decide_eq_true_iff⟩
instance bpEq (p q : Int) : BP (p == q) (p = q) := ⟨beq_iff_eq⟩
instance bpNe (p q : Int) : BP (p != q) (p ≠ q) := ⟨bne_iff_ne⟩
instance bpNot (b : Bool) (p : Prop) [h : BP b p] : BP (!b) (¬ p) := ⟨by rw [← h.h]; cases b <;> simp⟩
theorem BP.f {b : Bool} {p : Prop} (h : BP b p) : b = false ↔ ¬ p := by rw [← h.h]; cases b <;> simp
section
variable {P : Program} {B : Foot} {n : Nat} {w0 : World} {Q : Exit → Act → World → Prop} {T : Tm} {H H0 : List Blk} {ops : Array Oper} {l tl : List Oper} {o : Oper} {j dj d f : Nat} {want b : Bool} {p : Prop} {done : Array Bool}
theorem Fr.know {a : Act} {c : Bool} (hf : Fr n T a) {i : Nat} (h : find T i = some (.bool c)) : Fr n ((i, .bool c) :: T) a :=
  ⟨hf.size, fun k u hk => by
    by_cases hij : k = i
    · subst hij
      rw [find_same] at hk
      rw [hf.get _ _ h]
      simpa using hk
    · rw [find_other T _ hij] at hk
      exact hf.get _ _ hk, hf.nodef⟩
theorem w_split (hg : o.guard = some (j, want)) (hj : (ops[j]?).bind (·.dst) = some dj) (hb : find T dj = some (.bool b)) [hp : BP b p] (ht : p → W P B n w0 ops Q (o :: l) ((dj, .bool true) :: T) H) (hf : ¬ p → W P B n w0 ops Q (o :: l) ((dj, .bool false) :: T) H) : W P B n w0 ops Q (o :: l) T H := .of fun a w hfr hm => by
  cases b with
  | true => exact (ht (hp.h.1 rfl)).run a w (hfr.know hb) hm
  | false => exact (hf (hp.f.1 rfl)).run a w (hfr.know hb) hm
theorem q_split (hg : o.guard = some (j, want)) (hj : (ops[j]?).bind (·.dst) = some dj) (hb : find T dj = some (.bool b)) [hp : BP b p] (ht : p → WQ P B n w0 ops Q tl (o :: l) ((dj, .bool true) :: T) H) (hf : ¬ p → WQ P B n w0 ops Q tl (o :: l) ((dj, .bool false) :: T) H) : WQ P B n w0 ops Q tl (o :: l) T H := .of fun a hfr => by
  cases b with
  | true => exact (ht (hp.h.1 rfl)).run a (hfr.know hb)
  | false => exact (hf (hp.f.1 rfl)).run a (hfr.know hb)
theorem sq_split (hg : o.guard = some (j, want)) (hj : (ops[j]?).bind (·.dst) = some dj) (hb : find T dj = some (.bool b)) [hp : BP b p] (ht : p → SQ P B n w0 ops Q H0 tl H (o :: l) ((dj, .bool true) :: T)) (hf : ¬ p → SQ P B n w0 ops Q H0 tl H (o :: l) ((dj, .bool false) :: T)) : SQ P B n w0 ops Q H0 tl H (o :: l) T := .of fun a hfr => by
  cases b with
  | true => exact (ht (hp.h.1 rfl)).run a (hfr.know hb)
  | false => exact (hf (hp.f.1 rfl)).run a (hfr.know hb)
theorem s_split (hg : o.guard = some (j, want)) (hj : (ops[j]?).bind (·.dst) = some dj) (hb : find T dj = some (.bool b)) [hp : BP b p] (ht : p → S P B n w0 ops Q H0 (o :: l) ((dj, .bool true) :: T) H) (hf : ¬ p → S P B n w0 ops Q H0 (o :: l) ((dj, .bool false) :: T) H) : S P B n w0 ops Q H0 (o :: l) T H := .of fun a hfr => by
  cases b with
  | true => exact (ht (hp.h.1 rfl)).run a (hfr.know hb)
  | false => exact (hf (hp.f.1 rfl)).run a (hfr.know hb)
theorem sqa_split (hg : o.guard = some (j, want)) (hj : (ops[j]?).bind (·.dst) = some dj) (hb : find T dj = some (.bool b)) [hp : BP b p] (ht : p → SQA P B n w0 ops Q H0 f done H (o :: l) ((dj, .bool true) :: T)) (hf : ¬ p → SQA P B n w0 ops Q H0 f done H (o :: l) ((dj, .bool false) :: T)) : SQA P B n w0 ops Q H0 f done H (o :: l) T := .of fun a hfr => by
  cases b with
  | true => exact (ht (hp.h.1 rfl)).run a (hfr.know hb)
  | false => exact (hf (hp.f.1 rfl)).run a (hfr.know hb)
theorem so_split (hg : o.guard = some (j, want)) (hj : (ops[j]?).bind (·.dst) = some dj) (hb : find T dj = some (.bool b)) [hp : BP b p] (ht : p → SO P B n w0 ops Q H0 f done o ((dj, .bool true) :: T) H) (hf : ¬ p → SO P B n w0 ops Q H0 f done o ((dj, .bool false) :: T) H) : SO P B n w0 ops Q H0 f done o T H := .of fun a hfr => by
  cases b with
  | true => exact (ht (hp.h.1 rfl)).run a (hfr.know hb)
  | false => exact (hf (hp.f.1 rfl)).run a (hfr.know hb)
theorem s_skip0 {j : Nat} {b want : Bool} (h : o.guard = some (j, want)) (hg : gv ops T j = some b) (hb : (b == want) = false) (hd : o.dst = none) [hs : SubH H0 H] (k : S P B n w0 ops Q H0 l T H) : S P B n w0 ops Q H0 (o :: l) T H := .of fun a hf =>
  .inr ⟨by simp [Region.wanted, h, gv_yielded hg hf]; simpa using hb, by rw [hd]; exact k.run _ (hf.put0 undef)⟩
theorem s_skip {j : Nat} {b want : Bool} (h : o.guard = some (j, want)) (hg : gv ops T j = some b) (hb : (b == want) = false) (hd : o.dst = some d) (hn : d < n) (k : S P B n w0 ops Q H0 l ((d, undef) :: T) H) : S P B n w0 ops Q H0 (o :: l) T H := .of fun a hf =>
  .inr ⟨by simp [Region.wanted, h, gv_yielded hg hf]; simpa using hb, by rw [hd]; exact k.run _ (hf.put hn undef)⟩
theorem c_test {c : Operand} {x y : Code} (hc : ev T c = some (.bool b)) [hp : BP b p] (ht : p → C P B n w0 Q x T H) (hf : ¬ p → C P B n w0 Q y T H) : C P B n w0 Q (.cond c x y) T H :=
  c_cond hc (fun e => ht (hp.h.1 e)) (fun e => hf (hp.f.1 e))
end

/-! ### Loops, ways that meet -/
section
variable {P : Program} {B : Foot} {n : Nat} {w0 : World} {T : Tm} {H : List Blk}
theorem c_loop2 {ι : Type} {Q : Exit → Act → World → Prop} {c : Code} (S : ι → Tm) (G : ι → List Blk) (μ : ι → Nat) (i0 : ι) (hs : Sub T (S i0)) (hh : ∀ w, Mem B w0 w H → Mem B w0 w (G i0))
    (round : ∀ i, C P B n w0 (Exit.then (fun a w => ∃ j, μ j < μ i ∧ Fr n (S j) a ∧ Mem B w0 w (G j)) Q) c (S i) (G i)) : C P B n w0 Q (.loop c) T H :=
  c_loop (fun i => (S i, G i)) μ i0 hs hh round
theorem e_next {ι : Type} {S : ι → Tm} {G : ι → List Blk} {μ : ι → Nat} {m : Nat} {Q : Exit → Act → World → Prop} (j : ι) (hj : μ j < m) (hs : Sub T (S j)) (hh : ∀ w, Mem B w0 w H → Mem B w0 w (G j)) :
    E B n w0 (Exit.then (fun a w => ∃ j, μ j < m ∧ Fr n (S j) a ∧ Mem B w0 w (G j)) Q) .normal T H := .of fun _ w hf hm => ⟨j, hj, hf.sub hs, hh w hm⟩
theorem c_cut2 {ι : Type} {Q : Exit → Act → World → Prop} {x y : Code} (S : ι → Tm) (G : ι → List Blk) (hx : C P B n w0 (Exit.then (fun a w => ∃ i, Fr n (S i) a ∧ Mem B w0 w (G i)) Q) x T H) (hy : ∀ i, C P B n w0 Q y (S i) (G i)) : C P B n w0 Q (.seq x y) T H :=
  c_cut (fun i => (S i, G i)) hx hy
theorem e_meet {ι : Type} {S : ι → Tm} {G : ι → List Blk} {Q : Exit → Act → World → Prop} (i : ι) (hs : Sub T (S i)) (hh : ∀ w, Mem B w0 w H → Mem B w0 w (G i)) : E B n w0 (Exit.then (fun a w => ∃ i, Fr n (S i) a ∧ Mem B w0 w (G i)) Q) .normal T H :=
  .of fun _ w hf hm => ⟨i, hf.sub hs, hh w hm⟩
theorem int_eq {k : IntKind} {x y : Int} (h : x = y) : some (Value.int k x) = some (Value.int k y) := by rw [h]
theorem bool_eq {x y : Bool} (h : x = y) : some (Value.bool x) = some (Value.bool y) := by rw [h]
theorem cells_eq {S0 : Foot} {w : World} {b : Nat} {cs cs' : List Value} {t : TypeId} (h : cs = cs') (hm : Mem S0 w0 w (⟨b, cells cs t⟩ :: H)) : Mem S0 w0 w (⟨b, cells cs' t⟩ :: H) := h ▸ hm
theorem osl_eq {S0 : Foot} {w : World} {b : Nat} {α : Type} {v : Value} {enc : α → List Value} {m : Nat} {xs xs' : List α} {e : TypeId} (h : xs = xs') (hm : Mem S0 w0 w (⟨b, osl v enc m xs e⟩ :: H)) : Mem S0 w0 w (⟨b, osl v enc m xs' e⟩ :: H) := h ▸ hm
theorem Mem.cons {S0 : Foot} {w : World} {x : Blk} {H H' : List Blk} (f : ∀ h S, Sat H h S → Sat H' h S) (hm : Mem S0 w0 w (x :: H)) : Mem S0 w0 w (x :: H') := ⟨hm.kept, hm.sat.cons (f _)⟩
end
/-! ### Strings -/
section
variable {P : Program} {B : Foot} {n : Nat} {w0 : World} {T : Tm} {H : List Blk} {d : Option Tmp} {ty : TypeId} {ps : String} {af : Array Edge} {g : Option (Nat × Bool)} {x y : Operand} {t t' : TypeId}
theorem y_seql {r s : ByteArray} (hx : ev T x = some (.string r)) (hy : ev T y = some (.string s)) : Y P B n w0 ⟨d, .binOp .eql t x y t', ty, ps, af, g⟩ T H (.bool (r.toList == s.toList)) := .of fun a w hf _ => by
  simp [execOp, eqGuard, binOp, Op.stringOp, hf.ev hx, hf.ev hy]
theorem y_sneq {r s : ByteArray} (hx : ev T x = some (.string r)) (hy : ev T y = some (.string s)) : Y P B n w0 ⟨d, .binOp .neq t x y t', ty, ps, af, g⟩ T H (.bool (!(r.toList == s.toList))) := .of fun a w hf _ => by
  simp [execOp, eqGuard, binOp, Op.stringOp, hf.ev hx, hf.ev hy]
end
end Sl
end Go.Proofs.Ytiolijpamidpfaa
