/-
  A run told by lists: one lemma for each operation. Over any program; no conditions beyond those in each statement.
-/
import Derived.Test.YtiolijpamidpfaaSl
import Derived.ChangeKeysEq
namespace Go.Proofs.Ytiolijpamidpfaa
open Go.RowKit
namespace Sl
set_option linter.unusedVariables false

/-! ### What a type is -/
class IntT (P : Program) (t : TypeId) (k : outParam IntKind) : Prop where
  u : P.underlying t = some (.int k)
class Siz (P : Program) (t : TypeId) (m : outParam Nat) : Prop where
  s : (P.info? t).map (·.size) = some m
/-- A type whose values are one cell each. -/
class Sca (P : Program) (t : TypeId) : Prop where
  s : (P.info? t).map (·.size) = some 1
  u : (P.underlying t).any (fun d => match d with | .struct _ | .array _ _ => false | _ => true) = true
/-- A struct or an array. -/
class AggT (P : Program) (t : TypeId) (m : outParam Nat) : Prop where
  s : (P.info? t).map (·.size) = some m
  u : (P.underlying t).any (fun d => match d with | .struct _ | .array _ _ => true | _ => false) = true
/-- A field: where it lies in its struct, and its type. -/
class FieldT (P : Program) (s : TypeId) (f : Nat) (off t : outParam Nat) : Prop where
  u : (match P.underlying s with | some (.struct fs) => (fs[f]?).map fun x => (x.offset, x.type) | _ => none) = some (off, t)
  z : (P.info? t).any (fun i => decide (i.size ≠ 0)) = true
class ArrT (P : Program) (t : TypeId) (len e m : outParam Nat) : Prop where
  u : P.underlying t = some (.array len e)
  s : (P.info? e).map (·.size) = some m
class SliT (P : Program) (t : TypeId) (e m : outParam Nat) : Prop where
  u : P.underlying t = some (.slice e)
  s : (P.info? e).map (·.size) = some m
class PtrT (P : Program) (t : TypeId) (e : outParam Nat) : Prop where
  u : P.underlying t = some (.pointer e)
/-- A type's zero value: its cells. -/
class ZeroT (P : Program) (t : TypeId) (z : outParam (List Value)) : Prop where
  z : (P.info? t).bind (fun i => i.zero.map fun v => v.cells.toList) = some z
class IsFn (P : Program) (f : FuncId) : Prop where
  run : ∀ (args : Array Value) (w : World), (callFunc f args).run P w = .ok (.enter f args) w
theorem isFn_of {P : Program} {f : FuncId} {fn : Func} (h : P.funcs[f]? = some fn) (hn : (fn.name == "runtime.NumGoroutine") = false) (hb : fn.body.isNone = false) : IsFn P f := ⟨fun args w => by
  unfold callFunc
  simp only [Sem.run_bind, run_program, Result.andThen_ok, h, hn, hb]
  rfl⟩

section
variable {P : Program} {w : World}
theorem Siz.run {t : TypeId} {m : Nat} (h : (P.info? t).map (·.size) = some m) : (sizeOf t).run P w = .ok m w := by
  cases hq : P.info? t with
  | none => simp [hq] at h
  | some i => simp [hq] at h; simp [sizeOf, typeInfo, hq, h]
theorem Sca.run {t : TypeId} [h : Sca P t] : (isAgg t).run P w = .ok false w := by
  have := h.u
  cases hq : P.underlying t with
  | none => simp [hq] at this
  | some d =>
    simp [hq] at this
    unfold isAgg
    rw [Sem.run_bind, run_underlying hq w]
    cases d <;> simp_all
theorem AggT.run {t : TypeId} {m : Nat} [h : AggT P t m] : (isAgg t).run P w = .ok true w := by
  have := h.u
  cases hq : P.underlying t with
  | none => simp [hq] at this
  | some d =>
    simp [hq] at this
    unfold isAgg
    rw [Sem.run_bind, run_underlying hq w]
    cases d <;> simp_all
theorem FieldT.get {s : TypeId} {f off t : Nat} [h : FieldT P s f off t] : ∃ (fs : Array Field) (x : Field), P.underlying s = some (.struct fs) ∧ fs[f]? = some x ∧ x.offset = off ∧ x.type = t := by
  have := h.u
  split at this
  · rename_i fs hu
    obtain ⟨x, hx, he⟩ := Option.map_eq_some_iff.1 this
    simp only [Prod.mk.injEq] at he
    exact ⟨fs, x, hu, hx, he.1, he.2⟩
  · cases this
theorem FieldT.run {s : TypeId} {f off t : Nat} [h : FieldT P s f off t] {b o : Nat} : (Instr.fieldAt s (.pointer (some ⟨b, o, none⟩)) f).run P w = .ok (.pointer (some ⟨b, o + off, none⟩)) w := by
  obtain ⟨fs, x, hu, hx, rfl, rfl⟩ := h.get
  have hz := h.z
  cases hq : P.info? x.type with
  | none => simp [hq] at hz
  | some i =>
    have hi : i.size ≠ 0 := by simpa [hq] using hz
    have hs : (sizeOf x.type).run P w = .ok i.size w := Siz.run (by simp [hq])
    have hadd : (⟨b, o, none⟩ : Addr).add x.offset = ⟨b, o + x.offset, none⟩ := by unfold Addr.add; split <;> simp_all
    simp [Instr.fieldAt, run_underlying hu w, hx, Instr.sureAddr, fieldPlace, hs, hi, hadd]
theorem addr_add (b o m : Nat) : (⟨b, o, none⟩ : Addr).add m = ⟨b, o + m, none⟩ := by unfold Addr.add; split <;> simp_all
theorem ArrT.run {t : TypeId} {len e m : Nat} [h : ArrT P t len e m] {b o : Nat} {k : IntKind} {i : Int} (h0 : 0 ≤ i) (h1 : i < len) :
    (Instr.indexAt t (.pointer (some ⟨b, o, none⟩)) (.int k i)).run P w = .ok (.pointer (some ⟨b, o + i.toNat * m, none⟩)) w := by
  simp [Instr.indexAt, asIntOf, run_underlying h.u w, Instr.sureAddr, h0, h1, Siz.run h.s, addr_add]
theorem SliT.run {t : TypeId} {e m : Nat} [h : SliT P t e m] {b o len cap : Nat} {k : IntKind} {i : Int} (h0 : 0 ≤ i) (h1 : i < len) :
    (Instr.indexAt t (.slice (some ⟨b, o, none⟩) len cap) (.int k i)).run P w = .ok (.pointer (some ⟨b, o + i.toNat * m, none⟩)) w := by
  simp [Instr.indexAt, asIntOf, run_underlying h.u w, h0, h1, Siz.run h.s, addr_add]
end

/-! ### Steps -/
/-- What a guard's operation has yielded. -/
def gv (ops : Array Oper) (T : Tm) (j : Nat) : Option Bool :=
  match (ops[j]?).bind (·.dst) with
  | some d => match find T d with
    | some (.bool b) => some b
    | _ => none
  | none => none
section
variable (P : Program) (B : Foot) (n : Nat) (w0 : World)
/-- An operation yields a value and turns nothing. -/
structure Y (o : Oper) (T : Tm) (H : List Blk) (v : Value) : Prop where of ::
  run : ∀ a w, Fr n T a → Mem B w0 w H → (execOp a.eval o).run P w = .ok (.value v) w
/-- It is carried out. -/
structure Wn (ops : Array Oper) (T : Tm) (o : Oper) : Prop where of ::
  run : ∀ a, Fr n T a → Region.wanted o (yielded ops a.tmps) = true
end
section
variable {P : Program} {B : Foot} {n : Nat} {w0 : World} {Q : Exit → Act → World → Prop} {T : Tm} {H H' : List Blk} {ops : Array Oper} {tl l : List Oper} {o : Oper} {d : Nat} {v : Value}

theorem gv_yielded {j : Nat} {b : Bool} (h : gv ops T j = some b) {a : Act} (hf : Fr n T a) : yielded ops a.tmps j = some b := by
  unfold gv at h
  split at h
  · rename_i d hd
    split at h
    · rename_i b' hb'
      obtain rfl : b' = b := by simpa using h
      have hg := hf.get _ _ hb'
      unfold yielded
      rw [hd]
      simp only [Option.bind_some]
      cases ht : a.tmps[d]? with
      | none => simp [ht, undef] at hg
      | some u =>
        have : u = .bool b' := by simpa [ht] using hg
        rw [this]
    · cases h
  · cases h
theorem wn_none (h : o.guard = none) : Wn n ops T o := .of fun a _ => by simp [Region.wanted, h]
theorem wn_some {j : Nat} {b want : Bool} (h : o.guard = some (j, want)) (hg : gv ops T j = some b) (hb : b = want) : Wn n ops T o := .of fun a hf => by
  simp [Region.wanted, h, gv_yielded hg hf, hb]
theorem w_y (hw : Wn n ops T o) (hy : Y P B n w0 o T H v) (hd : o.dst = some d) (hn : d < n) (k : W P B n w0 ops Q l ((d, v) :: T) H) : W P B n w0 ops Q (o :: l) T H := .of fun a w hf hm =>
  wpList_step fun K hK => by
    rw [if_pos (hw.run a hf)]
    unfold Oper.wp
    rw [hy.run a w hf hm, Oper.upon_value, hd]
    exact hK _ _ (k.run _ _ (hf.put hn v) hm)
theorem q_y (hw : Wn n ops T o) (hy : Y P B n w0 o T H v) (hd : o.dst = some d) (hn : d < n) (k : WQ P B n w0 ops Q tl l ((d, v) :: T) H) : WQ P B n w0 ops Q tl (o :: l) T H := .of fun a hf =>
  wpQuiet_step fun K hK => by
    rw [if_pos (hw.run a hf)]
    refine ⟨v, fun w hm => ?_, ?_⟩
    · unfold Oper.quietAt
      rw [hy.run a w hf hm]
      exact ⟨rfl, rfl⟩
    · rw [hd]
      exact hK _ (k.run _ (hf.put hn v))
theorem w_skip {j : Nat} {b want : Bool} (h : o.guard = some (j, want)) (hg : gv ops T j = some b) (hb : (b == want) = false) (hd : o.dst = some d) (hn : d < n) (k : W P B n w0 ops Q l ((d, undef) :: T) H) : W P B n w0 ops Q (o :: l) T H := .of fun a w hf hm =>
  wpList_step fun K hK => by
    rw [if_neg (by simp [Region.wanted, h, gv_yielded hg hf]; simpa using hb), hd]
    exact hK _ _ (k.run _ _ (hf.put hn undef) hm)
theorem w_skip0 {j : Nat} {b want : Bool} (h : o.guard = some (j, want)) (hg : gv ops T j = some b) (hb : (b == want) = false) (hd : o.dst = none) (k : W P B n w0 ops Q l T H) : W P B n w0 ops Q (o :: l) T H := .of fun a w hf hm =>
  wpList_step fun K hK => by
    rw [if_neg (by simp [Region.wanted, h, gv_yielded hg hf]; simpa using hb), hd]
    exact hK _ _ (k.run _ _ (hf.put0 undef) hm)
theorem q_skip {j : Nat} {b want : Bool} (h : o.guard = some (j, want)) (hg : gv ops T j = some b) (hb : (b == want) = false) (hd : o.dst = some d) (hn : d < n) (k : WQ P B n w0 ops Q tl l ((d, undef) :: T) H) : WQ P B n w0 ops Q tl (o :: l) T H := .of fun a hf =>
  wpQuiet_step fun K hK => by
    rw [if_neg (by simp [Region.wanted, h, gv_yielded hg hf]; simpa using hb), hd]
    exact hK _ (k.run _ (hf.put hn undef))
/-- A Bool in a slot, decided: its slot's value is put anew. -/
theorem w_know {b c : Bool} {i : Nat} (h : find T i = some (.bool b)) (e : b = c) (k : W P B n w0 ops Q l ((i, .bool c) :: T) H) : W P B n w0 ops Q l T H := .of fun a w hf hm =>
  k.run a w ⟨hf.size, fun j u hj => by
    by_cases hij : j = i
    · subst hij
      rw [find_same] at hj
      rw [hf.get _ _ h, e]
      simpa using hj
    · rw [find_other T _ hij] at hj
      exact hf.get _ _ hj, hf.nodef⟩ hm
theorem q_know {b c : Bool} {i : Nat} (h : find T i = some (.bool b)) (e : b = c) (k : WQ P B n w0 ops Q tl l ((i, .bool c) :: T) H) : WQ P B n w0 ops Q tl l T H := .of fun a hf =>
  k.run a ⟨hf.size, fun j u hj => by
    by_cases hij : j = i
    · subst hij
      rw [find_same] at hj
      rw [hf.get _ _ h, e]
      simpa using hj
    · rw [find_other T _ hij] at hj
      exact hf.get _ _ hj, hf.nodef⟩
end
end Sl
end Go.Proofs.Ytiolijpamidpfaa
