/-
  Arrays of one's own, read as slices; strings of bytes that are compared. Over any program; no conditions beyond those in each statement.
-/
import Derived.Test.YtiolijpamidpfaaSlIn
import Derived.Lib.Bytes
namespace Go.Proofs.Ytiolijpamidpfaa
open Go.RowKit
namespace Sl
set_option linter.unusedVariables false
/-- Numbers that stand one behind the other among cells. -/
class NumsAt (cs : List Value) (off n : Nat) (k : outParam IntKind) (xs : outParam (List Int)) : Prop where
  h : (cs.drop off).take n = xs.map (.int k)
  l : xs.length = n
class NumsK (cs : List Value) (n : Nat) (k : IntKind) (xs : outParam (List Int)) : Prop where
  h : cs.take n = xs.map (.int k)
  l : xs.length = n
instance numsK0 (cs : List Value) (k : IntKind) : NumsK cs 0 k [] := ⟨rfl, rfl⟩
instance numsK1 (k : IntKind) (a : Int) (cs : List Value) (n : Nat) (xs : List Int) [h : NumsK cs n k xs] : NumsK (.int k a :: cs) (n + 1) k (a :: xs) := ⟨by rw [List.take_succ_cons, h.h, List.map_cons], by rw [List.length_cons, h.l]⟩
instance numsAtC (k : IntKind) (a : Int) (cs : List Value) (n : Nat) (xs : List Int) [h : NumsK cs n k xs] : NumsAt (.int k a :: cs) 0 (n + 1) k (a :: xs) := ⟨by rw [List.drop_zero, List.take_succ_cons, h.h, List.map_cons], by rw [List.length_cons, h.l]⟩
instance numsAtD (c : Value) (cs : List Value) (off n : Nat) (k : IntKind) (xs : List Int) [h : NumsAt cs off n k xs] : NumsAt (c :: cs) (off + 1) n k xs := ⟨by rw [List.drop_succ_cons]; exact h.h, h.l⟩
class Small (n : Nat) : Prop where
  h : n ≤ maxLen
instance : Small 4 := ⟨by decide⟩
instance : Small 6 := ⟨by decide⟩
instance : Small 8 := ⟨by decide⟩
theorem flat_nums (k : IntKind) : ∀ xs : List Int, flat (enc1 k) xs = xs.map (.int k)
  | [] => rfl
  | x :: xs => by
    have := flat_nums k xs
    unfold flat at this ⊢
    rw [List.flatMap_cons, this]
    rfl
instance (priority := low) rdBox (S0 : Foot) (w0 : World) (H : List Blk) (b off n : Nat) (cs : List Value) (et : TypeId) (k : IntKind) (xs : List Int) [h : Has H b cs et] [hn : NumsAt cs off n k xs] [hs : Small n] : Rd S0 w0 H (.slice (some ⟨b, off, none⟩) n n) (enc1 k) 1 xs := ⟨fun w S1 _ hsat _ => by
  obtain ⟨S2, ⟨hb, hS⟩, h2⟩ := hsat.mem h.mem
  have hin := h2 b ((hS b).2 rfl)
  refine ⟨fun x _ => rfl, by decide, some ⟨b, off, none⟩, n, by rw [hn.l], Nat.le_of_eq hn.l, hs.h, .inr ⟨b, off, rfl, (Array.getElem?_eq_some_iff.1 hb).1, hin.2, fun j u hj => ?_⟩⟩
  rw [flat_nums, ← hn.h, List.getElem?_take] at hj
  split at hj
  · rw [List.getElem?_drop] at hj
    unfold cellAt
    rw [hb]
    simpa using hj
  · cases hj⟩
section
variable {P : Program} {B : Foot} {n : Nat} {w0 : World} {T : Tm} {H : List Blk} {d : Option Tmp} {ty : TypeId} {ps : String} {af : Array Edge} {g : Option (Nat × Bool)} {t t' : TypeId} {x y c : Operand} {v : Value} {ι : Type} {V : ι → Value} {G : ι → List Blk} {o : Oper}
theorem y_sliceA {b o m el s : Nat} (hx : ev T x = some (.pointer (some ⟨b, o, none⟩))) [h : ArrT P t m el s] : Y P B n w0 ⟨d, .slice t x none none none, ty, ps, af, g⟩ T H (.slice (some ⟨b, o, none⟩) m m) := .of fun a w hf _ => by
  simp [execOp, hf.ev hx, Instr.sliceAt, Instr.sliceBounds, Instr.sureAddr, run_underlying h.u, Siz.run h.s, addr_add]
/-- A slice cut at an end that is not cut. -/
theorem y_c (h : Y P B n w0 o T H v := by first | (apply y_is_slice; exact y_sliceA rfl) | exact y_b) : Y P B n w0 o T H v := h
end
/-- Strings of numbers that are bytes. -/
def octB (xs : List Int) : Prop := ∀ x ∈ xs, 0 ≤ x ∧ x ≤ 255
theorem str_eq : ∀ {xs ys : List Int}, octB xs → octB ys → ((strOfNums xs).toList == (strOfNums ys).toList) = decide (xs = ys) := by
  intro xs ys hx hy
  have hinj : ∀ {a b : Int}, 0 ≤ a ∧ a ≤ 255 → 0 ≤ b ∧ b ≤ 255 → UInt8.ofNat a.toNat = UInt8.ofNat b.toNat → a = b := fun {a b} ha hb e => by
    have := congrArg UInt8.toNat e
    simp only [UInt8.toNat_ofNat'] at this
    omega
  have go : ∀ {xs ys : List Int}, octB xs → octB ys → xs.map (fun n => UInt8.ofNat n.toNat) = ys.map (fun n => UInt8.ofNat n.toNat) → xs = ys := by
    intro xs
    induction xs with
    | nil => intro ys _ _ e; cases ys with
      | nil => rfl
      | cons y ys => simp at e
    | cons x xs ih => intro ys hx hy e; cases ys with
      | nil => simp at e
      | cons y ys =>
        rw [List.map_cons, List.map_cons, List.cons.injEq] at e
        rw [hinj (hx x (.head _)) (hy y (.head _)) e.1, ih (fun a ha => hx a (.tail _ ha)) (fun a ha => hy a (.tail _ ha)) e.2]
  have e1 : ∀ zs : List Int, (strOfNums zs).toList = zs.map fun n => UInt8.ofNat n.toNat := fun zs => by
    rw [Lib.strOfNums_toList]
    rfl
  rw [e1, e1]
  by_cases h : xs = ys
  · subst h
    simp
  · rw [decide_eq_false h]
    cases hb : (xs.map (fun n => UInt8.ofNat n.toNat) == ys.map (fun n => UInt8.ofNat n.toNat)) with
    | false => rfl
    | true => exact absurd (go hx hy (by simpa using hb)) h
end Sl
end Go.Proofs.Ytiolijpamidpfaa
