/-
  A run told by lists: slices as opaque values that read as lists of things, in elder memory or in memory of one's own. Over any program; no conditions beyond those in each statement.
-/
import Derived.Test.YtiolijpamidpfaaSlM
import Derived.Laws.BytesArg
import Derived.Laws.AppendOwn
namespace Go.Proofs.Ytiolijpamidpfaa
open Go.RowKit
namespace Sl
set_option linter.unusedVariables false

/-! ### What a slice reads as -/
/-- A cell of a heap. -/
def cellAt (h : Array Obj) (b j : Nat) : Option Value :=
  match h[b]? with
  | some (.cells c _ _) => c[j]?
  | _ => none
theorem cell_eq (w : World) (b j : Nat) : w.cell? ⟨b, j, none⟩ = cellAt w.heap b j := by
  unfold World.cell? cellAt
  cases w.heap[b]? with
  | none => rfl
  | some o => cases o <;> simp
theorem cellAt_of {h h' : Array Obj} {b : Nat} (e : h'[b]? = h[b]?) (j : Nat) : cellAt h' b j = cellAt h b j := by unfold cellAt; rw [e]
theorem cellAt_row {h : Array Obj} {b : Nat} {cs : List Value} {t : TypeId} {f : Nat × Nat} (e : h[b]? = some (.cells cs.toArray t f)) (j : Nat) : cellAt h b j = cs[j]? := by
  unfold cellAt
  rw [e]
  simp
/-- Elements that are numbers. -/
def enc1 (k : IntKind) : Int → List Value := fun x => [.int k x]
/-- All elements' cells. -/
def flat {α : Type} (enc : α → List Value) (xs : List α) : List Value := xs.flatMap enc
/-- A slice that reads as a list; 'F': blocks that it is not made of. -/
structure SlV {α : Type} (h : Array Obj) (F : Foot) (v : Value) (enc : α → List Value) (m : Nat) (xs : List α) : Prop where
  row : ∀ x ∈ xs, (enc x).length = m
  pos : 0 < m
  is : ∃ a cap, v = .slice a xs.length cap ∧ xs.length ≤ cap ∧ cap ≤ maxLen ∧ (xs = [] ∨ ∃ b o, a = some ⟨b, o, none⟩ ∧ b < h.size ∧ ¬ F b ∧ ∀ j u, (flat enc xs)[j]? = some u → cellAt h b (o + j) = some u)
theorem SlV.mono {α : Type} {h h' : Array Obj} {F F' : Foot} {v : Value} {enc : α → List Value} {m : Nat} {xs : List α} (s : SlV h F v enc m xs) (hs : h.size ≤ h'.size) (hk : ∀ b, b < h.size → ¬ F b → h'[b]? = h[b]?) (hf : ∀ b, b < h.size → ¬ F b → ¬ F' b) : SlV h' F' v enc m xs := by
  obtain ⟨h1, h2, a, cap, rfl, hc, hm, h3⟩ := s
  refine ⟨h1, h2, a, cap, rfl, hc, hm, h3.imp id ?_⟩
  rintro ⟨b, o, rfl, hb, hF, hcell⟩
  exact ⟨b, o, rfl, Nat.lt_of_lt_of_le hb hs, hf b hb hF, fun j u hj => (cellAt_of (hk b hb hF) _).trans (hcell j u hj)⟩
theorem flat_length {α : Type} {enc : α → List Value} {m : Nat} : ∀ {xs : List α}, (∀ x ∈ xs, (enc x).length = m) → (flat enc xs).length = xs.length * m
  | [], _ => by simp [flat]
  | x :: xs, h => by
    have := flat_length (xs := xs) fun y hy => h y (by simp [hy])
    simp only [flat, List.flatMap_cons, List.length_append, List.length_cons] at this ⊢
    rw [this, h x (by simp), Nat.add_mul, Nat.one_mul, Nat.add_comm]
theorem flat_append {α : Type} {enc : α → List Value} (xs ys : List α) : flat enc (xs ++ ys) = flat enc xs ++ flat enc ys := by simp [flat]
theorem flat_at {α : Type} {enc : α → List Value} {m : Nat} : ∀ {xs : List α}, (∀ x ∈ xs, (enc x).length = m) → ∀ {i o : Nat} {x : α}, xs[i]? = some x → o < m → (flat enc xs)[i * m + o]? = (enc x)[o]?
  | [], _, i, o, x, hx, _ => by simp at hx
  | y :: xs, h, 0, o, x, hx, ho => by
    obtain rfl : y = x := by simpa using hx
    simp only [flat, List.flatMap_cons, Nat.zero_mul, Nat.zero_add]
    rw [List.getElem?_append_left (by rw [h y (by simp)]; exact ho)]
  | y :: xs, h, i + 1, o, x, hx, ho => by
    have ih := flat_at (xs := xs) (fun z hz => h z (by simp [hz])) (i := i) (o := o) (x := x) (by simpa using hx) ho
    simp only [flat, List.flatMap_cons] at ih ⊢
    rw [List.getElem?_append_right (by rw [h y (by simp), Nat.add_mul]; omega), h y (by simp), ← ih]
    congr 1
    rw [Nat.add_mul]
    omega
theorem flat_enc1 (k : IntKind) : ∀ (xs : List Int), flat (enc1 k) xs = xs.map (.int k)
  | [] => rfl
  | x :: xs => by
    have := flat_enc1 k xs
    simp only [flat, List.flatMap_cons, List.map_cons] at this ⊢
    rw [this]
    rfl
theorem flat_drop {α : Type} {enc : α → List Value} {m : Nat} : ∀ {xs : List α} (n : Nat), (∀ x ∈ xs, (enc x).length = m) → (flat enc xs).drop (n * m) = flat enc (xs.drop n)
  | _, 0, _ => by simp
  | [], n + 1, _ => by simp [flat]
  | x :: xs, n + 1, h => by
    have ih := flat_drop (xs := xs) n fun y hy => h y (by simp [hy])
    simp only [flat, List.flatMap_cons, List.drop_succ_cons] at ih ⊢
    rw [List.drop_append, h x (by simp), ← ih, List.drop_eq_nil_of_le (by rw [h x (by simp), Nat.add_mul]; omega), List.nil_append]
    congr 1
    rw [Nat.add_mul]
    omega
theorem flat_take {α : Type} {enc : α → List Value} {m : Nat} : ∀ {xs : List α} (n : Nat), (∀ x ∈ xs, (enc x).length = m) → (flat enc xs).take (n * m) = flat enc (xs.take n)
  | _, 0, _ => by simp [flat]
  | [], n + 1, _ => by simp [flat]
  | x :: xs, n + 1, h => by
    have ih := flat_take (xs := xs) n fun y hy => h y (by simp [hy])
    simp only [flat, List.flatMap_cons, List.take_succ_cons] at ih ⊢
    rw [List.take_append, h x (by simp), ← ih, List.take_of_length_le (by rw [h x (by simp), Nat.add_mul]; omega)]
    congr 2
    rw [Nat.add_mul]
    omega
theorem flat_one {α : Type} {enc : α → List Value} {xs : List α} (h : ∀ x ∈ xs, ∀ u ∈ enc x, u.oneCell' = true) : ∀ u ∈ flat enc xs, u.oneCell' = true := by
  intro u hu
  obtain ⟨x, hx, hu⟩ := List.mem_flatMap.1 hu
  exact h x hx u hu
/-- A slice's cells' addresses. -/
def adr (v : Value) (j : Nat) : Addr := match v with
  | .slice (some a) _ _ => ⟨a.block, a.off + j, none⟩
  | _ => ⟨0, j, none⟩
theorem adr_add (v : Value) (j m : Nat) : (adr v j).add m = adr v (j + m) := by
  unfold adr
  split <;> simp [addr_add, Nat.add_assoc]
theorem SlV.cell {α : Type} {w : World} {F : Foot} {v : Value} {enc : α → List Value} {m : Nat} {xs : List α} (s : SlV w.heap F v enc m xs) {j : Nat} {u : Value} (hj : (flat enc xs)[j]? = some u) : w.cell? (adr v j) = some u := by
  obtain ⟨h1, h2, a, cap, rfl, _, _, h3⟩ := s
  rcases h3 with rfl | ⟨b, o, rfl, _, _, hc⟩
  · simp [flat] at hj
  · rw [show adr (.slice (some ⟨b, o, none⟩) xs.length cap) j = ⟨b, o + j, none⟩ from rfl, cell_eq]
    exact hc j u hj
/-- 'v[l:]', 'v[:h]'. -/
def slL (v : Value) (m l : Nat) : Value := match v with
  | .slice a len cap => .slice (if cap = l then a else a.map (·.add (l * m))) (len - l) (cap - l)
  | v => v
def slH (v : Value) (h : Nat) : Value := match v with
  | .slice a len cap => .slice a (min h len) cap
  | v => v
theorem SlV.lo {α : Type} {h : Array Obj} {F : Foot} {v : Value} {enc : α → List Value} {m : Nat} {xs : List α} (s : SlV h F v enc m xs) (l : Nat) : SlV h F (slL v m l) enc m (xs.drop l) := by
  obtain ⟨h1, h2, a, cap, rfl, h0, hm, h3⟩ := s
  refine ⟨fun x hx => h1 x (List.mem_of_mem_drop hx), h2, _, _, by simp only [slL]; rw [List.length_drop], by simp; omega, by omega, ?_⟩
  by_cases hl : xs.length ≤ l
  · exact .inl (List.drop_eq_nil_of_le hl)
  rcases h3 with rfl | ⟨b, o, rfl, hb, hF, hc⟩
  · exact .inl (by simp)
  · refine .inr ⟨b, o + l * m, by rw [if_neg (by omega)]; simp [addr_add], hb, hF, fun j u hj => ?_⟩
    rw [← flat_drop l h1, List.getElem?_drop] at hj
    rw [Nat.add_assoc]
    exact hc _ u hj
theorem SlV.hi {α : Type} {h : Array Obj} {F : Foot} {v : Value} {enc : α → List Value} {m : Nat} {xs : List α} (s : SlV h F v enc m xs) (n : Nat) : SlV h F (slH v n) enc m (xs.take n) := by
  obtain ⟨h1, h2, a, cap, rfl, h0, hm, h3⟩ := s
  refine ⟨fun x hx => h1 x (List.mem_of_mem_take hx), h2, _, _, by simp only [slH]; rw [List.length_take], by simp; omega, hm, ?_⟩
  rcases h3 with rfl | ⟨b, o, rfl, hb, hF, hc⟩
  · exact .inl (by simp)
  · refine .inr ⟨b, o, rfl, hb, hF, fun j u hj => hc _ u ?_⟩
    rw [← flat_take n h1] at hj
    have hjn : j < n * m := by
      have := (List.getElem?_eq_some_iff.1 hj).1
      simp at this
      omega
    rwa [List.getElem?_take, if_pos hjn] at hj
/-- A slice of elder memory, that does not turn. -/
class Old {α : outParam Type} (S0 : Foot) (w0 : World) (v : Value) (enc : outParam (α → List Value)) (m : outParam Nat) (xs : outParam (List α)) : Prop where
  h : SlV w0.heap S0 v enc m xs
/-- A slice that can be read now. -/
class Rd {α : outParam Type} (S0 : Foot) (w0 : World) (H : List Blk) (v : Value) (enc : outParam (α → List Value)) (m : outParam Nat) (xs : outParam (List α)) : Prop where
  h : ∀ (w : World) (S1 : Foot), Keep S0 w0 w → Sat H w.heap (fun i => Av S0 w0 i ∧ ¬ S1 i) → (∀ i, S1 i → Av S0 w0 i) → SlV w.heap S1 v enc m xs
section
variable {α : Type} {S0 : Foot} {w0 w : World} {H : List Blk} {v v' : Value} {enc : α → List Value} {m : Nat} {xs : List α}
instance rdOld [o : Old S0 w0 v enc m xs] : Rd S0 w0 H v enc m xs := ⟨fun w S1 hk _ hs => o.h.mono hk.size (fun b hb hn => hk.keep b hb hn) fun b hb hn h1 => (hs b h1).elim hn fun h2 => absurd hb (Nat.not_lt.2 h2)⟩
instance rdLo (l : Nat) [r : Rd S0 w0 H v enc m xs] : Rd S0 w0 H (slL v m l) enc m (xs.drop l) := ⟨fun w S1 hk hs h1 => (r.h w S1 hk hs h1).lo l⟩
instance rdHi (l : Nat) [r : Rd S0 w0 H v enc m xs] : Rd S0 w0 H (slH v l) enc m (xs.take l) := ⟨fun w S1 hk hs h1 => (r.h w S1 hk hs h1).hi l⟩
theorem Mem.rd (h : Mem S0 w0 w H) (r : Rd S0 w0 H v enc m xs) : SlV w.heap none0 v enc m xs :=
  r.h w none0 h.kept (h.sat.mono fun i hi _ => ⟨hi, id⟩) (fun _ e => e.elim)
/-- For a callee that turns nothing: what it reads. -/
theorem rd (h : Mem S0 w0 w H) [r : Rd S0 w0 H v enc m xs] : SlV w.heap none0 v enc m xs := h.rd r
/-- On entry: what was handed over is elder memory. -/
theorem SlV.old (s : SlV w.heap S0 v enc m xs) : Old S0 w v enc m xs := ⟨s⟩
end

/-! ### Slices of one's own -/
/-- A slice of one's own, whole: it may be turned and appended to. -/
def osl {α : Type} (v : Value) (enc : α → List Value) (m : Nat) (xs : List α) (e : TypeId) : Kind where
  sat _ h S := (∀ x ∈ xs, (enc x).length = m ∧ ∀ u ∈ enc x, u.oneCell' = true) ∧ 0 < m ∧ ((v = .slice none 0 0 ∧ xs = [] ∧ ∀ i, ¬ S i) ∨
    ∃ b pre rest cap, v = .slice (some ⟨b, pre.length, none⟩) xs.length cap ∧ h[b]? = some (.cells (pre ++ flat enc xs ++ rest).toArray e (0, 0)) ∧ (flat enc xs ++ rest).length = cap * m ∧ cap ≤ maxLen ∧ ∀ i, S i ↔ i = b)
  dom := by
    rintro b h S ⟨_, _, ⟨_, _, hS⟩ | ⟨b, pre, rest, cap, _, hb, _, _, hS⟩⟩ i hi
    · exact absurd hi (hS i)
    · rw [(hS i).1 hi]
      exact (Array.getElem?_eq_some_iff.1 hb).1
  loc := by
    rintro b h h' S ⟨h1, h2, ⟨h3, h4, hS⟩ | ⟨b, pre, rest, cap, h3, hb, h4, h5, hS⟩⟩ hh
    · exact ⟨h1, h2, .inl ⟨h3, h4, hS⟩⟩
    · exact ⟨h1, h2, .inr ⟨b, pre, rest, cap, h3, (hh b ((hS b).2 rfl)).trans hb, h4, h5, hS⟩⟩
section
variable {α : Type} {S0 : Foot} {w0 w : World} {H : List Blk} {v v' : Value} {enc : α → List Value} {m : Nat} {xs : List α} {e : TypeId}
theorem osl_slv {k : Nat} {h : Array Obj} {S F : Foot} (s : (osl v enc m xs e).sat k h S) (hF : ∀ i, S i → ¬ F i) : SlV h F v enc m xs := by
  obtain ⟨h1, h2, ⟨rfl, rfl, _⟩ | ⟨b, pre, rest, cap, rfl, hb, hl, hm, hS⟩⟩ := s
  · exact ⟨fun x hx => (h1 x hx).1, h2, none, 0, rfl, Nat.le_refl _, by simp [maxLen], .inl rfl⟩
  · have hfl : (flat enc xs).length = xs.length * m := flat_length fun x hx => (h1 x hx).1
    refine ⟨fun x hx => (h1 x hx).1, h2, _, cap, rfl, ?_, hm, .inr ⟨b, pre.length, rfl, (Array.getElem?_eq_some_iff.1 hb).1, hF b ((hS b).2 rfl), fun j u hj => ?_⟩⟩
    · simp only [List.length_append, hfl] at hl
      exact Nat.le_of_mul_le_mul_right (by omega) h2
    · rw [cellAt_row hb, List.append_assoc, List.getElem?_append_right (by omega), Nat.add_sub_cancel_left, List.getElem?_append_left (List.getElem?_eq_some_iff.1 hj).1]
      exact hj
/-- A slice of one's own among what there is. -/
class Own {α : outParam Type} (H : List Blk) (v : Value) (enc : outParam (α → List Value)) (m : outParam Nat) (xs : outParam (List α)) (e : outParam TypeId) : Prop where
  mem : ∃ b, (⟨b, osl v enc m xs e⟩ : Blk) ∈ H
instance (priority := high) ownHead (b : Nat) : Own (⟨b, osl v enc m xs e⟩ :: H) v enc m xs e := ⟨b, by simp⟩
instance ownTail (x : Blk) [h : Own H v enc m xs e] : Own (x :: H) v enc m xs e := ⟨h.mem.imp fun _ h => List.mem_cons_of_mem _ h⟩
instance (priority := low) rdOwn [h : Own H v enc m xs e] : Rd S0 w0 H v enc m xs := ⟨fun w S1 _ hs _ => by
  obtain ⟨b, hb⟩ := h.mem
  obtain ⟨S2, e1, e2⟩ := hs.mem hb
  exact osl_slv e1 fun i hi => (e2 i hi).2⟩
/-- It taken out; it with another list in its place. -/
class OwnOut {α : outParam Type} (H : List Blk) (v : Value) (enc : outParam (α → List Value)) (m : outParam Nat) (xs : outParam (List α)) (e : outParam TypeId) (R : outParam (List Blk)) : Prop where
  perm : ∃ b, H.Perm (⟨b, osl v enc m xs e⟩ :: R)
instance (priority := high) ownOutHead (b : Nat) : OwnOut (⟨b, osl v enc m xs e⟩ :: H) v enc m xs e H := ⟨b, List.Perm.refl _⟩
instance ownOutTail (x : Blk) {R : List Blk} [h : OwnOut H v enc m xs e R] : OwnOut (x :: H) v enc m xs e (x :: R) := ⟨h.perm.imp fun _ h => (h.cons x).trans (List.Perm.swap _ _ _)⟩
/-- One piece turned into another, at the head of the list. -/
theorem Mem.turn {w1 : World} {x x' : Blk} (h : Mem S0 w0 w (x :: H)) (hsz : w.heap.size ≤ w1.heap.size)
    (step : ∀ S1 : Foot, x.k.sat x.b w.heap S1 → (∃ S2 : Foot, x'.k.sat x'.b w1.heap S2 ∧ ∀ i, S2 i → S1 i ∨ w.heap.size ≤ i) ∧ ∀ i, i < w.heap.size → ¬ S1 i → w1.heap[i]? = w.heap[i]?)
    (h3 : w1.os = w.os) (h4 : w1.tape = w.tape) (h5 : w1.output = w.output) : Mem S0 w0 w1 (x' :: H) := by
  obtain ⟨S1, s1, s2⟩ := h.sat.mem (x := x) (by simp)
  refine ⟨h.kept.trans (S1 := S1) ⟨h3, h4, h5, hsz, fun i hi hn => (step S1 s1).2 i hi hn⟩ s2, ?_⟩
  exact h.sat.upd (l := []) hsz step fun i hi => .inr (Nat.le_trans h.kept.size hi)
end
end Sl
end Go.Proofs.Ytiolijpamidpfaa
