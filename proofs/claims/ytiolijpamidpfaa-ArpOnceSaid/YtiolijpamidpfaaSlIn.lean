/-
  An argument that is a slice, as a list of its elements. Over any program; no conditions beyond those in each statement.
-/
import Derived.Test.YtiolijpamidpfaaSlMy
import Derived.Test.YtiolijpamidpfaaLaw
import Derived.Deep.Slices
namespace Go.Proofs.Ytiolijpamidpfaa
open Go.RowKit Go.ChangeShapes Go.WideShapes Go.ChangeAt Go.Deep
namespace Sl
set_option linter.unusedVariables false
section
variable {H : Type} {enc : TypeId × Value → H} {P : Program} {W : World} {base : Nat} {spare : Nat → Bool} {held : Bool}
theorem flat_get {m : Nat} : ∀ {rows : List (List Value)}, (∀ r ∈ rows, r.length = m) → ∀ {j : Nat} {u : Value}, (flat (fun r : List Value => r) rows)[j]? = some u → ∃ i k, ∃ r, rows[i]? = some r ∧ r[k]? = some u ∧ j = i * m + k ∧ k < m
  | [], _, j, u, h => by simp [flat] at h
  | r :: rows, hl, j, u, h => by
    have hr := hl r (.head _)
    have e : flat (fun r : List Value => r) (r :: rows) = r ++ flat (fun r : List Value => r) rows := by simp [flat]
    rw [e] at h
    by_cases hj : j < m
    · rw [List.getElem?_append_left (by omega)] at h
      exact ⟨0, j, r, rfl, h, by omega, hj⟩
    · rw [List.getElem?_append_right (by omega)] at h
      obtain ⟨i, k, r', h1, h2, h3, h4⟩ := flat_get (fun r hr => hl r (.tail _ hr)) h
      refine ⟨i + 1, k, r', by simpa using h1, h2, ?_, h4⟩
      rw [Nat.add_mul, Nat.one_mul]
      omega
theorem open_sl {t e : TypeId} {n : Nat} {ks : List Law.Kind} {r : Reach} {b0 : Nat} {v : Value} {d : DataW H} {ps : List MemPlace} (ht : P.underlying t = some (.slice e)) (hk : Law.kindsOf P n e = some ks) (hc : P.cellsOf e = ks.length) (hp : 0 < ks.length)
    (hv : Value.okWide P W r b0 t v) (h : DataW.Trod enc P W base spare held t v d ps) : ∃ rows : List (List Value), SlV W.heap none0 v (fun r : List Value => r) ks.length rows ∧ ∀ r ∈ rows, Law.FitsAll enc P W base spare held ks r := by
  obtain ⟨a0, l0, c0, rfl⟩ := okWide_slice ht hv
  obtain ⟨fuel, hf⟩ := h
  rcases open_slice ht hf with ⟨h0, _⟩ | ⟨a, len, cap, m, n', D, Pl, h0, hb, hl, hm, hmm, _, hx⟩
  · have e0 : Value.slice a0 l0 c0 = .slice none 0 0 := by simpa [Value.cells] using h0
    rw [e0]
    exact ⟨[], ⟨by simp, hp, none, 0, rfl, Nat.le_refl _, Nat.zero_le _, .inl rfl⟩, by simp⟩
  · have e0 : Value.slice a0 l0 c0 = .slice (some a) len cap := by simpa [Value.cells] using h0
    rw [e0]
    have hlm : len ≤ m := by rw [hmm]; split <;> omega
    obtain ⟨f, hfx⟩ := choose_lt (α := List Value) (n := len) (p := fun i cs' => W.cells? base (a.add (i * P.cellsOf e)) (P.cellsOf e) = some cs' ∧ DataW.trod enc P W base spare held n' e cs' = some (D i, Pl i)) (fun i hi => hx i (by omega))
    have hrow : ∀ i, i < len → (f i).length = ks.length := fun i hi => by
      obtain ⟨_, h2, _⟩ := World.cells?_some (hfx i hi).1
      rw [h2, hc]
    have hrows : ∀ r ∈ (List.range len).map f, r.length = ks.length := fun r hr => by
      obtain ⟨i, hi, rfl⟩ := List.mem_map.1 hr
      exact hrow i (List.mem_range.1 hi)
    refine ⟨(List.range len).map f, ⟨hrows, hp, some a, cap, by simp, by simpa using hl, hm, ?_⟩, fun r hr => ?_⟩
    · by_cases h0 : len = 0
      · left
        simp [h0]
      · right
        obtain ⟨h1, h2, h3⟩ := World.cells?_some (hfx 0 (by omega)).1
        have hc0 := h3 0 (by omega)
        obtain ⟨b, o, spot⟩ := a
        have hsome : ∃ u, (f 0)[0]? = some u := ⟨_, List.getElem?_eq_getElem (by rw [h2]; omega)⟩
        obtain ⟨u0, hu0⟩ := hsome
        rw [hu0] at hc0
        have hspot : spot = none := by simpa [Addr.add] using World.cell?_spot hc0
        subst hspot
        refine ⟨b, o, rfl, ?_, id, fun j u hj => ?_⟩
        · have := World.block_lt_of_cell? W _ hc0
          simpa [Addr.add] using this
        · obtain ⟨i, k, r, g1, g2, rfl, g4⟩ := flat_get hrows hj
          have hi : i < len := by
            have := (List.getElem?_eq_some_iff.1 g1).1
            simpa using this
          have hr : r = f i := by
            rw [List.getElem?_map, List.getElem?_range hi] at g1
            exact (Option.some.inj g1).symm
          obtain ⟨q1, q2, q3⟩ := World.cells?_some (hfx i hi).1
          have := q3 k (by omega)
          rw [← hr, g2, add_plain, add_plain] at this
          rw [← cell_eq]
          rw [hc] at this
          rw [← Nat.add_assoc]
          exact this
    · obtain ⟨i, hi, rfl⟩ := List.mem_map.1 hr
      exact Law.fits_of_trod n e ks _ _ _ hk (hfx i (List.mem_range.1 hi)).2
end
/-- Elements that are written in cells: which they are. -/
theorem SlV.decode {α : Type} {enc : α → List Value} {good : α → Prop} {h : Array Obj} {F : Foot} {v : Value} {m : Nat} : ∀ {rows : List (List Value)}, SlV h F v (fun r : List Value => r) m rows → (∀ r ∈ rows, ∃ x, good x ∧ enc x = r) → ∃ xs : List α, SlV h F v enc m xs ∧ ∀ x ∈ xs, good x := by
  intro rows s hr
  have go : ∀ {l : List (List Value)}, (∀ r ∈ l, ∃ x, good x ∧ enc x = r) → ∃ xs : List α, xs.map enc = l ∧ ∀ x ∈ xs, good x := by
    intro l
    induction l with
    | nil => intro _; exact ⟨[], rfl, by simp⟩
    | cons r l ih =>
      intro h
      obtain ⟨xs, h1, h2⟩ := ih fun r hr => h r (.tail _ hr)
      obtain ⟨x, h3, h4⟩ := h r (.head _)
      exact ⟨x :: xs, by rw [List.map_cons, h1, h4], fun y hy => by
        rcases List.mem_cons.1 hy with rfl | hy
        · exact h3
        · exact h2 y hy⟩
  obtain ⟨xs, e, hg⟩ := go hr
  subst e
  obtain ⟨h1, h2, a, cap, rfl, hc, hm, h3⟩ := s
  refine ⟨xs, ⟨fun x hx => h1 _ (List.mem_map.2 ⟨x, hx, rfl⟩), h2, a, cap, by simp, by simpa using hc, hm, ?_⟩, hg⟩
  rcases h3 with h3 | ⟨b, o, rfl, hb, hF, hcell⟩
  · left
    simpa using h3
  · right
    refine ⟨b, o, rfl, hb, hF, fun j u hj => hcell j u ?_⟩
    have e2 : flat (fun r : List Value => r) (xs.map enc) = flat enc xs := by simp [flat, List.flatMap_map]
    rw [e2]
    exact hj
end Sl
end Go.Proofs.Ytiolijpamidpfaa
