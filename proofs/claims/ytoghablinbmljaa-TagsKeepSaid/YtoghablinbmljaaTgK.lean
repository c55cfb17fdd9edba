/-
  What the maps of TagsKeep say of the pool. No conditions beyond those in each statement.
-/
import Derived.Test.YtoghablinbmljaaTgM
namespace Go.Proofs.Ytoghablinbmljaa
open Go.RowKit
set_option linter.unusedVariables false
namespace Tg
open Sl
structure KI (most : Int) (i : Nat) (A : Tags) (has us : MS K3 Int) : Prop where
  dom : ∀ t, (A t).isSome → 0 ≤ t ∧ t < most
  use : ∀ t k u, A t = some (k, u) → 0 ≤ u ∧ u ≤ i
  one : ∀ t x k u v, A t = some (k, u) → A x = some (k, v) → t = x
  at_ : ∀ t k u, A t = some (k, u) → (mget us k).getD 0 = u ∧ (mget has k).getD 0 = t
  no : ∀ k, (∀ t u, A t ≠ some (k, u)) → (mget us k).getD 0 = 0
theorem KI.init (most : Int) : KI most 0 (fun _ => none) mempty mempty := ⟨fun t h => (by simp at h), fun t k u h => (by cases h), fun t x k u v h => (by cases h), fun t k u h => (by cases h), fun k _ => rfl⟩
theorem KI.le {most : Int} {i : Nat} {A : Tags} {has us : MS K3 Int} (h : KI most i A has us) : KI most (i + 1) A has us := ⟨h.dom, fun t k u e => by have := h.use t k u e; omega, h.one, h.at_, h.no⟩
theorem KI.pos {most : Int} {i : Nat} {A : Tags} {has us : MS K3 Int} (h : KI most i A has us) {k : K3} (h0 : 0 < (mget us k).getD 0) : A ((mget has k).getD 0) = some (k, (mget us k).getD 0) := by
  by_cases hk : ∃ t u, A t = some (k, u)
  · obtain ⟨t, u, e⟩ := hk
    obtain ⟨e1, e2⟩ := h.at_ t k u e
    rw [e1, e2, e]
  · have := h.no k fun t u e => hk ⟨t, u, e⟩
    omega
theorem KI.put {most : Int} {i : Nat} {A : Tags} {has us has' us' : MS K3 Int} (h : KI most i A has us) {t : Int} {k : K3} {u : Int} (h0 : 0 ≤ t ∧ t < most) (hu : 0 ≤ u ∧ u ≤ i + 1) (hk : ∀ x v, A x = some (k, v) → x = t) (hkt : ∀ k' u', A t = some (k', u') → k' = k)
    (e1 : (mget us' k).getD 0 = u) (e2 : (mget has' k).getD 0 = t) (o1 : ∀ l, k ≠ l → mget us' l = mget us l) (o2 : ∀ l, k ≠ l → mget has' l = mget has l) : KI most (i + 1) (upd A t (some (k, u))) has' us' := by
  have other : ∀ {x k' u'}, ¬ t = x → A x = some (k', u') → k ≠ k' := fun {x k' u'} hx e hkk => by
    subst hkk
    exact hx (hk x u' e).symm
  refine ⟨fun x hx => ?_, fun x k' u' e => ?_, fun x y k' u' v' a1 a2 => ?_, fun x k' u' e => ?_, fun k' hn => ?_⟩
  · unfold upd at hx
    split at hx
    · rename_i e; rw [← e]; exact h0
    · exact h.dom x hx
  · unfold upd at e
    split at e
    · have := (Prod.mk.inj (Option.some.inj e)).2
      omega
    · have := h.use x k' u' e
      omega
  · unfold upd at a1 a2
    split at a1
    · rename_i c1
      have b1 := (Prod.mk.inj (Option.some.inj a1)).1
      split at a2
      · rename_i c2; rw [← c1, c2]
      · rename_i c2
        exact absurd b1 (other c2 a2)
    · rename_i c1
      split at a2
      · have b2 := (Prod.mk.inj (Option.some.inj a2)).1
        exact absurd b2 (other c1 a1)
      · exact h.one x y k' u' v' a1 a2
  · unfold upd at e
    split at e
    · rename_i c1
      obtain ⟨b1, b2⟩ := Prod.mk.inj (Option.some.inj e)
      subst b1
      exact ⟨by rw [e1, b2], by rw [e2, c1]⟩
    · rename_i c1
      have hne := other c1 e
      rw [o1 _ hne, o2 _ hne]
      exact h.at_ x k' u' e
  · have hne : k ≠ k' := fun e => hn t u (by unfold upd; rw [if_pos rfl, e])
    rw [o1 _ hne]
    refine h.no k' fun x v e => ?_
    by_cases hx : t = x
    · subst hx
      exact hne (hkt _ _ e).symm
    · exact hn x v (by unfold upd; rw [if_neg hx]; exact e)
theorem KI.sweep {most : Int} {i : Nat} {A : Tags} {has us : MS K3 Int} (h : KI most i A has us) : KI most i (sweepA A) has us := by
  have hsub : ∀ {x v}, sweepA A x = some v → A x = some v := fun {x v} e => by
    unfold sweepA at e
    split at e
    · cases e
    · exact e
  refine ⟨fun x hx => ?_, fun x k u e => h.use x k u (hsub e), fun x y k u v e1 e2 => h.one x y k u v (hsub e1) (hsub e2), fun x k u e => h.at_ x k u (hsub e), fun k hn => ?_⟩
  · obtain ⟨v, hv⟩ := Option.isSome_iff_exists.1 hx
    exact h.dom x (by rw [hsub hv]; rfl)
  · by_cases hk : ∃ t u, A t = some (k, u)
    · obtain ⟨t, u, e⟩ := hk
      obtain ⟨e1, e2⟩ := h.at_ t k u e
      by_cases hu : Tg.use A t = 0
      · rw [e1]
        unfold Tg.use at hu
        rw [e] at hu
        exact hu
      · exact absurd (show sweepA A t = some (k, u) by unfold sweepA; rw [if_neg hu, e]) (hn t u)
    · exact h.no k fun t u e => hk ⟨t, u, e⟩
theorem KI.clash {most : Int} {i : Nat} {A : Tags} {has us : MS K3 Int} (h : KI most i A has us) (ho : us.Ok) {k l : K3} {n m : Int} {b1 b2 : Nat} (h1 : (k, n, b1) ∈ us.l) (h2 : (l, m, b2) ∈ us.l) (hn : 0 < n) (hm : 0 < m) (hne : ¬ eqc (kcs k) (kcs l) = true) (he : (mget has k).getD 0 = (mget has l).getD 0) : False := by
  have e1 := mem_mget ho h1
  have e2 := mem_mget ho h2
  have a1 := h.pos (k := k) (by rw [e1]; exact hn)
  have a2 := h.pos (k := l) (by rw [e2]; exact hm)
  rw [he, a2] at a1
  exact hne (key_eq.2 (congrArg (·.1) (Option.some.inj a1)).symm)
theorem free_or_full (A : Tags) : ∀ n : Nat, (∃ f : Int, 0 ≤ f ∧ f < n ∧ A f = none ∧ ∀ j : Int, 0 ≤ j → j < f → A j ≠ none) ∨ ∀ j : Int, 0 ≤ j → j < n → A j ≠ none
  | 0 => .inr fun j h0 h1 => by omega
  | n + 1 => by
    rcases free_or_full A n with ⟨f, h0, h1, h2, h3⟩ | h
    · exact .inl ⟨f, h0, by omega, h2, h3⟩
    · by_cases e : A n = none
      · exact .inl ⟨n, by omega, by omega, e, h⟩
      · refine .inr fun j h0 h1 => ?_
        by_cases hj : j = n
        · rw [hj]; exact e
        · exact h j h0 (by omega)
end Tg
end Go.Proofs.Ytoghablinbmljaa
