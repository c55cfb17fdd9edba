/-
  Steps and slots of the laws on tags; what the list of slots says of the pool. No conditions beyond those in each statement.
-/
import Derived.Test.YtoghablinbmljaaTgE
import Derived.Test.YtoghablinbmljaaSlIn
namespace Go.Proofs.Ytoghablinbmljaa
open Go.RowKit
set_option linter.unusedVariables false
namespace Tg
open Sl
abbrev Stp := Int × K3 × Int
abbrev senc (s : Stp) : List Value := [.int .i64 s.1, .int .i64 s.2.1.1, .int .i64 s.2.1.2.1, .int .i64 s.2.1.2.2, .int .i64 s.2.2]
abbrev Slt := K3 × Int
abbrev scs (s : Slt) : List Value := [.int .i64 s.1.1, .int .i64 s.1.2.1, .int .i64 s.1.2.2, .int .i64 s.2]
abbrev sd : Slt → Value := fun s => .agg (scs s).toArray
instance : MapT Try.prog 42 3 44 := ⟨by kernel_rfl⟩
instance : ZeroM Try.prog 44 sd ((0, 0, 0), 0) := ⟨by kernel_rfl⟩
instance : MapE Try.prog 42 ki sd := ⟨trivial⟩
instance kvS (a b c u : Int) : KeyV sd (.agg #[.int .i64 a, .int .i64 b, .int .i64 c, .int .i64 u]) ((a, b, c), u) := ⟨rfl⟩
theorem key_eq {a b : K3} : eqc (kcs a) (kcs b) = true ↔ a = b :=
  (eqc_iff (ks := [.i .i64, .i .i64, .i .i64]) rfl rfl).trans ⟨kcs_inj a b, fun h => by rw [h]⟩
theorem len_cnt {ν : Type} {most : Int} {A : Tags} {m : MS Int ν} (ho : m.Ok) (hs : ∀ t, (mget m t).isSome = (A t).isSome) (hd : ∀ t, (A t).isSome → 0 ≤ t ∧ t < most) : m.l.length = cnt most A := by
  unfold cnt
  have h1 : (m.l.map (·.1)).Perm (((List.range most.toNat).filter fun t : Nat => (A (t : Int)).isSome).map Int.ofNat) := by
    refine (List.perm_ext_iff_of_nodup ho.nd ?_).2 fun x => ?_
    · have := (List.nodup_range (n := most.toNat)).filter (fun t : Nat => (A (t : Int)).isSome)
      exact List.Pairwise.map _ (fun a b hab e => hab (Int.ofNat.inj e)) this
    · simp only [List.mem_map, List.mem_filter, List.mem_range]
      constructor
      · rintro ⟨⟨t, k, bn⟩, hp, rfl⟩
        have h2 := mem_mget ho hp
        have h3 : (A t).isSome := by rw [← hs t, h2]; rfl
        obtain ⟨a, b⟩ := hd t h3
        refine ⟨t.toNat, ⟨by omega, ?_⟩, by simp only [Int.ofNat_eq_natCast]; omega⟩
        rw [Int.toNat_of_nonneg a]
        exact h3
      · rintro ⟨j, ⟨hj, h3⟩, rfl⟩
        rw [← hs] at h3
        obtain ⟨v, hv⟩ := Option.isSome_iff_exists.1 h3
        obtain ⟨bn, hb⟩ := mget_in hv
        exact ⟨_, hb, rfl⟩
  have := h1.length_eq
  simpa using this
theorem stp_open {H : Type} {enc : TypeId × Value → H} {P : Program} {W : World} {base : Nat} {spare : Nat → Bool} {held : Bool} {r : List Value} (g : Law.FitsAll enc P W base spare held [.int .i64, .int .i64, .int .i64, .int .i64, .int .i64] r) : ∃ x : Stp, True ∧ senc x = r := by
  obtain ⟨_, _, rfl, ⟨a, rfl, _⟩, ⟨_, _, rfl, ⟨b, rfl, _⟩, ⟨_, _, rfl, ⟨c, rfl, _⟩, ⟨_, _, rfl, ⟨d, rfl, _⟩, ⟨_, _, rfl, ⟨e, rfl, _⟩, hr⟩⟩⟩⟩⟩ := g
  have hr : _ = [] := hr
  subst hr
  exact ⟨(a, (b, c, d), e), trivial, rfl⟩
/-- The tags and the list of slots say the same. -/
structure RI (most : Int) (i : Nat) (A : Tags) (all : MS Int Slt) : Prop where
  look : ∀ t, mget all t = A t
  ok : all.Ok
  dom : ∀ t, (A t).isSome → 0 ≤ t ∧ t < most
  use : ∀ t k u, A t = some (k, u) → 0 ≤ u ∧ u ≤ i
  one : ∀ t x k u v, A t = some (k, u) → A x = some (k, v) → t = x
theorem RI.len {most : Int} {i : Nat} {A : Tags} {all : MS Int Slt} (h : RI most i A all) : all.l.length = cnt most A := len_cnt h.ok (fun t => by rw [h.look]) h.dom
theorem RI.init (most : Int) : RI most 0 (fun _ => none) mempty := ⟨fun _ => rfl, .empty, fun t h => by simp at h, fun t k u h => (by cases h), fun t x k u v h => (by cases h)⟩
theorem RI.le {most : Int} {i : Nat} {A : Tags} {all : MS Int Slt} (h : RI most i A all) : RI most (i + 1) A all := ⟨h.look, h.ok, h.dom, fun t k u e => by have := h.use t k u e; omega, h.one⟩
/-- One tag's key or number is another one. -/
theorem RI.put {most : Int} {i : Nat} {A : Tags} {all : MS Int Slt} (h : RI most i A all) {t : Int} {k : K3} {u : Int} (h0 : 0 ≤ t ∧ t < most) (hu : 0 ≤ u ∧ u ≤ i + 1) (hk : ∀ x v, A x = some (k, v) → x = t) : RI most (i + 1) (upd A t (some (k, u))) (mput all t (k, u)) := by
  refine ⟨fun x => ?_, h.ok.put _ _, fun x hx => ?_, fun x k' u' e => ?_, fun x y k' u' v' e1 e2 => ?_⟩
  · rw [mget_mput]
    unfold upd
    split
    · rfl
    · exact h.look x
  · unfold upd at hx
    split at hx
    · rename_i e; rw [← e]; exact h0
    · exact h.dom x hx
  · unfold upd at e
    split at e
    · have := (Prod.mk.inj (Option.some.inj e)).2
      omega
    · have := h.use x k' u' e
      omega
  · unfold upd at e1 e2
    split at e1
    · rename_i a1
      have b1 := (Prod.mk.inj (Option.some.inj e1)).1
      split at e2
      · rename_i a2; rw [← a1, a2]
      · subst b1
        have := hk y v' e2
        rw [this, ← a1]
    · split at e2
      · rename_i a2
        have b2 := (Prod.mk.inj (Option.some.inj e2)).1
        subst b2
        have := hk x u' e1
        rw [this, ← a2]
      · exact h.one x y k' u' v' e1 e2
theorem RI.del {most : Int} {i : Nat} {A : Tags} {all : MS Int Slt} (h : RI most i A all) (t : Int) : RI most i (upd A t none) (mdel all t) := by
  refine ⟨fun x => ?_, h.ok.del _, fun x hx => ?_, fun x k' u' e => ?_, fun x y k' u' v' e1 e2 => ?_⟩
  · rw [mget_mdel h.ok]
    unfold upd
    split
    · rfl
    · exact h.look x
  · unfold upd at hx
    split at hx
    · cases hx
    · exact h.dom x hx
  · unfold upd at e
    split at e
    · cases e
    · exact h.use x k' u' e
  · unfold upd at e1 e2
    split at e1
    · cases e1
    · split at e2
      · cases e2
      · exact h.one x y k' u' v' e1 e2
/-- Which tag a key is to have; -1: none. -/
def Want (most : Int) (A : Tags) (k : K3) (t : Int) : Prop :=
  (∃ u, A t = some (k, u)) ∨ (∀ x u, A x ≠ some (k, u)) ∧ ((0 ≤ t ∧ t < most ∧ A t = none ∧ ∀ j : Int, 0 ≤ j → j < t → A j ≠ none) ∨ (t = -1 ∧ ∀ j : Int, 0 ≤ j → j < most → A j ≠ none))
/-- Going through the slots for a key. -/
def Seek (A : Tags) (all : MS Int Slt) (k : K3) (seen : List Nat) (t : Int) : Prop := (∃ u, A t = some (k, u)) ∨ (t = -1 ∧ ∀ p ∈ all.l, p.2.2 ∈ seen → p.2.1.1 ≠ k)
theorem Seek.step {most : Int} {i : Nat} {A : Tags} {all : MS Int Slt} (h : RI most i A all) {k : K3} {seen : List Nat} {t : Int} (hs : Seek A all k seen t) {x : Int} {s : Slt} {bn : Nat} (hx : Nx all seen (some (x, s, bn))) (hk : s.1 ≠ k) : Seek A all k (seen ++ [bn]) t := by
  rcases hs with hs | ⟨rfl, hs⟩
  · exact .inl hs
  · refine .inr ⟨rfl, fun p hp hb => ?_⟩
    rcases List.mem_append.1 hb with hb | hb
    · exact hs p hp hb
    · have e : p = (x, s, bn) := stamp_inj h.ok hp hx.mem (by simpa using hb)
      rw [e]
      exact hk
theorem Seek.hit {most : Int} {i : Nat} {A : Tags} {all : MS Int Slt} (h : RI most i A all) {k : K3} {seen : List Nat} {x : Int} {s : Slt} {bn : Nat} (hx : Nx all seen (some (x, s, bn))) (hk : s.1 = k) (seen' : List Nat) : Seek A all k seen' x := by
  have h1 := mem_mget h.ok hx.mem
  rw [h.look] at h1
  obtain ⟨a, b⟩ := s
  dsimp only at hk
  subst hk
  exact .inl ⟨b, h1⟩
theorem Seek.fin {most : Int} {i : Nat} {A : Tags} {all : MS Int Slt} (h : RI most i A all) {k : K3} {seen : List Nat} {t : Int} (hs : Seek A all k seen t) (hx : Nx all seen none) : (∃ u, A t = some (k, u)) ∨ (t = -1 ∧ ∀ x u, A x ≠ some (k, u)) := by
  rcases hs with hs | ⟨rfl, hs⟩
  · exact .inl hs
  · refine .inr ⟨rfl, fun x u e => ?_⟩
    rw [← h.look] at e
    obtain ⟨bn, hb⟩ := mget_in e
    exact hs _ hb (hx.all _ hb) rfl
/-- Going through the tags for a free one. -/
structure Free (most : Int) (A : Tags) (k : K3) (j : Nat) (t : Int) : Prop where
  neg : t < 0 → t = -1 ∧ (∀ x u, A x ≠ some (k, u)) ∧ ∀ i : Int, 0 ≤ i → i < j → A i ≠ none
  pos : 0 ≤ t → Want most A k t
  le : (j : Int) ≤ most
theorem Free.init {most : Int} {i : Nat} {A : Tags} {all : MS Int Slt} (h : RI most i A all) (hm : 0 ≤ most) {k : K3} {t : Int} (hs : (∃ u, A t = some (k, u)) ∨ (t = -1 ∧ ∀ x u, A x ≠ some (k, u))) : Free most A k 0 t := by
  refine ⟨fun ht => ?_, fun ht => ?_, hm⟩
  · rcases hs with ⟨u, hu⟩ | ⟨rfl, hs⟩
    · have := (h.dom t (by rw [hu]; rfl)).1
      omega
    · exact ⟨rfl, hs, fun i h0 h1 => by omega⟩
  · rcases hs with hs | ⟨rfl, hs⟩
    · exact .inl hs
    · omega
theorem Free.used {most : Int} {A : Tags} {k : K3} {j : Nat} {t : Int} (h : Free most A k j t) (h1 : (j : Int) < most) (h2 : t < 0) (hj : A j ≠ none) : Free most A k (j + 1) t := by
  obtain ⟨a, b, c⟩ := h.neg h2
  refine ⟨fun _ => ⟨a, b, fun i h3 h4 => ?_⟩, fun h3 => by omega, by omega⟩
  by_cases e : i = j
  · rw [e]; exact hj
  · exact c i h3 (by omega)
theorem Free.hit {most : Int} {A : Tags} {k : K3} {j : Nat} {t : Int} (h : Free most A k j t) (h1 : (j : Int) < most) (h2 : t < 0) (hj : A j = none) : Free most A k (j + 1) j := by
  obtain ⟨a, b, c⟩ := h.neg h2
  exact ⟨fun h3 => by omega, fun _ => .inr ⟨b, .inl ⟨by omega, h1, hj, c⟩⟩, by omega⟩
theorem Free.fin {most : Int} {A : Tags} {k : K3} {j : Nat} {t : Int} (h : Free most A k j t) (hn : ¬ ((j : Int) < most ∧ t < 0)) : Want most A k t := by
  by_cases h0 : 0 ≤ t
  · exact h.pos h0
  · obtain ⟨a, b, c⟩ := h.neg (by omega)
    have := h.le
    exact .inr ⟨b, .inr ⟨a, fun i h1 h2 => c i h1 (by omega)⟩⟩
/-- Going through the slots: those without a prefix are let go. -/
structure Sw (most : Int) (A : Tags) (all : MS Int Slt) (j : Nat) (all' : MS Int Slt) (n : Nat) : Prop where
  look : ∀ x, mget all' x = if x < j ∧ use A x = 0 then none else A x
  ok : all'.Ok
  num : n + all'.l.length = all.l.length
  le : (j : Int) ≤ most
theorem Sw.init {most : Int} {i : Nat} {A : Tags} {all : MS Int Slt} (h : RI most i A all) (hm : 0 ≤ most) : Sw most A all 0 all 0 := by
  refine ⟨fun x => ?_, h.ok, by omega, hm⟩
  rw [h.look]
  split
  · rename_i e
    cases e2 : A x with
    | none => rfl
    | some v =>
      have := (h.dom x (by rw [e2]; rfl)).1
      omega
  · rfl
theorem Sw.at_ {most : Int} {A : Tags} {all : MS Int Slt} {j : Nat} {all' : MS Int Slt} {n : Nat} (h : Sw most A all j all' n) : mget all' (j : Int) = A j := by
  rw [h.look, if_neg (by omega)]
theorem Sw.keep {most : Int} {A : Tags} {all : MS Int Slt} {j : Nat} {all' : MS Int Slt} {n : Nat} (h : Sw most A all j all' n) (hj : (j : Int) < most) (hu : A j = none ∨ use A j ≠ 0) : Sw most A all (j + 1) all' n := by
  refine ⟨fun x => ?_, h.ok, h.num, by omega⟩
  rw [h.look]
  by_cases e : x = j
  · subst e
    rw [if_neg (by omega)]
    rcases hu with hu | hu
    · rw [hu]; split <;> rfl
    · rw [if_neg (by intro h; exact hu h.2)]
  · by_cases h2 : x < j
    · by_cases h3 : use A x = 0
      · rw [if_pos ⟨h2, h3⟩, if_pos ⟨by omega, h3⟩]
      · rw [if_neg (fun h => h3 h.2), if_neg (fun h => h3 h.2)]
    · rw [if_neg (by omega), if_neg (by omega)]
theorem Sw.drop {most : Int} {A : Tags} {all : MS Int Slt} {j : Nat} {all' : MS Int Slt} {n : Nat} (h : Sw most A all j all' n) (hj : (j : Int) < most) (hs : (A j).isSome) (hu : use A j = 0) : Sw most A all (j + 1) (mdel all' j) (n + 1) := by
  refine ⟨fun x => ?_, h.ok.del _, ?_, by omega⟩
  · rw [mget_mdel h.ok, h.look]
    by_cases e : (j : Int) = x
    · subst e
      rw [if_pos rfl, if_pos ⟨by omega, hu⟩]
    · rw [if_neg e]
      by_cases h2 : x < j
      · by_cases h3 : use A x = 0
        · rw [if_pos ⟨h2, h3⟩, if_pos ⟨by omega, h3⟩]
        · rw [if_neg (fun h => h3 h.2), if_neg (fun h => h3 h.2)]
      · rw [if_neg (by omega), if_neg (by omega)]
  · have h1 := mdel_len all' (j : Int)
    rw [h.at_, hs] at h1
    have := h.num
    simp only [if_true] at h1
    omega
theorem Sw.fin {most : Int} {i : Nat} {A : Tags} {all : MS Int Slt} {j : Nat} {all' : MS Int Slt} {n : Nat} (hR : RI most i A all) (h : Sw most A all j all' n) (hj : ¬ (j : Int) < most) : RI most i (sweepA A) all' := by
  have hl : ∀ x, mget all' x = sweepA A x := fun x => by
    rw [h.look]
    unfold sweepA
    by_cases h3 : use A x = 0
    · rw [if_pos h3]
      split
      · rfl
      · rename_i h4
        cases e : A x with
        | none => rfl
        | some v =>
          have := (hR.dom x (by rw [e]; rfl)).2
          exact absurd ⟨by omega, h3⟩ h4
    · rw [if_neg h3, if_neg (fun h => h3 h.2)]
  have hsub : ∀ x v, sweepA A x = some v → A x = some v := fun x v e => by
    unfold sweepA at e
    split at e
    · cases e
    · exact e
  refine ⟨hl, h.ok, fun x hx => ?_, fun x k u e => hR.use x k u (hsub _ _ e), fun x y k u v e1 e2 => hR.one x y k u v (hsub _ _ e1) (hsub _ _ e2)⟩
  obtain ⟨v, hv⟩ := Option.isSome_iff_exists.1 hx
  exact hR.dom x (by rw [hsub _ _ hv]; rfl)
end Tg
end Go.Proofs.Ytoghablinbmljaa
