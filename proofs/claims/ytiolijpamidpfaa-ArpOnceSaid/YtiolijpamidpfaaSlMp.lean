/-
  A run told by lists: maps that the call has made, and iterators over them. Over any program; no conditions beyond those in each statement.
-/
import Derived.Test.YtiolijpamidpfaaSlW
import Derived.Maps.Keyed
import Derived.Maps.RangeRun
import Derived.WideKeyRuns
namespace Go.Proofs.Ytiolijpamidpfaa
open Go.RowKit
namespace Sl
set_option linter.unusedVariables false
set_option linter.unusedSectionVars false
/-! ### Maps as lists of entries: key, element, stamp -/
structure MS (κ ν : Type) where
  l : List (κ × ν × Nat)
  c : Nat
section
variable {κ ν : Type} [DecidableEq κ]
def lfind : List (κ × ν × Nat) → κ → Option (ν × Nat)
  | [], _ => none
  | p :: m, k => if p.1 = k then some p.2 else lfind m k
def lset : List (κ × ν × Nat) → κ → ν → List (κ × ν × Nat)
  | [], _, _ => []
  | p :: m, k, v => if p.1 = k then (k, v, p.2.2) :: m else p :: lset m k v
def ldel : List (κ × ν × Nat) → κ → List (κ × ν × Nat)
  | [], _ => []
  | p :: m, k => if p.1 = k then m else p :: ldel m k
def mempty : MS κ ν := ⟨[], 0⟩
def mget (m : MS κ ν) (k : κ) : Option ν := (lfind m.l k).map (·.1)
def mborn (m : MS κ ν) (k : κ) : Nat := ((lfind m.l k).map (·.2)).getD m.c
def mput (m : MS κ ν) (k : κ) (v : ν) : MS κ ν := match lfind m.l k with
  | some _ => ⟨lset m.l k v, m.c⟩
  | none => ⟨m.l ++ [(k, v, m.c)], m.c + 1⟩
def mdel (m : MS κ ν) (k : κ) : MS κ ν := ⟨ldel m.l k, m.c⟩
/-- The stamps rise, no key stands twice. -/
structure MS.Ok (m : MS κ ν) : Prop where
  asc : (m.l.map (·.2.2)).Pairwise (· < ·)
  bd : ∀ p ∈ m.l, p.2.2 < m.c
  nd : (m.l.map (·.1)).Nodup
theorem lfind_at : ∀ {m : List (κ × ν × Nat)} {j : Nat} {x : κ} {v : ν × Nat}, (m.map (·.1)).Nodup → m[j]? = some (x, v) → lfind m x = some v
  | [], _, _, _, _, h => by simp at h
  | p :: m, 0, x, v, _, h => by
    obtain rfl : p = (x, v) := by simpa using h
    simp [lfind]
  | p :: m, j + 1, x, v, hn, h => by
    rw [List.map_cons, List.nodup_cons] at hn
    have h' : m[j]? = some (x, v) := by simpa using h
    have h1 : p.1 ≠ x := fun q => hn.1 (List.mem_map.2 ⟨(x, v), List.mem_of_getElem? h', q.symm⟩)
    rw [lfind, if_neg h1]
    exact lfind_at hn.2 h'
theorem lset_at : ∀ {m : List (κ × ν × Nat)} {j : Nat} {x : κ} {v u : ν} {bn : Nat}, (m.map (·.1)).Nodup → m[j]? = some (x, v, bn) → lset m x u = m.set j (x, u, bn)
  | [], _, _, _, _, _, _, h => by simp at h
  | p :: m, 0, x, v, u, bn, _, h => by
    obtain rfl : p = (x, v, bn) := by simpa using h
    simp [lset]
  | p :: m, j + 1, x, v, u, bn, hn, h => by
    rw [List.map_cons, List.nodup_cons] at hn
    have h' : m[j]? = some (x, v, bn) := by simpa using h
    have h1 : p.1 ≠ x := fun q => hn.1 (List.mem_map.2 ⟨(x, v, bn), List.mem_of_getElem? h', q.symm⟩)
    rw [lset, if_neg h1, lset_at hn.2 h', List.set_cons_succ]
theorem ldel_at : ∀ {m : List (κ × ν × Nat)} {j : Nat} {x : κ} {v : ν × Nat}, (m.map (·.1)).Nodup → m[j]? = some (x, v) → ldel m x = m.eraseIdx j
  | [], _, _, _, _, h => by simp at h
  | p :: m, 0, x, v, _, h => by
    obtain rfl : p = (x, v) := by simpa using h
    simp [ldel]
  | p :: m, j + 1, x, v, hn, h => by
    rw [List.map_cons, List.nodup_cons] at hn
    have h' : m[j]? = some (x, v) := by simpa using h
    have h1 : p.1 ≠ x := fun q => hn.1 (List.mem_map.2 ⟨(x, v), List.mem_of_getElem? h', q.symm⟩)
    rw [ldel, if_neg h1, ldel_at hn.2 h', List.eraseIdx_cons_succ]
theorem ldel_none : ∀ {m : List (κ × ν × Nat)} {x : κ}, lfind m x = none → ldel m x = m
  | [], _, _ => rfl
  | p :: m, x, h => by
    rw [lfind] at h
    split at h
    · cases h
    · rename_i h1
      rw [ldel, if_neg h1, ldel_none h]
theorem lfind_mem : ∀ {m : List (κ × ν × Nat)} {x : κ}, lfind m x = none → x ∉ m.map (·.1)
  | [], _, _ => by simp
  | p :: m, x, h => by
    rw [lfind] at h
    split at h
    · cases h
    · rename_i h1
      rw [List.map_cons, List.mem_cons, not_or]
      exact ⟨fun q => h1 q.symm, lfind_mem h⟩
theorem lfind_mem' : ∀ {m : List (κ × ν × Nat)} {x : κ} {v : ν × Nat}, lfind m x = some v → (x, v) ∈ m
  | p :: m, x, v, h => by
    rw [lfind] at h
    split at h
    · rename_i h1
      obtain rfl := Option.some.inj h
      rw [← h1]
      exact .head _
    · exact .tail _ (lfind_mem' h)
theorem lfind_of_mem : ∀ {m : List (κ × ν × Nat)} {x : κ} {v : ν × Nat}, (m.map (·.1)).Nodup → (x, v) ∈ m → lfind m x = some v := fun hn hm => by
  obtain ⟨j, hj⟩ := List.getElem?_of_mem hm
  exact lfind_at hn hj
theorem set_same {α : Type} : ∀ {l : List α} {j : Nat} {x : α}, l[j]? = some x → l.set j x = l
  | [], _, _, _ => rfl
  | _ :: _, 0, _, h => by
    obtain rfl := Option.some.inj h
    rfl
  | y :: l, j + 1, x, h => by rw [List.set_cons_succ, set_same (l := l) (j := j) h]
theorem map_erase {α β : Type} (f : α → β) : ∀ (l : List α) (j : Nat), (l.eraseIdx j).map f = (l.map f).eraseIdx j
  | [], _ => rfl
  | _ :: _, 0 => rfl
  | x :: l, j + 1 => by rw [List.eraseIdx_cons_succ, List.map_cons, map_erase f l j, List.map_cons, List.eraseIdx_cons_succ]
theorem at_of_find {m : List (κ × ν × Nat)} {x : κ} {v : ν × Nat} (h : lfind m x = some v) : ∃ j : Nat, m[j]? = some (x, v) := by
  obtain ⟨j, hj⟩ := List.getElem?_of_mem (lfind_mem' h)
  exact ⟨j, hj⟩
theorem MS.Ok.empty : (mempty : MS κ ν).Ok := ⟨by simp [mempty], by simp [mempty], by simp [mempty]⟩
theorem MS.Ok.put {m : MS κ ν} (h : m.Ok) (k : κ) (v : ν) : (mput m k v).Ok := by
  unfold mput
  split
  · rename_i u hu
    obtain ⟨j, hj⟩ := at_of_find hu
    rw [lset_at (bn := u.2) h.nd hj]
    refine ⟨?_, ?_, ?_⟩
    · show ((m.l.set j (k, v, u.2)).map (·.2.2)).Pairwise (· < ·)
      rw [List.map_set, set_same (by simp [hj])]
      exact h.asc
    · intro p hp
      rcases List.mem_or_eq_of_mem_set hp with hp | rfl
      · exact h.bd p hp
      · exact h.bd (k, u) (List.mem_of_getElem? hj)
    · show ((m.l.set j (k, v, u.2)).map (·.1)).Nodup
      rw [List.map_set, set_same (by simp [hj])]
      exact h.nd
  · rename_i hu
    refine ⟨?_, ?_, ?_⟩
    · show ((m.l ++ [(k, v, m.c)]).map (·.2.2)).Pairwise (· < ·)
      rw [List.map_append, List.pairwise_append]
      refine ⟨h.asc, by simp, fun i hi j hj => ?_⟩
      obtain rfl : j = m.c := by simpa using hj
      obtain ⟨e, he, rfl⟩ := List.mem_map.1 hi
      exact h.bd e he
    · intro p hp
      show p.2.2 < m.c + 1
      rcases List.mem_append.1 hp with hp | hp
      · have := h.bd p hp; omega
      · obtain rfl : p = (k, v, m.c) := by simpa using hp
        simp
    · show ((m.l ++ [(k, v, m.c)]).map (·.1)).Nodup
      rw [List.map_append, List.nodup_append]
      refine ⟨h.nd, by simp, fun a ha b hb e => ?_⟩
      have h5 : b = k := by simpa using hb
      rw [e, h5] at ha
      exact lfind_mem hu ha
theorem ldel_sub : ∀ (m : List (κ × ν × Nat)) (k : κ), (ldel m k).Sublist m
  | [], _ => List.Sublist.slnil
  | p :: m, k => by
    rw [ldel]
    split
    · exact List.sublist_cons_self _ _
    · exact (ldel_sub m k).cons_cons _
theorem MS.Ok.del {m : MS κ ν} (h : m.Ok) (k : κ) : (mdel m k).Ok :=
  ⟨h.asc.sublist ((ldel_sub m.l k).map _), fun p hp => h.bd p ((ldel_sub m.l k).subset hp), h.nd.sublist ((ldel_sub m.l k).map _)⟩
theorem lfind_lset : ∀ (m : List (κ × ν × Nat)) (k x : κ) (v : ν), lfind (lset m k v) x = if k = x then (lfind m k).map (fun u => (v, u.2)) else lfind m x
  | [], k, x, v => by simp [lset, lfind]
  | p :: m, k, x, v => by
    rw [lset]
    by_cases h : p.1 = k
    · rw [if_pos h]
      by_cases hx : k = x
      · simp [lfind, h, hx]
      · simp [lfind, hx, h]
    · rw [if_neg h, lfind, lfind_lset m k x v]
      by_cases hx : k = x
      · have h2 : ¬ p.1 = x := fun e => h (e.trans hx.symm)
        simp [hx, h2, lfind]
      · simp [hx, lfind]
theorem lfind_app : ∀ (m r : List (κ × ν × Nat)) (x : κ), lfind (m ++ r) x = (lfind m x).or (lfind r x)
  | [], r, x => by simp [lfind]
  | p :: m, r, x => by
    rw [List.cons_append, lfind, lfind, lfind_app m r x]
    split <;> simp
theorem mget_mput (m : MS κ ν) (k x : κ) (v : ν) : mget (mput m k v) x = if k = x then some v else mget m x := by
  unfold mput mget
  split
  · rename_i u hu
    simp only [lfind_lset, hu]
    split <;> simp
  · rename_i hu
    simp only [lfind_app]
    by_cases hx : k = x
    · subst hx
      simp [hu, lfind]
    · simp [hx, lfind]
theorem lfind_ldel : ∀ {m : List (κ × ν × Nat)} (k x : κ), (m.map (·.1)).Nodup → lfind (ldel m k) x = if k = x then none else lfind m x
  | [], k, x, _ => by simp [ldel, lfind]
  | p :: m, k, x, hn => by
    rw [List.map_cons, List.nodup_cons] at hn
    rw [ldel]
    by_cases h : p.1 = k
    · rw [if_pos h]
      by_cases hx : k = x
      · rw [if_pos hx]
        cases e : lfind m x with
        | none => rfl
        | some v => exact absurd (List.mem_map.2 ⟨(x, v), lfind_mem' e, (h.trans hx).symm⟩) hn.1
      · simp [lfind, hx, h]
    · rw [if_neg h, lfind, lfind_ldel k x hn.2, lfind]
      by_cases hx : k = x
      · have h2 : ¬ p.1 = x := fun e => h (e.trans hx.symm)
        simp [hx, h2]
      · simp [hx]
theorem mget_mdel {m : MS κ ν} (h : m.Ok) (k x : κ) : mget (mdel m k) x = if k = x then none else mget m x := by
  unfold mget mdel
  rw [lfind_ldel k x h.nd]
  split <;> rfl
theorem mget_empty (k : κ) : mget (mempty : MS κ ν) k = none := rfl
theorem mem_mget {m : MS κ ν} {k : κ} {v : ν} {bn : Nat} (h : m.Ok) (hm : (k, v, bn) ∈ m.l) : mget m k = some v := by
  unfold mget
  rw [lfind_of_mem h.nd hm]
  rfl
theorem mget_in {m : MS κ ν} {k : κ} {v : ν} (h : mget m k = some v) : ∃ bn, (k, v, bn) ∈ m.l := by
  unfold mget at h
  obtain ⟨u, hu, rfl⟩ := Option.map_eq_some_iff.1 h
  exact ⟨u.2, lfind_mem' hu⟩
theorem lset_len : ∀ (m : List (κ × ν × Nat)) (k : κ) (v : ν), (lset m k v).length = m.length
  | [], _, _ => rfl
  | p :: m, k, v => by
    rw [lset]
    split
    · rfl
    · rw [List.length_cons, lset_len m k v, List.length_cons]
theorem mput_len (m : MS κ ν) (k : κ) (v : ν) : (mput m k v).l.length = m.l.length + if (mget m k).isSome then 0 else 1 := by
  unfold mput mget
  split
  · rename_i u hu
    simp [hu, lset_len]
  · rename_i hu
    simp [hu]
theorem ldel_len : ∀ (m : List (κ × ν × Nat)) (k : κ), (ldel m k).length + (if (lfind m k).isSome then 1 else 0) = m.length
  | [], _ => rfl
  | p :: m, k => by
    rw [ldel, lfind]
    by_cases h : p.1 = k
    · simp [h]
    · rw [if_neg h, if_neg h, List.length_cons, List.length_cons, ← ldel_len m k]
      omega
theorem mdel_len (m : MS κ ν) (k : κ) : (mdel m k).l.length + (if (mget m k).isSome then 1 else 0) = m.l.length := by
  have := ldel_len m.l k
  unfold mdel mget
  simpa using this
theorem mborn_mput (m : MS κ ν) (k : κ) (v : ν) : mborn (mput m k v) k = mborn m k := by
  unfold mput mborn
  split
  · rename_i u hu
    simp [lfind_lset, hu]
  · rename_i hu
    simp [lfind_app, hu, lfind]
theorem lset_lset : ∀ (m : List (κ × ν × Nat)) (k : κ) (u v : ν), lset (lset m k u) k v = lset m k v
  | [], _, _, _ => rfl
  | p :: m, k, u, v => by
    rw [lset]
    by_cases h : p.1 = k
    · rw [if_pos h]
      simp [lset, h]
    · rw [if_neg h, lset, if_neg h, lset_lset m k u v, lset, if_neg h]
theorem lset_app_none : ∀ {m : List (κ × ν × Nat)} {k : κ} (u v : ν) (bn : Nat), lfind m k = none → lset (m ++ [(k, u, bn)]) k v = m ++ [(k, v, bn)]
  | [], k, u, v, bn, _ => by simp [lset]
  | p :: m, k, u, v, bn, h => by
    rw [lfind] at h
    split at h
    · cases h
    · rename_i h1
      rw [List.cons_append, lset, if_neg h1, lset_app_none u v bn h, List.cons_append]
theorem mput_mput (m : MS κ ν) (k : κ) (u v : ν) : mput (mput m k u) k v = mput m k v := by
  unfold mput
  cases h : lfind m.l k with
  | some x => simp [lfind_lset, h, lset_lset]
  | none => simp [lfind_app, h, lfind, lset_app_none]
/-- The key of a stamp stands once. -/
theorem stamp_inj {m : MS κ ν} (h : m.Ok) {p q : κ × ν × Nat} (hp : p ∈ m.l) (hq : q ∈ m.l) (e : p.2.2 = q.2.2) : p = q := by
  have : ∀ {l : List (κ × ν × Nat)}, (l.map (·.2.2)).Pairwise (· < ·) → p ∈ l → q ∈ l → p = q := by
    intro l
    induction l with
    | nil => intro _ hp _; cases hp
    | cons a l ih =>
      intro h1 a1 a2
      rw [List.map_cons, List.pairwise_cons] at h1
      rcases List.mem_cons.1 a1 with b1 | b1
      · rcases List.mem_cons.1 a2 with b2 | b2
        · rw [b1, b2]
        · have := h1.1 _ (List.mem_map.2 ⟨q, b2, rfl⟩); rw [← b1] at this; omega
      · rcases List.mem_cons.1 a2 with b2 | b2
        · have := h1.1 _ (List.mem_map.2 ⟨p, b1, rfl⟩); rw [← b2] at this; omega
        · exact ih h1.2 b1 b2
  exact this h.asc hp hq
/-- How many entries are still to come. -/
def unseen (m : MS κ ν) (seen : List Nat) : Nat := (m.l.filter fun p => !seen.contains p.2.2).length
theorem filter_lt {α : Type} (P Q : α → Bool) : ∀ {l : List α}, (∀ x ∈ l, Q x = true → P x = true) → ∀ {a : α}, a ∈ l → P a = true → Q a = false → (l.filter Q).length < (l.filter P).length
  | x :: l, h, a, ha, hp, hq => by
    have hle : ∀ {l : List α}, (∀ x ∈ l, Q x = true → P x = true) → (l.filter Q).length ≤ (l.filter P).length := by
      intro l
      induction l with
      | nil => intro _; simp
      | cons y l ih =>
        intro h
        have h1 := ih fun x hx => h x (.tail _ hx)
        have h2 := h y (.head _)
        rw [List.filter_cons, List.filter_cons]
        cases hy : Q y
        · cases P y <;> simp <;> omega
        · rw [h2 hy]; simpa using h1
    rw [List.filter_cons, List.filter_cons]
    rcases List.mem_cons.1 ha with rfl | ha
    · rw [hp, hq]
      have := hle fun x hx => h x (.tail _ hx)
      simp
      omega
    · have h1 := filter_lt P Q (fun x hx => h x (.tail _ hx)) ha hp hq
      have h2 := h x (.head _)
      cases hy : Q x
      · cases P x <;> simp <;> omega
      · rw [h2 hy]; simpa using h1
theorem unseen_lt {m : MS κ ν} {seen : List Nat} {p : κ × ν × Nat} (hp : p ∈ m.l) (hn : p.2.2 ∉ seen) : unseen m (seen ++ [p.2.2]) < unseen m seen :=
  filter_lt _ _ (fun x _ hx => by simp at hx ⊢; exact fun h => hx.1 h) hp (by simpa using hn) (by simp)
theorem unseen_del (m : MS κ ν) (seen : List Nat) (k : κ) : unseen (mdel m k) seen ≤ unseen m seen :=
  ((ldel_sub m.l k).filter _).length_le
end
/-- What a map's keys are. -/
class KeyT (P : Program) (kt : TypeId) {κ : Type} (ke : κ → Value) : Prop where
  inj : ∀ x y, ke x = ke y → x = y
  check : ∀ (w : World) (em : Bool) (x : κ), (Instr.checkKey em 10000 kt (ke x)).run P w = .ok () w
  find : ∀ (w : World) (x : κ) (es : List MapEntry), (∀ e ∈ es, ∃ y, e.key = ke y) →
    ((Instr.findKey kt (ke x) es).run P w = .ok none w ∧ ∀ e ∈ es, e.key ≠ ke x) ∨ ∃ j e, (Instr.findKey kt (ke x) es).run P w = .ok (some (j, e.val)) w ∧ es[j]? = some e ∧ e.key = ke x
  stays : ∀ (w : World) (x : κ), (Instr.keyThatStays (ke x) (ke x)).run P w = .ok (ke x) w
theorem int_key {P : Program} {kt : TypeId} {q : IntKind} (hk : P.underlying kt = some (.int q)) : KeyT P kt (fun i : Int => Value.int q i) where
  inj x y h := by injection h
  check w em x := MapKept.run_checkKey hk (d := .int q) (k := .int q x) (by simp [MapKept.IsKey]) em 9999
  find w x es hes := by
    have hks : ∀ y ∈ es, MapKept.IsKey (.int q) y.key := fun y hy => by
      obtain ⟨z, hz⟩ := hes y hy
      rw [hz]
      simp [MapKept.IsKey]
    rcases MapKept.findNow_spec (d := .int q) (k := .int q x) (by simp [MapKept.IsKey]) es 0 hks with ⟨h1, h2⟩ | ⟨j, e0, h1, h2, h3⟩
    · exact .inl ⟨MapKept.run_findKey hk h1, h2⟩
    · exact .inr ⟨j, e0, by simpa using MapKept.run_findKey hk h1, h2, h3⟩
  stays w x := by simp [Instr.keyThatStays, Instr.sameBits]
/-! ### Keys that are structs and arrays of numbers, Bools and strings -/
section
variable {P : Program}
theorem run_checkK (em : Bool) : ∀ (d : Nat) {t : TypeId} {ks : List Ck}, kindsOf P d t = some ks → ∀ (xs : List Value), fits ks xs = true → ∀ (D : Nat), d ≤ D → ∀ w, (Instr.checkKey em D t (valOf P t xs)).run P w = .ok () w
  | 0, t, ks, h, _, _, _, _, _ => by simp [kindsOf] at h
  | d + 1, t, ks, h, xs, hx, D, hD, w => by
    obtain ⟨D, rfl⟩ : ∃ D', D = D' + 1 := ⟨D - 1, by omega⟩
    have ih := fun {t ks} => run_checkK em d (t := t) (ks := ks)
    have hlx := fits_len hx
    unfold kindsOf at h
    cases hu : P.underlying t with
    | none => simp [hu] at h
    | some k =>
      rw [hu] at h
      cases k
      case bool =>
        have : valOf P t xs = xs.headD undef := by simp [valOf, aggB, hu]
        rw [this]
        simp [Instr.checkKey, run_underlying hu]
      case int k =>
        have : valOf P t xs = xs.headD undef := by simp [valOf, aggB, hu]
        rw [this]
        simp [Instr.checkKey, run_underlying hu]
      case string =>
        have : valOf P t xs = xs.headD undef := by simp [valOf, aggB, hu]
        rw [this]
        simp [Instr.checkKey, run_underlying hu]
      case array n e =>
        simp only at h
        split at h
        · rename_i k1 hk1
          split at h
          · obtain rfl := Option.some.inj h
            have hsz := kinds_size hk1
            have hva : valOf P t xs = .agg xs.toArray := by simp [valOf, aggB, hu]
            rw [hva, Instr.checkKey]
            simp only [Sem.run_bind, run_underlying hu, Result.andThen_ok]
            simp only [Std.Legacy.Range.forIn_eq_forIn_range', Std.Legacy.Range.size, Nat.sub_zero, Nat.add_one_sub_one, Nat.div_one]
            have go : ∀ (m o : Nat), fits (List.replicate m k1).flatten (xs.drop (o * k1.length)) = true → ∀ j ∈ List.range' o m, ∃ u, (part e xs.toArray (j * k1.length)).run P w = .ok u w ∧ (Instr.checkKey em D e u).run P w = .ok () w := by
              intro m
              induction m with
              | zero => intro o _ j hj; simp at hj
              | succ m ihm =>
                intro o h1 j hj
                have l1 := fits_len h1
                rw [List.replicate_succ, List.flatten_cons] at h1 l1
                obtain ⟨a1, a2⟩ := fits_app h1
                simp only [List.length_append, List.length_drop] at l1
                rw [List.drop_drop] at a2
                have eo : o * k1.length + k1.length = (o + 1) * k1.length := by rw [Nat.add_mul, Nat.one_mul]
                rw [eo] at a2
                rw [List.range'_succ] at hj
                rcases List.mem_cons.1 hj with rfl | hj
                · have l2 := fits_len a1
                  rw [List.length_take, List.length_drop] at l2
                  by_cases hz : k1.length = 0
                  · have hk0 : k1 = [] := List.length_eq_zero_iff.1 hz
                    by_cases hag : aggB P e = true
                    · have p1 : (part e xs.toArray (j * k1.length)).run P w = .ok (valOf P e []) w := by
                        unfold part valOf
                        rw [Sem.run_bind, kinds_agg hk1 w, Result.andThen_ok]
                        simp [hag, Siz.run hsz, hz]
                      exact ⟨_, p1, ih hk1 _ (by rw [hk0]; rfl) D (by omega) w⟩
                    · obtain ⟨c, hc⟩ := kinds_one hk1 (by simpa using hag)
                      rw [hc] at hz
                      simp at hz
                  · have p1 := run_partK hk1 (cs := xs) (off := j * k1.length) (by omega) w
                    exact ⟨_, p1, ih hk1 _ a1 D (by omega) w⟩
                · exact ihm (o + 1) a2 j hj
            have each := go n 0 (by simpa using hx)
            generalize List.range' 0 n = is at each
            induction is with
            | nil => simp
            | cons j is ih2 =>
              obtain ⟨u, p1, p2⟩ := each j (by simp)
              simp only [List.forIn_cons, Sem.run_bind, Siz.run hsz, Result.andThen_ok, p1, p2, Sem.run_pure]
              exact ih2 (fun y hy => each y (by simp [hy]))
          · cases h
        · cases h
      case struct fs =>
        simp only at h
        split at h
        · rename_i k1 hk1
          split at h
          · rename_i hsz
            obtain rfl := Option.some.inj h
            have hva : valOf P t xs = .agg xs.toArray := by simp [valOf, aggB, hu]
            rw [hva, Instr.checkKey]
            simp only [Sem.run_bind, run_underlying hu, Result.andThen_ok]
            rw [← Array.forIn_toList]
            have go : ∀ (l : List Field) (o : Nat) (k2 : List Ck), o ≤ xs.length → fieldsK (kindsOf P d) l o = some k2 → fits k2 (xs.drop o) = true → ∀ f ∈ l, f.name ≠ "_" ∧ ∃ u, (part f.type xs.toArray f.offset).run P w = .ok u w ∧ (Instr.checkKey em D f.type u).run P w = .ok () w := by
              intro l
              induction l with
              | nil => intro _ _ _ _ _ f hf; cases hf
              | cons f l ihl =>
                intro o k2 ho1 hf h1 f' hf'
                unfold fieldsK at hf
                split at hf
                · rename_i hc
                  obtain ⟨rfl, hn⟩ := hc
                  split at hf
                  · rename_i kf hkf
                    obtain ⟨kr, hr, rfl⟩ := Option.map_eq_some_iff.1 hf
                    obtain ⟨a1, a2⟩ := fits_app h1
                    have la := fits_len h1
                    simp only [List.length_append, List.length_drop] at la
                    rw [List.drop_drop] at a2
                    rcases List.mem_cons.1 hf' with rfl | hf'
                    · exact ⟨hn, _, run_partK hkf (cs := xs) (off := f'.offset) (by omega) w, ih hkf _ a1 D (by omega) w⟩
                    · exact ihl _ kr (by omega) hr a2 f' hf'
                  · cases hf
                · cases hf
            have each := go fs.toList 0 k1 (by omega) hk1 (by simpa using hx)
            generalize fs.toList = L at each
            induction L with
            | nil => simp
            | cons f L ih2 =>
              obtain ⟨hn, u, p1, p2⟩ := each f (by simp)
              simp only [List.forIn_cons, Sem.run_bind, hn, ne_eq, not_false_eq_true, if_true, Result.andThen_ok, p1, p2, Sem.run_pure]
              exact ih2 (fun y hy => each y (by simp [hy]))
          · cases h
        · cases h
      all_goals simp at h
theorem fit_stays : ∀ {ks : List Ck} {xs : List Value}, fits ks xs = true → ∀ x ∈ xs, ∀ n, Instr.sameBits n x x = true
  | [], [], _, _, h, _ => by cases h
  | k :: ks, v :: vs, h, x, hx, n => by
    simp only [fits, Bool.and_eq_true] at h
    rcases List.mem_cons.1 hx with rfl | hx
    · cases k <;> cases x <;> simp [fit1] at h <;> cases n <;> simp [Instr.sameBits]
      all_goals rw [beq_toListBytes]; simp
    · exact fit_stays h.2 x hx n
theorem cells_key {kt : TypeId} {ks : List Ck} [he : EqT P kt ks] {κ : Type} (cs : κ → List Value) (hf : ∀ x, fits ks (cs x) = true) (hi : ∀ x y, cs x = cs y → x = y) : KeyT P kt (fun x : κ => Value.agg (cs x).toArray) where
  inj x y h := by
    injection h with h
    exact hi x y (by simpa using congrArg Array.toList h)
  check w em x := by
    have := run_checkK em 8 he.k (cs x) (hf x) 10000 (by decide) w
    simpa [valOf, he.a] using this
  find w x es hes := by
    have hw : (match P.underlying kt with | some (.array _ _) | some (.struct _) => true | _ => false) = true := by
      have h1 := he.a
      unfold aggB at h1
      split at h1
      · rename_i h2; rw [h2]
      · rename_i h2; rw [h2]
      · cases h1
    rw [run_findKey_eq w hw]
    have go : ∀ (es : List MapEntry) (i : Nat), (∀ e ∈ es, ∃ y, e.key = Value.agg (cs y).toArray) →
        ((Instr.findAsking kt (.agg (cs x).toArray) es i).run P w = .ok none w ∧ ∀ e ∈ es, e.key ≠ .agg (cs x).toArray) ∨ ∃ j e, (Instr.findAsking kt (.agg (cs x).toArray) es i).run P w = .ok (some (i + j, e.val)) w ∧ es[j]? = some e ∧ e.key = .agg (cs x).toArray := by
      intro es
      induction es with
      | nil => intro i _; exact .inl ⟨by simp [Instr.findAsking], by simp⟩
      | cons e es ih =>
        intro i hall
        obtain ⟨y, hy⟩ := hall e (by simp)
        have hr := run_eqA (P := P) (t := kt) (hf x) (hf y) w
        cases hc : eqc (cs x) (cs y) with
        | false =>
          have hne : e.key ≠ .agg (cs x).toArray := fun h => by
            rw [hy] at h
            injection h with h
            rw [show cs y = cs x by simpa using congrArg Array.toList h, eqc_same] at hc
            cases hc
          rcases ih (i + 1) (fun y hy => hall y (by simp [hy])) with ⟨h1, h2⟩ | ⟨j, e', h1, h2, h3⟩
          · left
            refine ⟨by simp [Instr.findAsking, hy, hr, hc, h1], fun y hy => ?_⟩
            rcases List.mem_cons.1 hy with rfl | hy
            · exact hne
            · exact h2 y hy
          · right
            exact ⟨j + 1, e', by simp [Instr.findAsking, hy, hr, hc, h1, Nat.add_assoc, Nat.add_comm 1 j], by simpa using h2, h3⟩
        | true =>
          right
          have e1 := (eqc_iff (hf x) (hf y)).1 hc
          exact ⟨0, e, by simp [Instr.findAsking, hy, hr, hc], rfl, by rw [hy, e1]⟩
    simpa using go es 0 hes
  stays w x := by
    have h1 : Instr.sameBits 10000 (.agg (cs x).toArray) (.agg (cs x).toArray) = true := by
      simp only [Instr.sameBits, beq_self_eq_true, Bool.true_and, List.all_eq_true]
      intro p hp
      have h2 : p.1 = p.2 ∧ p.1 ∈ cs x := by
        have : ∀ {l : List Value}, p ∈ l.zip l → p.1 = p.2 ∧ p.1 ∈ l := by
          intro l
          induction l with
          | nil => intro h; simp at h
          | cons a l ih =>
            intro h
            rw [List.zip_cons_cons, List.mem_cons] at h
            rcases h with rfl | h
            · simp
            · exact ⟨(ih h).1, .tail _ (ih h).2⟩
        exact this hp
      obtain ⟨a, b⟩ := p
      obtain ⟨e1, e2⟩ := h2
      dsimp only at e1 e2 ⊢
      subst e1
      exact fit_stays (hf x) _ e2 _
    simp [Instr.keyThatStays, h1]
end
/-- A map of one's own. -/
def mp {κ ν : Type} (ke : κ → Value) (ve : ν → Value) (m : MS κ ν) : Kind where
  sat b h S := ((∃ es, h[b]? = some (.map es m.c) ∧ es.toList.map (fun e => (e.key, e.val, e.born)) = m.l.map (fun p => (ke p.1, ve p.2.1, p.2.2))) ∧ m.Ok) ∧ ∀ i, S i ↔ i = b
  dom := by
    rintro b h S ⟨⟨⟨es, hb, _⟩, _⟩, hS⟩ i hi
    rw [(hS i).1 hi]
    exact (Array.getElem?_eq_some_iff.1 hb).1
  loc := by
    rintro b h h' S ⟨⟨⟨es, hb, h1⟩, ho⟩, hS⟩ hh
    exact ⟨⟨⟨es, (hh b ((hS b).2 rfl)).trans hb, h1⟩, ho⟩, hS⟩
/-- An iterator over a map. -/
def itr (b since : Nat) (seen : List Nat) (last : Nat) : Kind where
  sat r h S := (h[r]? = some (.mapIter (some b) since seen.toArray last) ∧ since ≤ last) ∧ ∀ i, S i ↔ i = r
  dom := by
    rintro r h S ⟨⟨hb, _⟩, hS⟩ i hi
    rw [(hS i).1 hi]
    exact (Array.getElem?_eq_some_iff.1 hb).1
  loc := by
    rintro r h h' S ⟨⟨hb, h1⟩, hS⟩ hh
    exact ⟨⟨(hh r ((hS r).2 rfl)).trans hb, h1⟩, hS⟩
section
variable {κ ν : Type} [DecidableEq κ] {ke : κ → Value} {ve : ν → Value}
theorem lfind_none : ∀ {es : List MapEntry} {m : List (κ × ν × Nat)} {x : κ}, (∀ a b, ke a = ke b → a = b) → es.map (fun e => (e.key, e.val, e.born)) = m.map (fun p => (ke p.1, ve p.2.1, p.2.2)) → (∀ e ∈ es, e.key ≠ ke x) → lfind m x = none
  | [], [], _, _, _, _ => rfl
  | e :: es, p :: m, x, hi, h, hn => by
    simp only [List.map_cons, List.cons.injEq, Prod.mk.injEq] at h
    have h1 : p.1 ≠ x := fun q => hn e (.head _) (by rw [h.1.1, q])
    rw [lfind, if_neg h1]
    exact lfind_none hi h.2 fun e he => hn e (.tail _ he)
theorem at_of {es : List MapEntry} {m : List (κ × ν × Nat)} {x : κ} {j : Nat} {e : MapEntry} (hi : ∀ a b, ke a = ke b → a = b) (h : es.map (fun e => (e.key, e.val, e.born)) = m.map (fun p => (ke p.1, ve p.2.1, p.2.2))) (hj : es[j]? = some e) (hk : e.key = ke x) : ∃ v, m[j]? = some (x, v, e.born) ∧ e.val = ve v := by
  have h1 : (m.map (fun p => (ke p.1, ve p.2.1, p.2.2)))[j]? = some (e.key, e.val, e.born) := by rw [← h]; simp [hj]
  rw [List.getElem?_map] at h1
  obtain ⟨p, hp, h2⟩ := Option.map_eq_some_iff.1 h1
  simp only [Prod.mk.injEq] at h2
  obtain rfl : p.1 = x := hi _ _ (by rw [h2.1, hk])
  exact ⟨p.2.1, by rw [← h2.2.2]; exact hp, h2.2.1.symm⟩
theorem keys_of {es : List MapEntry} {m : List (κ × ν × Nat)} (h : es.map (fun e => (e.key, e.val, e.born)) = m.map (fun p => (ke p.1, ve p.2.1, p.2.2))) : ∀ e ∈ es, ∃ p ∈ m, e.key = ke p.1 ∧ e.val = ve p.2.1 ∧ e.born = p.2.2 := fun e he => by
  have : (e.key, e.val, e.born) ∈ es.map (fun e => (e.key, e.val, e.born)) := List.mem_map.2 ⟨e, he, rfl⟩
  rw [h] at this
  obtain ⟨p, hp, h2⟩ := List.mem_map.1 this
  simp only [Prod.mk.injEq] at h2
  exact ⟨p, hp, h2.1.symm, h2.2.1.symm, h2.2.2.symm⟩
theorem ents_of {es : List MapEntry} {m : List (κ × ν × Nat)} (h : es.map (fun e => (e.key, e.val, e.born)) = m.map (fun p => (ke p.1, ve p.2.1, p.2.2))) : ∀ p ∈ m, ∃ e ∈ es, e.key = ke p.1 ∧ e.val = ve p.2.1 ∧ e.born = p.2.2 := fun p hp => by
  have : (ke p.1, ve p.2.1, p.2.2) ∈ m.map (fun p => (ke p.1, ve p.2.1, p.2.2)) := List.mem_map.2 ⟨p, hp, rfl⟩
  rw [← h] at this
  obtain ⟨e, he, h2⟩ := List.mem_map.1 this
  simp only [Prod.mk.injEq] at h2
  exact ⟨e, he, h2.1, h2.2.1, h2.2.2⟩
theorem modify_at {es : Array MapEntry} {j : Nat} {e : MapEntry} (h : es.toList[j]? = some e) (f : MapEntry → MapEntry) : (es.modify j f).toList = es.toList.set j (f e) := by
  rw [Array.toList_modify, List.modify_eq_set, h]
  rfl
end
/-- A map among what is one's own. -/
class HasM {κ ν : outParam Type} (H : List Blk) (b : Nat) (ke : outParam (κ → Value)) (ve : outParam (ν → Value)) (m : outParam (MS κ ν)) : Prop where
  mem : (⟨b, mp ke ve m⟩ : Blk) ∈ H
instance (priority := high) hasMHead {κ ν : Type} (b : Nat) (ke : κ → Value) (ve : ν → Value) (m : MS κ ν) (H : List Blk) : HasM (⟨b, mp ke ve m⟩ :: H) b ke ve m := ⟨by simp⟩
instance hasMTail {κ ν : Type} (x : Blk) (H : List Blk) (b : Nat) (ke : κ → Value) (ve : ν → Value) (m : MS κ ν) [h : HasM H b ke ve m] : HasM (x :: H) b ke ve m := ⟨List.mem_cons_of_mem _ h.mem⟩
/-- An iterator among what is one's own. -/
class HasI (H : List Blk) (r : Nat) (b since : outParam Nat) (seen : outParam (List Nat)) (last : outParam Nat) : Prop where
  mem : (⟨r, itr b since seen last⟩ : Blk) ∈ H
instance (priority := high) hasIHead (r b since : Nat) (seen : List Nat) (last : Nat) (H : List Blk) : HasI (⟨r, itr b since seen last⟩ :: H) r b since seen last := ⟨by simp⟩
instance hasITail (x : Blk) (H : List Blk) (r b since : Nat) (seen : List Nat) (last : Nat) [h : HasI H r b since seen last] : HasI (x :: H) r b since seen last := ⟨List.mem_cons_of_mem _ h.mem⟩
/-- Which key, or element, a value is. -/
class KeyV {κ : Type} (ke : κ → Value) (u : Value) (k : outParam κ) : Prop where
  h : ke k = u
instance keyI (q : IntKind) (i : Int) : KeyV (fun i : Int => Value.int q i) (.int q i) i := ⟨rfl⟩
instance keyB (i : Bool) : KeyV (fun i : Bool => Value.bool i) (.bool i) i := ⟨rfl⟩
instance (priority := low) keyF {κ : Type} (ke : κ → Value) (k : κ) : KeyV ke (ke k) k := ⟨rfl⟩
/-- A map's type; its elements' zero value. -/
class MapT (P : Program) (t : TypeId) (kt et : outParam TypeId) : Prop where
  u : P.underlying t = some (.map kt et)
class ZeroM (P : Program) (et : TypeId) {ν : Type} (ve : ν → Value) (z : outParam ν) : Prop where
  h : (P.info? et).bind (·.zero) = some (ve z)
section
variable {P : Program} {B : Foot} {n : Nat} {w0 : World} {T : Tm} {H H' : List Blk} {d : Option Tmp} {ty : TypeId} {ps : String} {af : Array Edge} {g : Option (Nat × Bool)} {x y c : Operand} {t kt et : TypeId} {u : Value} {b : Nat}
variable {κ ν : Type} [DecidableEq κ] {ke : κ → Value} {ve : ν → Value} {m : MS κ ν} {k : κ} {z v : ν}
theorem run_look {w : World} [ht : MapT P t kt et] [kl : KeyT P kt ke] [hz : ZeroM P et ve z] {S : Foot} (s : (mp ke ve m).sat b w.heap S) (c : Bool) : (Instr.lookup t (.map (some b)) (ke k) c).run P w = .ok (if c then .tuple #[ve ((mget m k).getD z), .bool (mget m k).isSome] else ve ((mget m k).getD z)) w := by
  obtain ⟨⟨⟨es, hb, h1⟩, ho⟩, _⟩ := s
  obtain ⟨i, hi, hzz⟩ := Option.bind_eq_some_iff.1 hz.h
  have hk : ∀ e ∈ es.toList, ∃ y, e.key = ke y := fun e he => let ⟨p, _, hp, _⟩ := keys_of h1 e he; ⟨p.1, hp⟩
  rcases kl.find w k es.toList hk with ⟨f1, f2⟩ | ⟨j, e, f1, f2, f3⟩
  · have e1 : mget m k = none := by unfold mget; rw [lfind_none kl.inj h1 f2]; rfl
    simp [Instr.lookup, run_underlying ht.u, MapKept.run_getObj_map hb, kl.check, f1, zeroValue, typeInfo, hi, hzz, e1]
  · obtain ⟨v, hv, e2⟩ := at_of kl.inj h1 f2 f3
    have e1 : mget m k = some v := by unfold mget; rw [lfind_at ho.nd hv]; rfl
    simp [Instr.lookup, run_underlying ht.u, MapKept.run_getObj_map hb, kl.check, f1, e1, e2]
theorem y_look [hh : HasM H b ke ve m] [ht : MapT P t kt et] [kl : KeyT P kt ke] [hz : ZeroM P et ve z] (hx : ev T x = some (.map (some b))) (hy : ev T y = some u) [hk : KeyV ke u k] : Y P B n w0 ⟨d, .lookup t x y false, ty, ps, af, g⟩ T H (ve ((mget m k).getD z)) := .of fun a w hf hm => by
  obtain ⟨S, s, _⟩ := hm.sat.mem hh.mem
  have := run_look (P := P) (t := t) (k := k) (z := z) s false
  rw [hk.h] at this
  simp [execOp, hf.ev hx, hf.ev hy, this]
theorem y_lookOk [hh : HasM H b ke ve m] [ht : MapT P t kt et] [kl : KeyT P kt ke] [hz : ZeroM P et ve z] (hx : ev T x = some (.map (some b))) (hy : ev T y = some u) [hk : KeyV ke u k] : Y P B n w0 ⟨d, .lookup t x y true, ty, ps, af, g⟩ T H (.tuple #[ve ((mget m k).getD z), .bool (mget m k).isSome]) := .of fun a w hf hm => by
  obtain ⟨S, s, _⟩ := hm.sat.mem hh.mem
  have := run_look (P := P) (t := t) (k := k) (z := z) s true
  rw [hk.h] at this
  simp [execOp, hf.ev hx, hf.ev hy, this]
theorem d_mmake (ke : κ → Value) (ve : ν → Value) : D P B n w0 ⟨d, .makeMap t none, ty, ps, af, g⟩ T H (fun b : Nat => .map (some b)) (fun b => ⟨b, mp ke ve (mempty : MS κ ν)⟩ :: H) := .of fun a w hf hm => by
  have : (execOp a.eval ⟨d, .makeMap t none, ty, ps, af, g⟩).run P w = .ok (.value (.map (some w.heap.size))) (w.alloc (.map #[] 0)) := by
    simp [execOp, Instr.makeMap]
  rw [this]
  refine ⟨w.heap.size, rfl, ?_⟩
  exact hm.call_more (R := [⟨w.heap.size, mp ke ve mempty⟩]) ((Below.refl _ _).alloc (Nat.le_refl _) _) ⟨fun i => i = w.heap.size, ⟨⟨⟨#[], (MapKept.heap_alloc w _).1, rfl⟩, .empty⟩, fun _ => Iff.rfl⟩, fun i hi => by rw [hi]; exact Nat.le_refl _, trivial⟩
/-- What a store makes of the entries. -/
theorem run_mput {w : World} [ht : MapT P t kt et] [kl : KeyT P kt ke] {S : Foot} (s : (mp ke ve m).sat b w.heap S) : ∃ o, (Instr.mapUpdate t (.map (some b)) (ke k) (ve v)).run P w = .ok () { w with heap := w.heap.setIfInBounds b o } ∧ (mp ke ve (mput m k v)).sat b (w.heap.setIfInBounds b o) S := by
  obtain ⟨⟨⟨es, hb, h1⟩, ho⟩, hS⟩ := s
  have hk : ∀ e ∈ es.toList, ∃ y, e.key = ke y := fun e he => let ⟨p, _, hp, _⟩ := keys_of h1 e he; ⟨p.1, hp⟩
  rcases kl.find w k es.toList hk with ⟨f1, f2⟩ | ⟨j, e, f1, f2, f3⟩
  · have e1 := lfind_none kl.inj h1 f2
    have e2 : mput m k v = ⟨m.l ++ [(k, v, m.c)], m.c + 1⟩ := by unfold mput; rw [e1]
    refine ⟨.map (es.push ⟨ke k, ve v, m.c⟩) (m.c + 1), ?_, ⟨⟨_, by rw [e2]; exact (MapKept.heap_set hb).1, ?_⟩, ho.put k v⟩, hS⟩
    · simp [Instr.mapUpdate, run_underlying ht.u, MapKept.run_getObj_map hb, kl.check, f1, MapKept.run_setObj_map _ hb]
    · rw [e2]
      simp [h1]
  · obtain ⟨v0, hv, e2⟩ := at_of kl.inj h1 f2 f3
    have e3 : mput m k v = ⟨lset m.l k v, m.c⟩ := by unfold mput; rw [lfind_at ho.nd hv]
    have e1 := lset_at (u := v) ho.nd hv
    refine ⟨.map (es.modify j fun e => { e with key := ke k, val := ve v }) m.c, ?_, ⟨⟨_, by rw [e3]; exact (MapKept.heap_set hb).1, ?_⟩, ho.put k v⟩, hS⟩
    · have f4 : es[j]? = some e := by simpa using f2
      simp [Instr.mapUpdate, run_underlying ht.u, MapKept.run_getObj_map hb, kl.check, f1, MapKept.run_setObj_map _ hb, f4, f3, kl.stays]
    · rw [e3]
      show _ = List.map _ (lset m.l k v)
      rw [e1, List.map_set, ← h1, modify_at f2, List.map_set]
theorem Mem.turnM {w : World} {m' : MS κ ν} (hm : Mem B w0 w H) {o : Obj} (hh : HasM H b ke ve m) (hu : UpdK H b (mp ke ve m) (mp ke ve m') H') (hs : ∀ S, (mp ke ve m).sat b w.heap S → (mp ke ve m').sat b (w.heap.setIfInBounds b o) S) : Mem B w0 { w with heap := w.heap.setIfInBounds b o } H' := by
  refine hm.updK hu (by simp) (fun S1 s1 => ?_) rfl rfl rfl
  exact ⟨⟨S1, hs S1 s1, fun _ h => .inl h⟩, fun i _ hn => by
    have hne : i ≠ b := fun q => hn ((s1.2 i).2 q)
    simp [Ne.symm hne]⟩
theorem d_mput {uk uv : Value} (hx : ev T x = some (.map (some b))) [hh : HasM H b ke ve m] [ht : MapT P t kt et] [kl : KeyT P kt ke] (hy : ev T y = some uk) [hk : KeyV ke uk k] (hz : ev T c = some uv) [hv : KeyV ve uv v] [hu : UpdK H b (mp ke ve m) (mp ke ve (mput m k v)) H'] : D P B n w0 ⟨d, .mapUpdate t x y c, ty, ps, af, g⟩ T H (fun _ : Unit => undef) (fun _ => H') := .of fun a w hf hm => by
  obtain ⟨S, s, _⟩ := hm.sat.mem hh.mem
  obtain ⟨o, h1, _⟩ := run_mput (P := P) (t := t) (k := k) (v := v) s
  have : (execOp a.eval ⟨d, .mapUpdate t x y c, ty, ps, af, g⟩).run P w = .ok .skip { w with heap := w.heap.setIfInBounds b o } := by
    rw [hk.h, hv.h] at h1
    simp [execOp, hf.ev hx, hf.ev hy, hf.ev hz, h1]
  rw [this]
  refine ⟨(), rfl, hm.turnM hh hu fun S1 s1 => ?_⟩
  obtain ⟨o', h1', h2'⟩ := run_mput (P := P) (t := t) (k := k) (v := v) s1
  have e : w.heap.setIfInBounds b o' = w.heap.setIfInBounds b o := by
    rw [h1] at h1'
    have := (Result.ok.inj h1').2
    exact (congrArg World.heap this).symm
  rw [e] at h2'
  exact h2'
/-- The place that an assignment stores at: the entry, laid with a zero element where there is none. -/
theorem run_ment {w : World} [ht : MapT P t kt et] [kl : KeyT P kt ke] [hz : ZeroM P et ve z] {S : Foot} (s : (mp ke ve m).sat b w.heap S) : ∃ o, (Instr.mapEntry t (.map (some b)) (ke k)).run P w = .ok (.tuple #[ve ((mget m k).getD z), .int .i64 (mborn m k)]) { w with heap := w.heap.setIfInBounds b o } ∧ (mp ke ve (mput m k ((mget m k).getD z))).sat b (w.heap.setIfInBounds b o) S := by
  obtain ⟨⟨⟨es, hb, h1⟩, ho⟩, hS⟩ := s
  obtain ⟨i, hi, hzz⟩ := Option.bind_eq_some_iff.1 hz.h
  have hk : ∀ e ∈ es.toList, ∃ y, e.key = ke y := fun e he => let ⟨p, _, hp, _⟩ := keys_of h1 e he; ⟨p.1, hp⟩
  rcases kl.find w k es.toList hk with ⟨f1, f2⟩ | ⟨j, e, f1, f2, f3⟩
  · have e1 := lfind_none kl.inj h1 f2
    have e2 : mput m k ((mget m k).getD z) = ⟨m.l ++ [(k, z, m.c)], m.c + 1⟩ := by unfold mput mget; rw [e1]; rfl
    have e3 : mget m k = none := by unfold mget; rw [e1]; rfl
    have e4 : mborn m k = m.c := by unfold mborn; rw [e1]; rfl
    refine ⟨.map (es.push ⟨ke k, ve z, m.c⟩) (m.c + 1), ?_, ⟨⟨_, by rw [e2]; exact (MapKept.heap_set hb).1, ?_⟩, ho.put _ _⟩, hS⟩
    · simp [Instr.mapEntry, run_underlying ht.u, MapKept.run_getObj_map hb, kl.check, f1, MapKept.run_setObj_map _ hb, zeroValue, typeInfo, hi, hzz, e3, e4, goInt]
    · rw [e2]
      simp [h1]
  · obtain ⟨v0, hv, e2⟩ := at_of kl.inj h1 f2 f3
    have e5 := lfind_at ho.nd hv
    have e6 : mget m k = some v0 := by unfold mget; rw [e5]; rfl
    have e7 : mborn m k = e.born := by unfold mborn; rw [e5]; rfl
    have e3 : mput m k ((mget m k).getD z) = ⟨lset m.l k v0, m.c⟩ := by unfold mput; rw [e5, e6]; rfl
    have e1 := lset_at (u := v0) ho.nd hv
    refine ⟨.map (es.modify j fun e => { e with key := ke k }) m.c, ?_, ⟨⟨_, by rw [e3]; exact (MapKept.heap_set hb).1, ?_⟩, ho.put _ _⟩, hS⟩
    · have f4 : es[j]? = some e := by simpa using f2
      simp [Instr.mapEntry, run_underlying ht.u, MapKept.run_getObj_map hb, kl.check, f1, MapKept.run_setObj_map _ hb, f4, f3, kl.stays, e6, e7, e2, goInt]
    · rw [e3]
      show _ = List.map _ (lset m.l k v0)
      rw [e1, List.map_set, ← h1, modify_at f2, List.map_set]
      simp [e2]
theorem d_ment {uk : Value} (hx : ev T x = some (.map (some b))) [hh : HasM H b ke ve m] [ht : MapT P t kt et] [kl : KeyT P kt ke] [hz : ZeroM P et ve z] (hy : ev T y = some uk) [hk : KeyV ke uk k] [hu : UpdK H b (mp ke ve m) (mp ke ve (mput m k ((mget m k).getD z))) H'] : D P B n w0 ⟨d, .mapEntry t x y, ty, ps, af, g⟩ T H (fun _ : Unit => .tuple #[ve ((mget m k).getD z), .int .i64 (mborn m k)]) (fun _ => H') := .of fun a w hf hm => by
  obtain ⟨S, s, _⟩ := hm.sat.mem hh.mem
  obtain ⟨o, h1, _⟩ := run_ment (P := P) (t := t) (k := k) (z := z) s
  have : (execOp a.eval ⟨d, .mapEntry t x y, ty, ps, af, g⟩).run P w = .ok (.value (.tuple #[ve ((mget m k).getD z), .int .i64 (mborn m k)])) { w with heap := w.heap.setIfInBounds b o } := by
    rw [hk.h] at h1
    simp [execOp, hf.ev hx, hf.ev hy, h1]
  rw [this]
  refine ⟨(), rfl, hm.turnM hh hu fun S1 s1 => ?_⟩
  obtain ⟨o', h1', h2'⟩ := run_ment (P := P) (t := t) (k := k) (z := z) s1
  have e : w.heap.setIfInBounds b o' = w.heap.setIfInBounds b o := by
    rw [h1] at h1'
    have := (Result.ok.inj h1').2
    exact (congrArg World.heap this).symm
  rw [e] at h2'
  exact h2'
theorem findIdx_at : ∀ {l : List MapEntry} {j : Nat} {e : MapEntry}, (l.map (·.born)).Nodup → l[j]? = some e → l.findIdx? (fun x => (x.born : Int) == (e.born : Int)) = some j
  | [], _, _, _, h => by simp at h
  | x :: l, 0, e, _, h => by
    obtain rfl : x = e := by simpa using h
    simp [List.findIdx?_cons]
  | x :: l, j + 1, e, hn, h => by
    rw [List.map_cons, List.nodup_cons] at hn
    have h' : l[j]? = some e := by simpa using h
    have h1 : ¬ ((x.born : Int) = e.born) := fun q => hn.1 (List.mem_map.2 ⟨e, List.mem_of_getElem? h', by omega⟩)
    rw [List.findIdx?_cons, findIdx_at hn.2 h']
    simp [h1]
theorem run_mset {w : World} {S : Foot} (s : (mp ke ve (mput m k z)).sat b w.heap S) (hi : ∀ x y, ke x = ke y → x = y) : ∃ o, (Instr.entryStore t (.map (some b)) (.int .i64 (mborn m k)) (ve v)).run P w = .ok () { w with heap := w.heap.setIfInBounds b o } ∧ (mp ke ve (mput m k v)).sat b (w.heap.setIfInBounds b o) S := by
  obtain ⟨⟨⟨es, hb, h1⟩, ho⟩, hS⟩ := s
  have hg : mget (mput m k z) k = some z := by rw [mget_mput]; simp
  have hf : lfind (mput m k z).l k = some (z, mborn m k) := by
    unfold mget at hg
    obtain ⟨u, hu, e⟩ := Option.map_eq_some_iff.1 hg
    rw [hu]
    have := mborn_mput m k z
    unfold mborn at this
    rw [hu] at this
    have e2 : u.2 = mborn m k := this
    rw [← e2, ← e]
  obtain ⟨j, hj⟩ := at_of_find hf
  have hl : (es.toList.map (fun e => (e.key, e.val, e.born)))[j]? = some (ke k, ve z, mborn m k) := by rw [h1]; simp [hj]
  rw [List.getElem?_map] at hl
  obtain ⟨e, he, e2⟩ := Option.map_eq_some_iff.1 hl
  simp only [Prod.mk.injEq] at e2
  have hn : (es.toList.map (·.born)).Nodup := by
    have h3 : es.toList.map (·.born) = (mput m k z).l.map (·.2.2) := by
      have := congrArg (List.map (fun q : Value × Value × Nat => q.2.2)) h1
      simpa [List.map_map, Function.comp_def] using this
    rw [h3]
    exact ho.asc.imp fun h => by omega
  have hx : es.findIdx? (fun x => (x.born : Int) == (mborn m k : Int)) = some j := by
    have h9 := findIdx_at hn he
    rw [← e2.2.2, show es = es.toList.toArray by simp, List.findIdx?_toArray]
    exact h9
  have hc : (mput m k v).c = (mput m k z).c := by
    unfold mput
    cases lfind m.l k <;> rfl
  have hl2 : (mput m k v).l = (mput m k z).l.set j (k, v, mborn m k) := by
    rw [← mput_mput m k z v]
    have h9 : ∀ {q : MS κ ν} {u : ν × Nat}, lfind q.l k = some u → (mput q k v).l = lset q.l k v := fun {q u} e => by unfold mput; rw [e]
    rw [h9 hf]
    exact lset_at ho.nd hj
  refine ⟨.map (es.modify j fun e => { e with val := ve v }) (mput m k z).c, ?_, ⟨⟨_, by rw [hc]; exact (MapKept.heap_set hb).1, ?_⟩, ?_⟩, hS⟩
  · simp [Instr.entryStore, MapKept.run_getObj_map hb, asInt, asIntOf, hx, MapKept.run_setObj_map _ hb]
  · rw [hl2, modify_at he, List.map_set, List.map_set, h1]
    simp [e2.1, e2.2.2]
  · rw [← mput_mput m k z v]
    exact ho.put k v
theorem d_mset {uv : Value} (hx : ev T x = some (.map (some b))) [hh : HasM H b ke ve (mput m k z)] (hy : ev T y = some (.int .i64 (mborn m k))) (hz : ev T c = some uv) [hv : KeyV ve uv v] [kl : KeyT P kt ke] [hu : UpdK H b (mp ke ve (mput m k z)) (mp ke ve (mput m k v)) H'] [ht : MapT P t kt et] : D P B n w0 ⟨d, .entryStore t x y c, ty, ps, af, g⟩ T H (fun _ : Unit => undef) (fun _ => H') := .of fun a w hf hm => by
  obtain ⟨S, s, _⟩ := hm.sat.mem hh.mem
  obtain ⟨o, h1, _⟩ := run_mset (P := P) (t := t) (v := v) s kl.inj
  have : (execOp a.eval ⟨d, .entryStore t x y c, ty, ps, af, g⟩).run P w = .ok .skip { w with heap := w.heap.setIfInBounds b o } := by
    rw [hv.h] at h1
    simp [execOp, hf.ev hx, hf.ev hy, hf.ev hz, h1]
  rw [this]
  refine ⟨(), rfl, hm.turnM hh hu fun S1 s1 => ?_⟩
  obtain ⟨o', h1', h2'⟩ := run_mset (P := P) (t := t) (v := v) s1 kl.inj
  have e : w.heap.setIfInBounds b o' = w.heap.setIfInBounds b o := by
    rw [h1] at h1'
    have := (Result.ok.inj h1').2
    exact (congrArg World.heap this).symm
  rw [e] at h2'
  exact h2'
theorem y_mlen {at' : Array TypeId} (hx : ev T x = some (.map (some b))) [hh : HasM H b ke ve m] (ha : at' = #[t]) [ht : MapT P t kt et] : Y P B n w0 ⟨d, .call ⟨.builtin .len, #[x], at'⟩, ty, ps, af, g⟩ T H (.int .i64 m.l.length) := .of fun a w hf hm => by
  obtain ⟨S, ⟨⟨⟨es, hb, h1⟩, _⟩, _⟩, _⟩ := hm.sat.mem hh.mem
  have e : es.size = m.l.length := by have := congrArg List.length h1; simpa using this
  subst ha
  simp [execOp, resolve, invoke, builtin, Builtin.len_, hf.ev hx, run_underlying ht.u, MapKept.run_getObj_map hb, goInt, e]
theorem run_mdel {w : World} {at' : Array TypeId} (ha : at'[0]? = some t) [ht : MapT P t kt et] [kl : KeyT P kt ke] {S : Foot} (s : (mp ke ve m).sat b w.heap S) : ∃ o, (Builtin.delete_ at' ty #[.map (some b), ke k]).run P w = .ok (.tuple #[]) { w with heap := w.heap.setIfInBounds b o } ∧ (mp ke ve (mdel m k)).sat b (w.heap.setIfInBounds b o) S := by
  obtain ⟨⟨⟨es, hb, h1⟩, ho⟩, hS⟩ := s
  have hk : ∀ e ∈ es.toList, ∃ y, e.key = ke y := fun e he => let ⟨p, _, hp, _⟩ := keys_of h1 e he; ⟨p.1, hp⟩
  rcases kl.find w k es.toList hk with ⟨f1, f2⟩ | ⟨j, e, f1, f2, f3⟩
  · have e1 := lfind_none kl.inj h1 f2
    refine ⟨.map es m.c, ?_, ⟨⟨_, (MapKept.heap_set hb).1, ?_⟩, ho.del k⟩, hS⟩
    · simp [Builtin.delete_, ha, run_underlying ht.u, MapKept.run_getObj_map hb, kl.check, f1, MapKept.run_setObj_map _ hb]
    · show _ = List.map _ (ldel m.l k)
      rw [ldel_none e1, h1]
  · obtain ⟨v0, hv, e2⟩ := at_of kl.inj h1 f2 f3
    have e1 := ldel_at ho.nd hv
    have hj : j < es.size := by have := (List.getElem?_eq_some_iff.1 f2).1; simpa using this
    have e3 : (es.eraseIdxIfInBounds j).toList = es.toList.eraseIdx j := by
      unfold Array.eraseIdxIfInBounds
      rw [dif_pos hj, Array.toList_eraseIdx]
    refine ⟨.map (es.eraseIdxIfInBounds j) m.c, ?_, ⟨⟨_, (MapKept.heap_set hb).1, ?_⟩, ho.del k⟩, hS⟩
    · simp [Builtin.delete_, ha, run_underlying ht.u, MapKept.run_getObj_map hb, kl.check, f1, MapKept.run_setObj_map _ hb]
    · show _ = List.map _ (ldel m.l k)
      rw [e1, e3, map_erase, h1, map_erase]
theorem d_mdel {uk : Value} {at' : Array TypeId} {t2 : TypeId} (hx : ev T x = some (.map (some b))) [hh : HasM H b ke ve m] (ha2 : at' = #[t, t2]) [ht : MapT P t kt et] [kl : KeyT P kt ke] (hy : ev T y = some uk) [hk : KeyV ke uk k] [hu : UpdK H b (mp ke ve m) (mp ke ve (mdel m k)) H'] : D P B n w0 ⟨d, .call ⟨.builtin .delete, #[x, y], at'⟩, ty, ps, af, g⟩ T H (fun _ : Unit => undef) (fun _ => H') := .of fun a w hf hm => by
  obtain ⟨S, s, _⟩ := hm.sat.mem hh.mem
  have ha : at'[0]? = some t := by rw [ha2]; rfl
  obtain ⟨o, h1, _⟩ := run_mdel (P := P) (t := t) (k := k) (ty := ty) ha s
  have : (execOp a.eval ⟨d, .call ⟨.builtin .delete, #[x, y], at'⟩, ty, ps, af, g⟩).run P w = .ok (.value undef) { w with heap := w.heap.setIfInBounds b o } := by
    rw [hk.h] at h1
    simp [execOp, resolve, invoke, builtin, hf.ev hx, hf.ev hy, h1, undef]
  rw [this]
  refine ⟨(), rfl, hm.turnM hh hu fun S1 s1 => ?_⟩
  obtain ⟨o', h1', h2'⟩ := run_mdel (P := P) (t := t) (k := k) (ty := ty) ha s1
  have e : w.heap.setIfInBounds b o' = w.heap.setIfInBounds b o := by
    rw [h1] at h1'
    have := (Result.ok.inj h1').2
    exact (congrArg World.heap this).symm
  rw [e] at h2'
  exact h2'
/-! ### Going through a map -/
theorem d_range (hx : ev T x = some (.map (some b))) [hh : HasM H b ke ve m] [ht : MapT P t kt et] : D P B n w0 ⟨d, .range t x, ty, ps, af, g⟩ T H (fun i : { r : Nat // m.Ok } => .pointer (some ⟨i.1, 0, none⟩)) (fun i => ⟨i.1, itr b m.c [] m.c⟩ :: H) := .of fun a w hf hm => by
  obtain ⟨S, ⟨⟨⟨es, hb, h1⟩, ho⟩, hS⟩, _⟩ := hm.sat.mem hh.mem
  have : (execOp a.eval ⟨d, .range t x, ty, ps, af, g⟩).run P w = .ok (.value (.pointer (some ⟨w.heap.size, 0, none⟩))) (w.alloc (.mapIter (some b) m.c #[] m.c)) := by
    simp [execOp, Instr.range, hf.ev hx, run_underlying ht.u, MapKept.run_getObj_map hb]
  rw [this]
  refine ⟨⟨w.heap.size, ho⟩, rfl, ?_⟩
  exact hm.call_more (R := [⟨w.heap.size, itr b m.c [] m.c⟩]) ((Below.refl _ _).alloc (Nat.le_refl _) _) ⟨fun i => i = w.heap.size, ⟨⟨(MapKept.heap_alloc w _).1, Nat.le_refl _⟩, fun _ => Iff.rfl⟩, fun i hi => by rw [hi]; exact Nat.le_refl _, trivial⟩
/-- What comes next. -/
def Nx (m : MS κ ν) (seen : List Nat) : Option (κ × ν × Nat) → Prop
  | none => ∀ p ∈ m.l, p.2.2 ∈ seen
  | some p => p ∈ m.l ∧ p.2.2 ∉ seen
def nxV (ke : κ → Value) (ve : ν → Value) : Option (κ × ν × Nat) → Value
  | none => .tuple #[.bool false]
  | some p => .tuple #[.bool true, ke p.1, ve p.2.1]
def nxH (H H' : Nat → List Blk) : Option (κ × ν × Nat) → List Blk
  | none => H 0
  | some p => H' p.2.2
theorem d_next {r since last : Nat} {seen : List Nat} {H' : Nat → List Blk} (hx : ev T x = some (.pointer (some ⟨r, 0, none⟩))) [hi : HasI H r b since seen last] [hh : HasM H b ke ve m] (ho : ∀ p ∈ m.l, p.2.2 < since) [hu : ∀ bn, UpdK H r (itr b since seen last) (itr b since (seen ++ [bn]) m.c) (H' bn)] (hc : since ≤ m.c) :
    D P B n w0 ⟨d, .next x false, ty, ps, af, g⟩ T H (fun i : { p // Nx m seen p } => nxV ke ve i.1) (fun i => nxH (fun _ => H) H' i.1) := .of fun a w hf hm => by
  obtain ⟨S, ⟨⟨⟨es, hb, h1⟩, hk⟩, hS⟩, _⟩ := hm.sat.mem hh.mem
  obtain ⟨S', ⟨⟨hr, hl⟩, hS'⟩, _⟩ := hm.sat.mem hi.mem
  rcases run_next_at (P := P) w ty r b since last seen.toArray es m.c hr hb (fun e he => by
      obtain ⟨p, hp, _, _, e3⟩ := keys_of h1 e he
      rw [e3]; exact ho p hp) hl with ⟨h0, h2⟩ | ⟨e, he, w1, hw1, h2⟩
  · have : (execOp a.eval ⟨d, .next x false, ty, ps, af, g⟩).run P w = .ok (.value (.tuple #[.bool false])) w := by
      simp [execOp, hf.ev hx, h2]
    rw [this]
    refine ⟨⟨none, fun p hp => ?_⟩, rfl, hm⟩
    obtain ⟨e, he, _, _, e3⟩ := ents_of h1 p hp
    unfold leftOf at h0
    have h3 : es.filter (fun e => !seen.toArray.contains e.born) = #[] := Array.eq_empty_of_size_eq_zero h0
    rw [Array.filter_eq_empty_iff] at h3
    have := h3 e (Array.mem_toList_iff.1 he)
    rw [← e3]
    simpa using this
  · have hrun : (execOp a.eval ⟨d, .next x false, ty, ps, af, g⟩).run P w = .ok (.value (.tuple #[.bool true, e.key, e.val])) (ChangeMaps.setBlock w1 r (.mapIter (some b) since (seen.toArray.push e.born) m.c)) := by
      simp [execOp, hf.ev hx, h2]
    rw [hrun]
    have hin : e ∈ es.toList ∧ e.born ∉ seen := by
      unfold leftOf at he
      simpa using he
    obtain ⟨p, hp, e1, e2, e3⟩ := keys_of h1 e hin.1
    have hm1 : Mem B w0 w1 H := by
      rcases hw1 with rfl | rfl
      · exact hm
      · exact hm.drew
    refine ⟨⟨some p, hp, by rw [← e3]; exact hin.2⟩, by simp [nxV, e1, e2], ?_⟩
    refine hm1.updK (hu p.2.2) (by simp [ChangeMaps.setBlock]) (fun S1 s1 => ?_) rfl rfl rfl
    have hlt := (Array.getElem?_eq_some_iff.1 s1.1.1).1
    refine ⟨⟨S1, ⟨⟨?_, hc⟩, s1.2⟩, fun _ h => .inl h⟩, fun i _ hn => ?_⟩
    · simp [ChangeMaps.setBlock, hlt, e3]
    · have hne : i ≠ r := fun q => hn ((s1.2 i).2 q)
      simp [ChangeMaps.setBlock, Ne.symm hne]
theorem y_entry {r since last bn : Nat} {seen : List Nat} (hx : ev T x = some (.pointer (some ⟨r, 0, none⟩))) [hi : HasI H r b since (seen ++ [bn]) last] [hh : HasM H b ke ve m] (hc : last = m.c) (hp : (k, v, bn) ∈ m.l) : Y P B n w0 ⟨d, .entry x, ty, ps, af, g⟩ T H (.tuple #[ke k, ve v]) := .of fun a w hf hm => by
  obtain ⟨S, ⟨⟨⟨es, hb, h1⟩, hk⟩, hS⟩, _⟩ := hm.sat.mem hh.mem
  obtain ⟨S', ⟨⟨hr, hl⟩, hS'⟩, _⟩ := hm.sat.mem hi.mem
  obtain ⟨e, he, e1, e2, e3⟩ := ents_of h1 _ hp
  subst hc
  have hn : (es.toList.map (·.born)).Nodup := by
    have h3 : es.toList.map (·.born) = m.l.map (·.2.2) := by
      have := congrArg (List.map (fun q : Value × Value × Nat => q.2.2)) h1
      simpa [List.map_map, Function.comp_def] using this
    rw [h3]
    exact hk.asc.imp fun h => by omega
  have := run_entry_at (P := P) w r b since seen.toArray es m.c e (by rw [hr]; simp [e3]) hb he hn
  simp [execOp, hf.ev hx, this, e1, e2]
end
end Sl
end Go.Proofs.Ytiolijpamidpfaa
