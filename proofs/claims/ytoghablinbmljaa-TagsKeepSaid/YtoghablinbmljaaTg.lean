/-
  The pool of tags: what it is, what its calls do. No conditions beyond those in each statement.
-/
import Derived.Test.YtoghablinbmljaaSlMy
namespace Go.Proofs.Ytoghablinbmljaa
open Go.RowKit
set_option linter.unusedVariables false
namespace Tg
open Sl
/-- A key: who sends, who is best, who may be chosen. -/
abbrev K3 := Int × Int × Int
abbrev kcs (k : K3) : List Value := [.int .i64 k.1, .int .i64 k.2.1, .int .i64 k.2.2]
abbrev kd : K3 → Value := fun k => .agg (kcs k).toArray
abbrev ki : Int → Value := fun i => .int .i64 i
theorem kcs_inj : ∀ x y : K3, kcs x = kcs y → x = y := fun x y h => by
  obtain ⟨a, b, c⟩ := x
  obtain ⟨a', b', c'⟩ := y
  simp only [kcs, List.cons.injEq, Value.int.injEq, true_and, and_true] at h
  rw [h.1, h.2.1, h.2.2]
instance keyD : KeyT Try.prog 30 kd := cells_key kcs (fun _ => rfl) kcs_inj
instance keyN : KeyT Try.prog 3 ki := int_key Try.underlying3
instance : MapT Try.prog 35 30 3 := ⟨by kernel_rfl⟩
instance : MapT Try.prog 47 3 30 := ⟨by kernel_rfl⟩
instance : MapT Try.prog 48 3 3 := ⟨by kernel_rfl⟩
instance : ZeroM Try.prog 3 ki 0 := ⟨by kernel_rfl⟩
instance : ZeroM Try.prog 30 kd (0, 0, 0) := ⟨by kernel_rfl⟩
instance : MapE Try.prog 35 kd ki := ⟨trivial⟩
instance : MapE Try.prog 47 ki kd := ⟨trivial⟩
instance : MapE Try.prog 48 ki ki := ⟨trivial⟩
instance kvD (a b c : Int) : KeyV kd (.agg #[.int .i64 a, .int .i64 b, .int .i64 c]) (a, b, c) := ⟨rfl⟩
instance kvN (i : Int) : KeyV ki (.int .i64 i) i := ⟨rfl⟩
/-- The pool's maps. -/
structure Ps where
  cap : Int
  by_ : MS K3 Int
  keys : MS Int K3
  uses : MS Int Int
/-- Which key a tag is of, and for how many prefixes. -/
abbrev Tags := Int → Option (K3 × Int)
def use (A : Tags) (t : Int) : Int := ((A t).map (·.2)).getD 0
def upd (A : Tags) (t : Int) (v : Option (K3 × Int)) : Tags := fun x => if t = x then v else A x
structure Inv (most : Int) (A : Tags) (s : Ps) : Prop where
  cap : s.cap = most
  keys : ∀ t, mget s.keys t = (A t).map (·.1)
  uses : ∀ t, (mget s.uses t).getD 0 = use A t
  by_ : ∀ k t, mget s.by_ k = some t ↔ ∃ u, A t = some (k, u)
  dom : ∀ t, (A t).isSome → 0 ≤ t ∧ t < most
  okK : s.keys.Ok
  okU : s.uses.Ok
  okB : s.by_.Ok
abbrev PI (most : Int) (A : Tags) := { i : Nat × Nat × Nat × Ps // Inv most A i.2.2.2 }
abbrev PB (most : Int) (A : Tags) (b : Nat) (i : PI most A) : List Blk := [⟨b, cells [.int .i64 i.1.2.2.2.cap, .map (some i.1.1), .map (some i.1.2.1), .map (some i.1.2.2.1)] 50⟩, ⟨i.1.2.2.1, mp ki ki i.1.2.2.2.uses⟩, ⟨i.1.2.1, mp ki kd i.1.2.2.2.keys⟩, ⟨i.1.1, mp kd ki i.1.2.2.2.by_⟩]
/-- A pool of one's own. -/
def pl (most : Int) (A : Tags) : Kind := grp (PB most A)
theorem fold {S : Foot} {w w' : World} {most : Int} {A : Tags} {b b1 b2 b3 : Nat} {s : Ps} {H : List Blk} (hm : Mem S w w' H) (hp : [⟨b, cells [.int .i64 s.cap, .map (some b1), .map (some b2), .map (some b3)] 50⟩, ⟨b3, mp ki ki s.uses⟩, ⟨b2, mp ki kd s.keys⟩, ⟨b1, mp kd ki s.by_⟩].Sublist H) (hi : Inv most A s) : Mem S w w' [⟨b, pl most A⟩] :=
  Mem.fold_grp (L := PB most A) (i := ⟨(b1, b2, b3, s), hi⟩) (R := []) (by simpa using hm.sub hp)
theorem unfoldC {most : Int} {A : Tags} {b : Nat} {f : FuncId} {args : List Value} {ι : Type} {V : ι → Value} {G : ι → List Blk}
    (h : ∀ (b1 b2 b3 : Nat) (s : Ps), Inv most A s → Con Try.prog f args (fun _ _ => True) [⟨b, cells [.int .i64 s.cap, .map (some b1), .map (some b2), .map (some b3)] 50⟩, ⟨b3, mp ki ki s.uses⟩, ⟨b2, mp ki kd s.keys⟩, ⟨b1, mp kd ki s.by_⟩] V G) : Con Try.prog f args (fun _ _ => True) [⟨b, pl most A⟩] V G :=
  Con.pre (L := PB most A) (R := []) fun ⟨⟨b1, b2, b3, s⟩, hi⟩ => h b1 b2 b3 s hi
theorem Inv.empty (most : Int) : Inv most (fun _ => none) ⟨most, mempty, mempty, mempty⟩ := ⟨rfl, fun _ => rfl, fun _ => rfl, fun k t => by simp [mget_empty], fun t h => by simp at h, .empty, .empty, .empty⟩
theorem Inv.inj {most : Int} {A : Tags} {s : Ps} (h : Inv most A s) {t x : Int} {k : K3} {u v : Int} (ha : A t = some (k, u)) (hb : A x = some (k, v)) : t = x := by
  have h1 := (h.by_ k t).2 ⟨u, ha⟩
  have h2 := (h.by_ k x).2 ⟨v, hb⟩
  rw [h1] at h2
  exact Option.some.inj h2
theorem Inv.freed {most : Int} {A : Tags} {s : Ps} (h : Inv most A s) {t : Int} {k : K3} {u : Int} (ha : A t = some (k, u)) : Inv most (upd A t none) ⟨s.cap, mdel s.by_ k, mdel s.keys t, mdel s.uses t⟩ := by
  refine ⟨h.cap, fun x => ?_, fun x => ?_, fun k' x => ?_, fun x hx => ?_, h.okK.del _, h.okU.del _, h.okB.del _⟩
  · rw [mget_mdel h.okK]
    unfold upd
    split
    · rfl
    · exact h.keys x
  · rw [mget_mdel h.okU]
    unfold use upd
    split
    · rfl
    · exact h.uses x
  · rw [mget_mdel h.okB]
    unfold upd
    by_cases hk : k = k'
    · subst hk
      simp only [if_true]
      constructor
      · intro h; cases h
      · rintro ⟨v, hv⟩
        split at hv
        · cases hv
        · exact absurd (h.inj ha hv) ‹_›
    · rw [if_neg hk, h.by_ k' x]
      constructor
      · rintro ⟨v, hv⟩
        refine ⟨v, ?_⟩
        rw [if_neg]
        · exact hv
        · intro e
          rw [← e, ha] at hv
          exact hk (congrArg (·.1) (Option.some.inj hv))
      · rintro ⟨v, hv⟩
        split at hv
        · cases hv
        · exact ⟨v, hv⟩
  · unfold upd at hx
    split at hx
    · cases hx
    · exact h.dom x hx
theorem Inv.used {most : Int} {A : Tags} {s : Ps} (h : Inv most A s) {t : Int} {k : K3} {u : Int} (ha : A t = some (k, u)) (v : Int) : Inv most (upd A t (some (k, v))) ⟨s.cap, s.by_, s.keys, mput s.uses t v⟩ := by
  refine ⟨h.cap, fun x => ?_, fun x => ?_, fun k' x => ?_, fun x hx => ?_, h.okK, h.okU.put _ _, h.okB⟩
  · rw [h.keys x]
    unfold upd
    split
    · rename_i e
      rw [← e, ha]
      rfl
    · rfl
  · rw [mget_mput]
    unfold use upd
    split
    · rfl
    · exact h.uses x
  · rw [h.by_ k' x]
    unfold upd
    by_cases e : t = x
    · subst e
      simp [ha]
    · simp [e]
  · unfold upd at hx
    split at hx
    · rename_i e
      rw [← e]
      exact h.dom t (by rw [ha]; rfl)
    · exact h.dom x hx
theorem Inv.new {most : Int} {A : Tags} {s : Ps} (h : Inv most A s) {t : Int} {k : K3} (h0 : 0 ≤ t) (h1 : t < most) (ha : A t = none) (hk : ∀ x u, A x ≠ some (k, u)) (v : Int) : Inv most (upd A t (some (k, v))) ⟨s.cap, mput s.by_ k t, mput s.keys t k, mput s.uses t v⟩ := by
  refine ⟨h.cap, fun x => ?_, fun x => ?_, fun k' x => ?_, fun x hx => ?_, h.okK.put _ _, h.okU.put _ _, h.okB.put _ _⟩
  · rw [mget_mput]
    unfold upd
    split
    · rfl
    · exact h.keys x
  · rw [mget_mput]
    unfold use upd
    split
    · rfl
    · exact h.uses x
  · rw [mget_mput]
    unfold upd
    by_cases e : k = k'
    · subst e
      rw [if_pos rfl]
      constructor
      · intro h; obtain rfl := Option.some.inj h; exact ⟨v, by simp⟩
      · rintro ⟨u, hu⟩
        split at hu
        · rename_i e; rw [e]
        · exact absurd hu (hk x u)
    · rw [if_neg e, h.by_ k' x]
      constructor
      · rintro ⟨u, hu⟩
        refine ⟨u, ?_⟩
        rw [if_neg]
        · exact hu
        · intro e2
          rw [← e2, ha] at hu
          cases hu
      · rintro ⟨u, hu⟩
        split at hu
        · exact absurd (congrArg (·.1) (Option.some.inj hu)) e
        · exact ⟨u, hu⟩
  · unfold upd at hx
    split at hx
    · rename_i e
      rw [← e]
      exact ⟨h0, h1⟩
    · exact h.dom x hx
/-- How many tags are some key's. -/
def cnt (most : Int) (A : Tags) : Nat := ((List.range most.toNat).filter fun t : Nat => (A (t : Int)).isSome).length
theorem Inv.len {most : Int} {A : Tags} {s : Ps} (h : Inv most A s) : s.keys.l.length = cnt most A := by
  unfold cnt
  have h1 : (s.keys.l.map (·.1)).Perm (((List.range most.toNat).filter fun t : Nat => (A (t : Int)).isSome).map Int.ofNat) := by
    refine (List.perm_ext_iff_of_nodup h.okK.nd ?_).2 fun x => ?_
    · have := (List.nodup_range (n := most.toNat)).filter (fun t : Nat => (A (t : Int)).isSome)
      exact List.Pairwise.map _ (fun a b hab e => hab (Int.ofNat.inj e)) this
    · simp only [List.mem_map, List.mem_filter, List.mem_range]
      constructor
      · rintro ⟨⟨t, k, bn⟩, hp, rfl⟩
        have h2 := mem_mget h.okK hp
        rw [h.keys t] at h2
        have h3 : (A t).isSome := by
          cases e : A t with
          | none => rw [e] at h2; cases h2
          | some v => rfl
        obtain ⟨a, b⟩ := h.dom t h3
        refine ⟨t.toNat, ⟨by omega, ?_⟩, by simp only [Int.ofNat_eq_natCast]; omega⟩
        rw [Int.toNat_of_nonneg a]
        exact h3
      · rintro ⟨j, ⟨hj, h3⟩, rfl⟩
        obtain ⟨v, hv⟩ := Option.isSome_iff_exists.1 h3
        have h2 : mget s.keys (j : Int) = some v.1 := by rw [h.keys, hv]; rfl
        obtain ⟨bn, hb⟩ := mget_in h2
        exact ⟨_, hb, rfl⟩
  have := h1.length_eq
  simpa using this

section
variable {P : Program} {B : Foot} {n : Nat} {w0 : World} {T : Tm} {R : List Blk} {b : Nat} {Q : Exit → Act → World → Prop} {ops : Array Oper} {l : List Oper} {most : Int} {A : Tags}
theorem openW (h : ∀ (b1 b2 b3 : Nat) (s : Ps), Inv most A s → W P B n w0 ops Q l T (⟨b, cells [.int .i64 s.cap, .map (some b1), .map (some b2), .map (some b3)] 50⟩ :: ⟨b3, mp ki ki s.uses⟩ :: ⟨b2, mp ki kd s.keys⟩ :: ⟨b1, mp kd ki s.by_⟩ :: R)) : W P B n w0 ops Q l T (⟨b, pl most A⟩ :: R) := w_open (L := PB most A) fun ⟨⟨b1, b2, b3, s⟩, hi⟩ => h b1 b2 b3 s hi
theorem foldW {b1 b2 b3 : Nat} {s : Ps} (hi : Inv most A s) (h : W P B n w0 ops Q l T (⟨b, pl most A⟩ :: R)) : W P B n w0 ops Q l T (⟨b, cells [.int .i64 s.cap, .map (some b1), .map (some b2), .map (some b3)] 50⟩ :: ⟨b3, mp ki ki s.uses⟩ :: ⟨b2, mp ki kd s.keys⟩ :: ⟨b1, mp kd ki s.by_⟩ :: R) := w_fold (L := PB most A) ⟨(b1, b2, b3, s), hi⟩ h
end

theorem new_bad {m : Int} (h : m < 0 ∨ 256 < m) (w : World) : Ret Try.prog 7 [.int .i64 m] w (.tuple #[.pointer none, .int .i64 1]) := by
  refine .of (enter Try.func7 rfl Try.ntmps7 (by simp) ?_)
  repeat' (first | (apply isC; first | apply c_seq | apply c_block | apply c_skip | apply c_exit | apply c_ret | (apply isCrg; apply c_rg; intro oPs qQ dD hQ) | (apply isCcond; first | refine c_cond_t rfl ?_ | refine c_cond_f rfl ?_ | (refine c_test rfl (fun hyes => ?_) (fun hno => ?_) <;> first | (exfalso; omega) | exact absurd rfl hyes | exact absurd rfl hno | exact absurd Iff.rfl hyes | exact absurd Iff.rfl hno | exact absurd (eqc_same _) hyes | exact absurd (eqc_same _) hno | exact absurd (by decide) hyes | exact absurd (by decide) hno | skip)) | (apply isCdr; first | (refine c_dr [] ?_; intro oPs qQ dD hQ) | (refine c_tl [] ?_; intro oPs qQ dD hQ; dsimp only [takeQ, dropQ, isEff, cond_true, cond_false, List.contains_nil, List.contains_cons, List.elem_nil, Bool.or_false, Nat.reduceBEq, Bool.or_true]))) | (apply isE; first | (apply e_hq; clear hQ qQ dD oPs) | apply e_seq | apply e_then_exit | apply e_then_ret | apply e_in_normal | apply e_in_ret | apply e_in_same | refine e_in_other rfl ?_) | (apply isW; first | apply w_nil | (apply isW0; first | (apply isWc; first | (refine w_d wn_a (by exact d_b) rfl (by decide) ?_; intro _)) | refine w_y0 (by exact y_b) (by decide) ?_ | (refine w_d wn_a (by exact d_b) rfl (by decide) ?_; intro _)) | (apply isWn; first | (refine w_d0 wn_a (by exact d_b) rfl ?_; first | (intro (uu : Unit); clear uu) | intro _)) | (apply isWg; first | (apply isWc; first | (refine w_d wn_a (by exact d_b) rfl (by decide) ?_; intro _)) | refine w_y (by exact wn_d rfl rfl rfl) (by exact y_b) rfl (by decide) ?_ | refine w_skipD rfl rfl rfl rfl (by decide) ?_ | refine w_skip0D rfl rfl rfl rfl ?_ | refine w_skipU rfl rfl rfl (by decide) ?_ | refine w_skip0U rfl rfl rfl ?_ | (refine w_d wn_a (by exact d_b) rfl (by decide) ?_; intro _) | (refine w_d0 wn_a (by exact d_b) rfl ?_; first | (intro (uu : Unit); clear uu) | intro _) | (refine w_splitD rfl rfl rfl (fun hyes => ?_) (fun hno => ?_) <;> first | (exfalso; omega) | exact absurd rfl hyes | exact absurd rfl hno | exact absurd Iff.rfl hyes | exact absurd Iff.rfl hno | exact absurd (eqc_same _) hyes | exact absurd (eqc_same _) hno | exact absurd (by decide) hyes | exact absurd (by decide) hno | skip))) | (apply isQ; first | apply q_nil | (apply isQ0; first | refine q_y0 (by exact y_b) (by decide) ?_) | (apply isQg; first | refine q_y (by exact wn_d rfl rfl rfl) (by exact y_b) rfl (by decide) ?_ | refine q_skipD rfl rfl rfl rfl (by decide) ?_ | refine q_skipU rfl rfl rfl (by decide) ?_ | (refine q_splitD rfl rfl rfl (fun hyes => ?_) (fun hno => ?_) <;> first | (exfalso; omega) | exact absurd rfl hyes | exact absurd rfl hno | exact absurd Iff.rfl hyes | exact absurd Iff.rfl hno | exact absurd (eqc_same _) hyes | exact absurd (eqc_same _) hno | exact absurd (by decide) hyes | exact absurd (by decide) hno | skip))))
  all_goals exact post2 (.inl rfl) rfl (res_tmp rfl) (res_tmp rfl) fun _ hm => ⟨rfl, hm.below⟩
theorem new_ok {m : Int} (h0 : 0 ≤ m) (h1 : m ≤ 256) : Con Try.prog 7 [.int .i64 m] (fun _ _ => True) [] (fun b : Nat => .tuple #[.pointer (some ⟨b, 0, none⟩), .int .i64 0]) (fun b => [⟨b, pl m (fun _ => none)⟩]) := by
  refine enterC Try.func7 rfl Try.ntmps7 (by simp) fun w S hp => ?_
  repeat' (first | (apply isC; first | apply c_seq | apply c_block | apply c_skip | apply c_exit | apply c_ret | (apply isCrg; apply c_rg; intro oPs qQ dD hQ) | (apply isCcond; first | refine c_cond_t rfl ?_ | refine c_cond_f rfl ?_ | (refine c_test rfl (fun hyes => ?_) (fun hno => ?_) <;> first | (exfalso; omega) | exact absurd rfl hyes | exact absurd rfl hno | exact absurd Iff.rfl hyes | exact absurd Iff.rfl hno | exact absurd (eqc_same _) hyes | exact absurd (eqc_same _) hno | exact absurd (by decide) hyes | exact absurd (by decide) hno | skip)) | (apply isCdr; first | (refine c_dr [] ?_; intro oPs qQ dD hQ) | (refine c_tl [] ?_; intro oPs qQ dD hQ; dsimp only [takeQ, dropQ, isEff, cond_true, cond_false, List.contains_nil, List.contains_cons, List.elem_nil, Bool.or_false, Nat.reduceBEq, Bool.or_true]))) | (apply isE; first | (apply e_hq; clear hQ qQ dD oPs) | apply e_seq | apply e_then_exit | apply e_then_ret | apply e_in_normal | apply e_in_ret | apply e_in_same | refine e_in_other rfl ?_) | (apply isW; first | apply w_nil | (apply isW0; first | (apply isWc; first | (refine w_d wn_a (by exact d_b) rfl (by decide) ?_; intro _)) | refine w_y0 (by exact y_b) (by decide) ?_ | (refine w_d wn_a (by exact d_b) rfl (by decide) ?_; intro _)) | (apply isWn; first | (refine w_d0 wn_a (by exact d_b) rfl ?_; first | (intro (uu : Unit); clear uu) | intro _)) | (apply isWg; first | (apply isWc; first | (refine w_d wn_a (by exact d_b) rfl (by decide) ?_; intro _)) | refine w_y (by exact wn_d rfl rfl rfl) (by exact y_b) rfl (by decide) ?_ | refine w_skipD rfl rfl rfl rfl (by decide) ?_ | refine w_skip0D rfl rfl rfl rfl ?_ | refine w_skipU rfl rfl rfl (by decide) ?_ | refine w_skip0U rfl rfl rfl ?_ | (refine w_d wn_a (by exact d_b) rfl (by decide) ?_; intro _) | (refine w_d0 wn_a (by exact d_b) rfl ?_; first | (intro (uu : Unit); clear uu) | intro _) | (refine w_splitD rfl rfl rfl (fun hyes => ?_) (fun hno => ?_) <;> first | (exfalso; omega) | exact absurd rfl hyes | exact absurd rfl hno | exact absurd Iff.rfl hyes | exact absurd Iff.rfl hno | exact absurd (eqc_same _) hyes | exact absurd (eqc_same _) hno | exact absurd (by decide) hyes | exact absurd (by decide) hno | skip))) | (apply isQ; first | apply q_nil | (apply isQ0; first | refine q_y0 (by exact y_b) (by decide) ?_) | (apply isQg; first | refine q_y (by exact wn_d rfl rfl rfl) (by exact y_b) rfl (by decide) ?_ | refine q_skipD rfl rfl rfl rfl (by decide) ?_ | refine q_skipU rfl rfl rfl (by decide) ?_ | (refine q_splitD rfl rfl rfl (fun hyes => ?_) (fun hno => ?_) <;> first | (exfalso; omega) | exact absurd rfl hyes | exact absurd rfl hno | exact absurd Iff.rfl hyes | exact absurd Iff.rfl hno | exact absurd (eqc_same _) hyes | exact absurd (eqc_same _) hno | exact absurd (by decide) hyes | exact absurd (by decide) hno | skip))))
  rename_i b1 b2 b3 b
  exact post2 (.inl rfl) rfl (res_tmp rfl) (res_tmp rfl) fun _ hm => ⟨b, rfl, fold (s := ⟨m, mempty, mempty, mempty⟩) hm (.refl _) (Inv.empty m)⟩

theorem free_raw {b b1 b2 b3 : Nat} {s : Ps} {t : Int} {k : K3} (e : (mget s.keys t).getD (0, 0, 0) = k) : Con Try.prog 15 [.pointer (some ⟨b, 0, none⟩), .int .i64 t] (fun _ _ => True) [⟨b, cells [.int .i64 s.cap, .map (some b1), .map (some b2), .map (some b3)] 50⟩, ⟨b3, mp ki ki s.uses⟩, ⟨b2, mp ki kd s.keys⟩, ⟨b1, mp kd ki s.by_⟩] (fun _ : Unit => .tuple #[]) (fun _ => [⟨b, cells [.int .i64 s.cap, .map (some b1), .map (some b2), .map (some b3)] 50⟩, ⟨b3, mp ki ki (mdel s.uses t)⟩, ⟨b2, mp ki kd (mdel s.keys t)⟩, ⟨b1, mp kd ki (mdel s.by_ k)⟩]) := by
  refine enterC Try.func15 rfl Try.ntmps15 (by simp) fun w S hp => ?_
  repeat' (first | (apply isC; first | apply c_seq | apply c_block | apply c_skip | apply c_exit | apply c_ret | (apply isCrg; apply c_rg; intro oPs qQ dD hQ) | (apply isCcond; first | refine c_cond_t rfl ?_ | refine c_cond_f rfl ?_ | (refine c_test rfl (fun hyes => ?_) (fun hno => ?_) <;> first | (exfalso; omega) | exact absurd rfl hyes | exact absurd rfl hno | exact absurd Iff.rfl hyes | exact absurd Iff.rfl hno | exact absurd (eqc_same _) hyes | exact absurd (eqc_same _) hno | exact absurd (by decide) hyes | exact absurd (by decide) hno | skip)) | (apply isCdr; first | (refine c_dr [] ?_; intro oPs qQ dD hQ) | (refine c_tl [] ?_; intro oPs qQ dD hQ; dsimp only [takeQ, dropQ, isEff, cond_true, cond_false, List.contains_nil, List.contains_cons, List.elem_nil, Bool.or_false, Nat.reduceBEq, Bool.or_true]))) | (apply isE; first | (apply e_hq; clear hQ qQ dD oPs) | apply e_seq | apply e_then_exit | apply e_then_ret | apply e_in_normal | apply e_in_ret | apply e_in_same | refine e_in_other rfl ?_) | (apply isW; first | apply w_nil | (apply isW0; first | (apply isWc; first | (refine w_d wn_a (by exact d_b) rfl (by decide) ?_; intro _)) | refine w_y0 (by exact y_b) (by decide) ?_ | (refine w_d wn_a (by exact d_b) rfl (by decide) ?_; intro _)) | (apply isWn; first | (refine w_d0 wn_a (by exact d_b) rfl ?_; first | (intro (uu : Unit); clear uu) | intro _)) | (apply isWg; first | (apply isWc; first | (refine w_d wn_a (by exact d_b) rfl (by decide) ?_; intro _)) | refine w_y (by exact wn_d rfl rfl rfl) (by exact y_b) rfl (by decide) ?_ | refine w_skipD rfl rfl rfl rfl (by decide) ?_ | refine w_skip0D rfl rfl rfl rfl ?_ | refine w_skipU rfl rfl rfl (by decide) ?_ | refine w_skip0U rfl rfl rfl ?_ | (refine w_d wn_a (by exact d_b) rfl (by decide) ?_; intro _) | (refine w_d0 wn_a (by exact d_b) rfl ?_; first | (intro (uu : Unit); clear uu) | intro _) | (refine w_splitD rfl rfl rfl (fun hyes => ?_) (fun hno => ?_) <;> first | (exfalso; omega) | exact absurd rfl hyes | exact absurd rfl hno | exact absurd Iff.rfl hyes | exact absurd Iff.rfl hno | exact absurd (eqc_same _) hyes | exact absurd (eqc_same _) hno | exact absurd (by decide) hyes | exact absurd (by decide) hno | skip))) | (apply isQ; first | apply q_nil | (apply isQ0; first | refine q_y0 (by exact y_b) (by decide) ?_) | (apply isQg; first | refine q_y (by exact wn_d rfl rfl rfl) (by exact y_b) rfl (by decide) ?_ | refine q_skipD rfl rfl rfl rfl (by decide) ?_ | refine q_skipU rfl rfl rfl (by decide) ?_ | (refine q_splitD rfl rfl rfl (fun hyes => ?_) (fun hno => ?_) <;> first | (exfalso; omega) | exact absurd rfl hyes | exact absurd rfl hno | exact absurd Iff.rfl hyes | exact absurd Iff.rfl hno | exact absurd (eqc_same _) hyes | exact absurd (eqc_same _) hno | exact absurd (by decide) hyes | exact absurd (by decide) hno | skip))))
  exact post0 (.inr rfl) rfl fun _ hm => ⟨(), rfl, by rw [e] at hm; exact hm⟩

theorem free_is {most : Int} {A : Tags} {b : Nat} {t : Int} {k : K3} {u : Int} (ha : A t = some (k, u)) : Con Try.prog 15 [.pointer (some ⟨b, 0, none⟩), .int .i64 t] (fun _ _ => True) [⟨b, pl most A⟩] (fun _ : Unit => .tuple #[]) (fun _ => [⟨b, pl most (upd A t none)⟩]) := by
  refine unfoldC fun b1 b2 b3 s hi => ?_
  have hK := hi.keys
  have hU := hi.uses
  have hC := hi.cap
  refine enterC Try.func15 rfl Try.ntmps15 (by simp) fun w S hp => ?_
  have e : (mget s.keys t).getD (0, 0, 0) = k := by rw [hK, ha]; rfl
  repeat' (first | (apply isC; first | apply c_seq | apply c_block | apply c_skip | apply c_exit | apply c_ret | (apply isCrg; apply c_rg; intro oPs qQ dD hQ) | (apply isCcond; first | refine c_cond_t rfl ?_ | refine c_cond_f rfl ?_ | (refine c_test rfl (fun hyes => ?_) (fun hno => ?_) <;> first | (exfalso; omega) | exact absurd rfl hyes | exact absurd rfl hno | exact absurd Iff.rfl hyes | exact absurd Iff.rfl hno | exact absurd (eqc_same _) hyes | exact absurd (eqc_same _) hno | exact absurd (by decide) hyes | exact absurd (by decide) hno | skip)) | (apply isCdr; first | (refine c_dr [] ?_; intro oPs qQ dD hQ) | (refine c_tl [] ?_; intro oPs qQ dD hQ; dsimp only [takeQ, dropQ, isEff, cond_true, cond_false, List.contains_nil, List.contains_cons, List.elem_nil, Bool.or_false, Nat.reduceBEq, Bool.or_true]))) | (apply isE; first | (apply e_hq; clear hQ qQ dD oPs) | apply e_seq | apply e_then_exit | apply e_then_ret | apply e_in_normal | apply e_in_ret | apply e_in_same | refine e_in_other rfl ?_) | (apply isW; first | apply w_nil | (apply isW0; first | (apply isWc; first | (refine w_d wn_a (by exact d_b) rfl (by decide) ?_; intro _)) | refine w_y0 (by exact y_b) (by decide) ?_ | (refine w_d wn_a (by exact d_b) rfl (by decide) ?_; intro _)) | (apply isWn; first | (refine w_d0 wn_a (by exact d_b) rfl ?_; first | (intro (uu : Unit); clear uu) | intro _)) | (apply isWg; first | (apply isWc; first | (refine w_d wn_a (by exact d_b) rfl (by decide) ?_; intro _)) | refine w_y (by exact wn_d rfl rfl rfl) (by exact y_b) rfl (by decide) ?_ | refine w_skipD rfl rfl rfl rfl (by decide) ?_ | refine w_skip0D rfl rfl rfl rfl ?_ | refine w_skipU rfl rfl rfl (by decide) ?_ | refine w_skip0U rfl rfl rfl ?_ | (refine w_d wn_a (by exact d_b) rfl (by decide) ?_; intro _) | (refine w_d0 wn_a (by exact d_b) rfl ?_; first | (intro (uu : Unit); clear uu) | intro _) | (refine w_splitD rfl rfl rfl (fun hyes => ?_) (fun hno => ?_) <;> first | (exfalso; omega) | exact absurd rfl hyes | exact absurd rfl hno | exact absurd Iff.rfl hyes | exact absurd Iff.rfl hno | exact absurd (eqc_same _) hyes | exact absurd (eqc_same _) hno | exact absurd (by decide) hyes | exact absurd (by decide) hno | skip))) | (apply isQ; first | apply q_nil | (apply isQ0; first | refine q_y0 (by exact y_b) (by decide) ?_) | (apply isQg; first | refine q_y (by exact wn_d rfl rfl rfl) (by exact y_b) rfl (by decide) ?_ | refine q_skipD rfl rfl rfl rfl (by decide) ?_ | refine q_skipU rfl rfl rfl (by decide) ?_ | (refine q_splitD rfl rfl rfl (fun hyes => ?_) (fun hno => ?_) <;> first | (exfalso; omega) | exact absurd rfl hyes | exact absurd rfl hno | exact absurd Iff.rfl hyes | exact absurd Iff.rfl hno | exact absurd (eqc_same _) hyes | exact absurd (eqc_same _) hno | exact absurd (by decide) hyes | exact absurd (by decide) hno | skip))))
  exact post0 (.inr rfl) rfl fun _ hm => ⟨(), rfl, fold (s := ⟨s.cap, mdel s.by_ ((mget s.keys t).getD (0, 0, 0)), mdel s.keys t, mdel s.uses t⟩) hm (by first | exact .refl _ | exact .cons _ (.refl _) | exact .cons _ (.cons _ (.refl _)) | exact .cons _ (.cons _ (.cons _ (.refl _)))) (by rw [e]; exact hi.freed ha)⟩

theorem give_no {most : Int} {A : Tags} {b : Nat} {t : Int} (h : use A t = 0) : Con Try.prog 9 [.pointer (some ⟨b, 0, none⟩), .int .i64 t] (fun _ _ => True) [⟨b, pl most A⟩] (fun _ : Unit => .int .i64 4) (fun _ => [⟨b, pl most A⟩]) := by
  refine unfoldC fun b1 b2 b3 s hi => ?_
  have hK := hi.keys
  have hU := hi.uses
  have hC := hi.cap
  refine enterC Try.func9 rfl Try.ntmps9 (by simp) fun w S hp => ?_
  have e := hU t
  repeat' (first | (apply isC; first | apply c_seq | apply c_block | apply c_skip | apply c_exit | apply c_ret | (apply isCrg; apply c_rg; intro oPs qQ dD hQ) | (apply isCcond; first | refine c_cond_t rfl ?_ | refine c_cond_f rfl ?_ | (refine c_test rfl (fun hyes => ?_) (fun hno => ?_) <;> first | (exfalso; omega) | exact absurd rfl hyes | exact absurd rfl hno | exact absurd Iff.rfl hyes | exact absurd Iff.rfl hno | exact absurd (eqc_same _) hyes | exact absurd (eqc_same _) hno | exact absurd (by decide) hyes | exact absurd (by decide) hno | skip)) | (apply isCdr; first | (refine c_dr [] ?_; intro oPs qQ dD hQ) | (refine c_tl [] ?_; intro oPs qQ dD hQ; dsimp only [takeQ, dropQ, isEff, cond_true, cond_false, List.contains_nil, List.contains_cons, List.elem_nil, Bool.or_false, Nat.reduceBEq, Bool.or_true]))) | (apply isE; first | (apply e_hq; clear hQ qQ dD oPs) | apply e_seq | apply e_then_exit | apply e_then_ret | apply e_in_normal | apply e_in_ret | apply e_in_same | refine e_in_other rfl ?_) | (apply isW; first | apply w_nil | (apply isW0; first | (apply isWc; first | (refine w_d wn_a (by exact d_b) rfl (by decide) ?_; intro _)) | refine w_y0 (by exact y_b) (by decide) ?_ | (refine w_d wn_a (by exact d_b) rfl (by decide) ?_; intro _)) | (apply isWn; first | (refine w_d0 wn_a (by exact d_b) rfl ?_; first | (intro (uu : Unit); clear uu) | intro _)) | (apply isWg; first | (apply isWc; first | (refine w_d wn_a (by exact d_b) rfl (by decide) ?_; intro _)) | refine w_y (by exact wn_d rfl rfl rfl) (by exact y_b) rfl (by decide) ?_ | refine w_skipD rfl rfl rfl rfl (by decide) ?_ | refine w_skip0D rfl rfl rfl rfl ?_ | refine w_skipU rfl rfl rfl (by decide) ?_ | refine w_skip0U rfl rfl rfl ?_ | (refine w_d wn_a (by exact d_b) rfl (by decide) ?_; intro _) | (refine w_d0 wn_a (by exact d_b) rfl ?_; first | (intro (uu : Unit); clear uu) | intro _) | (refine w_splitD rfl rfl rfl (fun hyes => ?_) (fun hno => ?_) <;> first | (exfalso; omega) | exact absurd rfl hyes | exact absurd rfl hno | exact absurd Iff.rfl hyes | exact absurd Iff.rfl hno | exact absurd (eqc_same _) hyes | exact absurd (eqc_same _) hno | exact absurd (by decide) hyes | exact absurd (by decide) hno | skip))) | (apply isQ; first | apply q_nil | (apply isQ0; first | refine q_y0 (by exact y_b) (by decide) ?_) | (apply isQg; first | refine q_y (by exact wn_d rfl rfl rfl) (by exact y_b) rfl (by decide) ?_ | refine q_skipD rfl rfl rfl rfl (by decide) ?_ | refine q_skipU rfl rfl rfl (by decide) ?_ | (refine q_splitD rfl rfl rfl (fun hyes => ?_) (fun hno => ?_) <;> first | (exfalso; omega) | exact absurd rfl hyes | exact absurd rfl hno | exact absurd Iff.rfl hyes | exact absurd Iff.rfl hno | exact absurd (eqc_same _) hyes | exact absurd (eqc_same _) hno | exact absurd (by decide) hyes | exact absurd (by decide) hno | skip))))
  exact post1 (.inl rfl) rfl (res_tmp rfl) fun _ hm => ⟨(), rfl, fold (s := s) hm (by first | exact .refl _ | exact .cons _ (.refl _) | exact .cons _ (.cons _ (.refl _)) | exact .cons _ (.cons _ (.cons _ (.refl _)))) hi⟩

theorem give_ok {most : Int} {A : Tags} {b : Nat} {t : Int} {k : K3} {u : Int} (ha : A t = some (k, u)) (h0 : 0 < u) (h1 : u < 4611686018427387904) : Con Try.prog 9 [.pointer (some ⟨b, 0, none⟩), .int .i64 t] (fun _ _ => True) [⟨b, pl most A⟩] (fun _ : Unit => .int .i64 0) (fun _ => [⟨b, pl most (upd A t (some (k, u - 1)))⟩]) := by
  refine unfoldC fun b1 b2 b3 s hi => ?_
  have hK := hi.keys
  have hU := hi.uses
  have hC := hi.cap
  refine enterC Try.func9 rfl Try.ntmps9 (by simp) fun w S hp => ?_
  have e := hU t
  have e2 : use A t = u := by unfold use; rw [ha]; rfl
  repeat' (first | (apply isC; first | apply c_seq | apply c_block | apply c_skip | apply c_exit | apply c_ret | (apply isCrg; apply c_rg; intro oPs qQ dD hQ) | (apply isCcond; first | refine c_cond_t rfl ?_ | refine c_cond_f rfl ?_ | (refine c_test rfl (fun hyes => ?_) (fun hno => ?_) <;> first | (exfalso; omega) | exact absurd rfl hyes | exact absurd rfl hno | exact absurd Iff.rfl hyes | exact absurd Iff.rfl hno | exact absurd (eqc_same _) hyes | exact absurd (eqc_same _) hno | exact absurd (by decide) hyes | exact absurd (by decide) hno | skip)) | (apply isCdr; first | (refine c_dr [] ?_; intro oPs qQ dD hQ) | (refine c_tl [] ?_; intro oPs qQ dD hQ; dsimp only [takeQ, dropQ, isEff, cond_true, cond_false, List.contains_nil, List.contains_cons, List.elem_nil, Bool.or_false, Nat.reduceBEq, Bool.or_true]))) | (apply isE; first | (apply e_hq; clear hQ qQ dD oPs) | apply e_seq | apply e_then_exit | apply e_then_ret | apply e_in_normal | apply e_in_ret | apply e_in_same | refine e_in_other rfl ?_) | (apply isW; first | apply w_nil | (apply isW0; first | (apply isWc; first | (refine w_d wn_a (by exact d_b) rfl (by decide) ?_; intro _)) | refine w_y0 (by exact y_b) (by decide) ?_ | (refine w_d wn_a (by exact d_b) rfl (by decide) ?_; intro _)) | (apply isWn; first | (refine w_d0 wn_a (by exact d_b) rfl ?_; first | (intro (uu : Unit); clear uu) | intro _)) | (apply isWg; first | (apply isWc; first | (refine w_d wn_a (by exact d_b) rfl (by decide) ?_; intro _)) | refine w_y (by exact wn_d rfl rfl rfl) (by exact y_b) rfl (by decide) ?_ | refine w_skipD rfl rfl rfl rfl (by decide) ?_ | refine w_skip0D rfl rfl rfl rfl ?_ | refine w_skipU rfl rfl rfl (by decide) ?_ | refine w_skip0U rfl rfl rfl ?_ | (refine w_d wn_a (by exact d_b) rfl (by decide) ?_; intro _) | (refine w_d0 wn_a (by exact d_b) rfl ?_; first | (intro (uu : Unit); clear uu) | intro _) | (refine w_splitD rfl rfl rfl (fun hyes => ?_) (fun hno => ?_) <;> first | (exfalso; omega) | exact absurd rfl hyes | exact absurd rfl hno | exact absurd Iff.rfl hyes | exact absurd Iff.rfl hno | exact absurd (eqc_same _) hyes | exact absurd (eqc_same _) hno | exact absurd (by decide) hyes | exact absurd (by decide) hno | skip))) | (apply isQ; first | apply q_nil | (apply isQ0; first | refine q_y0 (by exact y_b) (by decide) ?_) | (apply isQg; first | refine q_y (by exact wn_d rfl rfl rfl) (by exact y_b) rfl (by decide) ?_ | refine q_skipD rfl rfl rfl rfl (by decide) ?_ | refine q_skipU rfl rfl rfl (by decide) ?_ | (refine q_splitD rfl rfl rfl (fun hyes => ?_) (fun hno => ?_) <;> first | (exfalso; omega) | exact absurd rfl hyes | exact absurd rfl hno | exact absurd Iff.rfl hyes | exact absurd Iff.rfl hno | exact absurd (eqc_same _) hyes | exact absurd (eqc_same _) hno | exact absurd (by decide) hyes | exact absurd (by decide) hno | skip))))
  exact post1 (.inl rfl) rfl (res_tmp rfl) fun _ hm => ⟨(), rfl, fold (s := ⟨s.cap, s.by_, s.keys, mput s.uses t ((mget s.uses t).getD 0 - 1)⟩) hm (by first | exact .refl _ | exact .cons _ (.refl _) | exact .cons _ (.cons _ (.refl _)) | exact .cons _ (.cons _ (.cons _ (.refl _)))) (by rw [e, e2]; exact hi.used ha _)⟩

theorem key_is {most : Int} {A : Tags} {b : Nat} {t : Int} : Con Try.prog 12 [.pointer (some ⟨b, 0, none⟩), .int .i64 t] (fun _ _ => True) [⟨b, pl most A⟩] (fun _ : Unit => .tuple #[kd (((A t).map (·.1)).getD (0, 0, 0)), .bool (A t).isSome]) (fun _ => [⟨b, pl most A⟩]) := by
  refine unfoldC fun b1 b2 b3 s hi => ?_
  have hK := hi.keys
  have hU := hi.uses
  have hC := hi.cap
  refine enterC Try.func12 rfl Try.ntmps12 (by simp) fun w S hp => ?_
  have e := hK t
  have e2 : (A t).isSome = (mget s.keys t).isSome := by rw [e]; cases A t <;> rfl
  repeat' (first | (apply isC; first | apply c_seq | apply c_block | apply c_skip | apply c_exit | apply c_ret | (apply isCrg; apply c_rg; intro oPs qQ dD hQ) | (apply isCcond; first | refine c_cond_t rfl ?_ | refine c_cond_f rfl ?_ | (refine c_test rfl (fun hyes => ?_) (fun hno => ?_) <;> first | (exfalso; omega) | exact absurd rfl hyes | exact absurd rfl hno | exact absurd Iff.rfl hyes | exact absurd Iff.rfl hno | exact absurd (eqc_same _) hyes | exact absurd (eqc_same _) hno | exact absurd (by decide) hyes | exact absurd (by decide) hno | skip)) | (apply isCdr; first | (refine c_dr [] ?_; intro oPs qQ dD hQ) | (refine c_tl [] ?_; intro oPs qQ dD hQ; dsimp only [takeQ, dropQ, isEff, cond_true, cond_false, List.contains_nil, List.contains_cons, List.elem_nil, Bool.or_false, Nat.reduceBEq, Bool.or_true]))) | (apply isE; first | (apply e_hq; clear hQ qQ dD oPs) | apply e_seq | apply e_then_exit | apply e_then_ret | apply e_in_normal | apply e_in_ret | apply e_in_same | refine e_in_other rfl ?_) | (apply isW; first | apply w_nil | (apply isW0; first | (apply isWc; first | (refine w_d wn_a (by exact d_b) rfl (by decide) ?_; intro _)) | refine w_y0 (by exact y_b) (by decide) ?_ | (refine w_d wn_a (by exact d_b) rfl (by decide) ?_; intro _)) | (apply isWn; first | (refine w_d0 wn_a (by exact d_b) rfl ?_; first | (intro (uu : Unit); clear uu) | intro _)) | (apply isWg; first | (apply isWc; first | (refine w_d wn_a (by exact d_b) rfl (by decide) ?_; intro _)) | refine w_y (by exact wn_d rfl rfl rfl) (by exact y_b) rfl (by decide) ?_ | refine w_skipD rfl rfl rfl rfl (by decide) ?_ | refine w_skip0D rfl rfl rfl rfl ?_ | refine w_skipU rfl rfl rfl (by decide) ?_ | refine w_skip0U rfl rfl rfl ?_ | (refine w_d wn_a (by exact d_b) rfl (by decide) ?_; intro _) | (refine w_d0 wn_a (by exact d_b) rfl ?_; first | (intro (uu : Unit); clear uu) | intro _) | (refine w_splitD rfl rfl rfl (fun hyes => ?_) (fun hno => ?_) <;> first | (exfalso; omega) | exact absurd rfl hyes | exact absurd rfl hno | exact absurd Iff.rfl hyes | exact absurd Iff.rfl hno | exact absurd (eqc_same _) hyes | exact absurd (eqc_same _) hno | exact absurd (by decide) hyes | exact absurd (by decide) hno | skip))) | (apply isQ; first | apply q_nil | (apply isQ0; first | refine q_y0 (by exact y_b) (by decide) ?_) | (apply isQg; first | refine q_y (by exact wn_d rfl rfl rfl) (by exact y_b) rfl (by decide) ?_ | refine q_skipD rfl rfl rfl rfl (by decide) ?_ | refine q_skipU rfl rfl rfl (by decide) ?_ | (refine q_splitD rfl rfl rfl (fun hyes => ?_) (fun hno => ?_) <;> first | (exfalso; omega) | exact absurd rfl hyes | exact absurd rfl hno | exact absurd Iff.rfl hyes | exact absurd Iff.rfl hno | exact absurd (eqc_same _) hyes | exact absurd (eqc_same _) hno | exact absurd (by decide) hyes | exact absurd (by decide) hno | skip))))
  exact post2 (.inl rfl) rfl (by first | exact res_tmp rfl | exact res_cell rfl (by rfl) | exact res_cell1 rfl) (res_tmp rfl) fun _ hm => ⟨(), by rw [e2, ← e], fold (s := s) hm (by first | exact .refl _ | exact .cons _ (.refl _) | exact .cons _ (.cons _ (.refl _)) | exact .cons _ (.cons _ (.cons _ (.refl _)))) hi⟩

theorem len_is {most : Int} {A : Tags} {b : Nat}  : Con Try.prog 10 [.pointer (some ⟨b, 0, none⟩)] (fun _ _ => True) [⟨b, pl most A⟩] (fun _ : Unit => .int .i64 (cnt most A)) (fun _ => [⟨b, pl most A⟩]) := by
  refine unfoldC fun b1 b2 b3 s hi => ?_
  have hK := hi.keys
  have hU := hi.uses
  have hC := hi.cap
  refine enterC Try.func10 rfl Try.ntmps10 (by simp) fun w S hp => ?_
  have e := hi.len
  repeat' (first | (apply isC; first | apply c_seq | apply c_block | apply c_skip | apply c_exit | apply c_ret | (apply isCrg; apply c_rg; intro oPs qQ dD hQ) | (apply isCcond; first | refine c_cond_t rfl ?_ | refine c_cond_f rfl ?_ | (refine c_test rfl (fun hyes => ?_) (fun hno => ?_) <;> first | (exfalso; omega) | exact absurd rfl hyes | exact absurd rfl hno | exact absurd Iff.rfl hyes | exact absurd Iff.rfl hno | exact absurd (eqc_same _) hyes | exact absurd (eqc_same _) hno | exact absurd (by decide) hyes | exact absurd (by decide) hno | skip)) | (apply isCdr; first | (refine c_dr [] ?_; intro oPs qQ dD hQ) | (refine c_tl [] ?_; intro oPs qQ dD hQ; dsimp only [takeQ, dropQ, isEff, cond_true, cond_false, List.contains_nil, List.contains_cons, List.elem_nil, Bool.or_false, Nat.reduceBEq, Bool.or_true]))) | (apply isE; first | (apply e_hq; clear hQ qQ dD oPs) | apply e_seq | apply e_then_exit | apply e_then_ret | apply e_in_normal | apply e_in_ret | apply e_in_same | refine e_in_other rfl ?_) | (apply isW; first | apply w_nil | (apply isW0; first | (apply isWc; first | (refine w_d wn_a (by exact d_b) rfl (by decide) ?_; intro _)) | refine w_y0 (by exact y_b) (by decide) ?_ | (refine w_d wn_a (by exact d_b) rfl (by decide) ?_; intro _)) | (apply isWn; first | (refine w_d0 wn_a (by exact d_b) rfl ?_; first | (intro (uu : Unit); clear uu) | intro _)) | (apply isWg; first | (apply isWc; first | (refine w_d wn_a (by exact d_b) rfl (by decide) ?_; intro _)) | refine w_y (by exact wn_d rfl rfl rfl) (by exact y_b) rfl (by decide) ?_ | refine w_skipD rfl rfl rfl rfl (by decide) ?_ | refine w_skip0D rfl rfl rfl rfl ?_ | refine w_skipU rfl rfl rfl (by decide) ?_ | refine w_skip0U rfl rfl rfl ?_ | (refine w_d wn_a (by exact d_b) rfl (by decide) ?_; intro _) | (refine w_d0 wn_a (by exact d_b) rfl ?_; first | (intro (uu : Unit); clear uu) | intro _) | (refine w_splitD rfl rfl rfl (fun hyes => ?_) (fun hno => ?_) <;> first | (exfalso; omega) | exact absurd rfl hyes | exact absurd rfl hno | exact absurd Iff.rfl hyes | exact absurd Iff.rfl hno | exact absurd (eqc_same _) hyes | exact absurd (eqc_same _) hno | exact absurd (by decide) hyes | exact absurd (by decide) hno | skip))) | (apply isQ; first | apply q_nil | (apply isQ0; first | refine q_y0 (by exact y_b) (by decide) ?_) | (apply isQg; first | refine q_y (by exact wn_d rfl rfl rfl) (by exact y_b) rfl (by decide) ?_ | refine q_skipD rfl rfl rfl rfl (by decide) ?_ | refine q_skipU rfl rfl rfl (by decide) ?_ | (refine q_splitD rfl rfl rfl (fun hyes => ?_) (fun hno => ?_) <;> first | (exfalso; omega) | exact absurd rfl hyes | exact absurd rfl hno | exact absurd Iff.rfl hyes | exact absurd Iff.rfl hno | exact absurd (eqc_same _) hyes | exact absurd (eqc_same _) hno | exact absurd (by decide) hyes | exact absurd (by decide) hno | skip))))
  exact post1 (.inl rfl) rfl (res_tmp rfl) fun _ hm => ⟨(), by rw [e], fold (s := s) hm (by first | exact .refl _ | exact .cons _ (.refl _) | exact .cons _ (.cons _ (.refl _)) | exact .cons _ (.cons _ (.cons _ (.refl _)))) hi⟩

theorem uses_is {most : Int} {A : Tags} {b : Nat} {t : Int} : Con Try.prog 14 [.pointer (some ⟨b, 0, none⟩), .int .i64 t] (fun _ _ => True) [⟨b, pl most A⟩] (fun _ : Unit => .int .i64 (use A t)) (fun _ => [⟨b, pl most A⟩]) := by
  refine unfoldC fun b1 b2 b3 s hi => ?_
  have hK := hi.keys
  have hU := hi.uses
  have hC := hi.cap
  refine enterC Try.func14 rfl Try.ntmps14 (by simp) fun w S hp => ?_
  have e := hU t
  repeat' (first | (apply isC; first | apply c_seq | apply c_block | apply c_skip | apply c_exit | apply c_ret | (apply isCrg; apply c_rg; intro oPs qQ dD hQ) | (apply isCcond; first | refine c_cond_t rfl ?_ | refine c_cond_f rfl ?_ | (refine c_test rfl (fun hyes => ?_) (fun hno => ?_) <;> first | (exfalso; omega) | exact absurd rfl hyes | exact absurd rfl hno | exact absurd Iff.rfl hyes | exact absurd Iff.rfl hno | exact absurd (eqc_same _) hyes | exact absurd (eqc_same _) hno | exact absurd (by decide) hyes | exact absurd (by decide) hno | skip)) | (apply isCdr; first | (refine c_dr [] ?_; intro oPs qQ dD hQ) | (refine c_tl [] ?_; intro oPs qQ dD hQ; dsimp only [takeQ, dropQ, isEff, cond_true, cond_false, List.contains_nil, List.contains_cons, List.elem_nil, Bool.or_false, Nat.reduceBEq, Bool.or_true]))) | (apply isE; first | (apply e_hq; clear hQ qQ dD oPs) | apply e_seq | apply e_then_exit | apply e_then_ret | apply e_in_normal | apply e_in_ret | apply e_in_same | refine e_in_other rfl ?_) | (apply isW; first | apply w_nil | (apply isW0; first | (apply isWc; first | (refine w_d wn_a (by exact d_b) rfl (by decide) ?_; intro _)) | refine w_y0 (by exact y_b) (by decide) ?_ | (refine w_d wn_a (by exact d_b) rfl (by decide) ?_; intro _)) | (apply isWn; first | (refine w_d0 wn_a (by exact d_b) rfl ?_; first | (intro (uu : Unit); clear uu) | intro _)) | (apply isWg; first | (apply isWc; first | (refine w_d wn_a (by exact d_b) rfl (by decide) ?_; intro _)) | refine w_y (by exact wn_d rfl rfl rfl) (by exact y_b) rfl (by decide) ?_ | refine w_skipD rfl rfl rfl rfl (by decide) ?_ | refine w_skip0D rfl rfl rfl rfl ?_ | refine w_skipU rfl rfl rfl (by decide) ?_ | refine w_skip0U rfl rfl rfl ?_ | (refine w_d wn_a (by exact d_b) rfl (by decide) ?_; intro _) | (refine w_d0 wn_a (by exact d_b) rfl ?_; first | (intro (uu : Unit); clear uu) | intro _) | (refine w_splitD rfl rfl rfl (fun hyes => ?_) (fun hno => ?_) <;> first | (exfalso; omega) | exact absurd rfl hyes | exact absurd rfl hno | exact absurd Iff.rfl hyes | exact absurd Iff.rfl hno | exact absurd (eqc_same _) hyes | exact absurd (eqc_same _) hno | exact absurd (by decide) hyes | exact absurd (by decide) hno | skip))) | (apply isQ; first | apply q_nil | (apply isQ0; first | refine q_y0 (by exact y_b) (by decide) ?_) | (apply isQg; first | refine q_y (by exact wn_d rfl rfl rfl) (by exact y_b) rfl (by decide) ?_ | refine q_skipD rfl rfl rfl rfl (by decide) ?_ | refine q_skipU rfl rfl rfl (by decide) ?_ | (refine q_splitD rfl rfl rfl (fun hyes => ?_) (fun hno => ?_) <;> first | (exfalso; omega) | exact absurd rfl hyes | exact absurd rfl hno | exact absurd Iff.rfl hyes | exact absurd Iff.rfl hno | exact absurd (eqc_same _) hyes | exact absurd (eqc_same _) hno | exact absurd (by decide) hyes | exact absurd (by decide) hno | skip))))
  exact post1 (.inl rfl) rfl (res_tmp rfl) fun _ hm => ⟨(), by rw [← e], fold (s := s) hm (by first | exact .refl _ | exact .cons _ (.refl _) | exact .cons _ (.cons _ (.refl _)) | exact .cons _ (.cons _ (.cons _ (.refl _)))) hi⟩

theorem nil_give {t : Int} (w : World) : Ret Try.prog 9 [.pointer none, .int .i64 t] w (.int .i64 1) := by
  refine .of (enter Try.func9 rfl Try.ntmps9 (by simp) ?_)
  repeat' (first | (apply isC; first | apply c_seq | apply c_block | apply c_skip | apply c_exit | apply c_ret | (apply isCrg; apply c_rg; intro oPs qQ dD hQ) | (apply isCcond; first | refine c_cond_t rfl ?_ | refine c_cond_f rfl ?_ | (refine c_test rfl (fun hyes => ?_) (fun hno => ?_) <;> first | (exfalso; omega) | exact absurd rfl hyes | exact absurd rfl hno | exact absurd Iff.rfl hyes | exact absurd Iff.rfl hno | exact absurd (eqc_same _) hyes | exact absurd (eqc_same _) hno | exact absurd (by decide) hyes | exact absurd (by decide) hno | skip)) | (apply isCdr; first | (refine c_dr [] ?_; intro oPs qQ dD hQ) | (refine c_tl [] ?_; intro oPs qQ dD hQ; dsimp only [takeQ, dropQ, isEff, cond_true, cond_false, List.contains_nil, List.contains_cons, List.elem_nil, Bool.or_false, Nat.reduceBEq, Bool.or_true]))) | (apply isE; first | (apply e_hq; clear hQ qQ dD oPs) | apply e_seq | apply e_then_exit | apply e_then_ret | apply e_in_normal | apply e_in_ret | apply e_in_same | refine e_in_other rfl ?_) | (apply isW; first | apply w_nil | (apply isW0; first | (apply isWc; first | (refine w_d wn_a (by exact d_b) rfl (by decide) ?_; intro _)) | refine w_y0 (by exact y_b) (by decide) ?_ | (refine w_d wn_a (by exact d_b) rfl (by decide) ?_; intro _)) | (apply isWn; first | (refine w_d0 wn_a (by exact d_b) rfl ?_; first | (intro (uu : Unit); clear uu) | intro _)) | (apply isWg; first | (apply isWc; first | (refine w_d wn_a (by exact d_b) rfl (by decide) ?_; intro _)) | refine w_y (by exact wn_d rfl rfl rfl) (by exact y_b) rfl (by decide) ?_ | refine w_skipD rfl rfl rfl rfl (by decide) ?_ | refine w_skip0D rfl rfl rfl rfl ?_ | refine w_skipU rfl rfl rfl (by decide) ?_ | refine w_skip0U rfl rfl rfl ?_ | (refine w_d wn_a (by exact d_b) rfl (by decide) ?_; intro _) | (refine w_d0 wn_a (by exact d_b) rfl ?_; first | (intro (uu : Unit); clear uu) | intro _) | (refine w_splitD rfl rfl rfl (fun hyes => ?_) (fun hno => ?_) <;> first | (exfalso; omega) | exact absurd rfl hyes | exact absurd rfl hno | exact absurd Iff.rfl hyes | exact absurd Iff.rfl hno | exact absurd (eqc_same _) hyes | exact absurd (eqc_same _) hno | exact absurd (by decide) hyes | exact absurd (by decide) hno | skip))) | (apply isQ; first | apply q_nil | (apply isQ0; first | refine q_y0 (by exact y_b) (by decide) ?_) | (apply isQg; first | refine q_y (by exact wn_d rfl rfl rfl) (by exact y_b) rfl (by decide) ?_ | refine q_skipD rfl rfl rfl rfl (by decide) ?_ | refine q_skipU rfl rfl rfl (by decide) ?_ | (refine q_splitD rfl rfl rfl (fun hyes => ?_) (fun hno => ?_) <;> first | (exfalso; omega) | exact absurd rfl hyes | exact absurd rfl hno | exact absurd Iff.rfl hyes | exact absurd Iff.rfl hno | exact absurd (eqc_same _) hyes | exact absurd (eqc_same _) hno | exact absurd (by decide) hyes | exact absurd (by decide) hno | skip))))
  exact post1 (.inl rfl) rfl (res_tmp rfl) fun _ hm => ⟨rfl, hm.below⟩

theorem nil_key {t : Int} (w : World) : Ret Try.prog 12 [.pointer none, .int .i64 t] w (.tuple #[kd (0, 0, 0), .bool false]) := by
  refine .of (enter Try.func12 rfl Try.ntmps12 (by simp) ?_)
  repeat' (first | (apply isC; first | apply c_seq | apply c_block | apply c_skip | apply c_exit | apply c_ret | (apply isCrg; apply c_rg; intro oPs qQ dD hQ) | (apply isCcond; first | refine c_cond_t rfl ?_ | refine c_cond_f rfl ?_ | (refine c_test rfl (fun hyes => ?_) (fun hno => ?_) <;> first | (exfalso; omega) | exact absurd rfl hyes | exact absurd rfl hno | exact absurd Iff.rfl hyes | exact absurd Iff.rfl hno | exact absurd (eqc_same _) hyes | exact absurd (eqc_same _) hno | exact absurd (by decide) hyes | exact absurd (by decide) hno | skip)) | (apply isCdr; first | (refine c_dr [] ?_; intro oPs qQ dD hQ) | (refine c_tl [] ?_; intro oPs qQ dD hQ; dsimp only [takeQ, dropQ, isEff, cond_true, cond_false, List.contains_nil, List.contains_cons, List.elem_nil, Bool.or_false, Nat.reduceBEq, Bool.or_true]))) | (apply isE; first | (apply e_hq; clear hQ qQ dD oPs) | apply e_seq | apply e_then_exit | apply e_then_ret | apply e_in_normal | apply e_in_ret | apply e_in_same | refine e_in_other rfl ?_) | (apply isW; first | apply w_nil | (apply isW0; first | (apply isWc; first | (refine w_d wn_a (by exact d_b) rfl (by decide) ?_; intro _)) | refine w_y0 (by exact y_b) (by decide) ?_ | (refine w_d wn_a (by exact d_b) rfl (by decide) ?_; intro _)) | (apply isWn; first | (refine w_d0 wn_a (by exact d_b) rfl ?_; first | (intro (uu : Unit); clear uu) | intro _)) | (apply isWg; first | (apply isWc; first | (refine w_d wn_a (by exact d_b) rfl (by decide) ?_; intro _)) | refine w_y (by exact wn_d rfl rfl rfl) (by exact y_b) rfl (by decide) ?_ | refine w_skipD rfl rfl rfl rfl (by decide) ?_ | refine w_skip0D rfl rfl rfl rfl ?_ | refine w_skipU rfl rfl rfl (by decide) ?_ | refine w_skip0U rfl rfl rfl ?_ | (refine w_d wn_a (by exact d_b) rfl (by decide) ?_; intro _) | (refine w_d0 wn_a (by exact d_b) rfl ?_; first | (intro (uu : Unit); clear uu) | intro _) | (refine w_splitD rfl rfl rfl (fun hyes => ?_) (fun hno => ?_) <;> first | (exfalso; omega) | exact absurd rfl hyes | exact absurd rfl hno | exact absurd Iff.rfl hyes | exact absurd Iff.rfl hno | exact absurd (eqc_same _) hyes | exact absurd (eqc_same _) hno | exact absurd (by decide) hyes | exact absurd (by decide) hno | skip))) | (apply isQ; first | apply q_nil | (apply isQ0; first | refine q_y0 (by exact y_b) (by decide) ?_) | (apply isQg; first | refine q_y (by exact wn_d rfl rfl rfl) (by exact y_b) rfl (by decide) ?_ | refine q_skipD rfl rfl rfl rfl (by decide) ?_ | refine q_skipU rfl rfl rfl (by decide) ?_ | (refine q_splitD rfl rfl rfl (fun hyes => ?_) (fun hno => ?_) <;> first | (exfalso; omega) | exact absurd rfl hyes | exact absurd rfl hno | exact absurd Iff.rfl hyes | exact absurd Iff.rfl hno | exact absurd (eqc_same _) hyes | exact absurd (eqc_same _) hno | exact absurd (by decide) hyes | exact absurd (by decide) hno | skip))))
  exact post2 (.inl rfl) rfl (by first | exact res_tmp rfl | exact res_cell rfl (by rfl) | exact res_cell1 rfl) (res_tmp rfl) fun _ hm => ⟨rfl, hm.below⟩

theorem nil_len (w : World) : Ret Try.prog 10 [.pointer none] w (.int .i64 0) := by
  refine .of (enter Try.func10 rfl Try.ntmps10 (by simp) ?_)
  repeat' (first | (apply isC; first | apply c_seq | apply c_block | apply c_skip | apply c_exit | apply c_ret | (apply isCrg; apply c_rg; intro oPs qQ dD hQ) | (apply isCcond; first | refine c_cond_t rfl ?_ | refine c_cond_f rfl ?_ | (refine c_test rfl (fun hyes => ?_) (fun hno => ?_) <;> first | (exfalso; omega) | exact absurd rfl hyes | exact absurd rfl hno | exact absurd Iff.rfl hyes | exact absurd Iff.rfl hno | exact absurd (eqc_same _) hyes | exact absurd (eqc_same _) hno | exact absurd (by decide) hyes | exact absurd (by decide) hno | skip)) | (apply isCdr; first | (refine c_dr [] ?_; intro oPs qQ dD hQ) | (refine c_tl [] ?_; intro oPs qQ dD hQ; dsimp only [takeQ, dropQ, isEff, cond_true, cond_false, List.contains_nil, List.contains_cons, List.elem_nil, Bool.or_false, Nat.reduceBEq, Bool.or_true]))) | (apply isE; first | (apply e_hq; clear hQ qQ dD oPs) | apply e_seq | apply e_then_exit | apply e_then_ret | apply e_in_normal | apply e_in_ret | apply e_in_same | refine e_in_other rfl ?_) | (apply isW; first | apply w_nil | (apply isW0; first | (apply isWc; first | (refine w_d wn_a (by exact d_b) rfl (by decide) ?_; intro _)) | refine w_y0 (by exact y_b) (by decide) ?_ | (refine w_d wn_a (by exact d_b) rfl (by decide) ?_; intro _)) | (apply isWn; first | (refine w_d0 wn_a (by exact d_b) rfl ?_; first | (intro (uu : Unit); clear uu) | intro _)) | (apply isWg; first | (apply isWc; first | (refine w_d wn_a (by exact d_b) rfl (by decide) ?_; intro _)) | refine w_y (by exact wn_d rfl rfl rfl) (by exact y_b) rfl (by decide) ?_ | refine w_skipD rfl rfl rfl rfl (by decide) ?_ | refine w_skip0D rfl rfl rfl rfl ?_ | refine w_skipU rfl rfl rfl (by decide) ?_ | refine w_skip0U rfl rfl rfl ?_ | (refine w_d wn_a (by exact d_b) rfl (by decide) ?_; intro _) | (refine w_d0 wn_a (by exact d_b) rfl ?_; first | (intro (uu : Unit); clear uu) | intro _) | (refine w_splitD rfl rfl rfl (fun hyes => ?_) (fun hno => ?_) <;> first | (exfalso; omega) | exact absurd rfl hyes | exact absurd rfl hno | exact absurd Iff.rfl hyes | exact absurd Iff.rfl hno | exact absurd (eqc_same _) hyes | exact absurd (eqc_same _) hno | exact absurd (by decide) hyes | exact absurd (by decide) hno | skip))) | (apply isQ; first | apply q_nil | (apply isQ0; first | refine q_y0 (by exact y_b) (by decide) ?_) | (apply isQg; first | refine q_y (by exact wn_d rfl rfl rfl) (by exact y_b) rfl (by decide) ?_ | refine q_skipD rfl rfl rfl rfl (by decide) ?_ | refine q_skipU rfl rfl rfl (by decide) ?_ | (refine q_splitD rfl rfl rfl (fun hyes => ?_) (fun hno => ?_) <;> first | (exfalso; omega) | exact absurd rfl hyes | exact absurd rfl hno | exact absurd Iff.rfl hyes | exact absurd Iff.rfl hno | exact absurd (eqc_same _) hyes | exact absurd (eqc_same _) hno | exact absurd (by decide) hyes | exact absurd (by decide) hno | skip))))
  exact post1 (.inl rfl) rfl (res_tmp rfl) fun _ hm => ⟨rfl, hm.below⟩

theorem nil_uses {t : Int} (w : World) : Ret Try.prog 14 [.pointer none, .int .i64 t] w (.int .i64 0) := by
  refine .of (enter Try.func14 rfl Try.ntmps14 (by simp) ?_)
  repeat' (first | (apply isC; first | apply c_seq | apply c_block | apply c_skip | apply c_exit | apply c_ret | (apply isCrg; apply c_rg; intro oPs qQ dD hQ) | (apply isCcond; first | refine c_cond_t rfl ?_ | refine c_cond_f rfl ?_ | (refine c_test rfl (fun hyes => ?_) (fun hno => ?_) <;> first | (exfalso; omega) | exact absurd rfl hyes | exact absurd rfl hno | exact absurd Iff.rfl hyes | exact absurd Iff.rfl hno | exact absurd (eqc_same _) hyes | exact absurd (eqc_same _) hno | exact absurd (by decide) hyes | exact absurd (by decide) hno | skip)) | (apply isCdr; first | (refine c_dr [] ?_; intro oPs qQ dD hQ) | (refine c_tl [] ?_; intro oPs qQ dD hQ; dsimp only [takeQ, dropQ, isEff, cond_true, cond_false, List.contains_nil, List.contains_cons, List.elem_nil, Bool.or_false, Nat.reduceBEq, Bool.or_true]))) | (apply isE; first | (apply e_hq; clear hQ qQ dD oPs) | apply e_seq | apply e_then_exit | apply e_then_ret | apply e_in_normal | apply e_in_ret | apply e_in_same | refine e_in_other rfl ?_) | (apply isW; first | apply w_nil | (apply isW0; first | (apply isWc; first | (refine w_d wn_a (by exact d_b) rfl (by decide) ?_; intro _)) | refine w_y0 (by exact y_b) (by decide) ?_ | (refine w_d wn_a (by exact d_b) rfl (by decide) ?_; intro _)) | (apply isWn; first | (refine w_d0 wn_a (by exact d_b) rfl ?_; first | (intro (uu : Unit); clear uu) | intro _)) | (apply isWg; first | (apply isWc; first | (refine w_d wn_a (by exact d_b) rfl (by decide) ?_; intro _)) | refine w_y (by exact wn_d rfl rfl rfl) (by exact y_b) rfl (by decide) ?_ | refine w_skipD rfl rfl rfl rfl (by decide) ?_ | refine w_skip0D rfl rfl rfl rfl ?_ | refine w_skipU rfl rfl rfl (by decide) ?_ | refine w_skip0U rfl rfl rfl ?_ | (refine w_d wn_a (by exact d_b) rfl (by decide) ?_; intro _) | (refine w_d0 wn_a (by exact d_b) rfl ?_; first | (intro (uu : Unit); clear uu) | intro _) | (refine w_splitD rfl rfl rfl (fun hyes => ?_) (fun hno => ?_) <;> first | (exfalso; omega) | exact absurd rfl hyes | exact absurd rfl hno | exact absurd Iff.rfl hyes | exact absurd Iff.rfl hno | exact absurd (eqc_same _) hyes | exact absurd (eqc_same _) hno | exact absurd (by decide) hyes | exact absurd (by decide) hno | skip))) | (apply isQ; first | apply q_nil | (apply isQ0; first | refine q_y0 (by exact y_b) (by decide) ?_) | (apply isQg; first | refine q_y (by exact wn_d rfl rfl rfl) (by exact y_b) rfl (by decide) ?_ | refine q_skipD rfl rfl rfl rfl (by decide) ?_ | refine q_skipU rfl rfl rfl (by decide) ?_ | (refine q_splitD rfl rfl rfl (fun hyes => ?_) (fun hno => ?_) <;> first | (exfalso; omega) | exact absurd rfl hyes | exact absurd rfl hno | exact absurd Iff.rfl hyes | exact absurd Iff.rfl hno | exact absurd (eqc_same _) hyes | exact absurd (eqc_same _) hno | exact absurd (by decide) hyes | exact absurd (by decide) hno | skip))))
  exact post1 (.inl rfl) rfl (res_tmp rfl) fun _ hm => ⟨rfl, hm.below⟩

theorem nil_sweep (w : World) : Ret Try.prog 11 [.pointer none] w (.int .i64 0) := by
  refine .of (enter Try.func11 rfl Try.ntmps11 (by simp) ?_)
  repeat' (first | (apply isC; first | apply c_seq | apply c_block | apply c_skip | apply c_exit | apply c_ret | (apply isCrg; apply c_rg; intro oPs qQ dD hQ) | (apply isCcond; first | refine c_cond_t rfl ?_ | refine c_cond_f rfl ?_ | (refine c_test rfl (fun hyes => ?_) (fun hno => ?_) <;> first | (exfalso; omega) | exact absurd rfl hyes | exact absurd rfl hno | exact absurd Iff.rfl hyes | exact absurd Iff.rfl hno | exact absurd (eqc_same _) hyes | exact absurd (eqc_same _) hno | exact absurd (by decide) hyes | exact absurd (by decide) hno | skip)) | (apply isCdr; first | (refine c_dr [] ?_; intro oPs qQ dD hQ) | (refine c_tl [] ?_; intro oPs qQ dD hQ; dsimp only [takeQ, dropQ, isEff, cond_true, cond_false, List.contains_nil, List.contains_cons, List.elem_nil, Bool.or_false, Nat.reduceBEq, Bool.or_true]))) | (apply isE; first | (apply e_hq; clear hQ qQ dD oPs) | apply e_seq | apply e_then_exit | apply e_then_ret | apply e_in_normal | apply e_in_ret | apply e_in_same | refine e_in_other rfl ?_) | (apply isW; first | apply w_nil | (apply isW0; first | (apply isWc; first | (refine w_d wn_a (by exact d_b) rfl (by decide) ?_; intro _)) | refine w_y0 (by exact y_b) (by decide) ?_ | (refine w_d wn_a (by exact d_b) rfl (by decide) ?_; intro _)) | (apply isWn; first | (refine w_d0 wn_a (by exact d_b) rfl ?_; first | (intro (uu : Unit); clear uu) | intro _)) | (apply isWg; first | (apply isWc; first | (refine w_d wn_a (by exact d_b) rfl (by decide) ?_; intro _)) | refine w_y (by exact wn_d rfl rfl rfl) (by exact y_b) rfl (by decide) ?_ | refine w_skipD rfl rfl rfl rfl (by decide) ?_ | refine w_skip0D rfl rfl rfl rfl ?_ | refine w_skipU rfl rfl rfl (by decide) ?_ | refine w_skip0U rfl rfl rfl ?_ | (refine w_d wn_a (by exact d_b) rfl (by decide) ?_; intro _) | (refine w_d0 wn_a (by exact d_b) rfl ?_; first | (intro (uu : Unit); clear uu) | intro _) | (refine w_splitD rfl rfl rfl (fun hyes => ?_) (fun hno => ?_) <;> first | (exfalso; omega) | exact absurd rfl hyes | exact absurd rfl hno | exact absurd Iff.rfl hyes | exact absurd Iff.rfl hno | exact absurd (eqc_same _) hyes | exact absurd (eqc_same _) hno | exact absurd (by decide) hyes | exact absurd (by decide) hno | skip))) | (apply isQ; first | apply q_nil | (apply isQ0; first | refine q_y0 (by exact y_b) (by decide) ?_) | (apply isQg; first | refine q_y (by exact wn_d rfl rfl rfl) (by exact y_b) rfl (by decide) ?_ | refine q_skipD rfl rfl rfl rfl (by decide) ?_ | refine q_skipU rfl rfl rfl (by decide) ?_ | (refine q_splitD rfl rfl rfl (fun hyes => ?_) (fun hno => ?_) <;> first | (exfalso; omega) | exact absurd rfl hyes | exact absurd rfl hno | exact absurd Iff.rfl hyes | exact absurd Iff.rfl hno | exact absurd (eqc_same _) hyes | exact absurd (eqc_same _) hno | exact absurd (by decide) hyes | exact absurd (by decide) hno | skip))))
  exact post1 (.inl rfl) rfl (res_tmp rfl) fun _ hm => ⟨rfl, hm.below⟩

theorem nil_take {k : K3} (w : World) : Ret Try.prog 8 [.pointer none, kd k] w (.tuple #[.int .i64 0, .int .i64 1]) := by
  refine .of (enter Try.func8 rfl Try.ntmps8 (by simp) ?_)
  repeat' (first | (apply isC; first | apply c_seq | apply c_block | apply c_skip | apply c_exit | apply c_ret | (apply isCrg; apply c_rg; intro oPs qQ dD hQ) | (apply isCcond; first | refine c_cond_t rfl ?_ | refine c_cond_f rfl ?_ | (refine c_test rfl (fun hyes => ?_) (fun hno => ?_) <;> first | (exfalso; omega) | exact absurd rfl hyes | exact absurd rfl hno | exact absurd Iff.rfl hyes | exact absurd Iff.rfl hno | exact absurd (eqc_same _) hyes | exact absurd (eqc_same _) hno | exact absurd (by decide) hyes | exact absurd (by decide) hno | skip)) | (apply isCdr; first | (refine c_dr [] ?_; intro oPs qQ dD hQ) | (refine c_tl [] ?_; intro oPs qQ dD hQ; dsimp only [takeQ, dropQ, isEff, cond_true, cond_false, List.contains_nil, List.contains_cons, List.elem_nil, Bool.or_false, Nat.reduceBEq, Bool.or_true]))) | (apply isE; first | (apply e_hq; clear hQ qQ dD oPs) | apply e_seq | apply e_then_exit | apply e_then_ret | apply e_in_normal | apply e_in_ret | apply e_in_same | refine e_in_other rfl ?_) | (apply isW; first | apply w_nil | (apply isW0; first | (apply isWc; first | (refine w_d wn_a (by exact d_b) rfl (by decide) ?_; intro _)) | refine w_y0 (by exact y_b) (by decide) ?_ | (refine w_d wn_a (by exact d_b) rfl (by decide) ?_; intro _)) | (apply isWn; first | (refine w_d0 wn_a (by exact d_b) rfl ?_; first | (intro (uu : Unit); clear uu) | intro _)) | (apply isWg; first | (apply isWc; first | (refine w_d wn_a (by exact d_b) rfl (by decide) ?_; intro _)) | refine w_y (by exact wn_d rfl rfl rfl) (by exact y_b) rfl (by decide) ?_ | refine w_skipD rfl rfl rfl rfl (by decide) ?_ | refine w_skip0D rfl rfl rfl rfl ?_ | refine w_skipU rfl rfl rfl (by decide) ?_ | refine w_skip0U rfl rfl rfl ?_ | (refine w_d wn_a (by exact d_b) rfl (by decide) ?_; intro _) | (refine w_d0 wn_a (by exact d_b) rfl ?_; first | (intro (uu : Unit); clear uu) | intro _) | (refine w_splitD rfl rfl rfl (fun hyes => ?_) (fun hno => ?_) <;> first | (exfalso; omega) | exact absurd rfl hyes | exact absurd rfl hno | exact absurd Iff.rfl hyes | exact absurd Iff.rfl hno | exact absurd (eqc_same _) hyes | exact absurd (eqc_same _) hno | exact absurd (by decide) hyes | exact absurd (by decide) hno | skip))) | (apply isQ; first | apply q_nil | (apply isQ0; first | refine q_y0 (by exact y_b) (by decide) ?_) | (apply isQg; first | refine q_y (by exact wn_d rfl rfl rfl) (by exact y_b) rfl (by decide) ?_ | refine q_skipD rfl rfl rfl rfl (by decide) ?_ | refine q_skipU rfl rfl rfl (by decide) ?_ | (refine q_splitD rfl rfl rfl (fun hyes => ?_) (fun hno => ?_) <;> first | (exfalso; omega) | exact absurd rfl hyes | exact absurd rfl hno | exact absurd Iff.rfl hyes | exact absurd Iff.rfl hno | exact absurd (eqc_same _) hyes | exact absurd (eqc_same _) hno | exact absurd (by decide) hyes | exact absurd (by decide) hno | skip))))
  exact post2 (.inl rfl) rfl (by first | exact res_tmp rfl | exact res_cell rfl (by rfl) | exact res_cell1 rfl) (res_tmp rfl) fun _ hm => ⟨rfl, hm.below⟩

end Tg
end Go.Proofs.Ytoghablinbmljaa
