/-
  Sweep of a pool of tags. No conditions beyond those in each statement.
-/
import Derived.Test.YtoghablinbmljaaTgT
namespace Go.Proofs.Ytoghablinbmljaa
open Go.RowKit
set_option linter.unusedVariables false
namespace Tg
open Sl

def sweepA (A : Tags) : Tags := fun x => if use A x = 0 then none else A x
theorem cnt_le (most : Int) (A : Tags) : cnt most A ≤ most.toNat := by
  unfold cnt
  refine Nat.le_trans (List.length_filter_le _ _) ?_
  simp
structure SI (most : Int) (A : Tags) (s : Ps) (A' : Tags) (s' : Ps) (seen : List Nat) (n : Nat) : Prop where
  inv : Inv most A' s'
  clk : s'.keys.c = s.keys.c
  kept : ∀ x, A' x = A x ∨ A' x = none ∧ use A x = 0
  done : ∀ p ∈ s'.keys.l, p.2.2 ∈ seen → use A' p.1 ≠ 0
  num : n + s'.keys.l.length = s.keys.l.length
theorem at_key {most : Int} {A : Tags} {s : Ps} (hi : Inv most A s) {x : Int} {k : K3} {bn : Nat} (hp : (x, k, bn) ∈ s.keys.l) : ∃ u, A x = some (k, u) := by
  have h := mem_mget hi.okK hp
  rw [hi.keys x] at h
  cases e : A x with
  | none => rw [e] at h; cases h
  | some v =>
    rw [e] at h
    obtain ⟨a, b⟩ := v
    exact ⟨b, by rw [show a = k from Option.some.inj h]⟩
theorem SI.keep {most : Int} {A : Tags} {s : Ps} {A' : Tags} {s' : Ps} {seen : List Nat} {n : Nat} (h : SI most A s A' s' seen n) {x : Int} {k : K3} {bn : Nat} (hx : Nx s'.keys seen (some (x, k, bn))) (hu : use A' x ≠ 0) : SI most A s A' s' (seen ++ [bn]) n := by
  refine ⟨h.inv, h.clk, h.kept, fun p hp hs => ?_, h.num⟩
  rcases List.mem_append.1 hs with hs | hs
  · exact h.done p hp hs
  · have e : p = (x, k, bn) := stamp_inj h.inv.okK hp hx.mem (by simpa using hs)
    rw [e]
    exact hu
theorem SI.free {most : Int} {A : Tags} {s : Ps} {A' : Tags} {s' : Ps} {seen : List Nat} {n : Nat} (h : SI most A s A' s' seen n) {x : Int} {k : K3} {bn : Nat} (hx : Nx s'.keys seen (some (x, k, bn))) (hu : use A' x = 0) : SI most A s (upd A' x none) ⟨s'.cap, mdel s'.by_ k, mdel s'.keys x, mdel s'.uses x⟩ (seen ++ [bn]) (n + 1) := by
  obtain ⟨u, ha⟩ := at_key h.inv hx.mem
  refine ⟨h.inv.freed ha, h.clk, fun y => ?_, fun p hp hs => ?_, ?_⟩
  · unfold upd
    split
    · rename_i e
      right
      refine ⟨rfl, ?_⟩
      rcases h.kept x with e1 | ⟨e1, e2⟩
      · rw [← e]
        unfold use at hu ⊢
        rw [← e1]
        exact hu
      · rw [← e]; exact e2
    · exact h.kept y
  · have hp' : p ∈ s'.keys.l := (ldel_sub s'.keys.l x).subset hp
    have hne : x ≠ p.1 := fun e => by
      have h1 := mem_mget (h.inv.okK.del x) (k := p.1) (v := p.2.1) (bn := p.2.2) hp
      rw [mget_mdel h.inv.okK, if_pos e] at h1
      cases h1
    have hu2 : use (upd A' x none) p.1 = use A' p.1 := by unfold use upd; rw [if_neg hne]
    rw [hu2]
    rcases List.mem_append.1 hs with hs | hs
    · exact h.done p hp' hs
    · have e : p = (x, k, bn) := stamp_inj h.inv.okK hp' hx.mem (by simpa using hs)
      exact absurd (congrArg (·.1) e).symm hne
  · have h1 := mdel_len s'.keys x
    rw [h.inv.keys x, ha] at h1
    have h2 := h.num
    simp only [Option.map_some, Option.isSome_some, if_true] at h1
    show n + 1 + (mdel s'.keys x).l.length = _
    omega
theorem SI.fin {most : Int} {A : Tags} {s : Ps} {A' : Tags} {s' : Ps} {seen : List Nat} {n : Nat} (h : SI most A s A' s' seen n) (hx : Nx s'.keys seen none) : A' = sweepA A := by
  funext x
  unfold sweepA
  rcases h.kept x with e1 | ⟨e1, e2⟩
  · rw [e1]
    split
    · rename_i e2
      cases e3 : A' x with
      | none => rw [← e1, e3]
      | some v =>
        have h1 : mget s'.keys x = some v.1 := by rw [h.inv.keys, e3]; rfl
        obtain ⟨bn, hb⟩ := mget_in h1
        have h2 := h.done _ hb (hx.all _ hb)
        unfold use at h2 e2
        rw [e1] at h2
        exact absurd e2 h2
    · rfl
  · rw [e1, if_pos e2]
set_option maxRecDepth 100000 in
theorem sweep_is {most : Int} {A : Tags} {b : Nat} (hm1 : most ≤ 256) : Con Try.prog 11 [.pointer (some ⟨b, 0, none⟩)] (fun _ _ => True) [⟨b, pl most A⟩] (fun _ : Unit => .int .i64 ((cnt most A : Int) - cnt most (sweepA A))) (fun _ => [⟨b, pl most (sweepA A)⟩]) := by
  refine unfoldC fun b1 b2 b3 s hi => ?_
  refine enterC Try.func11 rfl Try.ntmps11 (by simp) fun w S hp => ?_
  have hc := cnt_le most A
  have hl := hi.len
  repeat' (first | (apply stop_loop) | (apply isC; first | apply c_seq | apply c_block | apply c_skip | apply c_exit | apply c_ret | (apply isCrg; apply c_rg; intro oPs qQ dD hQ) | (apply isCcond; first | refine c_cond_t rfl ?_ | refine c_cond_f rfl ?_ | (refine c_test rfl (fun hyes => ?_) (fun hno => ?_) <;> first | (exfalso; omega) | exact absurd rfl hyes | exact absurd rfl hno | exact absurd Iff.rfl hyes | exact absurd Iff.rfl hno | exact absurd (eqc_same _) hyes | exact absurd (eqc_same _) hno | exact absurd (by decide) hyes | exact absurd (by decide) hno | skip)) | (apply isCdr; first | (refine c_dr [] ?_; intro oPs qQ dD hQ) | (refine c_tl [] ?_; intro oPs qQ dD hQ; dsimp only [takeQ, dropQ, isEff, cond_true, cond_false, List.contains_nil, List.contains_cons, List.elem_nil, Bool.or_false, Nat.reduceBEq, Bool.or_true]))) | (apply isE; first | (apply e_hq; clear hQ qQ dD oPs) | apply e_seq | apply e_then_exit | apply e_then_ret | apply e_in_normal | apply e_in_ret | apply e_in_same | refine e_in_other rfl ?_) | (apply isW; first | apply w_nil | (apply isW0; first | (apply isWc; first | (refine w_d wn_a (by exact d_b) rfl (by decide) ?_; intro _)) | refine w_y0 (by exact y_b) (by decide) ?_ | (refine w_d wn_a (by exact d_b) rfl (by decide) ?_; intro _)) | (apply isWn; first | (refine w_d0 wn_a (by exact d_b) rfl ?_; first | (intro (uu : Unit); clear uu) | intro _)) | (apply isWg; first | (apply isWc; first | (refine w_d wn_a (by exact d_b) rfl (by decide) ?_; intro _)) | refine w_y (by exact wn_d rfl rfl rfl) (by exact y_b) rfl (by decide) ?_ | refine w_skipD rfl rfl rfl rfl (by decide) ?_ | refine w_skip0D rfl rfl rfl rfl ?_ | refine w_skipU rfl rfl rfl (by decide) ?_ | refine w_skip0U rfl rfl rfl ?_ | (refine w_d wn_a (by exact d_b) rfl (by decide) ?_; intro _) | (refine w_d0 wn_a (by exact d_b) rfl ?_; first | (intro (uu : Unit); clear uu) | intro _) | (refine w_splitD rfl rfl rfl (fun hyes => ?_) (fun hno => ?_) <;> first | (exfalso; omega) | exact absurd rfl hyes | exact absurd rfl hno | exact absurd Iff.rfl hyes | exact absurd Iff.rfl hno | exact absurd (eqc_same _) hyes | exact absurd (eqc_same _) hno | exact absurd (by decide) hyes | exact absurd (by decide) hno | skip))) | (apply isQ; first | apply q_nil | (apply isQ0; first | refine q_y0 (by exact y_b) (by decide) ?_) | (apply isQg; first | refine q_y (by exact wn_d rfl rfl rfl) (by exact y_b) rfl (by decide) ?_ | refine q_skipD rfl rfl rfl rfl (by decide) ?_ | refine q_skipU rfl rfl rfl (by decide) ?_ | (refine q_splitD rfl rfl rfl (fun hyes => ?_) (fun hno => ?_) <;> first | (exfalso; omega) | exact absurd rfl hyes | exact absurd rfl hno | exact absurd Iff.rfl hyes | exact absurd Iff.rfl hno | exact absurd (eqc_same _) hyes | exact absurd (eqc_same _) hno | exact absurd (by decide) hyes | exact absurd (by decide) hno | skip))))
  refine .mk ?_
  rename_i rr
  obtain ⟨r, hok⟩ := rr
  dsimp only
  refine c_loop2 (ι := { i : Tags × Ps × List Nat × Nat // SI most A s i.1 i.2.1 i.2.2.1 i.2.2.2 }) (fun i => [(3, .int .i64 (i.1.2.2.2 : Nat)), (0, .pointer (some ⟨b, 0, none⟩)), (11, .pointer (some ⟨r, 0, none⟩))]) (fun i => [⟨b, cells [.int .i64 i.1.2.1.cap, .map (some b1), .map (some b2), .map (some b3)] 50⟩, ⟨b3, mp ki ki i.1.2.1.uses⟩, ⟨b2, mp ki kd i.1.2.1.keys⟩, ⟨b1, mp kd ki i.1.2.1.by_⟩, ⟨r, itr b2 s.keys.c i.1.2.2.1 i.1.2.1.keys.c⟩]) (fun i => unseen i.1.2.1.keys i.1.2.2.1) ⟨(A, s, [], 0), ⟨hi, rfl, fun _ => .inl rfl, fun _ _ h => (by cases h), (by simp)⟩⟩ ⟨rfl, rfl, rfl, trivial⟩ (fun _ h => h.perm (List.perm_append_comm (l₁ := [_]) (l₂ := [_, _, _, _]))) ?_
  rintro ⟨⟨A', s', seen, n⟩, hI⟩
  dsimp only
  have hI : SI most A s A' s' seen n := hI
  have hclk := hI.clk
  have hnum : n + s'.keys.l.length = s.keys.l.length := hI.num
  repeat' (first | (apply isWnx; refine w_d wn_a (d_next rfl (fun p hp => by have := hI.inv.okK.bd p hp; omega) (by omega)) rfl (by decide) ?_; rintro ⟨_ | ⟨kk, vv, bn⟩, hnx⟩ <;> dsimp only [nxV, nxH]) | (apply isC; first | apply c_seq | apply c_block | apply c_skip | apply c_exit | apply c_ret | (apply isCrg; apply c_rg; intro oPs qQ dD hQ) | (apply isCcond; first | refine c_cond_t rfl ?_ | refine c_cond_f rfl ?_ | (refine c_test rfl (fun hyes => ?_) (fun hno => ?_) <;> first | (exfalso; omega) | exact absurd rfl hyes | exact absurd rfl hno | exact absurd Iff.rfl hyes | exact absurd Iff.rfl hno | exact absurd (eqc_same _) hyes | exact absurd (eqc_same _) hno | exact absurd (by decide) hyes | exact absurd (by decide) hno | skip)) | (apply isCdr; first | (refine c_dr [] ?_; intro oPs qQ dD hQ) | (refine c_tl [] ?_; intro oPs qQ dD hQ; dsimp only [takeQ, dropQ, isEff, cond_true, cond_false, List.contains_nil, List.contains_cons, List.elem_nil, Bool.or_false, Nat.reduceBEq, Bool.or_true]))) | (apply isE; first | (apply e_hq; clear hQ qQ dD oPs) | apply e_seq | apply e_then_exit | apply e_then_ret | apply e_in_normal | apply e_in_ret | apply e_in_same | refine e_in_other rfl ?_) | (apply isW; first | apply w_nil | (apply isW0; first | (apply isWc; first | (refine w_d wn_a (by first | (apply d_is_fcall; first | exact d_con rfl (free_raw (b := b) (b1 := b1) (b2 := b2) (b3 := b3) (s := s') (t := kk) (k := vv) (by rw [mem_mget hI.inv.okK hnx.mem]; rfl)) (no_pre) (fun _ => inferInstance)) | exact d_b) rfl (by decide) ?_; intro _)) | refine w_y0 (by exact y_b) (by decide) ?_ | (refine w_d wn_a (by first | (apply d_is_fcall; first | exact d_con rfl (free_raw (b := b) (b1 := b1) (b2 := b2) (b3 := b3) (s := s') (t := kk) (k := vv) (by rw [mem_mget hI.inv.okK hnx.mem]; rfl)) (no_pre) (fun _ => inferInstance)) | exact d_b) rfl (by decide) ?_; intro _)) | (apply isWn; first | (refine w_d0 wn_a (by first | (apply d_is_fcall; first | exact d_con rfl (free_raw (b := b) (b1 := b1) (b2 := b2) (b3 := b3) (s := s') (t := kk) (k := vv) (by rw [mem_mget hI.inv.okK hnx.mem]; rfl)) (no_pre) (fun _ => inferInstance)) | exact d_b) rfl ?_; first | (intro (uu : Unit); clear uu) | intro _)) | (apply isWg; first | (apply isWc; first | (refine w_d wn_a (by first | (apply d_is_fcall; first | exact d_con rfl (free_raw (b := b) (b1 := b1) (b2 := b2) (b3 := b3) (s := s') (t := kk) (k := vv) (by rw [mem_mget hI.inv.okK hnx.mem]; rfl)) (no_pre) (fun _ => inferInstance)) | exact d_b) rfl (by decide) ?_; intro _)) | refine w_y (by exact wn_d rfl rfl rfl) (by exact y_b) rfl (by decide) ?_ | refine w_skipD rfl rfl rfl rfl (by decide) ?_ | refine w_skip0D rfl rfl rfl rfl ?_ | refine w_skipU rfl rfl rfl (by decide) ?_ | refine w_skip0U rfl rfl rfl ?_ | (refine w_d wn_a (by first | (apply d_is_fcall; first | exact d_con rfl (free_raw (b := b) (b1 := b1) (b2 := b2) (b3 := b3) (s := s') (t := kk) (k := vv) (by rw [mem_mget hI.inv.okK hnx.mem]; rfl)) (no_pre) (fun _ => inferInstance)) | exact d_b) rfl (by decide) ?_; intro _) | (refine w_d0 wn_a (by first | (apply d_is_fcall; first | exact d_con rfl (free_raw (b := b) (b1 := b1) (b2 := b2) (b3 := b3) (s := s') (t := kk) (k := vv) (by rw [mem_mget hI.inv.okK hnx.mem]; rfl)) (no_pre) (fun _ => inferInstance)) | exact d_b) rfl ?_; first | (intro (uu : Unit); clear uu) | intro _) | (refine w_splitD rfl rfl rfl (fun hyes => ?_) (fun hno => ?_) <;> first | (exfalso; omega) | exact absurd rfl hyes | exact absurd rfl hno | exact absurd Iff.rfl hyes | exact absurd Iff.rfl hno | exact absurd (eqc_same _) hyes | exact absurd (eqc_same _) hno | exact absurd (by decide) hyes | exact absurd (by decide) hno | skip))) | (apply isQ; first | apply q_nil | (apply isQ0; first | refine q_y0 (by exact y_b) (by decide) ?_) | (apply isQg; first | refine q_y (by exact wn_d rfl rfl rfl) (by exact y_b) rfl (by decide) ?_ | refine q_skipD rfl rfl rfl rfl (by decide) ?_ | refine q_skipU rfl rfl rfl (by decide) ?_ | (refine q_splitD rfl rfl rfl (fun hyes => ?_) (fun hno => ?_) <;> first | (exfalso; omega) | exact absurd rfl hyes | exact absurd rfl hno | exact absurd Iff.rfl hyes | exact absurd Iff.rfl hno | exact absurd (eqc_same _) hyes | exact absurd (eqc_same _) hno | exact absurd (by decide) hyes | exact absurd (by decide) hno | skip))))
  · have hA := hI.fin hnx
    have hz := hI.inv.len
    have hv : (n : Int) = (cnt most A : Int) - cnt most (sweepA A) := by rw [← hA]; omega
    exact post1 (.inl rfl) rfl (res_tmp rfl) fun _ hm => ⟨(), by rw [hv], fold (s := s') (hm.sub (H' := [⟨b, cells [.int .i64 s'.cap, .map (some b1), .map (some b2), .map (some b3)] 50⟩, ⟨b3, mp ki ki s'.uses⟩, ⟨b2, mp ki kd s'.keys⟩, ⟨b1, mp kd ki s'.by_⟩]) (.cons_cons _ (.cons_cons _ (.cons_cons _ (.cons_cons _ (.cons _ .slnil)))))) (.refl _) (by rw [← hA]; exact hI.inv)⟩
  · have hu : use A' kk = 0 := by rw [← hI.inv.uses kk]; exact hyes
    exact e_next ⟨(upd A' kk none, ⟨s'.cap, mdel s'.by_ vv, mdel s'.keys kk, mdel s'.uses kk⟩, seen ++ [bn], n + 1), hI.free hnx hu⟩ (Nat.lt_of_le_of_lt (unseen_del _ _ _) (unseen_lt hnx.mem hnx.new)) (by repeat' (first | exact trivial | refine ⟨by first | rfl | exact int_eq (by omega), ?_⟩)) (fun _ h => h)
  · have hu : use A' kk ≠ 0 := by rw [← hI.inv.uses kk]; exact hno
    exact e_next ⟨(A', s', seen ++ [bn], n), hI.keep hnx hu⟩ (unseen_lt hnx.mem hnx.new) (by repeat' (first | exact trivial | refine ⟨by first | rfl | exact int_eq (by omega), ?_⟩)) (fun _ h => h)
end Tg
end Go.Proofs.Ytoghablinbmljaa
