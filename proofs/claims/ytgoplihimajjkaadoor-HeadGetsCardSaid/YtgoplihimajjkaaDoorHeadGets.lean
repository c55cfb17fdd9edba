/-
  The law 'HeadGets': for every input it answers true, the table 'widths' holding what its text lays. No other conditions.
-/
import Derived.Test.YtgoplihimajjkaaDoorHeadGetsA
import Derived.Test.YtgoplihimajjkaaDoorHeadGetsB
import Derived.Test.YtgoplihimajjkaaDoorHdrCard
namespace Go.Proofs.YtgoplihimajjkaaDoor
open Go.ChangeShapes Go.WideShapes Go.ChangeAt Go.RowKit
open Hd
set_option linter.unusedVariables false
namespace HeadGets

theorem walkH (h : Hdr) (ho : h.Ok) (f : Int) (w : World) (ht : Tab w) :
    Calls Tryd.prog 5 #[.agg #[.int .i64 h.po, .int .u8 h.s0, .int .u8 h.s1, .int .u8 h.s2, .int .u8 h.s3, .int .u8 h.s4, .int .u8 h.s5, .int .u8 h.d0, .int .u8 h.d1, .int .u8 h.d2, .int .u8 h.d3, .int .u8 h.d4, .int .u8 h.d5, .int .i64 h.ty, .int .u32 h.si, .int .u32 h.di, .int .i64 h.pr, .int .i64 h.sp, .int .i64 h.dp], .int .i64 f] w fun e w' => e = .returned (.bool true) ∧ Below w.heap.size w w' := by
  by_cases hf : f < 0 ∨ 9 ≤ f
  · skip
    by_cases g0 : 0 ≤ h.po
    case neg => exact no_0 h ho f hf g0 w ht
    by_cases g1 : h.po < 256
    case neg => exact no_1 h ho f hf g0 g1 w ht
    by_cases g2 : 0 ≤ h.ty
    case neg => exact no_2 h ho f hf g0 g1 g2 w ht
    by_cases g3 : h.ty < 65536
    case neg => exact no_3 h ho f hf g0 g1 g2 g3 w ht
    by_cases g4 : 0 ≤ h.pr
    case neg => exact no_4 h ho f hf g0 g1 g2 g3 g4 w ht
    by_cases g5 : h.pr < 256
    case neg => exact no_5 h ho f hf g0 g1 g2 g3 g4 g5 w ht
    by_cases g6 : 0 ≤ h.sp
    case neg => exact no_6 h ho f hf g0 g1 g2 g3 g4 g5 g6 w ht
    by_cases g7 : h.sp < 65536
    case neg => exact no_7 h ho f hf g0 g1 g2 g3 g4 g5 g6 g7 w ht
    by_cases g8 : 0 ≤ h.dp
    case neg => exact no_8 h ho f hf g0 g1 g2 g3 g4 g5 g6 g7 g8 w ht
    by_cases g9 : h.dp < 65536
    case neg => exact no_9 h ho f hf g0 g1 g2 g3 g4 g5 g6 g7 g8 g9 w ht
    exact no_10 h ho f hf g0 g1 g2 g3 g4 g5 g6 g7 g8 g9 w ht
  · obtain ⟨N, rfl⟩ := Int.eq_ofNat_of_zero_le (show 0 ≤ f by omega)
    have hN : N < 9 := by omega
    by_cases g0 : 0 ≤ h.po
    case neg => exact yes_0 h ho N hN g0 w ht
    by_cases g1 : h.po < 256
    case neg => exact yes_1 h ho N hN g0 g1 w ht
    by_cases g2 : 0 ≤ h.ty
    case neg => exact yes_2 h ho N hN g0 g1 g2 w ht
    by_cases g3 : h.ty < 65536
    case neg => exact yes_3 h ho N hN g0 g1 g2 g3 w ht
    by_cases g4 : 0 ≤ h.pr
    case neg => exact yes_4 h ho N hN g0 g1 g2 g3 g4 w ht
    by_cases g5 : h.pr < 256
    case neg => exact yes_5 h ho N hN g0 g1 g2 g3 g4 g5 w ht
    by_cases g6 : 0 ≤ h.sp
    case neg => exact yes_6 h ho N hN g0 g1 g2 g3 g4 g5 g6 w ht
    by_cases g7 : h.sp < 65536
    case neg => exact yes_7 h ho N hN g0 g1 g2 g3 g4 g5 g6 g7 w ht
    by_cases g8 : 0 ≤ h.dp
    case neg => exact yes_8 h ho N hN g0 g1 g2 g3 g4 g5 g6 g7 g8 w ht
    by_cases g9 : h.dp < 65536
    case neg => exact yes_9 h ho N hN g0 g1 g2 g3 g4 g5 g6 g7 g8 g9 w ht
    exact yes_10 h ho N hN g0 g1 g2 g3 g4 g5 g6 g7 g8 g9 w ht
theorem walk (h : Hdr) (f : Int) (ho : h.Ok) (wf : (Lit.int .i64 f).wf = true) (w : World) (ht : Tab w) :
    Calls Tryd.prog 5 #[.agg #[.int .i64 h.po, .int .u8 h.s0, .int .u8 h.s1, .int .u8 h.s2, .int .u8 h.s3, .int .u8 h.s4, .int .u8 h.s5, .int .u8 h.d0, .int .u8 h.d1, .int .u8 h.d2, .int .u8 h.d3, .int .u8 h.d4, .int .u8 h.d5, .int .i64 h.ty, .int .u32 h.si, .int .u32 h.di, .int .i64 h.pr, .int .i64 h.sp, .int .i64 h.dp], .int .i64 f] w fun e w' => e = .returned (.bool true) ∧ Below w.heap.size w w' := walkH h ho f w ht

/-! ### The row's step -/
theorem contract (H : Type) (enc : TypeId × Value → H) (W : World) (base : Nat) (args : Array Value) (ds gs : List (DataW H)) (before : List MemPlace)
    (hval : ∀ (j : Nat) t v, Tryd.f5.params[j]? = some t → args[j]? = some v → Value.okWide Tryd.prog W .any base t v)
    (hW : DataW.Whole enc Tryd.prog Tryd.f5.params.toList Rows.headGetsSpec.vars false W args.toList ds gs before) (hL : laidMetH Tryd.prog Rows.headGetsRow.laid W) :
    Calls Tryd.prog 5 args W fun e W' => ∃ v, e = .returned v ∧ Rows.headGetsSpec.post enc Tryd.prog Tryd.f5 false true false false W args v W' := by
  have hW' := hW
  obtain ⟨p, q, hA0, hV, rfl, hfz, hnd⟩ := hW
  have hA : DataW.TrodAll enc Tryd.prog W 0 (fun _ => true) true Tryd.f5.params.toList args.toList ds p := hA0
  rw [Tryd.params5] at hA hval
  obtain ⟨v0, vs0, d0, ds0, p0, q0, hargs, rfl, rfl, h0, r0⟩ := trodAll_cons hA
  obtain ⟨v1, vs1, d1, ds1, p1, q1, rfl, rfl, rfl, h1, r1⟩ := trodAll_cons r0
  obtain ⟨rfl, rfl, rfl⟩ := trodAll_nil r1
  obtain rfl : args = #[v0, v1] := by cases args; simp_all
  obtain ⟨rfl, rfl⟩ := trodVars_none hV
  obtain ⟨cs0, rfl, g0⟩ := Law.open_flat (n := 8) (ks := [.int .i64, .int .u8, .int .u8, .int .u8, .int .u8, .int .u8, .int .u8, .int .u8, .int .u8, .int .u8, .int .u8, .int .u8, .int .u8, .int .i64, .int .u32, .int .u32, .int .i64, .int .i64, .int .i64]) (by first | exact .inl ⟨_, Tryd.underlying33⟩ | exact .inr ⟨_, _, Tryd.underlying33⟩) (by kernel_rfl) (hval 0 33 v0 rfl rfl) h0
  obtain ⟨y0, o0, e0⟩ := open_hdr g0
  obtain ⟨x0, rfl, rfl, rfl, w0⟩ := open_int Tryd.underlying22 (hval 1 22 v1 rfl rfl) h1
  clear hA0 hA hval
  rw [e0] at hW' ⊢
  exact (walk y0 x0 o0 w0 W (Hd.tab_of_laid hL (by kernel_rfl))).mono fun e W' ⟨he, hg⟩ => ⟨_, he, Law.post_law Law.laidOut (by kernel_rfl) hW' rfl rfl Tryd.underlying4 rfl hg⟩

theorem laid_met (os : Os) : laidMet Tryd.prog Rows.headGetsRow.laid ((Hd.laidWorld os).forCall (fun _ _ => 0) ⟨#[], #[.agg #[.int .i64 0, .int .u8 0, .int .u8 0, .int .u8 0, .int .u8 0, .int .u8 0, .int .u8 0, .int .u8 0, .int .u8 0, .int .u8 0, .int .u8 0, .int .u8 0, .int .u8 0, .int .i64 0, .int .u32 0, .int .u32 0, .int .i64 0, .int .i64 0, .int .i64 0], .int .i64 0], []⟩).memory :=
  laidMet_of_run' 16 (by kernel_rfl) (by kernel_rfl)
theorem reads (os : Os) {H : Type} (enc : TypeId × Value → H) : ∃ places, DataW.whole enc Tryd.prog ((Hd.laidWorld os).forCall (fun _ _ => 0) ⟨#[], #[.agg #[.int .i64 0, .int .u8 0, .int .u8 0, .int .u8 0, .int .u8 0, .int .u8 0, .int .u8 0, .int .u8 0, .int .u8 0, .int .u8 0, .int .u8 0, .int .u8 0, .int .u8 0, .int .i64 0, .int .u32 0, .int .u32 0, .int .i64 0, .int .i64 0, .int .i64 0], .int .i64 0], []⟩).memory Tryd.f5.params.toList Rows.headGetsSpec.vars false (#[.agg #[.int .i64 0, .int .u8 0, .int .u8 0, .int .u8 0, .int .u8 0, .int .u8 0, .int .u8 0, .int .u8 0, .int .u8 0, .int .u8 0, .int .u8 0, .int .u8 0, .int .u8 0, .int .i64 0, .int .u32 0, .int .u32 0, .int .i64 0, .int .i64 0, .int .i64 0], .int .i64 0] : Array Value).toList 8 = some ([.agg [.lit (.int .i64 0), .agg [.lit (.int .u8 0), .lit (.int .u8 0), .lit (.int .u8 0), .lit (.int .u8 0), .lit (.int .u8 0), .lit (.int .u8 0)], .agg [.lit (.int .u8 0), .lit (.int .u8 0), .lit (.int .u8 0), .lit (.int .u8 0), .lit (.int .u8 0), .lit (.int .u8 0)], .lit (.int .i64 0), .lit (.int .u32 0), .lit (.int .u32 0), .lit (.int .i64 0), .lit (.int .i64 0), .lit (.int .i64 0)], .lit (.int .i64 0)], [], places) :=
  ⟨[], by kernel_rfl⟩

set_option maxRecDepth 100000 in
theorem lifted (os : Os) (started : os.Started) (H : Type) (enc : TypeId × Value → H) (F : Stop.Interp) :
    ReturnsInHanded {} Tryd.checked os 5 .any ((OpenSpec.ofChange Rows.headGetsSpec).preRow enc Tryd.prog Tryd.f5 Rows.headGetsRow.domain false Rows.headGetsRow.laid) (((OpenSpec.ofChange Rows.headGetsSpec).at F).post enc Tryd.prog Tryd.f5 false true false false) := by
  obtain ⟨places, hx⟩ := reads os enc
  refine returnsInHanded_of_row (C := Tryd.checked) (s := OpenSpec.ofChange Rows.headGetsSpec) Law.own started (by kernel_rfl) Tryd.func5
    (witness_row_at (enc := enc) (C := Tryd.checked) false (Hd.laidWorld os) #[.agg #[.int .i64 0, .int .u8 0, .int .u8 0, .int .u8 0, .int .u8 0, .int .u8 0, .int .u8 0, .int .u8 0, .int .u8 0, .int .u8 0, .int .u8 0, .int .u8 0, .int .u8 0, .int .i64 0, .int .u32 0, .int .u32 0, .int .i64 0, .int .i64 0, .int .i64 0], .int .i64 0] rfl (by kernel_rfl) (by kernel_rfl) (by kernel_rfl)
      (OpenSpec.preRow_of_cond 8 hx (by kernel_rfl) (fun k hk => by cases hk) (by kernel_rfl) (laid_met os))) ?_
  intro W base args ds gs before hval hW _ _ _ hL _ _
  exact contract H enc W base args ds gs before hval hW hL

theorem said : Rows.HeadGetsSaid :=
  OpenClaim.holds_of_cond 5 Tryd.f5 rfl rfl rfl rfl rfl rfl rfl ⟨rfl, rfl, rfl, rfl, rfl⟩ rfl rfl rfl rfl rfl (by kernel_rfl) Tryd.func5 (by kernel_rfl)
    (of_decide_eq_true (by kernel_rfl)) (by unfold Func.isWrapper; first | (rw [if_pos (by decide +kernel)]; kernel_rfl) | (rw [if_neg (by decide +kernel)]; exact ⟨rfl, rfl⟩))
    (fun os started H enc _ F => by rw [OpenClaim.pre_eq_preRow]; exact lifted os started H enc F)

theorem plain (f : FuncId) (fn : Func) (hf : Tryd.pinned.checked.prog.funcNamed Tryd.f5.name = some f) (hfn : Tryd.pinned.checked.prog.funcs[f]? = some fn) :
    false = Tryd.pinned.checked.prog.looks [] ∧ ∀ (j : Nat) t, fn.params[j]? = some t → Tryd.pinned.checked.prog.wantsStandIn t = false := by
  obtain rfl : f = 5 := Option.some.inj ((show Tryd.prog.funcNamed Tryd.f5.name = some 5 by kernel_rfl).symm.trans hf) |>.symm
  obtain rfl : fn = Tryd.f5 := (Option.some.inj (Tryd.func5.symm.trans hfn)).symm
  refine ⟨by kernel_rfl, fun j t ht => ?_⟩
  rw [Tryd.params5] at ht
  have hall : ([33, 22] : List TypeId).all (fun t => !Tryd.prog.wantsStandIn t) = true := by kernel_rfl
  have hm : t ∈ ([33, 22] : List TypeId) := by simpa using Array.mem_of_getElem? ht
  exact (by simpa using List.all_eq_true.1 hall t hm : Tryd.prog.wantsStandIn t = false)

/-- THE STATEMENT: the card. -/
theorem card : Rows.HeadGetsCardSaid :=
  Claim7.holds_tied_plain_at .later [] _ _ _ _ said (fun _ h => by cases h) (by kernel_rfl) (fun _ h => by cases h) headGets_row_tie rfl ⟨rfl, rfl⟩ (by kernel_rfl) rfl plain (by kernel_rfl)
#print axioms card

end HeadGets
end Go.Proofs.YtgoplihimajjkaaDoor
