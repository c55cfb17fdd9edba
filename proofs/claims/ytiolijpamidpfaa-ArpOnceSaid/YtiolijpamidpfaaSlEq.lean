/-
  '==' on structs and arrays of numbers, Bools and strings: cell by cell. Over any program; no conditions beyond those in each statement.
-/
import Derived.Test.YtiolijpamidpfaaSlZ
import Derived.Laws.StructEq
import Derived.ChangeKeysEq
namespace Go.Proofs.Ytiolijpamidpfaa
open Go.RowKit
namespace Sl
set_option linter.unusedVariables false
/-- What a cell is. -/
inductive Ck where
  | b
  | i (k : IntKind)
  | s
def fit1 : Ck → Value → Bool
  | .b, .bool _ => true
  | .i k, .int k' _ => decide (k = k')
  | .s, .string _ => true
  | _, _ => false
def fits : List Ck → List Value → Bool
  | [], [] => true
  | k :: ks, v :: vs => fit1 k v && fits ks vs
  | _, _ => false
def eq1 : Value → Value → Bool
  | .bool a, .bool b => a == b
  | .int _ a, .int _ b => a == b
  | .string a, .string b => a == b
  | _, _ => true
def eqc : List Value → List Value → Bool
  | v :: vs, u :: us => eq1 v u && eqc vs us
  | _, _ => true
/-- The cells of a struct's fields, one behind the other. -/
def fieldsK (K : TypeId → Option (List Ck)) : List Field → Nat → Option (List Ck)
  | [], _ => some []
  | f :: fs, o =>
    if f.offset = o ∧ f.name ≠ "_" then
      match K f.type with
      | some k1 => (fieldsK K fs (o + k1.length)).map (k1 ++ ·)
      | none => none
    else none
def kindsOf (P : Program) : Nat → TypeId → Option (List Ck)
  | 0, _ => none
  | d + 1, t =>
    match P.underlying t with
    | some .bool => if (P.info? t).map (·.size) = some 1 then some [.b] else none
    | some (.int k) => if (P.info? t).map (·.size) = some 1 then some [.i k] else none
    | some .string => if (P.info? t).map (·.size) = some 1 then some [.s] else none
    | some (.array n e) =>
      match kindsOf P d e with
      | some ks => if (P.info? t).map (·.size) = some (n * ks.length) then some (List.replicate n ks).flatten else none
      | none => none
    | some (.struct fs) =>
      match fieldsK (kindsOf P d) fs.toList 0 with
      | some ks => if (P.info? t).map (·.size) = some ks.length ∧ P.stoodInHeld t = false then some ks else none
      | none => none
    | _ => none
def aggB (P : Program) (t : TypeId) : Bool := match P.underlying t with
  | some (.struct _) | some (.array _ _) => true
  | _ => false
def valOf (P : Program) (t : TypeId) (xs : List Value) : Value := if aggB P t then .agg xs.toArray else xs.headD undef
theorem fits_len : ∀ {ks : List Ck} {xs : List Value}, fits ks xs = true → xs.length = ks.length
  | [], [], _ => rfl
  | k :: ks, v :: vs, h => by
    simp only [fits, Bool.and_eq_true] at h
    simp [fits_len h.2]
theorem fits_app : ∀ {a b : List Ck} {xs : List Value}, fits (a ++ b) xs = true → fits a (xs.take a.length) = true ∧ fits b (xs.drop a.length) = true
  | [], b, xs, h => by simpa [fits] using h
  | k :: a, b, [], h => by simp [fits] at h
  | k :: a, b, v :: xs, h => by
    simp only [List.cons_append, fits, Bool.and_eq_true] at h
    have := fits_app h.2
    simp [fits, h.1, this.1, this.2]
theorem eqc_split : ∀ (n : Nat) (xs ys : List Value), eqc xs ys = (eqc (xs.take n) (ys.take n) && eqc (xs.drop n) (ys.drop n))
  | 0, xs, ys => by simp [eqc]
  | n + 1, [], ys => by simp [eqc]
  | n + 1, x :: xs, [] => by simp [eqc]
  | n + 1, x :: xs, y :: ys => by
    simp only [List.take_succ_cons, List.drop_succ_cons, eqc]
    rw [eqc_split n xs ys, Bool.and_assoc]
section
variable {P : Program}
theorem kinds_size {d : Nat} {t : TypeId} {ks : List Ck} (h : kindsOf P d t = some ks) : (P.info? t).map (·.size) = some ks.length := by
  cases d with
  | zero => simp [kindsOf] at h
  | succ d =>
    unfold kindsOf at h
    split at h
    · split at h
      · rename_i hs
        obtain rfl := Option.some.inj h
        exact hs
      · cases h
    · split at h
      · rename_i hs
        obtain rfl := Option.some.inj h
        exact hs
      · cases h
    · split at h
      · rename_i hs
        obtain rfl := Option.some.inj h
        exact hs
      · cases h
    · split at h
      · split at h
        · rename_i hs
          obtain rfl := Option.some.inj h
          rw [hs]
          simp
        · cases h
      · cases h
    · split at h
      · split at h
        · rename_i hs
          obtain rfl := Option.some.inj h
          exact hs.1
        · cases h
      · cases h
    · cases h
theorem kinds_agg {d : Nat} {t : TypeId} {ks : List Ck} (h : kindsOf P d t = some ks) (w : World) : (isAgg t).run P w = .ok (aggB P t) w := by
  cases d with
  | zero => simp [kindsOf] at h
  | succ d =>
    unfold kindsOf at h
    unfold aggB isAgg
    cases hu : P.underlying t with
    | none => simp [hu] at h
    | some k =>
      rw [Sem.run_bind, run_underlying hu w]
      cases k <;> simp_all
theorem kinds_one {d : Nat} {t : TypeId} {ks : List Ck} (h : kindsOf P d t = some ks) (ha : aggB P t = false) : ∃ c, ks = [c] := by
  cases d with
  | zero => simp [kindsOf] at h
  | succ d =>
    unfold kindsOf at h
    unfold aggB at ha
    split at h
    · split at h
      · exact ⟨_, (Option.some.inj h).symm⟩
      · cases h
    · split at h
      · exact ⟨_, (Option.some.inj h).symm⟩
      · cases h
    · split at h
      · exact ⟨_, (Option.some.inj h).symm⟩
      · cases h
    · rename_i hu
      simp [hu] at ha
    · rename_i hu
      simp [hu] at ha
    · cases h
theorem run_partK {d : Nat} {t : TypeId} {ks : List Ck} (h : kindsOf P d t = some ks) {cs : List Value} {off : Nat} (hl : off + ks.length ≤ cs.length) (w : World) : (part t cs.toArray off).run P w = .ok (valOf P t ((cs.drop off).take ks.length)) w := by
  have hs := kinds_size h
  unfold part valOf
  rw [Sem.run_bind, kinds_agg h w, Result.andThen_ok]
  cases ha : aggB P t with
  | true => simp [Siz.run hs, List.extract_eq_take_drop]
  | false =>
    obtain ⟨c, rfl⟩ := kinds_one h ha
    simp only [List.length_cons, List.length_nil] at hl
    have hlt : off < cs.length := by omega
    have e : (cs.drop off).take 1 = [cs[off]] := by rw [List.drop_eq_getElem_cons hlt]; rfl
    rw [show ([c] : List Ck).length = 1 from rfl, e]
    simp [hlt]
theorem eqIn_of : ∀ (d : Nat) {t : TypeId} {ks : List Ck}, kindsOf P d t = some ks → ∀ (xs ys : List Value), fits ks xs = true → fits ks ys = true → ∀ (D : Nat), d ≤ D → ∀ w, (Op.equalIn D t (valOf P t xs) (valOf P t ys)).run P w = .ok (eqc xs ys) w
  | 0, t, ks, h, _, _, _, _, _, _, _ => by simp [kindsOf] at h
  | d + 1, t, ks, h, xs, ys, hx, hy, D, hD, w => by
    obtain ⟨D, rfl⟩ : ∃ D', D = D' + 1 := ⟨D - 1, by omega⟩
    have ih := fun {t ks} => eqIn_of d (t := t) (ks := ks)
    have hlx := fits_len hx
    have hly := fits_len hy
    unfold kindsOf at h
    cases hu : P.underlying t with
    | none => simp [hu] at h
    | some k =>
      rw [hu] at h
      have one : ∀ {c : Ck}, ks = [c] → ∃ a b, xs = [a] ∧ ys = [b] ∧ fit1 c a = true ∧ fit1 c b = true := fun {c} e => by
        subst e
        match xs, ys, hlx, hly with
        | [a], [b], _, _ => exact ⟨a, b, rfl, rfl, by simpa [fits] using hx, by simpa [fits] using hy⟩
      cases k
      case bool =>
        simp only at h
        split at h
        · obtain ⟨a, b, rfl, rfl, f1, f2⟩ := one (Option.some.inj h).symm
          cases a <;> simp [fit1] at f1
          cases b <;> simp [fit1] at f2
          simp [Op.equalIn, run_underlying hu, valOf, aggB, hu, eqc, eq1]
        · cases h
      case int k =>
        simp only at h
        split at h
        · obtain ⟨a, b, rfl, rfl, f1, f2⟩ := one (Option.some.inj h).symm
          cases a <;> simp [fit1] at f1
          cases b <;> simp [fit1] at f2
          subst f1
          subst f2
          simp [Op.equalIn, run_underlying hu, valOf, aggB, hu, eqc, eq1]
        · cases h
      case string =>
        simp only at h
        split at h
        · obtain ⟨a, b, rfl, rfl, f1, f2⟩ := one (Option.some.inj h).symm
          cases a <;> simp [fit1] at f1
          cases b <;> simp [fit1] at f2
          simp [Op.equalIn, run_underlying hu, valOf, aggB, hu, eqc, eq1]
        · cases h
      case array n e =>
        simp only at h
        split at h
        · rename_i k1 hk1
          split at h
          · obtain rfl := Option.some.inj h
            have hsz := kinds_size hk1
            obtain ⟨i, hi, hisz⟩ := Option.map_eq_some_iff.1 hsz
            have hc : P.cellsOf e = k1.length := by simp [Program.cellsOf, hi, hisz]
            have hva : ∀ zs, valOf P t zs = .agg zs.toArray := fun zs => by simp [valOf, aggB, hu]
            rw [hva, hva, run_equalIn_array w D _ _ hu hi, hc]
            have go : ∀ (m o : Nat), fits (List.replicate m k1).flatten (xs.drop (o * k1.length)) = true → fits (List.replicate m k1).flatten (ys.drop (o * k1.length)) = true → (Op.eqItems D e k1.length xs.toArray ys.toArray (List.range' o m)).run P w = .ok (eqc (xs.drop (o * k1.length)) (ys.drop (o * k1.length))) w := by
              intro m
              induction m with
              | zero =>
                intro o h1 h2
                have e1 := fits_len h1
                simp only [List.replicate_zero, List.flatten_nil, List.length_nil] at e1
                rw [List.length_eq_zero_iff.1 e1]
                simp [Op.eqItems, eqc]
              | succ m ihm =>
                intro o h1 h2
                have l1 := fits_len h1
                have l2 := fits_len h2
                rw [List.replicate_succ, List.flatten_cons] at h1 h2 l1 l2
                obtain ⟨a1, a2⟩ := fits_app h1
                obtain ⟨b1, b2⟩ := fits_app h2
                simp only [List.length_append, List.length_drop] at l1 l2
                by_cases hz : k1 = []
                · subst hz
                  have p1 := run_partK hk1 (cs := xs) (off := o * ([] : List Ck).length) (by simp) w
                  have p2 := run_partK hk1 (cs := ys) (off := o * ([] : List Ck).length) (by simp) w
                  have q := ih hk1 [] [] rfl rfl D (by omega) w
                  have r := ihm (o + 1) (by simpa using a2) (by simpa using b2)
                  rw [List.range'_succ]
                  simp only [List.length_nil, Nat.mul_zero, List.take_zero] at p1 p2 r ⊢
                  simp only [Op.eqItems, Sem.run_bind, Nat.mul_zero, p1, p2, Result.andThen_ok, q]
                  simpa [eqc] using r
                · have hpos : 0 < k1.length := List.length_pos_iff.2 hz
                  have p1 := run_partK hk1 (cs := xs) (off := o * k1.length) (by omega) w
                  have p2 := run_partK hk1 (cs := ys) (off := o * k1.length) (by omega) w
                  have q := ih hk1 _ _ a1 b1 D (by omega) w
                  rw [List.drop_drop] at a2 b2
                  have eo : o * k1.length + k1.length = (o + 1) * k1.length := by rw [Nat.add_mul, Nat.one_mul]
                  rw [eo] at a2 b2
                  have r := ihm (o + 1) a2 b2
                  rw [List.range'_succ, eqc_split k1.length (xs.drop (o * k1.length)), List.drop_drop, List.drop_drop, eo]
                  simp only [Op.eqItems, Sem.run_bind, p1, p2, Result.andThen_ok, q]
                  cases hq : eqc ((xs.drop (o * k1.length)).take k1.length) ((ys.drop (o * k1.length)).take k1.length) with
                  | false => simp
                  | true => simpa using r
            have := go n 0 (by simpa using hx) (by simpa using hy)
            rw [List.range_eq_range']
            simpa using this
          · cases h
        · cases h
      case struct fs =>
        simp only at h
        split at h
        · rename_i k1 hk1
          split at h
          · rename_i hsz
            obtain rfl := Option.some.inj h
            have hfs : P.fieldsOf t = fs := by simp [Program.fieldsOf, hu]
            have hva : ∀ zs, valOf P t zs = .agg zs.toArray := fun zs => by simp [valOf, aggB, hu]
            rw [hva, hva, run_equalIn_struct w D t _ _ (by rw [hfs]; exact hu) hsz.2, hfs]
            have go : ∀ (l : List Field) (o : Nat) (k2 : List Ck), o ≤ xs.length → o ≤ ys.length → fieldsK (kindsOf P d) l o = some k2 → fits k2 (xs.drop o) = true → fits k2 (ys.drop o) = true → (Op.eqFields D xs.toArray ys.toArray l).run P w = .ok (eqc (xs.drop o) (ys.drop o)) w := by
              intro l
              induction l with
              | nil =>
                intro o k2 _ _ hf h1 _
                simp only [fieldsK, Option.some.injEq] at hf
                subst hf
                rw [List.length_eq_zero_iff.1 (fits_len h1)]
                simp [Op.eqFields, eqc]
              | cons f l ihl =>
                intro o k2 ho1 ho2 hf h1 h2
                unfold fieldsK at hf
                split at hf
                · rename_i hc
                  obtain ⟨rfl, hn⟩ := hc
                  split at hf
                  · rename_i kf hkf
                    obtain ⟨kr, hr, rfl⟩ := Option.map_eq_some_iff.1 hf
                    obtain ⟨a1, a2⟩ := fits_app h1
                    obtain ⟨b1, b2⟩ := fits_app h2
                    have la := fits_len h1
                    have lb := fits_len h2
                    simp only [List.length_append, List.length_drop] at la lb
                    rw [List.drop_drop] at a2 b2
                    have r := ihl _ kr (by omega) (by omega) hr a2 b2
                    rw [eqc_split kf.length (xs.drop f.offset), List.drop_drop, List.drop_drop]
                    have p1 := run_partK hkf (cs := xs) (off := f.offset) (by omega) w
                    have p2 := run_partK hkf (cs := ys) (off := f.offset) (by omega) w
                    have q := ih hkf _ _ a1 b1 D (by omega) w
                    simp only [Op.eqFields, if_pos hn, Sem.run_bind, p1, p2, Result.andThen_ok, q]
                    cases hq : eqc ((xs.drop f.offset).take kf.length) ((ys.drop f.offset).take kf.length) with
                    | false => simp
                    | true => simpa using r
                  · cases hf
                · cases hf
            simpa using go fs.toList 0 k1 (by omega) (by omega) hk1 (by simpa using hx) (by simpa using hy)
          · cases h
        · cases h
      all_goals simp at h
theorem eqc_same : ∀ (xs : List Value), eqc xs xs = true
  | [] => rfl
  | x :: xs => by
    rw [eqc, eqc_same xs, Bool.and_true]
    cases x <;> simp [eq1]
    case string s => rw [beq_toListBytes]; simp
theorem eq1_eq {k : Ck} {a b : Value} (h1 : fit1 k a = true) (h2 : fit1 k b = true) (h : eq1 a b = true) : a = b := by
  cases k <;> cases a <;> simp [fit1] at h1 <;> cases b <;> simp [fit1] at h2
  · simpa [eq1] using h
  · subst h1
    subst h2
    simpa [eq1] using h
  · rename_i a b
    simp only [eq1, beq_toListBytes, beq_iff_eq, ByteArray.toList_eq] at h
    obtain ⟨⟨x⟩⟩ := a
    obtain ⟨⟨y⟩⟩ := b
    simp only at h
    rw [h]
theorem eqc_eq : ∀ {ks : List Ck} {xs ys : List Value}, fits ks xs = true → fits ks ys = true → eqc xs ys = true → xs = ys
  | [], [], [], _, _, _ => rfl
  | k :: ks, x :: xs, y :: ys, h1, h2, h => by
    simp only [fits, eqc, Bool.and_eq_true] at h1 h2 h
    rw [eq1_eq h1.1 h2.1 h.1, eqc_eq h1.2 h2.2 h.2]
theorem eqc_iff {ks : List Ck} {xs ys : List Value} (h1 : fits ks xs = true) (h2 : fits ks ys = true) : eqc xs ys = true ↔ xs = ys :=
  ⟨eqc_eq h1 h2, fun h => by rw [h]; exact eqc_same _⟩
/-- A struct or array of numbers, Bools and strings. -/
class EqT (P : Program) (t : TypeId) (ks : outParam (List Ck)) : Prop where
  k : kindsOf P 8 t = some ks
  a : aggB P t = true
  g : P.eqGuardType P.depth t = false
variable {B : Foot} {n : Nat} {w0 : World} {T : Tm} {H : List Blk} {d : Option Tmp} {ty : TypeId} {ps : String} {af : Array Edge} {g : Option (Nat × Bool)} {x y : Operand} {t t' : TypeId}
theorem run_eqA {ks : List Ck} {cs ds : List Value} [h : EqT P t ks] (h1 : fits ks cs = true) (h2 : fits ks ds = true) (w : World) : (Op.equal t (.agg cs.toArray) (.agg ds.toArray)).run P w = .ok (eqc cs ds) w := by
  have := eqIn_of 8 h.k cs ds h1 h2 Op.maxDepth (by decide) w
  simpa [valOf, h.a, Op.equal] using this
theorem y_eqlA {ks : List Ck} {cs ds : List Value} (hx : ev T x = some (.agg cs.toArray)) (hy : ev T y = some (.agg ds.toArray)) [h : EqT P t ks] (h1 : fits ks cs = true) (h2 : fits ks ds = true) : Y P B n w0 ⟨d, .binOp .eql t x y t', ty, ps, af, g⟩ T H (.bool (eqc cs ds)) := y_eql_agg hx hy h.g (run_eqA h1 h2)
theorem y_neqA {ks : List Ck} {cs ds : List Value} (hx : ev T x = some (.agg cs.toArray)) (hy : ev T y = some (.agg ds.toArray)) [h : EqT P t ks] (h1 : fits ks cs = true) (h2 : fits ks ds = true) : Y P B n w0 ⟨d, .binOp .neq t x y t', ty, ps, af, g⟩ T H (.bool (!eqc cs ds)) := y_neq_agg hx hy h.g (run_eqA h1 h2)
theorem run_eqB (dd : Nat) {a b : Bool} (hu : P.underlying t = some .bool) (w : World) : (Op.equalIn (dd + 1) t (.bool a) (.bool b)).run P w = .ok (a == b) w := by simp [Op.equalIn, run_underlying hu]
theorem y_beql {a b : Bool} (hx : ev T x = some (.bool a)) (hy : ev T y = some (.bool b)) (hu : P.underlying t = some .bool) : Y P B n w0 ⟨d, .binOp .eql t x y t', ty, ps, af, g⟩ T H (.bool (a == b)) := .of fun a' w hf _ => by
  have he : ∀ w, (Op.equal t (.bool a) (.bool b)).run P w = .ok (a == b) w := run_eqB 9999 hu
  simp [execOp, eqGuard, binOp, hf.ev hx, hf.ev hy, he]
theorem y_bneq {a b : Bool} (hx : ev T x = some (.bool a)) (hy : ev T y = some (.bool b)) (hu : P.underlying t = some .bool) : Y P B n w0 ⟨d, .binOp .neq t x y t', ty, ps, af, g⟩ T H (.bool (a != b)) := .of fun a' w hf _ => by
  have he : ∀ w, (Op.equal t (.bool a) (.bool b)).run P w = .ok (a == b) w := run_eqB 9999 hu
  simp [execOp, eqGuard, binOp, hf.ev hx, hf.ev hy, he]
  cases a <;> cases b <;> rfl
instance (priority := low) bpBeq (a b : Bool) (p q : Prop) [h : BP a p] [g : BP b q] : BP (a == b) (p ↔ q) := ⟨by rw [← h.h, ← g.h]; cases a <;> cases b <;> simp⟩
instance (priority := low) bpBne (a b : Bool) (p q : Prop) [h : BP a p] [g : BP b q] : BP (a != b) (¬ (p ↔ q)) := ⟨by rw [← h.h, ← g.h]; cases a <;> cases b <;> simp⟩
instance bpBeqT (a : Bool) (p : Prop) [h : BP a p] : BP (a == true) p := ⟨by rw [← h.h]; cases a <;> simp⟩
instance bpBeqF (a : Bool) (p : Prop) [h : BP a p] : BP (a == false) (¬ p) := ⟨by rw [← h.h]; cases a <;> simp⟩
instance bpBneT (a : Bool) (p : Prop) [h : BP a p] : BP (a != true) (¬ p) := ⟨by rw [← h.h]; cases a <;> simp⟩
instance bpBneF (a : Bool) (p : Prop) [h : BP a p] : BP (a != false) p := ⟨by rw [← h.h]; cases a <;> simp⟩
instance bpTBeq (a : Bool) (p : Prop) [h : BP a p] : BP (true == a) p := ⟨by rw [← h.h]; cases a <;> simp⟩
instance bpFBeq (a : Bool) (p : Prop) [h : BP a p] : BP (false == a) (¬ p) := ⟨by rw [← h.h]; cases a <;> simp⟩
instance bpTBne (a : Bool) (p : Prop) [h : BP a p] : BP (true != a) (¬ p) := ⟨by rw [← h.h]; cases a <;> simp⟩
instance bpFBne (a : Bool) (p : Prop) [h : BP a p] : BP (false != a) p := ⟨by rw [← h.h]; cases a <;> simp⟩
/-- A shift by a count that is not negative. -/
theorem y_shrN {k yk : IntKind} {p : Int} {j : Nat} (hx : ev T x = some (.int k p)) (hy : ev T y = some (.int yk j)) : Y P B n w0 ⟨d, .binOp .shr t x y t', ty, ps, af, g⟩ T H (.int k (p / 2 ^ min j k.bits)) := y_as (y_shr_any hx hy (by omega)) (by simp)
/-- A store of one cell at any place. -/
theorem d_storeX {b o : Nat} {v : Value} {cs et} {H' : List Blk} (cs' : List Value) (hx : ev T x = some (.pointer (some ⟨b, o, none⟩))) (hy : ev T y = some v) (h1 : one v = true) [hs : Siz P t 1] [hh : Has H b cs et] (hc : cs.set o v = cs' ∧ o < cs.length) [hu : Upd H b cs' et cs H'] : D P B n w0 ⟨d, .store t x y, ty, ps, af, g⟩ T H (fun _ : Unit => undef) (fun _ => H') := d_store (hc := ⟨hc⟩) hx hy h1
end
end Sl
end Go.Proofs.Ytiolijpamidpfaa
