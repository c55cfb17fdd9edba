/-
  What each type and each function of this seat's translation is: closed facts, as instances. No conditions.
-/
import Derived.Test.YtoghablinbmljaaSlX
import Derived.Test.YtoghablinbmljaaProg
namespace Go.Proofs.Ytoghablinbmljaa
open Go.RowKit
namespace Sl
set_option linter.unusedVariables false
/- 2 int64 -/
instance : IntT Try.prog 2 .i64 := ⟨by kernel_rfl⟩
instance : Sca Try.prog 2 := ⟨by kernel_rfl, by kernel_rfl⟩
instance : Siz Try.prog 2 1 := ⟨by kernel_rfl⟩
instance : ZeroT Try.prog 2 [.int .i64 0] := ⟨by kernel_rfl⟩
/- 3 int -/
instance : IntT Try.prog 3 .i64 := ⟨by kernel_rfl⟩
instance : Sca Try.prog 3 := ⟨by kernel_rfl, by kernel_rfl⟩
instance : Siz Try.prog 3 1 := ⟨by kernel_rfl⟩
instance : ZeroT Try.prog 3 [.int .i64 0] := ⟨by kernel_rfl⟩
/- 4 bool -/
instance : KnownT Try.prog 4 := ⟨⟨_, Try.underlying4⟩⟩
instance : Sca Try.prog 4 := ⟨by kernel_rfl, by kernel_rfl⟩
instance : Siz Try.prog 4 1 := ⟨by kernel_rfl⟩
instance : ZeroT Try.prog 4 [.bool false] := ⟨by kernel_rfl⟩
/- 5 uint8 -/
instance : IntT Try.prog 5 .u8 := ⟨by kernel_rfl⟩
instance : Sca Try.prog 5 := ⟨by kernel_rfl, by kernel_rfl⟩
instance : Siz Try.prog 5 1 := ⟨by kernel_rfl⟩
instance : ZeroT Try.prog 5 [.int .u8 0] := ⟨by kernel_rfl⟩
/- 9 string -/
instance : KnownT Try.prog 9 := ⟨⟨_, Try.underlying9⟩⟩
instance : Sca Try.prog 9 := ⟨by kernel_rfl, by kernel_rfl⟩
instance : Siz Try.prog 9 1 := ⟨by kernel_rfl⟩
instance : ZeroT Try.prog 9 [.string ByteArray.empty] := ⟨by kernel_rfl⟩
/- 12 uintptr -/
instance : IntT Try.prog 12 .u64 := ⟨by kernel_rfl⟩
instance : Sca Try.prog 12 := ⟨by kernel_rfl, by kernel_rfl⟩
instance : Siz Try.prog 12 1 := ⟨by kernel_rfl⟩
instance : ZeroT Try.prog 12 [.int .u64 0] := ⟨by kernel_rfl⟩
/- 13 struct { msg string; addr uintptr } -/
instance : AggT Try.prog 13 2 := ⟨by kernel_rfl, by kernel_rfl⟩
instance : Siz Try.prog 13 2 := ⟨by kernel_rfl⟩
instance : FieldT Try.prog 13 0 0 9 := ⟨by kernel_rfl, by kernel_rfl⟩
instance : FieldT Try.prog 13 1 1 12 := ⟨by kernel_rfl, by kernel_rfl⟩
instance : ZeroT Try.prog 13 [.string ByteArray.empty, .int .u64 0] := ⟨by kernel_rfl⟩
/- 21 int32 -/
instance : IntT Try.prog 21 .i32 := ⟨by kernel_rfl⟩
instance : Sca Try.prog 21 := ⟨by kernel_rfl, by kernel_rfl⟩
instance : Siz Try.prog 21 1 := ⟨by kernel_rfl⟩
instance : ZeroT Try.prog 21 [.int .i32 0] := ⟨by kernel_rfl⟩
/- 23 *tags.Pool -/
instance : Sca Try.prog 23 := ⟨by kernel_rfl, by kernel_rfl⟩
instance : Siz Try.prog 23 1 := ⟨by kernel_rfl⟩
instance : PtrT Try.prog 23 50 := ⟨by kernel_rfl⟩
instance : ZeroT Try.prog 23 [.pointer none] := ⟨by kernel_rfl⟩
/- 24 api.Errno -/
instance : IntT Try.prog 24 .i64 := ⟨by kernel_rfl⟩
instance : Sca Try.prog 24 := ⟨by kernel_rfl, by kernel_rfl⟩
instance : Siz Try.prog 24 1 := ⟨by kernel_rfl⟩
instance : ZeroT Try.prog 24 [.int .i64 0] := ⟨by kernel_rfl⟩
/- 29 struct { From int; Best int; May int } -/
instance : AggT Try.prog 29 3 := ⟨by kernel_rfl, by kernel_rfl⟩
instance : Siz Try.prog 29 3 := ⟨by kernel_rfl⟩
instance : FieldT Try.prog 29 0 0 3 := ⟨by kernel_rfl, by kernel_rfl⟩
instance : FieldT Try.prog 29 1 1 3 := ⟨by kernel_rfl, by kernel_rfl⟩
instance : FieldT Try.prog 29 2 2 3 := ⟨by kernel_rfl, by kernel_rfl⟩
instance : ZeroT Try.prog 29 [.int .i64 0, .int .i64 0, .int .i64 0] := ⟨by kernel_rfl⟩
/- 30 fec.Key -/
instance : AggT Try.prog 30 3 := ⟨by kernel_rfl, by kernel_rfl⟩
instance : Siz Try.prog 30 3 := ⟨by kernel_rfl⟩
instance : FieldT Try.prog 30 0 0 3 := ⟨by kernel_rfl, by kernel_rfl⟩
instance : FieldT Try.prog 30 1 1 3 := ⟨by kernel_rfl, by kernel_rfl⟩
instance : FieldT Try.prog 30 2 2 3 := ⟨by kernel_rfl, by kernel_rfl⟩
instance : EqT Try.prog 30 [.i .i64, .i .i64, .i .i64] := ⟨by kernel_rfl, by kernel_rfl, by kernel_rfl⟩
instance : ZeroT Try.prog 30 [.int .i64 0, .int .i64 0, .int .i64 0] := ⟨by kernel_rfl⟩
/- 34 []carrefourlaw22.Step -/
instance : Sca Try.prog 34 := ⟨by kernel_rfl, by kernel_rfl⟩
instance : Siz Try.prog 34 1 := ⟨by kernel_rfl⟩
instance : SliT Try.prog 34 37 5 := ⟨by kernel_rfl, by kernel_rfl⟩
instance : ZeroT Try.prog 34 [.slice none 0 0] := ⟨by kernel_rfl⟩
/- 35 map[fec.Key]int -/
instance : Sca Try.prog 35 := ⟨by kernel_rfl, by kernel_rfl⟩
instance : Siz Try.prog 35 1 := ⟨by kernel_rfl⟩
instance : ZeroT Try.prog 35 [.map none] := ⟨by kernel_rfl⟩
/- 36 struct { K int; Key fec.Key; T int } -/
instance : AggT Try.prog 36 5 := ⟨by kernel_rfl, by kernel_rfl⟩
instance : Siz Try.prog 36 5 := ⟨by kernel_rfl⟩
instance : FieldT Try.prog 36 0 0 3 := ⟨by kernel_rfl, by kernel_rfl⟩
instance : FieldT Try.prog 36 1 1 30 := ⟨by kernel_rfl, by kernel_rfl⟩
instance : FieldT Try.prog 36 2 4 3 := ⟨by kernel_rfl, by kernel_rfl⟩
instance : ZeroT Try.prog 36 [.int .i64 0, .int .i64 0, .int .i64 0, .int .i64 0, .int .i64 0] := ⟨by kernel_rfl⟩
/- 37 carrefourlaw22.Step -/
instance : AggT Try.prog 37 5 := ⟨by kernel_rfl, by kernel_rfl⟩
instance : Siz Try.prog 37 5 := ⟨by kernel_rfl⟩
instance : FieldT Try.prog 37 0 0 3 := ⟨by kernel_rfl, by kernel_rfl⟩
instance : FieldT Try.prog 37 1 1 30 := ⟨by kernel_rfl, by kernel_rfl⟩
instance : FieldT Try.prog 37 2 4 3 := ⟨by kernel_rfl, by kernel_rfl⟩
instance : EqT Try.prog 37 [.i .i64, .i .i64, .i .i64, .i .i64, .i .i64] := ⟨by kernel_rfl, by kernel_rfl, by kernel_rfl⟩
instance : ZeroT Try.prog 37 [.int .i64 0, .int .i64 0, .int .i64 0, .int .i64 0, .int .i64 0] := ⟨by kernel_rfl⟩
/- 42 map[int]carrefourlaw22.slot -/
instance : Sca Try.prog 42 := ⟨by kernel_rfl, by kernel_rfl⟩
instance : Siz Try.prog 42 1 := ⟨by kernel_rfl⟩
instance : ZeroT Try.prog 42 [.map none] := ⟨by kernel_rfl⟩
/- 43 struct { key fec.Key; uses int } -/
instance : AggT Try.prog 43 4 := ⟨by kernel_rfl, by kernel_rfl⟩
instance : Siz Try.prog 43 4 := ⟨by kernel_rfl⟩
instance : FieldT Try.prog 43 0 0 30 := ⟨by kernel_rfl, by kernel_rfl⟩
instance : FieldT Try.prog 43 1 3 3 := ⟨by kernel_rfl, by kernel_rfl⟩
instance : ZeroT Try.prog 43 [.int .i64 0, .int .i64 0, .int .i64 0, .int .i64 0] := ⟨by kernel_rfl⟩
/- 44 carrefourlaw22.slot -/
instance : AggT Try.prog 44 4 := ⟨by kernel_rfl, by kernel_rfl⟩
instance : Siz Try.prog 44 4 := ⟨by kernel_rfl⟩
instance : FieldT Try.prog 44 0 0 30 := ⟨by kernel_rfl, by kernel_rfl⟩
instance : FieldT Try.prog 44 1 3 3 := ⟨by kernel_rfl, by kernel_rfl⟩
instance : EqT Try.prog 44 [.i .i64, .i .i64, .i .i64, .i .i64] := ⟨by kernel_rfl, by kernel_rfl, by kernel_rfl⟩
instance : ZeroT Try.prog 44 [.int .i64 0, .int .i64 0, .int .i64 0, .int .i64 0] := ⟨by kernel_rfl⟩
/- 46 []int -/
instance : Sca Try.prog 46 := ⟨by kernel_rfl, by kernel_rfl⟩
instance : Siz Try.prog 46 1 := ⟨by kernel_rfl⟩
instance : SliT Try.prog 46 3 1 := ⟨by kernel_rfl, by kernel_rfl⟩
instance : ZeroT Try.prog 46 [.slice none 0 0] := ⟨by kernel_rfl⟩
/- 47 map[int]fec.Key -/
instance : Sca Try.prog 47 := ⟨by kernel_rfl, by kernel_rfl⟩
instance : Siz Try.prog 47 1 := ⟨by kernel_rfl⟩
instance : ZeroT Try.prog 47 [.map none] := ⟨by kernel_rfl⟩
/- 48 map[int]int -/
instance : Sca Try.prog 48 := ⟨by kernel_rfl, by kernel_rfl⟩
instance : Siz Try.prog 48 1 := ⟨by kernel_rfl⟩
instance : ZeroT Try.prog 48 [.map none] := ⟨by kernel_rfl⟩
/- 49 struct { most int; by map[fec.Key]int; keys map[int]fec.Key; -/
instance : AggT Try.prog 49 4 := ⟨by kernel_rfl, by kernel_rfl⟩
instance : Siz Try.prog 49 4 := ⟨by kernel_rfl⟩
instance : FieldT Try.prog 49 0 0 3 := ⟨by kernel_rfl, by kernel_rfl⟩
instance : FieldT Try.prog 49 1 1 35 := ⟨by kernel_rfl, by kernel_rfl⟩
instance : FieldT Try.prog 49 2 2 47 := ⟨by kernel_rfl, by kernel_rfl⟩
instance : FieldT Try.prog 49 3 3 48 := ⟨by kernel_rfl, by kernel_rfl⟩
instance : ZeroT Try.prog 49 [.int .i64 0, .map none, .map none, .map none] := ⟨by kernel_rfl⟩
/- 50 tags.Pool -/
instance : AggT Try.prog 50 4 := ⟨by kernel_rfl, by kernel_rfl⟩
instance : Siz Try.prog 50 4 := ⟨by kernel_rfl⟩
instance : FieldT Try.prog 50 0 0 3 := ⟨by kernel_rfl, by kernel_rfl⟩
instance : FieldT Try.prog 50 1 1 35 := ⟨by kernel_rfl, by kernel_rfl⟩
instance : FieldT Try.prog 50 2 2 47 := ⟨by kernel_rfl, by kernel_rfl⟩
instance : FieldT Try.prog 50 3 3 48 := ⟨by kernel_rfl, by kernel_rfl⟩
instance : ZeroT Try.prog 50 [.int .i64 0, .map none, .map none, .map none] := ⟨by kernel_rfl⟩
/- 59 uint32 -/
instance : IntT Try.prog 59 .u32 := ⟨by kernel_rfl⟩
instance : Sca Try.prog 59 := ⟨by kernel_rfl, by kernel_rfl⟩
instance : Siz Try.prog 59 1 := ⟨by kernel_rfl⟩
instance : ZeroT Try.prog 59 [.int .u32 0] := ⟨by kernel_rfl⟩
/- 63 *uint8 -/
instance : Sca Try.prog 63 := ⟨by kernel_rfl, by kernel_rfl⟩
instance : Siz Try.prog 63 1 := ⟨by kernel_rfl⟩
instance : PtrT Try.prog 63 5 := ⟨by kernel_rfl⟩
instance : ZeroT Try.prog 63 [.pointer none] := ⟨by kernel_rfl⟩
/- 69 unsafe.Pointer -/
instance : Sca Try.prog 69 := ⟨by kernel_rfl, by kernel_rfl⟩
instance : Siz Try.prog 69 1 := ⟨by kernel_rfl⟩
instance : ZeroT Try.prog 69 [.pointer none] := ⟨by kernel_rfl⟩
instance : ElT Try.prog 3 1 8 := ⟨by kernel_rfl, by kernel_rfl, by decide⟩
instance : ElT Try.prog 37 5 40 := ⟨by kernel_rfl, by kernel_rfl, by decide⟩
instance : IsFn Try.prog 3 := isFn_of Try.func3 (by kernel_rfl) (by kernel_rfl)
instance : IsFn Try.prog 4 := isFn_of Try.func4 (by kernel_rfl) (by kernel_rfl)
instance : IsFn Try.prog 5 := isFn_of Try.func5 (by kernel_rfl) (by kernel_rfl)
instance : IsFn Try.prog 6 := isFn_of Try.func6 (by kernel_rfl) (by kernel_rfl)
instance : IsFn Try.prog 7 := isFn_of Try.func7 (by kernel_rfl) (by kernel_rfl)
instance : IsFn Try.prog 8 := isFn_of Try.func8 (by kernel_rfl) (by kernel_rfl)
instance : IsFn Try.prog 9 := isFn_of Try.func9 (by kernel_rfl) (by kernel_rfl)
instance : IsFn Try.prog 10 := isFn_of Try.func10 (by kernel_rfl) (by kernel_rfl)
instance : IsFn Try.prog 11 := isFn_of Try.func11 (by kernel_rfl) (by kernel_rfl)
instance : IsFn Try.prog 12 := isFn_of Try.func12 (by kernel_rfl) (by kernel_rfl)
instance : IsFn Try.prog 13 := isFn_of Try.func13 (by kernel_rfl) (by kernel_rfl)
instance : IsFn Try.prog 14 := isFn_of Try.func14 (by kernel_rfl) (by kernel_rfl)
instance : IsFn Try.prog 15 := isFn_of Try.func15 (by kernel_rfl) (by kernel_rfl)
end Sl
end Go.Proofs.Ytoghablinbmljaa
