/-
  What each type and each function of this seat's translation is: closed facts, as instances. No conditions.
-/
import Derived.Test.YtgoplihimajjkaaDoorSlX
import Derived.Test.YtgoplihimajjkaaDoorProg
namespace Go.Proofs.YtgoplihimajjkaaDoor
open Go.RowKit
namespace Sl
set_option linter.unusedVariables false
/- 2 int64 -/
instance : IntT Tryd.prog 2 .i64 := ⟨by kernel_rfl⟩
instance : Sca Tryd.prog 2 := ⟨by kernel_rfl, by kernel_rfl⟩
instance : Siz Tryd.prog 2 1 := ⟨by kernel_rfl⟩
instance : ZeroT Tryd.prog 2 [.int .i64 0] := ⟨by kernel_rfl⟩
/- 3 int -/
instance : IntT Tryd.prog 3 .i64 := ⟨by kernel_rfl⟩
instance : Sca Tryd.prog 3 := ⟨by kernel_rfl, by kernel_rfl⟩
instance : Siz Tryd.prog 3 1 := ⟨by kernel_rfl⟩
instance : ZeroT Tryd.prog 3 [.int .i64 0] := ⟨by kernel_rfl⟩
/- 4 bool -/
instance : KnownT Tryd.prog 4 := ⟨⟨_, Tryd.underlying4⟩⟩
instance : Sca Tryd.prog 4 := ⟨by kernel_rfl, by kernel_rfl⟩
instance : Siz Tryd.prog 4 1 := ⟨by kernel_rfl⟩
instance : ZeroT Tryd.prog 4 [.bool false] := ⟨by kernel_rfl⟩
/- 5 uint8 -/
instance : IntT Tryd.prog 5 .u8 := ⟨by kernel_rfl⟩
instance : Sca Tryd.prog 5 := ⟨by kernel_rfl, by kernel_rfl⟩
instance : Siz Tryd.prog 5 1 := ⟨by kernel_rfl⟩
instance : ZeroT Tryd.prog 5 [.int .u8 0] := ⟨by kernel_rfl⟩
/- 9 string -/
instance : KnownT Tryd.prog 9 := ⟨⟨_, Tryd.underlying9⟩⟩
instance : Sca Tryd.prog 9 := ⟨by kernel_rfl, by kernel_rfl⟩
instance : Siz Tryd.prog 9 1 := ⟨by kernel_rfl⟩
instance : ZeroT Tryd.prog 9 [.string ByteArray.empty] := ⟨by kernel_rfl⟩
/- 12 uintptr -/
instance : IntT Tryd.prog 12 .u64 := ⟨by kernel_rfl⟩
instance : Sca Tryd.prog 12 := ⟨by kernel_rfl, by kernel_rfl⟩
instance : Siz Tryd.prog 12 1 := ⟨by kernel_rfl⟩
instance : ZeroT Tryd.prog 12 [.int .u64 0] := ⟨by kernel_rfl⟩
/- 13 struct { msg string; addr uintptr } -/
instance : AggT Tryd.prog 13 2 := ⟨by kernel_rfl, by kernel_rfl⟩
instance : Siz Tryd.prog 13 2 := ⟨by kernel_rfl⟩
instance : FieldT Tryd.prog 13 0 0 9 := ⟨by kernel_rfl, by kernel_rfl⟩
instance : FieldT Tryd.prog 13 1 1 12 := ⟨by kernel_rfl, by kernel_rfl⟩
instance : ZeroT Tryd.prog 13 [.string ByteArray.empty, .int .u64 0] := ⟨by kernel_rfl⟩
/- 21 int32 -/
instance : IntT Tryd.prog 21 .i32 := ⟨by kernel_rfl⟩
instance : Sca Tryd.prog 21 := ⟨by kernel_rfl, by kernel_rfl⟩
instance : Siz Tryd.prog 21 1 := ⟨by kernel_rfl⟩
instance : ZeroT Tryd.prog 21 [.int .i32 0] := ⟨by kernel_rfl⟩
/- 22 head.Field -/
instance : IntT Tryd.prog 22 .i64 := ⟨by kernel_rfl⟩
instance : Sca Tryd.prog 22 := ⟨by kernel_rfl, by kernel_rfl⟩
instance : Siz Tryd.prog 22 1 := ⟨by kernel_rfl⟩
instance : ZeroT Tryd.prog 22 [.int .i64 0] := ⟨by kernel_rfl⟩
/- 24 uint64 -/
instance : IntT Tryd.prog 24 .u64 := ⟨by kernel_rfl⟩
instance : Sca Tryd.prog 24 := ⟨by kernel_rfl, by kernel_rfl⟩
instance : Siz Tryd.prog 24 1 := ⟨by kernel_rfl⟩
instance : ZeroT Tryd.prog 24 [.int .u64 0] := ⟨by kernel_rfl⟩
/- 26 []int -/
instance : Sca Tryd.prog 26 := ⟨by kernel_rfl, by kernel_rfl⟩
instance : Siz Tryd.prog 26 1 := ⟨by kernel_rfl⟩
instance : SliT Tryd.prog 26 3 1 := ⟨by kernel_rfl, by kernel_rfl⟩
instance : ZeroT Tryd.prog 26 [.slice none 0 0] := ⟨by kernel_rfl⟩
/- 28 [6]uint8 -/
instance : AggT Tryd.prog 28 6 := ⟨by kernel_rfl, by kernel_rfl⟩
instance : Siz Tryd.prog 28 6 := ⟨by kernel_rfl⟩
instance : ArrT Tryd.prog 28 6 5 1 := ⟨by kernel_rfl, by kernel_rfl⟩
instance : EqT Tryd.prog 28 [.i .u8, .i .u8, .i .u8, .i .u8, .i .u8, .i .u8] := ⟨by kernel_rfl, by kernel_rfl, by kernel_rfl⟩
instance : ZeroT Tryd.prog 28 [.int .u8 0, .int .u8 0, .int .u8 0, .int .u8 0, .int .u8 0, .int .u8 0] := ⟨by kernel_rfl⟩
/- 29 api.Mac -/
instance : AggT Tryd.prog 29 6 := ⟨by kernel_rfl, by kernel_rfl⟩
instance : Siz Tryd.prog 29 6 := ⟨by kernel_rfl⟩
instance : ArrT Tryd.prog 29 6 5 1 := ⟨by kernel_rfl, by kernel_rfl⟩
instance : EqT Tryd.prog 29 [.i .u8, .i .u8, .i .u8, .i .u8, .i .u8, .i .u8] := ⟨by kernel_rfl, by kernel_rfl, by kernel_rfl⟩
instance : ZeroT Tryd.prog 29 [.int .u8 0, .int .u8 0, .int .u8 0, .int .u8 0, .int .u8 0, .int .u8 0] := ⟨by kernel_rfl⟩
/- 30 uint32 -/
instance : IntT Tryd.prog 30 .u32 := ⟨by kernel_rfl⟩
instance : Sca Tryd.prog 30 := ⟨by kernel_rfl, by kernel_rfl⟩
instance : Siz Tryd.prog 30 1 := ⟨by kernel_rfl⟩
instance : ZeroT Tryd.prog 30 [.int .u32 0] := ⟨by kernel_rfl⟩
/- 31 ip.Addr -/
instance : IntT Tryd.prog 31 .u32 := ⟨by kernel_rfl⟩
instance : Sca Tryd.prog 31 := ⟨by kernel_rfl, by kernel_rfl⟩
instance : Siz Tryd.prog 31 1 := ⟨by kernel_rfl⟩
instance : ZeroT Tryd.prog 31 [.int .u32 0] := ⟨by kernel_rfl⟩
/- 32 struct { Port int; Src api.Mac; Dst api.Mac; Type int; SrcIp -/
instance : AggT Tryd.prog 32 19 := ⟨by kernel_rfl, by kernel_rfl⟩
instance : Siz Tryd.prog 32 19 := ⟨by kernel_rfl⟩
instance : FieldT Tryd.prog 32 0 0 3 := ⟨by kernel_rfl, by kernel_rfl⟩
instance : FieldT Tryd.prog 32 1 1 29 := ⟨by kernel_rfl, by kernel_rfl⟩
instance : FieldT Tryd.prog 32 2 7 29 := ⟨by kernel_rfl, by kernel_rfl⟩
instance : FieldT Tryd.prog 32 3 13 3 := ⟨by kernel_rfl, by kernel_rfl⟩
instance : FieldT Tryd.prog 32 4 14 31 := ⟨by kernel_rfl, by kernel_rfl⟩
instance : FieldT Tryd.prog 32 5 15 31 := ⟨by kernel_rfl, by kernel_rfl⟩
instance : FieldT Tryd.prog 32 6 16 3 := ⟨by kernel_rfl, by kernel_rfl⟩
instance : FieldT Tryd.prog 32 7 17 3 := ⟨by kernel_rfl, by kernel_rfl⟩
instance : FieldT Tryd.prog 32 8 18 3 := ⟨by kernel_rfl, by kernel_rfl⟩
instance : ZeroT Tryd.prog 32 [.int .i64 0, .int .u8 0, .int .u8 0, .int .u8 0, .int .u8 0, .int .u8 0, .int .u8 0, .int .u8 0, .int .u8 0, .int .u8 0, .int .u8 0, .int .u8 0, .int .u8 0, .int .i64 0, .int .u32 0, .int .u32 0, .int .i64 0, .int .i64 0, .int .i64 0] := ⟨by kernel_rfl⟩
/- 33 head.Header -/
instance : AggT Tryd.prog 33 19 := ⟨by kernel_rfl, by kernel_rfl⟩
instance : Siz Tryd.prog 33 19 := ⟨by kernel_rfl⟩
instance : FieldT Tryd.prog 33 0 0 3 := ⟨by kernel_rfl, by kernel_rfl⟩
instance : FieldT Tryd.prog 33 1 1 29 := ⟨by kernel_rfl, by kernel_rfl⟩
instance : FieldT Tryd.prog 33 2 7 29 := ⟨by kernel_rfl, by kernel_rfl⟩
instance : FieldT Tryd.prog 33 3 13 3 := ⟨by kernel_rfl, by kernel_rfl⟩
instance : FieldT Tryd.prog 33 4 14 31 := ⟨by kernel_rfl, by kernel_rfl⟩
instance : FieldT Tryd.prog 33 5 15 31 := ⟨by kernel_rfl, by kernel_rfl⟩
instance : FieldT Tryd.prog 33 6 16 3 := ⟨by kernel_rfl, by kernel_rfl⟩
instance : FieldT Tryd.prog 33 7 17 3 := ⟨by kernel_rfl, by kernel_rfl⟩
instance : FieldT Tryd.prog 33 8 18 3 := ⟨by kernel_rfl, by kernel_rfl⟩
instance : EqT Tryd.prog 33 [.i .i64, .i .u8, .i .u8, .i .u8, .i .u8, .i .u8, .i .u8, .i .u8, .i .u8, .i .u8, .i .u8, .i .u8, .i .u8, .i .i64, .i .u32, .i .u32, .i .i64, .i .i64, .i .i64] := ⟨by kernel_rfl, by kernel_rfl, by kernel_rfl⟩
instance : ZeroT Tryd.prog 33 [.int .i64 0, .int .u8 0, .int .u8 0, .int .u8 0, .int .u8 0, .int .u8 0, .int .u8 0, .int .u8 0, .int .u8 0, .int .u8 0, .int .u8 0, .int .u8 0, .int .u8 0, .int .i64 0, .int .u32 0, .int .u32 0, .int .i64 0, .int .i64 0, .int .i64 0] := ⟨by kernel_rfl⟩
/- 34 api.Errno -/
instance : IntT Tryd.prog 34 .i64 := ⟨by kernel_rfl⟩
instance : Sca Tryd.prog 34 := ⟨by kernel_rfl, by kernel_rfl⟩
instance : Siz Tryd.prog 34 1 := ⟨by kernel_rfl⟩
instance : ZeroT Tryd.prog 34 [.int .i64 0] := ⟨by kernel_rfl⟩
/- 39 [9]uint64 -/
instance : AggT Tryd.prog 39 9 := ⟨by kernel_rfl, by kernel_rfl⟩
instance : Siz Tryd.prog 39 9 := ⟨by kernel_rfl⟩
instance : ArrT Tryd.prog 39 9 24 1 := ⟨by kernel_rfl, by kernel_rfl⟩
instance : EqT Tryd.prog 39 [.i .u64, .i .u64, .i .u64, .i .u64, .i .u64, .i .u64, .i .u64, .i .u64, .i .u64] := ⟨by kernel_rfl, by kernel_rfl, by kernel_rfl⟩
instance : ZeroT Tryd.prog 39 [.int .u64 0, .int .u64 0, .int .u64 0, .int .u64 0, .int .u64 0, .int .u64 0, .int .u64 0, .int .u64 0, .int .u64 0] := ⟨by kernel_rfl⟩
/- 44 struct { Val [9]uint64; Mask [9]uint64 } -/
instance : AggT Tryd.prog 44 18 := ⟨by kernel_rfl, by kernel_rfl⟩
instance : Siz Tryd.prog 44 18 := ⟨by kernel_rfl⟩
instance : FieldT Tryd.prog 44 0 0 39 := ⟨by kernel_rfl, by kernel_rfl⟩
instance : FieldT Tryd.prog 44 1 9 39 := ⟨by kernel_rfl, by kernel_rfl⟩
instance : ZeroT Tryd.prog 44 [.int .u64 0, .int .u64 0, .int .u64 0, .int .u64 0, .int .u64 0, .int .u64 0, .int .u64 0, .int .u64 0, .int .u64 0, .int .u64 0, .int .u64 0, .int .u64 0, .int .u64 0, .int .u64 0, .int .u64 0, .int .u64 0, .int .u64 0, .int .u64 0] := ⟨by kernel_rfl⟩
/- 45 match.Match -/
instance : AggT Tryd.prog 45 18 := ⟨by kernel_rfl, by kernel_rfl⟩
instance : Siz Tryd.prog 45 18 := ⟨by kernel_rfl⟩
instance : FieldT Tryd.prog 45 0 0 39 := ⟨by kernel_rfl, by kernel_rfl⟩
instance : FieldT Tryd.prog 45 1 9 39 := ⟨by kernel_rfl, by kernel_rfl⟩
instance : EqT Tryd.prog 45 [.i .u64, .i .u64, .i .u64, .i .u64, .i .u64, .i .u64, .i .u64, .i .u64, .i .u64, .i .u64, .i .u64, .i .u64, .i .u64, .i .u64, .i .u64, .i .u64, .i .u64, .i .u64] := ⟨by kernel_rfl, by kernel_rfl, by kernel_rfl⟩
instance : ZeroT Tryd.prog 45 [.int .u64 0, .int .u64 0, .int .u64 0, .int .u64 0, .int .u64 0, .int .u64 0, .int .u64 0, .int .u64 0, .int .u64 0, .int .u64 0, .int .u64 0, .int .u64 0, .int .u64 0, .int .u64 0, .int .u64 0, .int .u64 0, .int .u64 0, .int .u64 0] := ⟨by kernel_rfl⟩
/- 48 uint -/
instance : IntT Tryd.prog 48 .u64 := ⟨by kernel_rfl⟩
instance : Sca Tryd.prog 48 := ⟨by kernel_rfl, by kernel_rfl⟩
instance : Siz Tryd.prog 48 1 := ⟨by kernel_rfl⟩
instance : ZeroT Tryd.prog 48 [.int .u64 0] := ⟨by kernel_rfl⟩
/- 52 struct { Addr ip.Addr; Len int } -/
instance : AggT Tryd.prog 52 2 := ⟨by kernel_rfl, by kernel_rfl⟩
instance : Siz Tryd.prog 52 2 := ⟨by kernel_rfl⟩
instance : FieldT Tryd.prog 52 0 0 31 := ⟨by kernel_rfl, by kernel_rfl⟩
instance : FieldT Tryd.prog 52 1 1 3 := ⟨by kernel_rfl, by kernel_rfl⟩
instance : ZeroT Tryd.prog 52 [.int .u32 0, .int .i64 0] := ⟨by kernel_rfl⟩
/- 53 ip.Prefix -/
instance : AggT Tryd.prog 53 2 := ⟨by kernel_rfl, by kernel_rfl⟩
instance : Siz Tryd.prog 53 2 := ⟨by kernel_rfl⟩
instance : FieldT Tryd.prog 53 0 0 31 := ⟨by kernel_rfl, by kernel_rfl⟩
instance : FieldT Tryd.prog 53 1 1 3 := ⟨by kernel_rfl, by kernel_rfl⟩
instance : EqT Tryd.prog 53 [.i .u32, .i .i64] := ⟨by kernel_rfl, by kernel_rfl, by kernel_rfl⟩
instance : ZeroT Tryd.prog 53 [.int .u32 0, .int .i64 0] := ⟨by kernel_rfl⟩
/- 65 [9]int -/
instance : AggT Tryd.prog 65 9 := ⟨by kernel_rfl, by kernel_rfl⟩
instance : Siz Tryd.prog 65 9 := ⟨by kernel_rfl⟩
instance : ArrT Tryd.prog 65 9 3 1 := ⟨by kernel_rfl, by kernel_rfl⟩
instance : EqT Tryd.prog 65 [.i .i64, .i .i64, .i .i64, .i .i64, .i .i64, .i .i64, .i .i64, .i .i64, .i .i64] := ⟨by kernel_rfl, by kernel_rfl, by kernel_rfl⟩
instance : ZeroT Tryd.prog 65 [.int .i64 0, .int .i64 0, .int .i64 0, .int .i64 0, .int .i64 0, .int .i64 0, .int .i64 0, .int .i64 0, .int .i64 0] := ⟨by kernel_rfl⟩
/- 68 struct { n int; f head.Field } -/
instance : AggT Tryd.prog 68 2 := ⟨by kernel_rfl, by kernel_rfl⟩
instance : Siz Tryd.prog 68 2 := ⟨by kernel_rfl⟩
instance : FieldT Tryd.prog 68 0 0 3 := ⟨by kernel_rfl, by kernel_rfl⟩
instance : FieldT Tryd.prog 68 1 1 22 := ⟨by kernel_rfl, by kernel_rfl⟩
instance : ZeroT Tryd.prog 68 [.int .i64 0, .int .i64 0] := ⟨by kernel_rfl⟩
/- 69 []struct { n int; f head.Field } -/
instance : Sca Tryd.prog 69 := ⟨by kernel_rfl, by kernel_rfl⟩
instance : Siz Tryd.prog 69 1 := ⟨by kernel_rfl⟩
instance : SliT Tryd.prog 69 68 2 := ⟨by kernel_rfl, by kernel_rfl⟩
instance : ZeroT Tryd.prog 69 [.slice none 0 0] := ⟨by kernel_rfl⟩
/- 81 *uint8 -/
instance : Sca Tryd.prog 81 := ⟨by kernel_rfl, by kernel_rfl⟩
instance : Siz Tryd.prog 81 1 := ⟨by kernel_rfl⟩
instance : PtrT Tryd.prog 81 5 := ⟨by kernel_rfl⟩
instance : ZeroT Tryd.prog 81 [.pointer none] := ⟨by kernel_rfl⟩
/- 86 unsafe.Pointer -/
instance : Sca Tryd.prog 86 := ⟨by kernel_rfl, by kernel_rfl⟩
instance : Siz Tryd.prog 86 1 := ⟨by kernel_rfl⟩
instance : ZeroT Tryd.prog 86 [.pointer none] := ⟨by kernel_rfl⟩
instance : ElT Tryd.prog 3 1 8 := ⟨by kernel_rfl, by kernel_rfl, by decide⟩
instance : ElT Tryd.prog 68 2 16 := ⟨by kernel_rfl, by kernel_rfl, by decide⟩
instance : IsFn Tryd.prog 3 := isFn_of Tryd.func3 (by kernel_rfl) (by kernel_rfl)
instance : IsFn Tryd.prog 4 := isFn_of Tryd.func4 (by kernel_rfl) (by kernel_rfl)
instance : IsFn Tryd.prog 5 := isFn_of Tryd.func5 (by kernel_rfl) (by kernel_rfl)
instance : IsFn Tryd.prog 6 := isFn_of Tryd.func6 (by kernel_rfl) (by kernel_rfl)
instance : IsFn Tryd.prog 7 := isFn_of Tryd.func7 (by kernel_rfl) (by kernel_rfl)
instance : IsFn Tryd.prog 8 := isFn_of Tryd.func8 (by kernel_rfl) (by kernel_rfl)
instance : IsFn Tryd.prog 9 := isFn_of Tryd.func9 (by kernel_rfl) (by kernel_rfl)
instance : IsFn Tryd.prog 10 := isFn_of Tryd.func10 (by kernel_rfl) (by kernel_rfl)
instance : IsFn Tryd.prog 11 := isFn_of Tryd.func11 (by kernel_rfl) (by kernel_rfl)
instance : IsFn Tryd.prog 12 := isFn_of Tryd.func12 (by kernel_rfl) (by kernel_rfl)
instance : IsFn Tryd.prog 13 := isFn_of Tryd.func13 (by kernel_rfl) (by kernel_rfl)
instance : IsFn Tryd.prog 14 := isFn_of Tryd.func14 (by kernel_rfl) (by kernel_rfl)
instance : IsFn Tryd.prog 15 := isFn_of Tryd.func15 (by kernel_rfl) (by kernel_rfl)
instance : IsFn Tryd.prog 16 := isFn_of Tryd.func16 (by kernel_rfl) (by kernel_rfl)
instance : IsFn Tryd.prog 17 := isFn_of Tryd.func17 (by kernel_rfl) (by kernel_rfl)
instance : IsFn Tryd.prog 18 := isFn_of Tryd.func18 (by kernel_rfl) (by kernel_rfl)
instance : IsFn Tryd.prog 19 := isFn_of Tryd.func19 (by kernel_rfl) (by kernel_rfl)
instance : IsFn Tryd.prog 20 := isFn_of Tryd.func20 (by kernel_rfl) (by kernel_rfl)
instance : IsFn Tryd.prog 21 := isFn_of Tryd.func21 (by kernel_rfl) (by kernel_rfl)
instance : IsFn Tryd.prog 22 := isFn_of Tryd.func22 (by kernel_rfl) (by kernel_rfl)
instance : IsFn Tryd.prog 23 := isFn_of Tryd.func23 (by kernel_rfl) (by kernel_rfl)
instance : IsFn Tryd.prog 24 := isFn_of Tryd.func24 (by kernel_rfl) (by kernel_rfl)
instance : IsFn Tryd.prog 25 := isFn_of Tryd.func25 (by kernel_rfl) (by kernel_rfl)
instance : IsFn Tryd.prog 26 := isFn_of Tryd.func26 (by kernel_rfl) (by kernel_rfl)
instance : IsFn Tryd.prog 27 := isFn_of Tryd.func27 (by kernel_rfl) (by kernel_rfl)
instance : IsFn Tryd.prog 28 := isFn_of Tryd.func28 (by kernel_rfl) (by kernel_rfl)
instance : IsFn Tryd.prog 29 := isFn_of Tryd.func29 (by kernel_rfl) (by kernel_rfl)
instance : IsFn Tryd.prog 30 := isFn_of Tryd.func30 (by kernel_rfl) (by kernel_rfl)
instance : IsFn Tryd.prog 31 := isFn_of Tryd.func31 (by kernel_rfl) (by kernel_rfl)
instance : IsFn Tryd.prog 32 := isFn_of Tryd.func32 (by kernel_rfl) (by kernel_rfl)
instance : IsFn Tryd.prog 33 := isFn_of Tryd.func33 (by kernel_rfl) (by kernel_rfl)
instance : IsFn Tryd.prog 34 := isFn_of Tryd.func34 (by kernel_rfl) (by kernel_rfl)
end Sl
end Go.Proofs.YtgoplihimajjkaaDoor
