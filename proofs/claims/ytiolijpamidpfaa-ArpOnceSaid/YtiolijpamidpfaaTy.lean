/-
  What each type and each function of this seat's translation is: closed facts, as instances. No conditions.
-/
import Derived.Test.YtiolijpamidpfaaSxA
namespace Go.Proofs.Ytiolijpamidpfaa
open Go.RowKit
namespace Sx
set_option linter.unusedVariables false
/- 2 int64 -/
instance : IntT Try.prog 2 .i64 := ⟨by kernel_rfl⟩
instance : Sca Try.prog 2 := ⟨by kernel_rfl, by kernel_rfl⟩
instance : Siz Try.prog 2 1 := ⟨by kernel_rfl⟩
instance : ZeroT Try.prog 2 [.int .i64 0] := ⟨by kernel_rfl⟩
/- 3 int -/
instance : IntT Try.prog 3 .i64 := ⟨by kernel_rfl⟩
instance : Sca Try.prog 3 := ⟨by kernel_rfl, by kernel_rfl⟩
instance : Siz Try.prog 3 1 := ⟨by kernel_rfl⟩
instance : ZeroT Try.prog 3 [.int .i64 0] := ⟨by kernel_rfl⟩
/- 4 bool -/
instance : KnownT Try.prog 4 := ⟨⟨_, Try.underlying4⟩⟩
instance : Sca Try.prog 4 := ⟨by kernel_rfl, by kernel_rfl⟩
instance : Siz Try.prog 4 1 := ⟨by kernel_rfl⟩
instance : ZeroT Try.prog 4 [.bool false] := ⟨by kernel_rfl⟩
/- 5 uint8 -/
instance : IntT Try.prog 5 .u8 := ⟨by kernel_rfl⟩
instance : Sca Try.prog 5 := ⟨by kernel_rfl, by kernel_rfl⟩
instance : Siz Try.prog 5 1 := ⟨by kernel_rfl⟩
instance : ZeroT Try.prog 5 [.int .u8 0] := ⟨by kernel_rfl⟩
/- 9 string -/
instance : KnownT Try.prog 9 := ⟨⟨_, Try.underlying9⟩⟩
instance : Sca Try.prog 9 := ⟨by kernel_rfl, by kernel_rfl⟩
instance : Siz Try.prog 9 1 := ⟨by kernel_rfl⟩
instance : ZeroT Try.prog 9 [.string ByteArray.empty] := ⟨by kernel_rfl⟩
/- 12 uintptr -/
instance : IntT Try.prog 12 .u64 := ⟨by kernel_rfl⟩
instance : Sca Try.prog 12 := ⟨by kernel_rfl, by kernel_rfl⟩
instance : Siz Try.prog 12 1 := ⟨by kernel_rfl⟩
instance : ZeroT Try.prog 12 [.int .u64 0] := ⟨by kernel_rfl⟩
/- 13 struct { msg string; addr uintptr } -/
instance : AggT Try.prog 13 2 := ⟨by kernel_rfl, by kernel_rfl⟩
instance : Siz Try.prog 13 2 := ⟨by kernel_rfl⟩
instance : FieldT Try.prog 13 0 0 9 := ⟨by kernel_rfl, by kernel_rfl⟩
instance : FieldT Try.prog 13 1 1 12 := ⟨by kernel_rfl, by kernel_rfl⟩
instance : ZeroT Try.prog 13 [.string ByteArray.empty, .int .u64 0] := ⟨by kernel_rfl⟩
/- 21 int32 -/
instance : IntT Try.prog 21 .i32 := ⟨by kernel_rfl⟩
instance : Sca Try.prog 21 := ⟨by kernel_rfl, by kernel_rfl⟩
instance : Siz Try.prog 21 1 := ⟨by kernel_rfl⟩
instance : ZeroT Try.prog 21 [.int .i32 0] := ⟨by kernel_rfl⟩
/- 22 []uint8 -/
instance : Sca Try.prog 22 := ⟨by kernel_rfl, by kernel_rfl⟩
instance : Siz Try.prog 22 1 := ⟨by kernel_rfl⟩
instance : SliT Try.prog 22 5 1 := ⟨by kernel_rfl, by kernel_rfl⟩
instance : ZeroT Try.prog 22 [.slice none 0 0] := ⟨by kernel_rfl⟩
/- 25 [6]uint8 -/
instance : AggT Try.prog 25 6 := ⟨by kernel_rfl, by kernel_rfl⟩
instance : Siz Try.prog 25 6 := ⟨by kernel_rfl⟩
instance : ArrT Try.prog 25 6 5 1 := ⟨by kernel_rfl, by kernel_rfl⟩
instance : ZeroT Try.prog 25 [.int .u8 0, .int .u8 0, .int .u8 0, .int .u8 0, .int .u8 0, .int .u8 0] := ⟨by kernel_rfl⟩
/- 26 api.Mac -/
instance : AggT Try.prog 26 6 := ⟨by kernel_rfl, by kernel_rfl⟩
instance : Siz Try.prog 26 6 := ⟨by kernel_rfl⟩
instance : ArrT Try.prog 26 6 5 1 := ⟨by kernel_rfl, by kernel_rfl⟩
instance : ZeroT Try.prog 26 [.int .u8 0, .int .u8 0, .int .u8 0, .int .u8 0, .int .u8 0, .int .u8 0] := ⟨by kernel_rfl⟩
/- 27 uint32 -/
instance : IntT Try.prog 27 .u32 := ⟨by kernel_rfl⟩
instance : Sca Try.prog 27 := ⟨by kernel_rfl, by kernel_rfl⟩
instance : Siz Try.prog 27 1 := ⟨by kernel_rfl⟩
instance : ZeroT Try.prog 27 [.int .u32 0] := ⟨by kernel_rfl⟩
/- 28 ip.Addr -/
instance : IntT Try.prog 28 .u32 := ⟨by kernel_rfl⟩
instance : Sca Try.prog 28 := ⟨by kernel_rfl, by kernel_rfl⟩
instance : Siz Try.prog 28 1 := ⟨by kernel_rfl⟩
instance : ZeroT Try.prog 28 [.int .u32 0] := ⟨by kernel_rfl⟩
/- 29 struct { Port int; Src api.Mac; Dst api.Mac; Type int; SrcIp -/
instance : AggT Try.prog 29 19 := ⟨by kernel_rfl, by kernel_rfl⟩
instance : Siz Try.prog 29 19 := ⟨by kernel_rfl⟩
instance : FieldT Try.prog 29 0 0 3 := ⟨by kernel_rfl, by kernel_rfl⟩
instance : FieldT Try.prog 29 1 1 26 := ⟨by kernel_rfl, by kernel_rfl⟩
instance : FieldT Try.prog 29 2 7 26 := ⟨by kernel_rfl, by kernel_rfl⟩
instance : FieldT Try.prog 29 3 13 3 := ⟨by kernel_rfl, by kernel_rfl⟩
instance : FieldT Try.prog 29 4 14 28 := ⟨by kernel_rfl, by kernel_rfl⟩
instance : FieldT Try.prog 29 5 15 28 := ⟨by kernel_rfl, by kernel_rfl⟩
instance : FieldT Try.prog 29 6 16 3 := ⟨by kernel_rfl, by kernel_rfl⟩
instance : FieldT Try.prog 29 7 17 3 := ⟨by kernel_rfl, by kernel_rfl⟩
instance : FieldT Try.prog 29 8 18 3 := ⟨by kernel_rfl, by kernel_rfl⟩
instance : ZeroT Try.prog 29 [.int .i64 0, .int .u8 0, .int .u8 0, .int .u8 0, .int .u8 0, .int .u8 0, .int .u8 0, .int .u8 0, .int .u8 0, .int .u8 0, .int .u8 0, .int .u8 0, .int .u8 0, .int .i64 0, .int .u32 0, .int .u32 0, .int .i64 0, .int .i64 0, .int .i64 0] := ⟨by kernel_rfl⟩
/- 30 head.Header -/
instance : AggT Try.prog 30 19 := ⟨by kernel_rfl, by kernel_rfl⟩
instance : Siz Try.prog 30 19 := ⟨by kernel_rfl⟩
instance : FieldT Try.prog 30 0 0 3 := ⟨by kernel_rfl, by kernel_rfl⟩
instance : FieldT Try.prog 30 1 1 26 := ⟨by kernel_rfl, by kernel_rfl⟩
instance : FieldT Try.prog 30 2 7 26 := ⟨by kernel_rfl, by kernel_rfl⟩
instance : FieldT Try.prog 30 3 13 3 := ⟨by kernel_rfl, by kernel_rfl⟩
instance : FieldT Try.prog 30 4 14 28 := ⟨by kernel_rfl, by kernel_rfl⟩
instance : FieldT Try.prog 30 5 15 28 := ⟨by kernel_rfl, by kernel_rfl⟩
instance : FieldT Try.prog 30 6 16 3 := ⟨by kernel_rfl, by kernel_rfl⟩
instance : FieldT Try.prog 30 7 17 3 := ⟨by kernel_rfl, by kernel_rfl⟩
instance : FieldT Try.prog 30 8 18 3 := ⟨by kernel_rfl, by kernel_rfl⟩
instance : ZeroT Try.prog 30 [.int .i64 0, .int .u8 0, .int .u8 0, .int .u8 0, .int .u8 0, .int .u8 0, .int .u8 0, .int .u8 0, .int .u8 0, .int .u8 0, .int .u8 0, .int .u8 0, .int .u8 0, .int .i64 0, .int .u32 0, .int .u32 0, .int .i64 0, .int .i64 0, .int .i64 0] := ⟨by kernel_rfl⟩
/- 31 struct { Head head.Header; bytes []uint8; ports int; end int -/
instance : AggT Try.prog 31 22 := ⟨by kernel_rfl, by kernel_rfl⟩
instance : Siz Try.prog 31 22 := ⟨by kernel_rfl⟩
instance : FieldT Try.prog 31 0 0 30 := ⟨by kernel_rfl, by kernel_rfl⟩
instance : FieldT Try.prog 31 1 19 22 := ⟨by kernel_rfl, by kernel_rfl⟩
instance : FieldT Try.prog 31 2 20 3 := ⟨by kernel_rfl, by kernel_rfl⟩
instance : FieldT Try.prog 31 3 21 3 := ⟨by kernel_rfl, by kernel_rfl⟩
instance : ZeroT Try.prog 31 [.int .i64 0, .int .u8 0, .int .u8 0, .int .u8 0, .int .u8 0, .int .u8 0, .int .u8 0, .int .u8 0, .int .u8 0, .int .u8 0, .int .u8 0, .int .u8 0, .int .u8 0, .int .i64 0, .int .u32 0, .int .u32 0, .int .i64 0, .int .i64 0, .int .i64 0, .slice none 0 0, .int .i64 0, .int .i64 0] := ⟨by kernel_rfl⟩
/- 32 frame.Pack -/
instance : AggT Try.prog 32 22 := ⟨by kernel_rfl, by kernel_rfl⟩
instance : Siz Try.prog 32 22 := ⟨by kernel_rfl⟩
instance : FieldT Try.prog 32 0 0 30 := ⟨by kernel_rfl, by kernel_rfl⟩
instance : FieldT Try.prog 32 1 19 22 := ⟨by kernel_rfl, by kernel_rfl⟩
instance : FieldT Try.prog 32 2 20 3 := ⟨by kernel_rfl, by kernel_rfl⟩
instance : FieldT Try.prog 32 3 21 3 := ⟨by kernel_rfl, by kernel_rfl⟩
instance : ZeroT Try.prog 32 [.int .i64 0, .int .u8 0, .int .u8 0, .int .u8 0, .int .u8 0, .int .u8 0, .int .u8 0, .int .u8 0, .int .u8 0, .int .u8 0, .int .u8 0, .int .u8 0, .int .u8 0, .int .i64 0, .int .u32 0, .int .u32 0, .int .i64 0, .int .i64 0, .int .i64 0, .slice none 0 0, .int .i64 0, .int .i64 0] := ⟨by kernel_rfl⟩
/- 33 api.Errno -/
instance : IntT Try.prog 33 .i64 := ⟨by kernel_rfl⟩
instance : Sca Try.prog 33 := ⟨by kernel_rfl, by kernel_rfl⟩
instance : Siz Try.prog 33 1 := ⟨by kernel_rfl⟩
instance : ZeroT Try.prog 33 [.int .i64 0] := ⟨by kernel_rfl⟩
/- 36 struct { Port int; Src [6]uint8; Dst [6]uint8; Type int; Src -/
instance : AggT Try.prog 36 19 := ⟨by kernel_rfl, by kernel_rfl⟩
instance : Siz Try.prog 36 19 := ⟨by kernel_rfl⟩
instance : FieldT Try.prog 36 0 0 3 := ⟨by kernel_rfl, by kernel_rfl⟩
instance : FieldT Try.prog 36 1 1 25 := ⟨by kernel_rfl, by kernel_rfl⟩
instance : FieldT Try.prog 36 2 7 25 := ⟨by kernel_rfl, by kernel_rfl⟩
instance : FieldT Try.prog 36 3 13 3 := ⟨by kernel_rfl, by kernel_rfl⟩
instance : FieldT Try.prog 36 4 14 27 := ⟨by kernel_rfl, by kernel_rfl⟩
instance : FieldT Try.prog 36 5 15 27 := ⟨by kernel_rfl, by kernel_rfl⟩
instance : FieldT Try.prog 36 6 16 3 := ⟨by kernel_rfl, by kernel_rfl⟩
instance : FieldT Try.prog 36 7 17 3 := ⟨by kernel_rfl, by kernel_rfl⟩
instance : FieldT Try.prog 36 8 18 3 := ⟨by kernel_rfl, by kernel_rfl⟩
instance : ZeroT Try.prog 36 [.int .i64 0, .int .u8 0, .int .u8 0, .int .u8 0, .int .u8 0, .int .u8 0, .int .u8 0, .int .u8 0, .int .u8 0, .int .u8 0, .int .u8 0, .int .u8 0, .int .u8 0, .int .i64 0, .int .u32 0, .int .u32 0, .int .i64 0, .int .i64 0, .int .i64 0] := ⟨by kernel_rfl⟩
/- 37 carrefourref05.Header -/
instance : AggT Try.prog 37 19 := ⟨by kernel_rfl, by kernel_rfl⟩
instance : Siz Try.prog 37 19 := ⟨by kernel_rfl⟩
instance : FieldT Try.prog 37 0 0 3 := ⟨by kernel_rfl, by kernel_rfl⟩
instance : FieldT Try.prog 37 1 1 25 := ⟨by kernel_rfl, by kernel_rfl⟩
instance : FieldT Try.prog 37 2 7 25 := ⟨by kernel_rfl, by kernel_rfl⟩
instance : FieldT Try.prog 37 3 13 3 := ⟨by kernel_rfl, by kernel_rfl⟩
instance : FieldT Try.prog 37 4 14 27 := ⟨by kernel_rfl, by kernel_rfl⟩
instance : FieldT Try.prog 37 5 15 27 := ⟨by kernel_rfl, by kernel_rfl⟩
instance : FieldT Try.prog 37 6 16 3 := ⟨by kernel_rfl, by kernel_rfl⟩
instance : FieldT Try.prog 37 7 17 3 := ⟨by kernel_rfl, by kernel_rfl⟩
instance : FieldT Try.prog 37 8 18 3 := ⟨by kernel_rfl, by kernel_rfl⟩
instance : ZeroT Try.prog 37 [.int .i64 0, .int .u8 0, .int .u8 0, .int .u8 0, .int .u8 0, .int .u8 0, .int .u8 0, .int .u8 0, .int .u8 0, .int .u8 0, .int .u8 0, .int .u8 0, .int .u8 0, .int .i64 0, .int .u32 0, .int .u32 0, .int .i64 0, .int .i64 0, .int .i64 0] := ⟨by kernel_rfl⟩
/- 43 struct { Answer bool; Mac api.Mac; Ip ip.Addr; ToMac api.Mac -/
instance : AggT Try.prog 43 15 := ⟨by kernel_rfl, by kernel_rfl⟩
instance : Siz Try.prog 43 15 := ⟨by kernel_rfl⟩
instance : FieldT Try.prog 43 0 0 4 := ⟨by kernel_rfl, by kernel_rfl⟩
instance : FieldT Try.prog 43 1 1 26 := ⟨by kernel_rfl, by kernel_rfl⟩
instance : FieldT Try.prog 43 2 7 28 := ⟨by kernel_rfl, by kernel_rfl⟩
instance : FieldT Try.prog 43 3 8 26 := ⟨by kernel_rfl, by kernel_rfl⟩
instance : FieldT Try.prog 43 4 14 28 := ⟨by kernel_rfl, by kernel_rfl⟩
instance : ZeroT Try.prog 43 [.bool false, .int .u8 0, .int .u8 0, .int .u8 0, .int .u8 0, .int .u8 0, .int .u8 0, .int .u32 0, .int .u8 0, .int .u8 0, .int .u8 0, .int .u8 0, .int .u8 0, .int .u8 0, .int .u32 0] := ⟨by kernel_rfl⟩
/- 44 frame.Ask -/
instance : AggT Try.prog 44 15 := ⟨by kernel_rfl, by kernel_rfl⟩
instance : Siz Try.prog 44 15 := ⟨by kernel_rfl⟩
instance : FieldT Try.prog 44 0 0 4 := ⟨by kernel_rfl, by kernel_rfl⟩
instance : FieldT Try.prog 44 1 1 26 := ⟨by kernel_rfl, by kernel_rfl⟩
instance : FieldT Try.prog 44 2 7 28 := ⟨by kernel_rfl, by kernel_rfl⟩
instance : FieldT Try.prog 44 3 8 26 := ⟨by kernel_rfl, by kernel_rfl⟩
instance : FieldT Try.prog 44 4 14 28 := ⟨by kernel_rfl, by kernel_rfl⟩
instance : ZeroT Try.prog 44 [.bool false, .int .u8 0, .int .u8 0, .int .u8 0, .int .u8 0, .int .u8 0, .int .u8 0, .int .u32 0, .int .u8 0, .int .u8 0, .int .u8 0, .int .u8 0, .int .u8 0, .int .u8 0, .int .u32 0] := ⟨by kernel_rfl⟩
/- 51 *arp.Responder -/
instance : Sca Try.prog 51 := ⟨by kernel_rfl, by kernel_rfl⟩
instance : Siz Try.prog 51 1 := ⟨by kernel_rfl⟩
instance : PtrT Try.prog 51 69 := ⟨by kernel_rfl⟩
instance : ZeroT Try.prog 51 [.pointer none] := ⟨by kernel_rfl⟩
/- 58 []frame.Ask -/
instance : Sca Try.prog 58 := ⟨by kernel_rfl, by kernel_rfl⟩
instance : Siz Try.prog 58 1 := ⟨by kernel_rfl⟩
instance : SliT Try.prog 58 44 15 := ⟨by kernel_rfl, by kernel_rfl⟩
instance : ZeroT Try.prog 58 [.slice none 0 0] := ⟨by kernel_rfl⟩
/- 59 map[ip.Addr]api.Mac -/
instance : Sca Try.prog 59 := ⟨by kernel_rfl, by kernel_rfl⟩
instance : Siz Try.prog 59 1 := ⟨by kernel_rfl⟩
instance : ZeroT Try.prog 59 [.map none] := ⟨by kernel_rfl⟩
/- 62 uint -/
instance : IntT Try.prog 62 .u64 := ⟨by kernel_rfl⟩
instance : Sca Try.prog 62 := ⟨by kernel_rfl, by kernel_rfl⟩
instance : Siz Try.prog 62 1 := ⟨by kernel_rfl⟩
instance : ZeroT Try.prog 62 [.int .u64 0] := ⟨by kernel_rfl⟩
/- 68 struct { know func(ip.Addr) (api.Mac, bool); seen map[ip.Add -/
instance : AggT Try.prog 68 2 := ⟨by kernel_rfl, by kernel_rfl⟩
instance : Siz Try.prog 68 2 := ⟨by kernel_rfl⟩
instance : FieldT Try.prog 68 0 0 53 := ⟨by kernel_rfl, by kernel_rfl⟩
instance : FieldT Try.prog 68 1 1 59 := ⟨by kernel_rfl, by kernel_rfl⟩
instance : ZeroT Try.prog 68 [.nilFunc, .map none] := ⟨by kernel_rfl⟩
/- 69 arp.Responder -/
instance : AggT Try.prog 69 2 := ⟨by kernel_rfl, by kernel_rfl⟩
instance : Siz Try.prog 69 2 := ⟨by kernel_rfl⟩
instance : FieldT Try.prog 69 0 0 53 := ⟨by kernel_rfl, by kernel_rfl⟩
instance : FieldT Try.prog 69 1 1 59 := ⟨by kernel_rfl, by kernel_rfl⟩
instance : ZeroT Try.prog 69 [.nilFunc, .map none] := ⟨by kernel_rfl⟩
/- 81 *uint8 -/
instance : Sca Try.prog 81 := ⟨by kernel_rfl, by kernel_rfl⟩
instance : Siz Try.prog 81 1 := ⟨by kernel_rfl⟩
instance : PtrT Try.prog 81 5 := ⟨by kernel_rfl⟩
instance : ZeroT Try.prog 81 [.pointer none] := ⟨by kernel_rfl⟩
/- 87 unsafe.Pointer -/
instance : Sca Try.prog 87 := ⟨by kernel_rfl, by kernel_rfl⟩
instance : Siz Try.prog 87 1 := ⟨by kernel_rfl⟩
instance : ZeroT Try.prog 87 [.pointer none] := ⟨by kernel_rfl⟩
instance : ElT Try.prog 5 1 1 := ⟨by kernel_rfl, by kernel_rfl, by decide⟩
instance : ElT Try.prog 44 15 24 := ⟨by kernel_rfl, by kernel_rfl, by decide⟩
instance : IsFn Try.prog 3 := isFn_of Try.func3 (by kernel_rfl) (by kernel_rfl)
instance : IsFn Try.prog 4 := isFn_of Try.func4 (by kernel_rfl) (by kernel_rfl)
instance : IsFn Try.prog 5 := isFn_of Try.func5 (by kernel_rfl) (by kernel_rfl)
instance : IsFn Try.prog 6 := isFn_of Try.func6 (by kernel_rfl) (by kernel_rfl)
instance : IsFn Try.prog 7 := isFn_of Try.func7 (by kernel_rfl) (by kernel_rfl)
instance : IsFn Try.prog 8 := isFn_of Try.func8 (by kernel_rfl) (by kernel_rfl)
instance : IsFn Try.prog 9 := isFn_of Try.func9 (by kernel_rfl) (by kernel_rfl)
instance : IsFn Try.prog 10 := isFn_of Try.func10 (by kernel_rfl) (by kernel_rfl)
instance : IsFn Try.prog 11 := isFn_of Try.func11 (by kernel_rfl) (by kernel_rfl)
instance : IsFn Try.prog 12 := isFn_of Try.func12 (by kernel_rfl) (by kernel_rfl)
instance : IsFn Try.prog 13 := isFn_of Try.func13 (by kernel_rfl) (by kernel_rfl)
instance : IsFn Try.prog 14 := isFn_of Try.func14 (by kernel_rfl) (by kernel_rfl)
instance : IsFn Try.prog 15 := isFn_of Try.func15 (by kernel_rfl) (by kernel_rfl)
instance : IsFn Try.prog 16 := isFn_of Try.func16 (by kernel_rfl) (by kernel_rfl)
instance : IsFn Try.prog 17 := isFn_of Try.func17 (by kernel_rfl) (by kernel_rfl)
instance : IsFn Try.prog 18 := isFn_of Try.func18 (by kernel_rfl) (by kernel_rfl)
instance : IsFn Try.prog 19 := isFn_of Try.func19 (by kernel_rfl) (by kernel_rfl)
instance : IsFn Try.prog 20 := isFn_of Try.func20 (by kernel_rfl) (by kernel_rfl)
instance : IsFn Try.prog 21 := isFn_of Try.func21 (by kernel_rfl) (by kernel_rfl)
instance : IsFn Try.prog 22 := isFn_of Try.func22 (by kernel_rfl) (by kernel_rfl)
instance : IsFn Try.prog 23 := isFn_of Try.func23 (by kernel_rfl) (by kernel_rfl)
instance : IsFn Try.prog 24 := isFn_of Try.func24 (by kernel_rfl) (by kernel_rfl)
instance : IsFn Try.prog 25 := isFn_of Try.func25 (by kernel_rfl) (by kernel_rfl)
instance : IsFn Try.prog 26 := isFn_of Try.func26 (by kernel_rfl) (by kernel_rfl)
instance : IsFn Try.prog 27 := isFn_of Try.func27 (by kernel_rfl) (by kernel_rfl)
instance : IsFn Try.prog 28 := isFn_of Try.func28 (by kernel_rfl) (by kernel_rfl)
instance : IsFn Try.prog 29 := isFn_of Try.func29 (by kernel_rfl) (by kernel_rfl)
instance : IsFn Try.prog 30 := isFn_of Try.func30 (by kernel_rfl) (by kernel_rfl)
instance : IsFn Try.prog 31 := isFn_of Try.func31 (by kernel_rfl) (by kernel_rfl)
instance : IsFn Try.prog 32 := isFn_of Try.func32 (by kernel_rfl) (by kernel_rfl)
instance : IsFn Try.prog 33 := isFn_of Try.func33 (by kernel_rfl) (by kernel_rfl)
end Sx
end Go.Proofs.Ytiolijpamidpfaa
