/-
  The types of this seat, as the symbolic steps ask for them.
-/
import Derived.Test.YtpdjnjkliioneaaSxL
import Derived.Test.YtpdjnjkliioneaaSxP
import Derived.Test.YtpdjnjkliioneaaWdP
import Derived.Test.YtpdjnjkliioneaaProg
import Derived.KernelRfl
namespace Go.Proofs.Ytpdjnjkliioneaa
open Go Go.RowKit
instance : TyShape Try.prog 0 false 1 := ⟨by kernel_rfl, by kernel_rfl⟩
instance : TyZero Try.prog 0 [.v (.tuple #[])] := ⟨fun _ => by kernel_rfl⟩
instance : TyShape Try.prog 1 false 1 := ⟨by kernel_rfl, by kernel_rfl⟩
instance : TyZero Try.prog 1 [.v .nilFunc] := ⟨fun _ => by kernel_rfl⟩
instance : TyInt Try.prog 2 .i64 := ⟨Try.underlying2⟩
instance : TyShape Try.prog 2 false 1 := ⟨by kernel_rfl, by kernel_rfl⟩
instance : TyZero Try.prog 2 [.v (.int .i64 0)] := ⟨fun _ => by kernel_rfl⟩
instance : TyElem Try.prog 2 eInt 8 := ⟨by kernel_rfl, by kernel_rfl⟩
instance : TyInt Try.prog 3 .i64 := ⟨Try.underlying3⟩
instance : TyShape Try.prog 3 false 1 := ⟨by kernel_rfl, by kernel_rfl⟩
instance : TyZero Try.prog 3 [.v (.int .i64 0)] := ⟨fun _ => by kernel_rfl⟩
instance : TyElem Try.prog 3 eInt 8 := ⟨by kernel_rfl, by kernel_rfl⟩
instance : TyBool Try.prog 4 := ⟨Try.underlying4⟩
instance : TyShape Try.prog 4 false 1 := ⟨by kernel_rfl, by kernel_rfl⟩
instance : TyZero Try.prog 4 [.v (.bool false)] := ⟨fun _ => by kernel_rfl⟩
instance : TyElem Try.prog 4 eBool 1 := ⟨by kernel_rfl, by kernel_rfl⟩
instance : TyInt Try.prog 5 .u8 := ⟨Try.underlying5⟩
instance : TyShape Try.prog 5 false 1 := ⟨by kernel_rfl, by kernel_rfl⟩
instance : TyZero Try.prog 5 [.v (.int .u8 0)] := ⟨fun _ => by kernel_rfl⟩
instance : TyElem Try.prog 5 eByt 1 := ⟨by kernel_rfl, by kernel_rfl⟩
instance : TyInt Try.prog 6 .u8 := ⟨Try.underlying6⟩
instance : TyShape Try.prog 6 false 1 := ⟨by kernel_rfl, by kernel_rfl⟩
instance : TyZero Try.prog 6 [.v (.int .u8 0)] := ⟨fun _ => by kernel_rfl⟩
instance : TyShape Try.prog 7 true 4 := ⟨by kernel_rfl, by kernel_rfl⟩
instance : TyField Try.prog 7 0 0 2 false 1 := ⟨by kernel_rfl, by kernel_rfl, by kernel_rfl, by decide⟩
instance : TyField Try.prog 7 1 1 3 false 1 := ⟨by kernel_rfl, by kernel_rfl, by kernel_rfl, by decide⟩
instance : TyField Try.prog 7 2 2 4 false 1 := ⟨by kernel_rfl, by kernel_rfl, by kernel_rfl, by decide⟩
instance : TyField Try.prog 7 3 3 6 false 1 := ⟨by kernel_rfl, by kernel_rfl, by kernel_rfl, by decide⟩
instance : TyBuild Try.prog 7 [(0, 1), (1, 1), (2, 1), (3, 1)] [.int .i64 0, .int .i64 0, .bool false, .int .u8 0] := ⟨by kernel_rfl, fun w => by kernel_rfl, by kernel_rfl⟩
instance : TyZero Try.prog 7 [.v (.int .i64 0), .v (.int .i64 0), .v (.bool false), .v (.int .u8 0)] := ⟨fun _ => by kernel_rfl⟩
instance : TyShape Try.prog 8 true 4 := ⟨by kernel_rfl, by kernel_rfl⟩
instance : TyField Try.prog 8 0 0 2 false 1 := ⟨by kernel_rfl, by kernel_rfl, by kernel_rfl, by decide⟩
instance : TyField Try.prog 8 1 1 3 false 1 := ⟨by kernel_rfl, by kernel_rfl, by kernel_rfl, by decide⟩
instance : TyField Try.prog 8 2 2 4 false 1 := ⟨by kernel_rfl, by kernel_rfl, by kernel_rfl, by decide⟩
instance : TyField Try.prog 8 3 3 6 false 1 := ⟨by kernel_rfl, by kernel_rfl, by kernel_rfl, by decide⟩
instance : TyBuild Try.prog 8 [(0, 1), (1, 1), (2, 1), (3, 1)] [.int .i64 0, .int .i64 0, .bool false, .int .u8 0] := ⟨by kernel_rfl, fun w => by kernel_rfl, by kernel_rfl⟩
instance : TyZero Try.prog 8 [.v (.int .i64 0), .v (.int .i64 0), .v (.bool false), .v (.int .u8 0)] := ⟨fun _ => by kernel_rfl⟩
instance : TyStr Try.prog 9 := ⟨Try.underlying9⟩
instance : TyShape Try.prog 9 false 1 := ⟨by kernel_rfl, by kernel_rfl⟩
instance : TyStr Try.prog 10 := ⟨Try.underlying10⟩
instance : TyShape Try.prog 10 false 1 := ⟨by kernel_rfl, by kernel_rfl⟩
instance : TyStr Try.prog 11 := ⟨Try.underlying11⟩
instance : TyShape Try.prog 11 false 1 := ⟨by kernel_rfl, by kernel_rfl⟩
instance : TyInt Try.prog 12 .u64 := ⟨Try.underlying12⟩
instance : TyShape Try.prog 12 false 1 := ⟨by kernel_rfl, by kernel_rfl⟩
instance : TyZero Try.prog 12 [.v (.int .u64 0)] := ⟨fun _ => by kernel_rfl⟩
instance : TyShape Try.prog 13 true 2 := ⟨by kernel_rfl, by kernel_rfl⟩
instance : TyField Try.prog 13 0 0 9 false 1 := ⟨by kernel_rfl, by kernel_rfl, by kernel_rfl, by decide⟩
instance : TyField Try.prog 13 1 1 12 false 1 := ⟨by kernel_rfl, by kernel_rfl, by kernel_rfl, by decide⟩
instance : TyShape Try.prog 14 true 2 := ⟨by kernel_rfl, by kernel_rfl⟩
instance : TyField Try.prog 14 0 0 9 false 1 := ⟨by kernel_rfl, by kernel_rfl, by kernel_rfl, by decide⟩
instance : TyField Try.prog 14 1 1 12 false 1 := ⟨by kernel_rfl, by kernel_rfl, by kernel_rfl, by decide⟩
instance : TyShape Try.prog 15 false 1 := ⟨by kernel_rfl, by kernel_rfl⟩
instance : TyZero Try.prog 15 [.v (.pointer none)] := ⟨fun _ => by kernel_rfl⟩
instance : TyShape Try.prog 16 false 1 := ⟨by kernel_rfl, by kernel_rfl⟩
instance : TyZero Try.prog 16 [.v (.pointer none)] := ⟨fun _ => by kernel_rfl⟩
instance : TyShape Try.prog 17 false 1 := ⟨by kernel_rfl, by kernel_rfl⟩
instance : TyZero Try.prog 17 [.v (.pointer none)] := ⟨fun _ => by kernel_rfl⟩
instance : TyShape Try.prog 18 true 1 := ⟨by kernel_rfl, by kernel_rfl⟩
instance : TyField Try.prog 18 0 0 17 false 1 := ⟨by kernel_rfl, by kernel_rfl, by kernel_rfl, by decide⟩
instance : TyBuild Try.prog 18 [(0, 1)] [.pointer none] := ⟨by kernel_rfl, fun w => by kernel_rfl, by kernel_rfl⟩
instance : TyZero Try.prog 18 [.v (.pointer none)] := ⟨fun _ => by kernel_rfl⟩
instance : TyShape Try.prog 19 true 1 := ⟨by kernel_rfl, by kernel_rfl⟩
instance : TyField Try.prog 19 0 0 17 false 1 := ⟨by kernel_rfl, by kernel_rfl, by kernel_rfl, by decide⟩
instance : TyBuild Try.prog 19 [(0, 1)] [.pointer none] := ⟨by kernel_rfl, fun w => by kernel_rfl, by kernel_rfl⟩
instance : TyZero Try.prog 19 [.v (.pointer none)] := ⟨fun _ => by kernel_rfl⟩
instance : TyShape Try.prog 20 false 1 := ⟨by kernel_rfl, by kernel_rfl⟩
instance : TyZero Try.prog 20 [.v .nilIface] := ⟨fun _ => by kernel_rfl⟩
instance : TyInt Try.prog 21 .i32 := ⟨Try.underlying21⟩
instance : TyShape Try.prog 21 false 1 := ⟨by kernel_rfl, by kernel_rfl⟩
instance : TyZero Try.prog 21 [.v (.int .i32 0)] := ⟨fun _ => by kernel_rfl⟩
instance : TyInt Try.prog 22 .u64 := ⟨Try.underlying22⟩
instance : TyShape Try.prog 22 false 1 := ⟨by kernel_rfl, by kernel_rfl⟩
instance : TyZero Try.prog 22 [.v (.int .u64 0)] := ⟨fun _ => by kernel_rfl⟩
instance : TyShape Try.prog 23 true 2 := ⟨by kernel_rfl, by kernel_rfl⟩
instance : TyField Try.prog 23 0 0 2 false 1 := ⟨by kernel_rfl, by kernel_rfl, by kernel_rfl, by decide⟩
instance : TyField Try.prog 23 1 1 22 false 1 := ⟨by kernel_rfl, by kernel_rfl, by kernel_rfl, by decide⟩
instance : TyBuild Try.prog 23 [(0, 1), (1, 1)] [.int .i64 0, .int .u64 0] := ⟨by kernel_rfl, fun w => by kernel_rfl, by kernel_rfl⟩
instance : TyZero Try.prog 23 [.v (.int .i64 0), .v (.int .u64 0)] := ⟨fun _ => by kernel_rfl⟩
instance : TyShape Try.prog 24 true 2 := ⟨by kernel_rfl, by kernel_rfl⟩
instance : TyField Try.prog 24 0 0 2 false 1 := ⟨by kernel_rfl, by kernel_rfl, by kernel_rfl, by decide⟩
instance : TyField Try.prog 24 1 1 22 false 1 := ⟨by kernel_rfl, by kernel_rfl, by kernel_rfl, by decide⟩
instance : TyBuild Try.prog 24 [(0, 1), (1, 1)] [.int .i64 0, .int .u64 0] := ⟨by kernel_rfl, fun w => by kernel_rfl, by kernel_rfl⟩
instance : TyZero Try.prog 24 [.v (.int .i64 0), .v (.int .u64 0)] := ⟨fun _ => by kernel_rfl⟩
instance : TyElem Try.prog 24 eWide 16 := ⟨by kernel_rfl, by kernel_rfl⟩
instance : TyShape Try.prog 25 false 1 := ⟨by kernel_rfl, by kernel_rfl⟩
instance : TyZero Try.prog 25 [.v (.tuple #[.int .i64 0, .bool false])] := ⟨fun _ => by kernel_rfl⟩
instance : TyShape Try.prog 26 false 1 := ⟨by kernel_rfl, by kernel_rfl⟩
instance : TyZero Try.prog 26 [.v .nilFunc] := ⟨fun _ => by kernel_rfl⟩
instance : TyShape Try.prog 27 false 1 := ⟨by kernel_rfl, by kernel_rfl⟩
instance : TyZero Try.prog 27 [.v .nilFunc] := ⟨fun _ => by kernel_rfl⟩
instance : TyShape Try.prog 28 false 1 := ⟨by kernel_rfl, by kernel_rfl⟩
instance : TyZero Try.prog 28 [.v .nilFunc] := ⟨fun _ => by kernel_rfl⟩
instance : TyShape Try.prog 29 false 1 := ⟨by kernel_rfl, by kernel_rfl⟩
instance : TyZero Try.prog 29 [.v .nilFunc] := ⟨fun _ => by kernel_rfl⟩
instance : TyShape Try.prog 30 false 1 := ⟨by kernel_rfl, by kernel_rfl⟩
instance : TyZero Try.prog 30 [.v .nilFunc] := ⟨fun _ => by kernel_rfl⟩
instance : TyShape Try.prog 31 false 1 := ⟨by kernel_rfl, by kernel_rfl⟩
instance : TyZero Try.prog 31 [.v .nilFunc] := ⟨fun _ => by kernel_rfl⟩
instance : TyShape Try.prog 32 false 1 := ⟨by kernel_rfl, by kernel_rfl⟩
instance : TyZero Try.prog 32 [.v .nilFunc] := ⟨fun _ => by kernel_rfl⟩
instance : TyShape Try.prog 33 false 1 := ⟨by kernel_rfl, by kernel_rfl⟩
instance : TyZero Try.prog 33 [.v .nilFunc] := ⟨fun _ => by kernel_rfl⟩
instance : TyShape Try.prog 34 false 1 := ⟨by kernel_rfl, by kernel_rfl⟩
instance : TyZero Try.prog 34 [.v .nilFunc] := ⟨fun _ => by kernel_rfl⟩
instance : TyShape Try.prog 35 false 1 := ⟨by kernel_rfl, by kernel_rfl⟩
instance : TyZero Try.prog 35 [.v .nilFunc] := ⟨fun _ => by kernel_rfl⟩
instance : TyShape Try.prog 36 false 1 := ⟨by kernel_rfl, by kernel_rfl⟩
instance : TyZero Try.prog 36 [.v .nilFunc] := ⟨fun _ => by kernel_rfl⟩
instance : TyInt Try.prog 37 .u32 := ⟨Try.underlying37⟩
instance : TyShape Try.prog 37 false 1 := ⟨by kernel_rfl, by kernel_rfl⟩
instance : TyZero Try.prog 37 [.v (.int .u32 0)] := ⟨fun _ => by kernel_rfl⟩
instance : TyInt Try.prog 38 .u16 := ⟨Try.underlying38⟩
instance : TyShape Try.prog 38 false 1 := ⟨by kernel_rfl, by kernel_rfl⟩
instance : TyZero Try.prog 38 [.v (.int .u16 0)] := ⟨fun _ => by kernel_rfl⟩
instance : TyInt Try.prog 39 .u64 := ⟨Try.underlying39⟩
instance : TyShape Try.prog 39 false 1 := ⟨by kernel_rfl, by kernel_rfl⟩
instance : TyZero Try.prog 39 [.v (.int .u64 0)] := ⟨fun _ => by kernel_rfl⟩
instance : TyShape Try.prog 40 false 1 := ⟨by kernel_rfl, by kernel_rfl⟩
instance : TyZero Try.prog 40 [.v .nilFunc] := ⟨fun _ => by kernel_rfl⟩
instance : TyShape Try.prog 41 false 1 := ⟨by kernel_rfl, by kernel_rfl⟩
instance : TyZero Try.prog 41 [.v .nilFunc] := ⟨fun _ => by kernel_rfl⟩
instance : TyShape Try.prog 42 false 1 := ⟨by kernel_rfl, by kernel_rfl⟩
instance : TyZero Try.prog 42 [.v .nilFunc] := ⟨fun _ => by kernel_rfl⟩
instance : TyShape Try.prog 43 false 1 := ⟨by kernel_rfl, by kernel_rfl⟩
instance : TySlice Try.prog 43 2 1 := ⟨Try.underlying43, by kernel_rfl⟩
instance : TyZero Try.prog 43 [.v (.slice none 0 0)] := ⟨fun _ => by kernel_rfl⟩
instance : TyShape Try.prog 44 false 1 := ⟨by kernel_rfl, by kernel_rfl⟩
instance : TyZero Try.prog 44 [.v .nilFunc] := ⟨fun _ => by kernel_rfl⟩
instance : TyShape Try.prog 45 false 1 := ⟨by kernel_rfl, by kernel_rfl⟩
instance : TyZero Try.prog 45 [.v .nilFunc] := ⟨fun _ => by kernel_rfl⟩
instance : TyShape Try.prog 46 false 1 := ⟨by kernel_rfl, by kernel_rfl⟩
instance : TySlice Try.prog 46 60 3 := ⟨Try.underlying46, by kernel_rfl⟩
instance : TyZero Try.prog 46 [.v (.slice none 0 0)] := ⟨fun _ => by kernel_rfl⟩
instance : TyShape Try.prog 47 false 1 := ⟨by kernel_rfl, by kernel_rfl⟩
instance : TyZero Try.prog 47 [.v .nilFunc] := ⟨fun _ => by kernel_rfl⟩
instance : TyShape Try.prog 48 false 1 := ⟨by kernel_rfl, by kernel_rfl⟩
instance : TyZero Try.prog 48 [.v .nilFunc] := ⟨fun _ => by kernel_rfl⟩
instance : TyShape Try.prog 49 false 1 := ⟨by kernel_rfl, by kernel_rfl⟩
instance : TyZero Try.prog 49 [.v .nilFunc] := ⟨fun _ => by kernel_rfl⟩
instance : TyShape Try.prog 50 false 1 := ⟨by kernel_rfl, by kernel_rfl⟩
instance : TyZero Try.prog 50 [.v .nilFunc] := ⟨fun _ => by kernel_rfl⟩
instance : TyShape Try.prog 51 false 1 := ⟨by kernel_rfl, by kernel_rfl⟩
instance : TyZero Try.prog 51 [.v (.tuple #[.int .u64 0, .int .u64 0])] := ⟨fun _ => by kernel_rfl⟩
instance : TyShape Try.prog 52 false 1 := ⟨by kernel_rfl, by kernel_rfl⟩
instance : TyZero Try.prog 52 [.v .nilFunc] := ⟨fun _ => by kernel_rfl⟩
instance : TyShape Try.prog 53 false 1 := ⟨by kernel_rfl, by kernel_rfl⟩
instance : TyZero Try.prog 53 [.v .nilFunc] := ⟨fun _ => by kernel_rfl⟩
instance : TyShape Try.prog 54 false 1 := ⟨by kernel_rfl, by kernel_rfl⟩
instance : TyZero Try.prog 54 [.v .nilFunc] := ⟨fun _ => by kernel_rfl⟩
instance : TyShape Try.prog 55 false 1 := ⟨by kernel_rfl, by kernel_rfl⟩
instance : TyZero Try.prog 55 [.v .nilFunc] := ⟨fun _ => by kernel_rfl⟩
instance : TyShape Try.prog 56 false 1 := ⟨by kernel_rfl, by kernel_rfl⟩
instance : TyZero Try.prog 56 [.v .nilFunc] := ⟨fun _ => by kernel_rfl⟩
instance : TyArr Try.prog 57 40 5 1 := ⟨Try.underlying57, by kernel_rfl⟩
instance : TyShape Try.prog 57 true 40 := ⟨by kernel_rfl, by kernel_rfl⟩
instance : TyZero Try.prog 57 [.v (.int .u8 0), .v (.int .u8 0), .v (.int .u8 0), .v (.int .u8 0), .v (.int .u8 0), .v (.int .u8 0), .v (.int .u8 0), .v (.int .u8 0), .v (.int .u8 0), .v (.int .u8 0), .v (.int .u8 0), .v (.int .u8 0), .v (.int .u8 0), .v (.int .u8 0), .v (.int .u8 0), .v (.int .u8 0), .v (.int .u8 0), .v (.int .u8 0), .v (.int .u8 0), .v (.int .u8 0), .v (.int .u8 0), .v (.int .u8 0), .v (.int .u8 0), .v (.int .u8 0), .v (.int .u8 0), .v (.int .u8 0), .v (.int .u8 0), .v (.int .u8 0), .v (.int .u8 0), .v (.int .u8 0), .v (.int .u8 0), .v (.int .u8 0), .v (.int .u8 0), .v (.int .u8 0), .v (.int .u8 0), .v (.int .u8 0), .v (.int .u8 0), .v (.int .u8 0), .v (.int .u8 0), .v (.int .u8 0)] := ⟨fun _ => by kernel_rfl⟩
instance : TyShape Try.prog 58 false 1 := ⟨by kernel_rfl, by kernel_rfl⟩
instance : TySlice Try.prog 58 5 1 := ⟨Try.underlying58, by kernel_rfl⟩
instance : TyZero Try.prog 58 [.v (.slice none 0 0)] := ⟨fun _ => by kernel_rfl⟩
instance : TyShape Try.prog 59 true 3 := ⟨by kernel_rfl, by kernel_rfl⟩
instance : TyField Try.prog 59 0 0 5 false 1 := ⟨by kernel_rfl, by kernel_rfl, by kernel_rfl, by decide⟩
instance : TyField Try.prog 59 1 1 2 false 1 := ⟨by kernel_rfl, by kernel_rfl, by kernel_rfl, by decide⟩
instance : TyField Try.prog 59 2 2 2 false 1 := ⟨by kernel_rfl, by kernel_rfl, by kernel_rfl, by decide⟩
instance : TyBuild Try.prog 59 [(0, 1), (1, 1), (2, 1)] [.int .u8 0, .int .i64 0, .int .i64 0] := ⟨by kernel_rfl, fun w => by kernel_rfl, by kernel_rfl⟩
instance : TyZero Try.prog 59 [.v (.int .u8 0), .v (.int .i64 0), .v (.int .i64 0)] := ⟨fun _ => by kernel_rfl⟩
instance : TyShape Try.prog 60 true 3 := ⟨by kernel_rfl, by kernel_rfl⟩
instance : TyField Try.prog 60 0 0 5 false 1 := ⟨by kernel_rfl, by kernel_rfl, by kernel_rfl, by decide⟩
instance : TyField Try.prog 60 1 1 2 false 1 := ⟨by kernel_rfl, by kernel_rfl, by kernel_rfl, by decide⟩
instance : TyField Try.prog 60 2 2 2 false 1 := ⟨by kernel_rfl, by kernel_rfl, by kernel_rfl, by decide⟩
instance : TyBuild Try.prog 60 [(0, 1), (1, 1), (2, 1)] [.int .u8 0, .int .i64 0, .int .i64 0] := ⟨by kernel_rfl, fun w => by kernel_rfl, by kernel_rfl⟩
instance : TyZero Try.prog 60 [.v (.int .u8 0), .v (.int .i64 0), .v (.int .i64 0)] := ⟨fun _ => by kernel_rfl⟩
instance : TyShape Try.prog 61 false 1 := ⟨by kernel_rfl, by kernel_rfl⟩
instance : TyZero Try.prog 61 [.v .nilFunc] := ⟨fun _ => by kernel_rfl⟩
instance : TyShape Try.prog 62 false 1 := ⟨by kernel_rfl, by kernel_rfl⟩
instance : TyZero Try.prog 62 [.v .nilFunc] := ⟨fun _ => by kernel_rfl⟩
instance : TyShape Try.prog 63 false 1 := ⟨by kernel_rfl, by kernel_rfl⟩
instance : TySlice Try.prog 63 3 1 := ⟨Try.underlying63, by kernel_rfl⟩
instance : TyZero Try.prog 63 [.v (.slice none 0 0)] := ⟨fun _ => by kernel_rfl⟩
instance : TyShape Try.prog 64 false 1 := ⟨by kernel_rfl, by kernel_rfl⟩
instance : TyZero Try.prog 64 [.v .nilFunc] := ⟨fun _ => by kernel_rfl⟩
instance : TyShape Try.prog 65 false 1 := ⟨by kernel_rfl, by kernel_rfl⟩
instance : TyZero Try.prog 65 [.v .nilFunc] := ⟨fun _ => by kernel_rfl⟩
instance : TyShape Try.prog 66 false 1 := ⟨by kernel_rfl, by kernel_rfl⟩
instance : TyZero Try.prog 66 [.v .nilIface] := ⟨fun _ => by kernel_rfl⟩
instance : TyShape Try.prog 67 false 1 := ⟨by kernel_rfl, by kernel_rfl⟩
instance : TyZero Try.prog 67 [.v .nilIface] := ⟨fun _ => by kernel_rfl⟩
instance : TyShape Try.prog 68 false 1 := ⟨by kernel_rfl, by kernel_rfl⟩
instance : TyZero Try.prog 68 [.v .nilFunc] := ⟨fun _ => by kernel_rfl⟩
instance : TyShape Try.prog 69 false 1 := ⟨by kernel_rfl, by kernel_rfl⟩
instance : TyZero Try.prog 69 [.v (.tuple #[.int .u64 0, .int .u64 0, .int .i64 0])] := ⟨fun _ => by kernel_rfl⟩
instance : TyShape Try.prog 70 false 1 := ⟨by kernel_rfl, by kernel_rfl⟩
instance : TyZero Try.prog 70 [.v .nilFunc] := ⟨fun _ => by kernel_rfl⟩
instance : TyShape Try.prog 71 false 1 := ⟨by kernel_rfl, by kernel_rfl⟩
instance : TyZero Try.prog 71 [.v .nilFunc] := ⟨fun _ => by kernel_rfl⟩
instance : TyShape Try.prog 72 true 4 := ⟨by kernel_rfl, by kernel_rfl⟩
instance : TyField Try.prog 72 0 0 17 false 1 := ⟨by kernel_rfl, by kernel_rfl, by kernel_rfl, by decide⟩
instance : TyField Try.prog 72 1 1 17 false 1 := ⟨by kernel_rfl, by kernel_rfl, by kernel_rfl, by decide⟩
instance : TyField Try.prog 72 2 2 17 false 1 := ⟨by kernel_rfl, by kernel_rfl, by kernel_rfl, by decide⟩
instance : TyField Try.prog 72 3 3 9 false 1 := ⟨by kernel_rfl, by kernel_rfl, by kernel_rfl, by decide⟩
instance : TyShape Try.prog 73 true 4 := ⟨by kernel_rfl, by kernel_rfl⟩
instance : TyField Try.prog 73 0 0 17 false 1 := ⟨by kernel_rfl, by kernel_rfl, by kernel_rfl, by decide⟩
instance : TyField Try.prog 73 1 1 17 false 1 := ⟨by kernel_rfl, by kernel_rfl, by kernel_rfl, by decide⟩
instance : TyField Try.prog 73 2 2 17 false 1 := ⟨by kernel_rfl, by kernel_rfl, by kernel_rfl, by decide⟩
instance : TyField Try.prog 73 3 3 9 false 1 := ⟨by kernel_rfl, by kernel_rfl, by kernel_rfl, by decide⟩
instance : TyShape Try.prog 74 true 0 := ⟨by kernel_rfl, by kernel_rfl⟩
instance : TyShape Try.prog 75 true 0 := ⟨by kernel_rfl, by kernel_rfl⟩
instance : TyBuild Try.prog 75 [(0, 0)] [] := ⟨by kernel_rfl, fun w => by kernel_rfl, by kernel_rfl⟩
instance : TyShape Try.prog 76 true 0 := ⟨by kernel_rfl, by kernel_rfl⟩
instance : TyBuild Try.prog 76 [(0, 0)] [] := ⟨by kernel_rfl, fun w => by kernel_rfl, by kernel_rfl⟩
instance : TyShape Try.prog 77 false 1 := ⟨by kernel_rfl, by kernel_rfl⟩
instance : TyZero Try.prog 77 [.v .nilFunc] := ⟨fun _ => by kernel_rfl⟩
instance : TyInt Try.prog 78 .u8 := ⟨Try.underlying78⟩
instance : TyShape Try.prog 78 false 1 := ⟨by kernel_rfl, by kernel_rfl⟩
instance : TyZero Try.prog 78 [.v (.int .u8 0)] := ⟨fun _ => by kernel_rfl⟩
instance : TyInt Try.prog 79 .u8 := ⟨Try.underlying79⟩
instance : TyShape Try.prog 79 false 1 := ⟨by kernel_rfl, by kernel_rfl⟩
instance : TyZero Try.prog 79 [.v (.int .u8 0)] := ⟨fun _ => by kernel_rfl⟩
instance : TyShape Try.prog 80 false 1 := ⟨by kernel_rfl, by kernel_rfl⟩
instance : TyZero Try.prog 80 [.v .nilFunc] := ⟨fun _ => by kernel_rfl⟩
instance : TyShape Try.prog 81 false 1 := ⟨by kernel_rfl, by kernel_rfl⟩
instance : TyZero Try.prog 81 [.v (.pointer none)] := ⟨fun _ => by kernel_rfl⟩
instance : TyInt Try.prog 82 .i32 := ⟨Try.underlying82⟩
instance : TyShape Try.prog 82 false 1 := ⟨by kernel_rfl, by kernel_rfl⟩
instance : TyZero Try.prog 82 [.v (.int .i32 0)] := ⟨fun _ => by kernel_rfl⟩
instance : TyInt Try.prog 83 .i32 := ⟨Try.underlying83⟩
instance : TyShape Try.prog 83 false 1 := ⟨by kernel_rfl, by kernel_rfl⟩
instance : TyZero Try.prog 83 [.v (.int .i32 0)] := ⟨fun _ => by kernel_rfl⟩
instance : TyShape Try.prog 84 true 11 := ⟨by kernel_rfl, by kernel_rfl⟩
instance : TyField Try.prog 84 0 0 12 false 1 := ⟨by kernel_rfl, by kernel_rfl, by kernel_rfl, by decide⟩
instance : TyField Try.prog 84 1 1 12 false 1 := ⟨by kernel_rfl, by kernel_rfl, by kernel_rfl, by decide⟩
instance : TyField Try.prog 84 2 2 37 false 1 := ⟨by kernel_rfl, by kernel_rfl, by kernel_rfl, by decide⟩
instance : TyField Try.prog 84 3 3 78 false 1 := ⟨by kernel_rfl, by kernel_rfl, by kernel_rfl, by decide⟩
instance : TyField Try.prog 84 4 4 5 false 1 := ⟨by kernel_rfl, by kernel_rfl, by kernel_rfl, by decide⟩
instance : TyField Try.prog 84 5 5 5 false 1 := ⟨by kernel_rfl, by kernel_rfl, by kernel_rfl, by decide⟩
instance : TyField Try.prog 84 6 6 79 false 1 := ⟨by kernel_rfl, by kernel_rfl, by kernel_rfl, by decide⟩
instance : TyField Try.prog 84 7 7 80 false 1 := ⟨by kernel_rfl, by kernel_rfl, by kernel_rfl, by decide⟩
instance : TyField Try.prog 84 8 8 81 false 1 := ⟨by kernel_rfl, by kernel_rfl, by kernel_rfl, by decide⟩
instance : TyField Try.prog 84 9 9 82 false 1 := ⟨by kernel_rfl, by kernel_rfl, by kernel_rfl, by decide⟩
instance : TyField Try.prog 84 10 10 83 false 1 := ⟨by kernel_rfl, by kernel_rfl, by kernel_rfl, by decide⟩
instance : TyBuild Try.prog 84 [(0, 1), (1, 1), (2, 1), (3, 1), (4, 1), (5, 1), (6, 1), (7, 1), (8, 1), (9, 1), (10, 1)] [.int .u64 0, .int .u64 0, .int .u32 0, .int .u8 0, .int .u8 0, .int .u8 0, .int .u8 0, .nilFunc, .pointer none, .int .i32 0, .int .i32 0] := ⟨by kernel_rfl, fun w => by kernel_rfl, by kernel_rfl⟩
instance : TyZero Try.prog 84 [.v (.int .u64 0), .v (.int .u64 0), .v (.int .u32 0), .v (.int .u8 0), .v (.int .u8 0), .v (.int .u8 0), .v (.int .u8 0), .v .nilFunc, .v (.pointer none), .v (.int .i32 0), .v (.int .i32 0)] := ⟨fun _ => by kernel_rfl⟩
instance : TyShape Try.prog 85 true 11 := ⟨by kernel_rfl, by kernel_rfl⟩
instance : TyField Try.prog 85 0 0 12 false 1 := ⟨by kernel_rfl, by kernel_rfl, by kernel_rfl, by decide⟩
instance : TyField Try.prog 85 1 1 12 false 1 := ⟨by kernel_rfl, by kernel_rfl, by kernel_rfl, by decide⟩
instance : TyField Try.prog 85 2 2 37 false 1 := ⟨by kernel_rfl, by kernel_rfl, by kernel_rfl, by decide⟩
instance : TyField Try.prog 85 3 3 78 false 1 := ⟨by kernel_rfl, by kernel_rfl, by kernel_rfl, by decide⟩
instance : TyField Try.prog 85 4 4 5 false 1 := ⟨by kernel_rfl, by kernel_rfl, by kernel_rfl, by decide⟩
instance : TyField Try.prog 85 5 5 5 false 1 := ⟨by kernel_rfl, by kernel_rfl, by kernel_rfl, by decide⟩
instance : TyField Try.prog 85 6 6 79 false 1 := ⟨by kernel_rfl, by kernel_rfl, by kernel_rfl, by decide⟩
instance : TyField Try.prog 85 7 7 80 false 1 := ⟨by kernel_rfl, by kernel_rfl, by kernel_rfl, by decide⟩
instance : TyField Try.prog 85 8 8 81 false 1 := ⟨by kernel_rfl, by kernel_rfl, by kernel_rfl, by decide⟩
instance : TyField Try.prog 85 9 9 82 false 1 := ⟨by kernel_rfl, by kernel_rfl, by kernel_rfl, by decide⟩
instance : TyField Try.prog 85 10 10 83 false 1 := ⟨by kernel_rfl, by kernel_rfl, by kernel_rfl, by decide⟩
instance : TyBuild Try.prog 85 [(0, 1), (1, 1), (2, 1), (3, 1), (4, 1), (5, 1), (6, 1), (7, 1), (8, 1), (9, 1), (10, 1)] [.int .u64 0, .int .u64 0, .int .u32 0, .int .u8 0, .int .u8 0, .int .u8 0, .int .u8 0, .nilFunc, .pointer none, .int .i32 0, .int .i32 0] := ⟨by kernel_rfl, fun w => by kernel_rfl, by kernel_rfl⟩
instance : TyZero Try.prog 85 [.v (.int .u64 0), .v (.int .u64 0), .v (.int .u32 0), .v (.int .u8 0), .v (.int .u8 0), .v (.int .u8 0), .v (.int .u8 0), .v .nilFunc, .v (.pointer none), .v (.int .i32 0), .v (.int .i32 0)] := ⟨fun _ => by kernel_rfl⟩
instance : TyShape Try.prog 86 false 1 := ⟨by kernel_rfl, by kernel_rfl⟩
instance : TyZero Try.prog 86 [.v (.pointer none)] := ⟨fun _ => by kernel_rfl⟩
end Go.Proofs.Ytpdjnjkliioneaa
