/-
  The types of this seat, as the symbolic steps ask for them.
-/
import Derived.Test.YteepfhdndhepmaaSxL
import Derived.Test.YteepfhdndhepmaaSxP
import Derived.Test.YteepfhdndhepmaaProg
import Derived.KernelRfl
namespace Go.Proofs.Yteepfhdndhepmaa
open Go Go.RowKit
instance : TyShape Try.prog 0 false 1 := ⟨by kernel_rfl, by kernel_rfl⟩
instance : TyZero Try.prog 0 [.v (.tuple #[])] := ⟨fun _ => by kernel_rfl⟩
instance : TyShape Try.prog 1 false 1 := ⟨by kernel_rfl, by kernel_rfl⟩
instance : TyZero Try.prog 1 [.v .nilFunc] := ⟨fun _ => by kernel_rfl⟩
instance : TyInt Try.prog 2 .i64 := ⟨Try.underlying2⟩
instance : TyShape Try.prog 2 false 1 := ⟨by kernel_rfl, by kernel_rfl⟩
instance : TyZero Try.prog 2 [.v (.int .i64 0)] := ⟨fun _ => by kernel_rfl⟩
instance : TyElem Try.prog 2 eInt 8 := ⟨by kernel_rfl, by kernel_rfl⟩
instance : TyInt Try.prog 3 .i64 := ⟨Try.underlying3⟩
instance : TyShape Try.prog 3 false 1 := ⟨by kernel_rfl, by kernel_rfl⟩
instance : TyZero Try.prog 3 [.v (.int .i64 0)] := ⟨fun _ => by kernel_rfl⟩
instance : TyElem Try.prog 3 eInt 8 := ⟨by kernel_rfl, by kernel_rfl⟩
instance : TyBool Try.prog 4 := ⟨Try.underlying4⟩
instance : TyShape Try.prog 4 false 1 := ⟨by kernel_rfl, by kernel_rfl⟩
instance : TyZero Try.prog 4 [.v (.bool false)] := ⟨fun _ => by kernel_rfl⟩
instance : TyElem Try.prog 4 eBool 1 := ⟨by kernel_rfl, by kernel_rfl⟩
instance : TyInt Try.prog 5 .u8 := ⟨Try.underlying5⟩
instance : TyShape Try.prog 5 false 1 := ⟨by kernel_rfl, by kernel_rfl⟩
instance : TyZero Try.prog 5 [.v (.int .u8 0)] := ⟨fun _ => by kernel_rfl⟩
instance : TyElem Try.prog 5 eByt 1 := ⟨by kernel_rfl, by kernel_rfl⟩
instance : TyInt Try.prog 6 .u8 := ⟨Try.underlying6⟩
instance : TyShape Try.prog 6 false 1 := ⟨by kernel_rfl, by kernel_rfl⟩
instance : TyZero Try.prog 6 [.v (.int .u8 0)] := ⟨fun _ => by kernel_rfl⟩
instance : TyShape Try.prog 7 true 4 := ⟨by kernel_rfl, by kernel_rfl⟩
instance : TyField Try.prog 7 0 0 2 false 1 := ⟨by kernel_rfl, by kernel_rfl, by kernel_rfl, by decide⟩
instance : TyField Try.prog 7 1 1 3 false 1 := ⟨by kernel_rfl, by kernel_rfl, by kernel_rfl, by decide⟩
instance : TyField Try.prog 7 2 2 4 false 1 := ⟨by kernel_rfl, by kernel_rfl, by kernel_rfl, by decide⟩
instance : TyField Try.prog 7 3 3 6 false 1 := ⟨by kernel_rfl, by kernel_rfl, by kernel_rfl, by decide⟩
instance : TyBuild Try.prog 7 [(0, 1), (1, 1), (2, 1), (3, 1)] [.int .i64 0, .int .i64 0, .bool false, .int .u8 0] := ⟨by kernel_rfl, fun w => by kernel_rfl, by kernel_rfl⟩
instance : TyZero Try.prog 7 [.v (.int .i64 0), .v (.int .i64 0), .v (.bool false), .v (.int .u8 0)] := ⟨fun _ => by kernel_rfl⟩
instance : TyShape Try.prog 8 true 4 := ⟨by kernel_rfl, by kernel_rfl⟩
instance : TyField Try.prog 8 0 0 2 false 1 := ⟨by kernel_rfl, by kernel_rfl, by kernel_rfl, by decide⟩
instance : TyField Try.prog 8 1 1 3 false 1 := ⟨by kernel_rfl, by kernel_rfl, by kernel_rfl, by decide⟩
instance : TyField Try.prog 8 2 2 4 false 1 := ⟨by kernel_rfl, by kernel_rfl, by kernel_rfl, by decide⟩
instance : TyField Try.prog 8 3 3 6 false 1 := ⟨by kernel_rfl, by kernel_rfl, by kernel_rfl, by decide⟩
instance : TyBuild Try.prog 8 [(0, 1), (1, 1), (2, 1), (3, 1)] [.int .i64 0, .int .i64 0, .bool false, .int .u8 0] := ⟨by kernel_rfl, fun w => by kernel_rfl, by kernel_rfl⟩
instance : TyZero Try.prog 8 [.v (.int .i64 0), .v (.int .i64 0), .v (.bool false), .v (.int .u8 0)] := ⟨fun _ => by kernel_rfl⟩
instance : TyShape Try.prog 9 false 1 := ⟨by kernel_rfl, by kernel_rfl⟩
instance : TyShape Try.prog 10 false 1 := ⟨by kernel_rfl, by kernel_rfl⟩
instance : TyShape Try.prog 11 false 1 := ⟨by kernel_rfl, by kernel_rfl⟩
instance : TyInt Try.prog 12 .u64 := ⟨Try.underlying12⟩
instance : TyShape Try.prog 12 false 1 := ⟨by kernel_rfl, by kernel_rfl⟩
instance : TyZero Try.prog 12 [.v (.int .u64 0)] := ⟨fun _ => by kernel_rfl⟩
instance : TyShape Try.prog 13 true 2 := ⟨by kernel_rfl, by kernel_rfl⟩
instance : TyField Try.prog 13 0 0 9 false 1 := ⟨by kernel_rfl, by kernel_rfl, by kernel_rfl, by decide⟩
instance : TyField Try.prog 13 1 1 12 false 1 := ⟨by kernel_rfl, by kernel_rfl, by kernel_rfl, by decide⟩
instance : TyShape Try.prog 14 true 2 := ⟨by kernel_rfl, by kernel_rfl⟩
instance : TyField Try.prog 14 0 0 9 false 1 := ⟨by kernel_rfl, by kernel_rfl, by kernel_rfl, by decide⟩
instance : TyField Try.prog 14 1 1 12 false 1 := ⟨by kernel_rfl, by kernel_rfl, by kernel_rfl, by decide⟩
instance : TyShape Try.prog 15 false 1 := ⟨by kernel_rfl, by kernel_rfl⟩
instance : TyZero Try.prog 15 [.v (.pointer none)] := ⟨fun _ => by kernel_rfl⟩
instance : TyShape Try.prog 16 false 1 := ⟨by kernel_rfl, by kernel_rfl⟩
instance : TyZero Try.prog 16 [.v (.pointer none)] := ⟨fun _ => by kernel_rfl⟩
instance : TyShape Try.prog 17 false 1 := ⟨by kernel_rfl, by kernel_rfl⟩
instance : TyZero Try.prog 17 [.v (.pointer none)] := ⟨fun _ => by kernel_rfl⟩
instance : TyShape Try.prog 18 true 1 := ⟨by kernel_rfl, by kernel_rfl⟩
instance : TyField Try.prog 18 0 0 17 false 1 := ⟨by kernel_rfl, by kernel_rfl, by kernel_rfl, by decide⟩
instance : TyBuild Try.prog 18 [(0, 1)] [.pointer none] := ⟨by kernel_rfl, fun w => by kernel_rfl, by kernel_rfl⟩
instance : TyZero Try.prog 18 [.v (.pointer none)] := ⟨fun _ => by kernel_rfl⟩
instance : TyShape Try.prog 19 true 1 := ⟨by kernel_rfl, by kernel_rfl⟩
instance : TyField Try.prog 19 0 0 17 false 1 := ⟨by kernel_rfl, by kernel_rfl, by kernel_rfl, by decide⟩
instance : TyBuild Try.prog 19 [(0, 1)] [.pointer none] := ⟨by kernel_rfl, fun w => by kernel_rfl, by kernel_rfl⟩
instance : TyZero Try.prog 19 [.v (.pointer none)] := ⟨fun _ => by kernel_rfl⟩
instance : TyShape Try.prog 20 false 1 := ⟨by kernel_rfl, by kernel_rfl⟩
instance : TyZero Try.prog 20 [.v .nilIface] := ⟨fun _ => by kernel_rfl⟩
instance : TyInt Try.prog 21 .i32 := ⟨Try.underlying21⟩
instance : TyShape Try.prog 21 false 1 := ⟨by kernel_rfl, by kernel_rfl⟩
instance : TyZero Try.prog 21 [.v (.int .i32 0)] := ⟨fun _ => by kernel_rfl⟩
instance : TyShape Try.prog 22 false 1 := ⟨by kernel_rfl, by kernel_rfl⟩
instance : TySlice Try.prog 22 5 1 := ⟨Try.underlying22, by kernel_rfl⟩
instance : TyZero Try.prog 22 [.v (.slice none 0 0)] := ⟨fun _ => by kernel_rfl⟩
instance : TyShape Try.prog 23 false 1 := ⟨by kernel_rfl, by kernel_rfl⟩
instance : TySlice Try.prog 23 2 1 := ⟨Try.underlying23, by kernel_rfl⟩
instance : TyZero Try.prog 23 [.v (.slice none 0 0)] := ⟨fun _ => by kernel_rfl⟩
instance : TyShape Try.prog 24 false 1 := ⟨by kernel_rfl, by kernel_rfl⟩
instance : TySlice Try.prog 24 36 5 := ⟨Try.underlying24, by kernel_rfl⟩
instance : TyZero Try.prog 24 [.v (.slice none 0 0)] := ⟨fun _ => by kernel_rfl⟩
instance : TyShape Try.prog 25 true 2 := ⟨by kernel_rfl, by kernel_rfl⟩
instance : TyField Try.prog 25 0 0 23 false 1 := ⟨by kernel_rfl, by kernel_rfl, by kernel_rfl, by decide⟩
instance : TyField Try.prog 25 1 1 24 false 1 := ⟨by kernel_rfl, by kernel_rfl, by kernel_rfl, by decide⟩
instance : TyBuild Try.prog 25 [(0, 1), (1, 1)] [.slice none 0 0, .slice none 0 0] := ⟨by kernel_rfl, fun w => by kernel_rfl, by kernel_rfl⟩
instance : TyZero Try.prog 25 [.v (.slice none 0 0), .v (.slice none 0 0)] := ⟨fun _ => by kernel_rfl⟩
instance : TyShape Try.prog 26 true 2 := ⟨by kernel_rfl, by kernel_rfl⟩
instance : TyField Try.prog 26 0 0 23 false 1 := ⟨by kernel_rfl, by kernel_rfl, by kernel_rfl, by decide⟩
instance : TyField Try.prog 26 1 1 24 false 1 := ⟨by kernel_rfl, by kernel_rfl, by kernel_rfl, by decide⟩
instance : TyBuild Try.prog 26 [(0, 1), (1, 1)] [.slice none 0 0, .slice none 0 0] := ⟨by kernel_rfl, fun w => by kernel_rfl, by kernel_rfl⟩
instance : TyZero Try.prog 26 [.v (.slice none 0 0), .v (.slice none 0 0)] := ⟨fun _ => by kernel_rfl⟩
instance : TyShape Try.prog 27 false 1 := ⟨by kernel_rfl, by kernel_rfl⟩
instance : TyZero Try.prog 27 [.v .nilFunc] := ⟨fun _ => by kernel_rfl⟩
instance : TyShape Try.prog 28 false 1 := ⟨by kernel_rfl, by kernel_rfl⟩
instance : TyZero Try.prog 28 [.v .nilFunc] := ⟨fun _ => by kernel_rfl⟩
instance : TyShape Try.prog 29 false 1 := ⟨by kernel_rfl, by kernel_rfl⟩
instance : TyZero Try.prog 29 [.v .nilFunc] := ⟨fun _ => by kernel_rfl⟩
instance : TyInt Try.prog 30 .u16 := ⟨Try.underlying30⟩
instance : TyShape Try.prog 30 false 1 := ⟨by kernel_rfl, by kernel_rfl⟩
instance : TyZero Try.prog 30 [.v (.int .u16 0)] := ⟨fun _ => by kernel_rfl⟩
instance : TyInt Try.prog 31 .u16 := ⟨Try.underlying31⟩
instance : TyShape Try.prog 31 false 1 := ⟨by kernel_rfl, by kernel_rfl⟩
instance : TyZero Try.prog 31 [.v (.int .u16 0)] := ⟨fun _ => by kernel_rfl⟩
instance : TyShape Try.prog 32 false 1 := ⟨by kernel_rfl, by kernel_rfl⟩
instance : TyZero Try.prog 32 [.v .nilFunc] := ⟨fun _ => by kernel_rfl⟩
instance : TyShape Try.prog 33 false 1 := ⟨by kernel_rfl, by kernel_rfl⟩
instance : TyZero Try.prog 33 [.v .nilFunc] := ⟨fun _ => by kernel_rfl⟩
instance : TyShape Try.prog 34 false 1 := ⟨by kernel_rfl, by kernel_rfl⟩
instance : TyZero Try.prog 34 [.v .nilFunc] := ⟨fun _ => by kernel_rfl⟩
instance : TyShape Try.prog 35 true 5 := ⟨by kernel_rfl, by kernel_rfl⟩
instance : TyField Try.prog 35 0 0 3 false 1 := ⟨by kernel_rfl, by kernel_rfl, by kernel_rfl, by decide⟩
instance : TyField Try.prog 35 1 1 3 false 1 := ⟨by kernel_rfl, by kernel_rfl, by kernel_rfl, by decide⟩
instance : TyField Try.prog 35 2 2 2 false 1 := ⟨by kernel_rfl, by kernel_rfl, by kernel_rfl, by decide⟩
instance : TyField Try.prog 35 3 3 2 false 1 := ⟨by kernel_rfl, by kernel_rfl, by kernel_rfl, by decide⟩
instance : TyField Try.prog 35 4 4 2 false 1 := ⟨by kernel_rfl, by kernel_rfl, by kernel_rfl, by decide⟩
instance : TyBuild Try.prog 35 [(0, 1), (1, 1), (2, 1), (3, 1), (4, 1)] [.int .i64 0, .int .i64 0, .int .i64 0, .int .i64 0, .int .i64 0] := ⟨by kernel_rfl, fun w => by kernel_rfl, by kernel_rfl⟩
instance : TyZero Try.prog 35 [.v (.int .i64 0), .v (.int .i64 0), .v (.int .i64 0), .v (.int .i64 0), .v (.int .i64 0)] := ⟨fun _ => by kernel_rfl⟩
instance : TyShape Try.prog 36 true 5 := ⟨by kernel_rfl, by kernel_rfl⟩
instance : TyField Try.prog 36 0 0 3 false 1 := ⟨by kernel_rfl, by kernel_rfl, by kernel_rfl, by decide⟩
instance : TyField Try.prog 36 1 1 3 false 1 := ⟨by kernel_rfl, by kernel_rfl, by kernel_rfl, by decide⟩
instance : TyField Try.prog 36 2 2 2 false 1 := ⟨by kernel_rfl, by kernel_rfl, by kernel_rfl, by decide⟩
instance : TyField Try.prog 36 3 3 2 false 1 := ⟨by kernel_rfl, by kernel_rfl, by kernel_rfl, by decide⟩
instance : TyField Try.prog 36 4 4 2 false 1 := ⟨by kernel_rfl, by kernel_rfl, by kernel_rfl, by decide⟩
instance : TyBuild Try.prog 36 [(0, 1), (1, 1), (2, 1), (3, 1), (4, 1)] [.int .i64 0, .int .i64 0, .int .i64 0, .int .i64 0, .int .i64 0] := ⟨by kernel_rfl, fun w => by kernel_rfl, by kernel_rfl⟩
instance : TyZero Try.prog 36 [.v (.int .i64 0), .v (.int .i64 0), .v (.int .i64 0), .v (.int .i64 0), .v (.int .i64 0)] := ⟨fun _ => by kernel_rfl⟩
instance : TyElem Try.prog 36 eArc 40 := ⟨by kernel_rfl, by kernel_rfl⟩
instance : TyShape Try.prog 37 false 1 := ⟨by kernel_rfl, by kernel_rfl⟩
instance : TyZero Try.prog 37 [.v .nilFunc] := ⟨fun _ => by kernel_rfl⟩
instance : TyShape Try.prog 38 false 1 := ⟨by kernel_rfl, by kernel_rfl⟩
instance : TySlice Try.prog 38 4 1 := ⟨Try.underlying38, by kernel_rfl⟩
instance : TyZero Try.prog 38 [.v (.slice none 0 0)] := ⟨fun _ => by kernel_rfl⟩
instance : TyShape Try.prog 39 false 1 := ⟨by kernel_rfl, by kernel_rfl⟩
instance : TyZero Try.prog 39 [.v .nilFunc] := ⟨fun _ => by kernel_rfl⟩
instance : TyShape Try.prog 40 false 1 := ⟨by kernel_rfl, by kernel_rfl⟩
instance : TyZero Try.prog 40 [.v .nilFunc] := ⟨fun _ => by kernel_rfl⟩
instance : TyShape Try.prog 41 false 1 := ⟨by kernel_rfl, by kernel_rfl⟩
instance : TyZero Try.prog 41 [.v .nilFunc] := ⟨fun _ => by kernel_rfl⟩
instance : TyShape Try.prog 42 false 1 := ⟨by kernel_rfl, by kernel_rfl⟩
instance : TyZero Try.prog 42 [.v .nilFunc] := ⟨fun _ => by kernel_rfl⟩
instance : TyShape Try.prog 43 false 1 := ⟨by kernel_rfl, by kernel_rfl⟩
instance : TyZero Try.prog 43 [.v .nilFunc] := ⟨fun _ => by kernel_rfl⟩
instance : TyShape Try.prog 44 false 1 := ⟨by kernel_rfl, by kernel_rfl⟩
instance : TyZero Try.prog 44 [.v .nilFunc] := ⟨fun _ => by kernel_rfl⟩
instance : TyShape Try.prog 45 false 1 := ⟨by kernel_rfl, by kernel_rfl⟩
instance : TySlice Try.prog 45 3 1 := ⟨Try.underlying45, by kernel_rfl⟩
instance : TyZero Try.prog 45 [.v (.slice none 0 0)] := ⟨fun _ => by kernel_rfl⟩
instance : TyShape Try.prog 46 false 1 := ⟨by kernel_rfl, by kernel_rfl⟩
instance : TyZero Try.prog 46 [.v .nilFunc] := ⟨fun _ => by kernel_rfl⟩
instance : TyShape Try.prog 47 false 1 := ⟨by kernel_rfl, by kernel_rfl⟩
instance : TyZero Try.prog 47 [.v .nilFunc] := ⟨fun _ => by kernel_rfl⟩
instance : TyShape Try.prog 48 false 1 := ⟨by kernel_rfl, by kernel_rfl⟩
instance : TyZero Try.prog 48 [.v .nilFunc] := ⟨fun _ => by kernel_rfl⟩
instance : TyShape Try.prog 49 false 1 := ⟨by kernel_rfl, by kernel_rfl⟩
instance : TyZero Try.prog 49 [.v .nilFunc] := ⟨fun _ => by kernel_rfl⟩
instance : TyShape Try.prog 50 false 1 := ⟨by kernel_rfl, by kernel_rfl⟩
instance : TyZero Try.prog 50 [.v .nilFunc] := ⟨fun _ => by kernel_rfl⟩
instance : TyShape Try.prog 51 false 1 := ⟨by kernel_rfl, by kernel_rfl⟩
instance : TyZero Try.prog 51 [.v .nilFunc] := ⟨fun _ => by kernel_rfl⟩
instance : TyShape Try.prog 52 false 1 := ⟨by kernel_rfl, by kernel_rfl⟩
instance : TyZero Try.prog 52 [.v .nilFunc] := ⟨fun _ => by kernel_rfl⟩
instance : TyShape Try.prog 53 false 1 := ⟨by kernel_rfl, by kernel_rfl⟩
instance : TyZero Try.prog 53 [.v .nilFunc] := ⟨fun _ => by kernel_rfl⟩
instance : TyShape Try.prog 54 false 1 := ⟨by kernel_rfl, by kernel_rfl⟩
instance : TyZero Try.prog 54 [.v .nilFunc] := ⟨fun _ => by kernel_rfl⟩
instance : TyShape Try.prog 55 false 1 := ⟨by kernel_rfl, by kernel_rfl⟩
instance : TyZero Try.prog 55 [.v .nilFunc] := ⟨fun _ => by kernel_rfl⟩
instance : TyShape Try.prog 56 false 1 := ⟨by kernel_rfl, by kernel_rfl⟩
instance : TyZero Try.prog 56 [.v .nilFunc] := ⟨fun _ => by kernel_rfl⟩
instance : TyShape Try.prog 57 false 1 := ⟨by kernel_rfl, by kernel_rfl⟩
instance : TyZero Try.prog 57 [.v .nilFunc] := ⟨fun _ => by kernel_rfl⟩
instance : TyShape Try.prog 58 false 1 := ⟨by kernel_rfl, by kernel_rfl⟩
instance : TyZero Try.prog 58 [.v .nilFunc] := ⟨fun _ => by kernel_rfl⟩
instance : TyShape Try.prog 59 false 1 := ⟨by kernel_rfl, by kernel_rfl⟩
instance : TyZero Try.prog 59 [.v .nilFunc] := ⟨fun _ => by kernel_rfl⟩
instance : TyShape Try.prog 60 false 1 := ⟨by kernel_rfl, by kernel_rfl⟩
instance : TyZero Try.prog 60 [.v .nilFunc] := ⟨fun _ => by kernel_rfl⟩
instance : TyShape Try.prog 61 false 1 := ⟨by kernel_rfl, by kernel_rfl⟩
instance : TyZero Try.prog 61 [.v .nilFunc] := ⟨fun _ => by kernel_rfl⟩
instance : TyShape Try.prog 62 false 1 := ⟨by kernel_rfl, by kernel_rfl⟩
instance : TyZero Try.prog 62 [.v .nilFunc] := ⟨fun _ => by kernel_rfl⟩
instance : TyShape Try.prog 63 false 1 := ⟨by kernel_rfl, by kernel_rfl⟩
instance : TyZero Try.prog 63 [.v .nilFunc] := ⟨fun _ => by kernel_rfl⟩
instance : TyShape Try.prog 64 false 1 := ⟨by kernel_rfl, by kernel_rfl⟩
instance : TyZero Try.prog 64 [.v .nilFunc] := ⟨fun _ => by kernel_rfl⟩
instance : TyShape Try.prog 65 false 1 := ⟨by kernel_rfl, by kernel_rfl⟩
instance : TyZero Try.prog 65 [.v .nilFunc] := ⟨fun _ => by kernel_rfl⟩
instance : TyShape Try.prog 66 true 4 := ⟨by kernel_rfl, by kernel_rfl⟩
instance : TyField Try.prog 66 0 0 17 false 1 := ⟨by kernel_rfl, by kernel_rfl, by kernel_rfl, by decide⟩
instance : TyField Try.prog 66 1 1 17 false 1 := ⟨by kernel_rfl, by kernel_rfl, by kernel_rfl, by decide⟩
instance : TyField Try.prog 66 2 2 17 false 1 := ⟨by kernel_rfl, by kernel_rfl, by kernel_rfl, by decide⟩
instance : TyField Try.prog 66 3 3 9 false 1 := ⟨by kernel_rfl, by kernel_rfl, by kernel_rfl, by decide⟩
instance : TyShape Try.prog 67 true 4 := ⟨by kernel_rfl, by kernel_rfl⟩
instance : TyField Try.prog 67 0 0 17 false 1 := ⟨by kernel_rfl, by kernel_rfl, by kernel_rfl, by decide⟩
instance : TyField Try.prog 67 1 1 17 false 1 := ⟨by kernel_rfl, by kernel_rfl, by kernel_rfl, by decide⟩
instance : TyField Try.prog 67 2 2 17 false 1 := ⟨by kernel_rfl, by kernel_rfl, by kernel_rfl, by decide⟩
instance : TyField Try.prog 67 3 3 9 false 1 := ⟨by kernel_rfl, by kernel_rfl, by kernel_rfl, by decide⟩
instance : TyShape Try.prog 68 true 0 := ⟨by kernel_rfl, by kernel_rfl⟩
instance : TyShape Try.prog 69 true 0 := ⟨by kernel_rfl, by kernel_rfl⟩
instance : TyBuild Try.prog 69 [(0, 0)] [] := ⟨by kernel_rfl, fun w => by kernel_rfl, by kernel_rfl⟩
instance : TyShape Try.prog 70 true 0 := ⟨by kernel_rfl, by kernel_rfl⟩
instance : TyBuild Try.prog 70 [(0, 0)] [] := ⟨by kernel_rfl, fun w => by kernel_rfl, by kernel_rfl⟩
instance : TyShape Try.prog 71 false 1 := ⟨by kernel_rfl, by kernel_rfl⟩
instance : TyZero Try.prog 71 [.v .nilFunc] := ⟨fun _ => by kernel_rfl⟩
instance : TyInt Try.prog 72 .u32 := ⟨Try.underlying72⟩
instance : TyShape Try.prog 72 false 1 := ⟨by kernel_rfl, by kernel_rfl⟩
instance : TyZero Try.prog 72 [.v (.int .u32 0)] := ⟨fun _ => by kernel_rfl⟩
instance : TyInt Try.prog 73 .u8 := ⟨Try.underlying73⟩
instance : TyShape Try.prog 73 false 1 := ⟨by kernel_rfl, by kernel_rfl⟩
instance : TyZero Try.prog 73 [.v (.int .u8 0)] := ⟨fun _ => by kernel_rfl⟩
instance : TyInt Try.prog 74 .u8 := ⟨Try.underlying74⟩
instance : TyShape Try.prog 74 false 1 := ⟨by kernel_rfl, by kernel_rfl⟩
instance : TyZero Try.prog 74 [.v (.int .u8 0)] := ⟨fun _ => by kernel_rfl⟩
instance : TyShape Try.prog 75 false 1 := ⟨by kernel_rfl, by kernel_rfl⟩
instance : TyZero Try.prog 75 [.v .nilFunc] := ⟨fun _ => by kernel_rfl⟩
instance : TyShape Try.prog 76 false 1 := ⟨by kernel_rfl, by kernel_rfl⟩
instance : TyZero Try.prog 76 [.v (.pointer none)] := ⟨fun _ => by kernel_rfl⟩
instance : TyInt Try.prog 77 .i32 := ⟨Try.underlying77⟩
instance : TyShape Try.prog 77 false 1 := ⟨by kernel_rfl, by kernel_rfl⟩
instance : TyZero Try.prog 77 [.v (.int .i32 0)] := ⟨fun _ => by kernel_rfl⟩
instance : TyInt Try.prog 78 .i32 := ⟨Try.underlying78⟩
instance : TyShape Try.prog 78 false 1 := ⟨by kernel_rfl, by kernel_rfl⟩
instance : TyZero Try.prog 78 [.v (.int .i32 0)] := ⟨fun _ => by kernel_rfl⟩
instance : TyShape Try.prog 79 true 11 := ⟨by kernel_rfl, by kernel_rfl⟩
instance : TyField Try.prog 79 0 0 12 false 1 := ⟨by kernel_rfl, by kernel_rfl, by kernel_rfl, by decide⟩
instance : TyField Try.prog 79 1 1 12 false 1 := ⟨by kernel_rfl, by kernel_rfl, by kernel_rfl, by decide⟩
instance : TyField Try.prog 79 2 2 72 false 1 := ⟨by kernel_rfl, by kernel_rfl, by kernel_rfl, by decide⟩
instance : TyField Try.prog 79 3 3 73 false 1 := ⟨by kernel_rfl, by kernel_rfl, by kernel_rfl, by decide⟩
instance : TyField Try.prog 79 4 4 5 false 1 := ⟨by kernel_rfl, by kernel_rfl, by kernel_rfl, by decide⟩
instance : TyField Try.prog 79 5 5 5 false 1 := ⟨by kernel_rfl, by kernel_rfl, by kernel_rfl, by decide⟩
instance : TyField Try.prog 79 6 6 74 false 1 := ⟨by kernel_rfl, by kernel_rfl, by kernel_rfl, by decide⟩
instance : TyField Try.prog 79 7 7 75 false 1 := ⟨by kernel_rfl, by kernel_rfl, by kernel_rfl, by decide⟩
instance : TyField Try.prog 79 8 8 76 false 1 := ⟨by kernel_rfl, by kernel_rfl, by kernel_rfl, by decide⟩
instance : TyField Try.prog 79 9 9 77 false 1 := ⟨by kernel_rfl, by kernel_rfl, by kernel_rfl, by decide⟩
instance : TyField Try.prog 79 10 10 78 false 1 := ⟨by kernel_rfl, by kernel_rfl, by kernel_rfl, by decide⟩
instance : TyBuild Try.prog 79 [(0, 1), (1, 1), (2, 1), (3, 1), (4, 1), (5, 1), (6, 1), (7, 1), (8, 1), (9, 1), (10, 1)] [.int .u64 0, .int .u64 0, .int .u32 0, .int .u8 0, .int .u8 0, .int .u8 0, .int .u8 0, .nilFunc, .pointer none, .int .i32 0, .int .i32 0] := ⟨by kernel_rfl, fun w => by kernel_rfl, by kernel_rfl⟩
instance : TyZero Try.prog 79 [.v (.int .u64 0), .v (.int .u64 0), .v (.int .u32 0), .v (.int .u8 0), .v (.int .u8 0), .v (.int .u8 0), .v (.int .u8 0), .v .nilFunc, .v (.pointer none), .v (.int .i32 0), .v (.int .i32 0)] := ⟨fun _ => by kernel_rfl⟩
instance : TyShape Try.prog 80 true 11 := ⟨by kernel_rfl, by kernel_rfl⟩
instance : TyField Try.prog 80 0 0 12 false 1 := ⟨by kernel_rfl, by kernel_rfl, by kernel_rfl, by decide⟩
instance : TyField Try.prog 80 1 1 12 false 1 := ⟨by kernel_rfl, by kernel_rfl, by kernel_rfl, by decide⟩
instance : TyField Try.prog 80 2 2 72 false 1 := ⟨by kernel_rfl, by kernel_rfl, by kernel_rfl, by decide⟩
instance : TyField Try.prog 80 3 3 73 false 1 := ⟨by kernel_rfl, by kernel_rfl, by kernel_rfl, by decide⟩
instance : TyField Try.prog 80 4 4 5 false 1 := ⟨by kernel_rfl, by kernel_rfl, by kernel_rfl, by decide⟩
instance : TyField Try.prog 80 5 5 5 false 1 := ⟨by kernel_rfl, by kernel_rfl, by kernel_rfl, by decide⟩
instance : TyField Try.prog 80 6 6 74 false 1 := ⟨by kernel_rfl, by kernel_rfl, by kernel_rfl, by decide⟩
instance : TyField Try.prog 80 7 7 75 false 1 := ⟨by kernel_rfl, by kernel_rfl, by kernel_rfl, by decide⟩
instance : TyField Try.prog 80 8 8 76 false 1 := ⟨by kernel_rfl, by kernel_rfl, by kernel_rfl, by decide⟩
instance : TyField Try.prog 80 9 9 77 false 1 := ⟨by kernel_rfl, by kernel_rfl, by kernel_rfl, by decide⟩
instance : TyField Try.prog 80 10 10 78 false 1 := ⟨by kernel_rfl, by kernel_rfl, by kernel_rfl, by decide⟩
instance : TyBuild Try.prog 80 [(0, 1), (1, 1), (2, 1), (3, 1), (4, 1), (5, 1), (6, 1), (7, 1), (8, 1), (9, 1), (10, 1)] [.int .u64 0, .int .u64 0, .int .u32 0, .int .u8 0, .int .u8 0, .int .u8 0, .int .u8 0, .nilFunc, .pointer none, .int .i32 0, .int .i32 0] := ⟨by kernel_rfl, fun w => by kernel_rfl, by kernel_rfl⟩
instance : TyZero Try.prog 80 [.v (.int .u64 0), .v (.int .u64 0), .v (.int .u32 0), .v (.int .u8 0), .v (.int .u8 0), .v (.int .u8 0), .v (.int .u8 0), .v .nilFunc, .v (.pointer none), .v (.int .i32 0), .v (.int .i32 0)] := ⟨fun _ => by kernel_rfl⟩
instance : TyShape Try.prog 81 false 1 := ⟨by kernel_rfl, by kernel_rfl⟩
instance : TyZero Try.prog 81 [.v (.pointer none)] := ⟨fun _ => by kernel_rfl⟩
end Go.Proofs.Yteepfhdndhepmaa
