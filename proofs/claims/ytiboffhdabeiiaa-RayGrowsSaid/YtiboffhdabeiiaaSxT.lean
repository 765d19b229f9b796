/-
  The types of this seat, as the symbolic steps ask for them.
-/
import Derived.Test.YtiboffhdabeiiaaSxL
import Derived.Test.YtiboffhdabeiiaaSxP
import Derived.Test.YtiboffhdabeiiaaWdP
import Derived.Test.YtiboffhdabeiiaaProg
import Derived.KernelRfl
namespace Go.Proofs.Ytiboffhdabeiiaa
open Go Go.RowKit
instance : TyShape Try.prog 0 false 1 := ⟨by kernel_rfl, by kernel_rfl⟩
instance : TyZero Try.prog 0 [.v (.tuple #[])] := ⟨fun _ => by kernel_rfl⟩
instance : TyShape Try.prog 1 false 1 := ⟨by kernel_rfl, by kernel_rfl⟩
instance : TyZero Try.prog 1 [.v .nilFunc] := ⟨fun _ => by kernel_rfl⟩
instance : TyInt Try.prog 2 .i64 := ⟨Try.underlying2⟩
instance : TyShape Try.prog 2 false 1 := ⟨by kernel_rfl, by kernel_rfl⟩
instance : TyZero Try.prog 2 [.v (.int .i64 0)] := ⟨fun _ => by kernel_rfl⟩
instance : TyElem Try.prog 2 eInt 8 := ⟨by kernel_rfl, by kernel_rfl⟩
instance : TyInt Try.prog 3 .i64 := ⟨Try.underlying3⟩
instance : TyShape Try.prog 3 false 1 := ⟨by kernel_rfl, by kernel_rfl⟩
instance : TyZero Try.prog 3 [.v (.int .i64 0)] := ⟨fun _ => by kernel_rfl⟩
instance : TyElem Try.prog 3 eInt 8 := ⟨by kernel_rfl, by kernel_rfl⟩
instance : TyBool Try.prog 4 := ⟨Try.underlying4⟩
instance : TyShape Try.prog 4 false 1 := ⟨by kernel_rfl, by kernel_rfl⟩
instance : TyZero Try.prog 4 [.v (.bool false)] := ⟨fun _ => by kernel_rfl⟩
instance : TyElem Try.prog 4 eBool 1 := ⟨by kernel_rfl, by kernel_rfl⟩
instance : TyInt Try.prog 5 .u8 := ⟨Try.underlying5⟩
instance : TyShape Try.prog 5 false 1 := ⟨by kernel_rfl, by kernel_rfl⟩
instance : TyZero Try.prog 5 [.v (.int .u8 0)] := ⟨fun _ => by kernel_rfl⟩
instance : TyElem Try.prog 5 eByt 1 := ⟨by kernel_rfl, by kernel_rfl⟩
instance : TyInt Try.prog 6 .u8 := ⟨Try.underlying6⟩
instance : TyShape Try.prog 6 false 1 := ⟨by kernel_rfl, by kernel_rfl⟩
instance : TyZero Try.prog 6 [.v (.int .u8 0)] := ⟨fun _ => by kernel_rfl⟩
instance : TyShape Try.prog 7 true 4 := ⟨by kernel_rfl, by kernel_rfl⟩
instance : TyField Try.prog 7 0 0 2 false 1 := ⟨by kernel_rfl, by kernel_rfl, by kernel_rfl, by decide⟩
instance : TyField Try.prog 7 1 1 3 false 1 := ⟨by kernel_rfl, by kernel_rfl, by kernel_rfl, by decide⟩
instance : TyField Try.prog 7 2 2 4 false 1 := ⟨by kernel_rfl, by kernel_rfl, by kernel_rfl, by decide⟩
instance : TyField Try.prog 7 3 3 6 false 1 := ⟨by kernel_rfl, by kernel_rfl, by kernel_rfl, by decide⟩
instance : TyBuild Try.prog 7 [(0, 1), (1, 1), (2, 1), (3, 1)] [.int .i64 0, .int .i64 0, .bool false, .int .u8 0] := ⟨by kernel_rfl, fun w => by kernel_rfl, by kernel_rfl⟩
instance : TyZero Try.prog 7 [.v (.int .i64 0), .v (.int .i64 0), .v (.bool false), .v (.int .u8 0)] := ⟨fun _ => by kernel_rfl⟩
instance : TyShape Try.prog 8 true 4 := ⟨by kernel_rfl, by kernel_rfl⟩
instance : TyField Try.prog 8 0 0 2 false 1 := ⟨by kernel_rfl, by kernel_rfl, by kernel_rfl, by decide⟩
instance : TyField Try.prog 8 1 1 3 false 1 := ⟨by kernel_rfl, by kernel_rfl, by kernel_rfl, by decide⟩
instance : TyField Try.prog 8 2 2 4 false 1 := ⟨by kernel_rfl, by kernel_rfl, by kernel_rfl, by decide⟩
instance : TyField Try.prog 8 3 3 6 false 1 := ⟨by kernel_rfl, by kernel_rfl, by kernel_rfl, by decide⟩
instance : TyBuild Try.prog 8 [(0, 1), (1, 1), (2, 1), (3, 1)] [.int .i64 0, .int .i64 0, .bool false, .int .u8 0] := ⟨by kernel_rfl, fun w => by kernel_rfl, by kernel_rfl⟩
instance : TyZero Try.prog 8 [.v (.int .i64 0), .v (.int .i64 0), .v (.bool false), .v (.int .u8 0)] := ⟨fun _ => by kernel_rfl⟩
instance : TyStr Try.prog 9 := ⟨Try.underlying9⟩
instance : TyShape Try.prog 9 false 1 := ⟨by kernel_rfl, by kernel_rfl⟩
instance : TyStr Try.prog 10 := ⟨Try.underlying10⟩
instance : TyShape Try.prog 10 false 1 := ⟨by kernel_rfl, by kernel_rfl⟩
instance : TyStr Try.prog 11 := ⟨Try.underlying11⟩
instance : TyShape Try.prog 11 false 1 := ⟨by kernel_rfl, by kernel_rfl⟩
instance : TyInt Try.prog 12 .u64 := ⟨Try.underlying12⟩
instance : TyShape Try.prog 12 false 1 := ⟨by kernel_rfl, by kernel_rfl⟩
instance : TyZero Try.prog 12 [.v (.int .u64 0)] := ⟨fun _ => by kernel_rfl⟩
instance : TyShape Try.prog 13 true 2 := ⟨by kernel_rfl, by kernel_rfl⟩
instance : TyField Try.prog 13 0 0 9 false 1 := ⟨by kernel_rfl, by kernel_rfl, by kernel_rfl, by decide⟩
instance : TyField Try.prog 13 1 1 12 false 1 := ⟨by kernel_rfl, by kernel_rfl, by kernel_rfl, by decide⟩
instance : TyShape Try.prog 14 true 2 := ⟨by kernel_rfl, by kernel_rfl⟩
instance : TyField Try.prog 14 0 0 9 false 1 := ⟨by kernel_rfl, by kernel_rfl, by kernel_rfl, by decide⟩
instance : TyField Try.prog 14 1 1 12 false 1 := ⟨by kernel_rfl, by kernel_rfl, by kernel_rfl, by decide⟩
instance : TyShape Try.prog 15 false 1 := ⟨by kernel_rfl, by kernel_rfl⟩
instance : TyZero Try.prog 15 [.v (.pointer none)] := ⟨fun _ => by kernel_rfl⟩
instance : TyShape Try.prog 16 false 1 := ⟨by kernel_rfl, by kernel_rfl⟩
instance : TyZero Try.prog 16 [.v (.pointer none)] := ⟨fun _ => by kernel_rfl⟩
instance : TyShape Try.prog 17 false 1 := ⟨by kernel_rfl, by kernel_rfl⟩
instance : TyZero Try.prog 17 [.v (.pointer none)] := ⟨fun _ => by kernel_rfl⟩
instance : TyShape Try.prog 18 true 1 := ⟨by kernel_rfl, by kernel_rfl⟩
instance : TyField Try.prog 18 0 0 17 false 1 := ⟨by kernel_rfl, by kernel_rfl, by kernel_rfl, by decide⟩
instance : TyBuild Try.prog 18 [(0, 1)] [.pointer none] := ⟨by kernel_rfl, fun w => by kernel_rfl, by kernel_rfl⟩
instance : TyZero Try.prog 18 [.v (.pointer none)] := ⟨fun _ => by kernel_rfl⟩
instance : TyShape Try.prog 19 true 1 := ⟨by kernel_rfl, by kernel_rfl⟩
instance : TyField Try.prog 19 0 0 17 false 1 := ⟨by kernel_rfl, by kernel_rfl, by kernel_rfl, by decide⟩
instance : TyBuild Try.prog 19 [(0, 1)] [.pointer none] := ⟨by kernel_rfl, fun w => by kernel_rfl, by kernel_rfl⟩
instance : TyZero Try.prog 19 [.v (.pointer none)] := ⟨fun _ => by kernel_rfl⟩
instance : TyShape Try.prog 20 false 1 := ⟨by kernel_rfl, by kernel_rfl⟩
instance : TyZero Try.prog 20 [.v .nilIface] := ⟨fun _ => by kernel_rfl⟩
instance : TyInt Try.prog 21 .i32 := ⟨Try.underlying21⟩
instance : TyShape Try.prog 21 false 1 := ⟨by kernel_rfl, by kernel_rfl⟩
instance : TyZero Try.prog 21 [.v (.int .i32 0)] := ⟨fun _ => by kernel_rfl⟩
instance : TyShape Try.prog 22 false 1 := ⟨by kernel_rfl, by kernel_rfl⟩
instance : TySlice Try.prog 22 2 1 := ⟨Try.underlying22, by kernel_rfl⟩
instance : TyZero Try.prog 22 [.v (.slice none 0 0)] := ⟨fun _ => by kernel_rfl⟩
instance : TyShape Try.prog 23 false 1 := ⟨by kernel_rfl, by kernel_rfl⟩
instance : TySlice Try.prog 23 44 5 := ⟨Try.underlying23, by kernel_rfl⟩
instance : TyZero Try.prog 23 [.v (.slice none 0 0)] := ⟨fun _ => by kernel_rfl⟩
instance : TyShape Try.prog 24 true 2 := ⟨by kernel_rfl, by kernel_rfl⟩
instance : TyField Try.prog 24 0 0 22 false 1 := ⟨by kernel_rfl, by kernel_rfl, by kernel_rfl, by decide⟩
instance : TyField Try.prog 24 1 1 23 false 1 := ⟨by kernel_rfl, by kernel_rfl, by kernel_rfl, by decide⟩
instance : TyBuild Try.prog 24 [(0, 1), (1, 1)] [.slice none 0 0, .slice none 0 0] := ⟨by kernel_rfl, fun w => by kernel_rfl, by kernel_rfl⟩
instance : TyZero Try.prog 24 [.v (.slice none 0 0), .v (.slice none 0 0)] := ⟨fun _ => by kernel_rfl⟩
instance : TyShape Try.prog 25 true 2 := ⟨by kernel_rfl, by kernel_rfl⟩
instance : TyField Try.prog 25 0 0 22 false 1 := ⟨by kernel_rfl, by kernel_rfl, by kernel_rfl, by decide⟩
instance : TyField Try.prog 25 1 1 23 false 1 := ⟨by kernel_rfl, by kernel_rfl, by kernel_rfl, by decide⟩
instance : TyBuild Try.prog 25 [(0, 1), (1, 1)] [.slice none 0 0, .slice none 0 0] := ⟨by kernel_rfl, fun w => by kernel_rfl, by kernel_rfl⟩
instance : TyZero Try.prog 25 [.v (.slice none 0 0), .v (.slice none 0 0)] := ⟨fun _ => by kernel_rfl⟩
instance : TyShape Try.prog 26 false 1 := ⟨by kernel_rfl, by kernel_rfl⟩
instance : TySlice Try.prog 26 4 1 := ⟨Try.underlying26, by kernel_rfl⟩
instance : TyZero Try.prog 26 [.v (.slice none 0 0)] := ⟨fun _ => by kernel_rfl⟩
instance : TyShape Try.prog 27 false 1 := ⟨by kernel_rfl, by kernel_rfl⟩
instance : TySlice Try.prog 27 5 1 := ⟨Try.underlying27, by kernel_rfl⟩
instance : TyZero Try.prog 27 [.v (.slice none 0 0)] := ⟨fun _ => by kernel_rfl⟩
instance : TyShape Try.prog 28 false 1 := ⟨by kernel_rfl, by kernel_rfl⟩
instance : TyZero Try.prog 28 [.v .nilFunc] := ⟨fun _ => by kernel_rfl⟩
instance : TyShape Try.prog 29 false 1 := ⟨by kernel_rfl, by kernel_rfl⟩
instance : TyZero Try.prog 29 [.v .nilFunc] := ⟨fun _ => by kernel_rfl⟩
instance : TyShape Try.prog 30 false 1 := ⟨by kernel_rfl, by kernel_rfl⟩
instance : TyZero Try.prog 30 [.v .nilFunc] := ⟨fun _ => by kernel_rfl⟩
instance : TyShape Try.prog 31 false 1 := ⟨by kernel_rfl, by kernel_rfl⟩
instance : TyZero Try.prog 31 [.v .nilFunc] := ⟨fun _ => by kernel_rfl⟩
instance : TyShape Try.prog 32 false 1 := ⟨by kernel_rfl, by kernel_rfl⟩
instance : TyZero Try.prog 32 [.v .nilFunc] := ⟨fun _ => by kernel_rfl⟩
instance : TyShape Try.prog 33 false 1 := ⟨by kernel_rfl, by kernel_rfl⟩
instance : TyZero Try.prog 33 [.v .nilFunc] := ⟨fun _ => by kernel_rfl⟩
instance : TyShape Try.prog 34 false 1 := ⟨by kernel_rfl, by kernel_rfl⟩
instance : TyZero Try.prog 34 [.v .nilFunc] := ⟨fun _ => by kernel_rfl⟩
instance : TyShape Try.prog 35 false 1 := ⟨by kernel_rfl, by kernel_rfl⟩
instance : TySlice Try.prog 35 3 1 := ⟨Try.underlying35, by kernel_rfl⟩
instance : TyZero Try.prog 35 [.v (.slice none 0 0)] := ⟨fun _ => by kernel_rfl⟩
instance : TyShape Try.prog 36 false 1 := ⟨by kernel_rfl, by kernel_rfl⟩
instance : TyZero Try.prog 36 [.v .nilFunc] := ⟨fun _ => by kernel_rfl⟩
instance : TyShape Try.prog 37 false 1 := ⟨by kernel_rfl, by kernel_rfl⟩
instance : TyZero Try.prog 37 [.v .nilFunc] := ⟨fun _ => by kernel_rfl⟩
instance : TyShape Try.prog 38 false 1 := ⟨by kernel_rfl, by kernel_rfl⟩
instance : TyZero Try.prog 38 [.v (.tuple #[.agg #[.slice none 0 0, .slice none 0 0], .slice none 0 0])] := ⟨fun _ => by kernel_rfl⟩
instance : TyShape Try.prog 39 false 1 := ⟨by kernel_rfl, by kernel_rfl⟩
instance : TyZero Try.prog 39 [.v .nilFunc] := ⟨fun _ => by kernel_rfl⟩
instance : TyInt Try.prog 40 .u16 := ⟨Try.underlying40⟩
instance : TyShape Try.prog 40 false 1 := ⟨by kernel_rfl, by kernel_rfl⟩
instance : TyZero Try.prog 40 [.v (.int .u16 0)] := ⟨fun _ => by kernel_rfl⟩
instance : TyInt Try.prog 41 .u16 := ⟨Try.underlying41⟩
instance : TyShape Try.prog 41 false 1 := ⟨by kernel_rfl, by kernel_rfl⟩
instance : TyZero Try.prog 41 [.v (.int .u16 0)] := ⟨fun _ => by kernel_rfl⟩
instance : TyShape Try.prog 42 false 1 := ⟨by kernel_rfl, by kernel_rfl⟩
instance : TyZero Try.prog 42 [.v .nilFunc] := ⟨fun _ => by kernel_rfl⟩
instance : TyShape Try.prog 43 true 5 := ⟨by kernel_rfl, by kernel_rfl⟩
instance : TyField Try.prog 43 0 0 3 false 1 := ⟨by kernel_rfl, by kernel_rfl, by kernel_rfl, by decide⟩
instance : TyField Try.prog 43 1 1 3 false 1 := ⟨by kernel_rfl, by kernel_rfl, by kernel_rfl, by decide⟩
instance : TyField Try.prog 43 2 2 2 false 1 := ⟨by kernel_rfl, by kernel_rfl, by kernel_rfl, by decide⟩
instance : TyField Try.prog 43 3 3 2 false 1 := ⟨by kernel_rfl, by kernel_rfl, by kernel_rfl, by decide⟩
instance : TyField Try.prog 43 4 4 2 false 1 := ⟨by kernel_rfl, by kernel_rfl, by kernel_rfl, by decide⟩
instance : TyBuild Try.prog 43 [(0, 1), (1, 1), (2, 1), (3, 1), (4, 1)] [.int .i64 0, .int .i64 0, .int .i64 0, .int .i64 0, .int .i64 0] := ⟨by kernel_rfl, fun w => by kernel_rfl, by kernel_rfl⟩
instance : TyZero Try.prog 43 [.v (.int .i64 0), .v (.int .i64 0), .v (.int .i64 0), .v (.int .i64 0), .v (.int .i64 0)] := ⟨fun _ => by kernel_rfl⟩
instance : TyShape Try.prog 44 true 5 := ⟨by kernel_rfl, by kernel_rfl⟩
instance : TyField Try.prog 44 0 0 3 false 1 := ⟨by kernel_rfl, by kernel_rfl, by kernel_rfl, by decide⟩
instance : TyField Try.prog 44 1 1 3 false 1 := ⟨by kernel_rfl, by kernel_rfl, by kernel_rfl, by decide⟩
instance : TyField Try.prog 44 2 2 2 false 1 := ⟨by kernel_rfl, by kernel_rfl, by kernel_rfl, by decide⟩
instance : TyField Try.prog 44 3 3 2 false 1 := ⟨by kernel_rfl, by kernel_rfl, by kernel_rfl, by decide⟩
instance : TyField Try.prog 44 4 4 2 false 1 := ⟨by kernel_rfl, by kernel_rfl, by kernel_rfl, by decide⟩
instance : TyBuild Try.prog 44 [(0, 1), (1, 1), (2, 1), (3, 1), (4, 1)] [.int .i64 0, .int .i64 0, .int .i64 0, .int .i64 0, .int .i64 0] := ⟨by kernel_rfl, fun w => by kernel_rfl, by kernel_rfl⟩
instance : TyZero Try.prog 44 [.v (.int .i64 0), .v (.int .i64 0), .v (.int .i64 0), .v (.int .i64 0), .v (.int .i64 0)] := ⟨fun _ => by kernel_rfl⟩
instance : TyElem Try.prog 44 eArc 40 := ⟨by kernel_rfl, by kernel_rfl⟩
instance : TyShape Try.prog 45 false 1 := ⟨by kernel_rfl, by kernel_rfl⟩
instance : TyZero Try.prog 45 [.v .nilFunc] := ⟨fun _ => by kernel_rfl⟩
instance : TyShape Try.prog 46 false 1 := ⟨by kernel_rfl, by kernel_rfl⟩
instance : TyZero Try.prog 46 [.v .nilFunc] := ⟨fun _ => by kernel_rfl⟩
instance : TyInt Try.prog 47 .u64 := ⟨Try.underlying47⟩
instance : TyShape Try.prog 47 false 1 := ⟨by kernel_rfl, by kernel_rfl⟩
instance : TyZero Try.prog 47 [.v (.int .u64 0)] := ⟨fun _ => by kernel_rfl⟩
instance : TyShape Try.prog 48 true 2 := ⟨by kernel_rfl, by kernel_rfl⟩
instance : TyField Try.prog 48 0 0 2 false 1 := ⟨by kernel_rfl, by kernel_rfl, by kernel_rfl, by decide⟩
instance : TyField Try.prog 48 1 1 47 false 1 := ⟨by kernel_rfl, by kernel_rfl, by kernel_rfl, by decide⟩
instance : TyBuild Try.prog 48 [(0, 1), (1, 1)] [.int .i64 0, .int .u64 0] := ⟨by kernel_rfl, fun w => by kernel_rfl, by kernel_rfl⟩
instance : TyZero Try.prog 48 [.v (.int .i64 0), .v (.int .u64 0)] := ⟨fun _ => by kernel_rfl⟩
instance : TyShape Try.prog 49 true 2 := ⟨by kernel_rfl, by kernel_rfl⟩
instance : TyField Try.prog 49 0 0 2 false 1 := ⟨by kernel_rfl, by kernel_rfl, by kernel_rfl, by decide⟩
instance : TyField Try.prog 49 1 1 47 false 1 := ⟨by kernel_rfl, by kernel_rfl, by kernel_rfl, by decide⟩
instance : TyBuild Try.prog 49 [(0, 1), (1, 1)] [.int .i64 0, .int .u64 0] := ⟨by kernel_rfl, fun w => by kernel_rfl, by kernel_rfl⟩
instance : TyZero Try.prog 49 [.v (.int .i64 0), .v (.int .u64 0)] := ⟨fun _ => by kernel_rfl⟩
instance : TyElem Try.prog 49 eWide 16 := ⟨by kernel_rfl, by kernel_rfl⟩
instance : TyShape Try.prog 50 false 1 := ⟨by kernel_rfl, by kernel_rfl⟩
instance : TyZero Try.prog 50 [.v .nilFunc] := ⟨fun _ => by kernel_rfl⟩
instance : TyShape Try.prog 51 false 1 := ⟨by kernel_rfl, by kernel_rfl⟩
instance : TyZero Try.prog 51 [.v .nilFunc] := ⟨fun _ => by kernel_rfl⟩
instance : TyShape Try.prog 52 false 1 := ⟨by kernel_rfl, by kernel_rfl⟩
instance : TyZero Try.prog 52 [.v .nilFunc] := ⟨fun _ => by kernel_rfl⟩
instance : TyShape Try.prog 53 false 1 := ⟨by kernel_rfl, by kernel_rfl⟩
instance : TyZero Try.prog 53 [.v .nilFunc] := ⟨fun _ => by kernel_rfl⟩
instance : TyShape Try.prog 54 false 1 := ⟨by kernel_rfl, by kernel_rfl⟩
instance : TyZero Try.prog 54 [.v .nilFunc] := ⟨fun _ => by kernel_rfl⟩
instance : TyShape Try.prog 55 false 1 := ⟨by kernel_rfl, by kernel_rfl⟩
instance : TyZero Try.prog 55 [.v .nilFunc] := ⟨fun _ => by kernel_rfl⟩
instance : TyShape Try.prog 56 false 1 := ⟨by kernel_rfl, by kernel_rfl⟩
instance : TyZero Try.prog 56 [.v (.tuple #[.slice none 0 0, .bool false])] := ⟨fun _ => by kernel_rfl⟩
instance : TyShape Try.prog 57 false 1 := ⟨by kernel_rfl, by kernel_rfl⟩
instance : TyZero Try.prog 57 [.v .nilFunc] := ⟨fun _ => by kernel_rfl⟩
instance : TyShape Try.prog 58 false 1 := ⟨by kernel_rfl, by kernel_rfl⟩
instance : TyZero Try.prog 58 [.v .nilFunc] := ⟨fun _ => by kernel_rfl⟩
instance : TyShape Try.prog 59 false 1 := ⟨by kernel_rfl, by kernel_rfl⟩
instance : TyZero Try.prog 59 [.v .nilFunc] := ⟨fun _ => by kernel_rfl⟩
instance : TyShape Try.prog 60 false 1 := ⟨by kernel_rfl, by kernel_rfl⟩
instance : TyZero Try.prog 60 [.v .nilFunc] := ⟨fun _ => by kernel_rfl⟩
instance : TyShape Try.prog 61 false 1 := ⟨by kernel_rfl, by kernel_rfl⟩
instance : TyZero Try.prog 61 [.v .nilFunc] := ⟨fun _ => by kernel_rfl⟩
instance : TyShape Try.prog 62 false 1 := ⟨by kernel_rfl, by kernel_rfl⟩
instance : TyZero Try.prog 62 [.v .nilFunc] := ⟨fun _ => by kernel_rfl⟩
instance : TyShape Try.prog 63 false 1 := ⟨by kernel_rfl, by kernel_rfl⟩
instance : TyZero Try.prog 63 [.v (.tuple #[.int .i64 0, .int .i64 0])] := ⟨fun _ => by kernel_rfl⟩
instance : TyShape Try.prog 64 false 1 := ⟨by kernel_rfl, by kernel_rfl⟩
instance : TyZero Try.prog 64 [.v .nilFunc] := ⟨fun _ => by kernel_rfl⟩
instance : TyShape Try.prog 65 false 1 := ⟨by kernel_rfl, by kernel_rfl⟩
instance : TySlice Try.prog 65 21 1 := ⟨Try.underlying65, by kernel_rfl⟩
instance : TyZero Try.prog 65 [.v (.slice none 0 0)] := ⟨fun _ => by kernel_rfl⟩
instance : TyShape Try.prog 66 false 1 := ⟨by kernel_rfl, by kernel_rfl⟩
instance : TySlice Try.prog 66 49 2 := ⟨Try.underlying66, by kernel_rfl⟩
instance : TyZero Try.prog 66 [.v (.slice none 0 0)] := ⟨fun _ => by kernel_rfl⟩
instance : TyShape Try.prog 67 false 1 := ⟨by kernel_rfl, by kernel_rfl⟩
instance : TyZero Try.prog 67 [.v .nilFunc] := ⟨fun _ => by kernel_rfl⟩
instance : TyShape Try.prog 68 false 1 := ⟨by kernel_rfl, by kernel_rfl⟩
instance : TyZero Try.prog 68 [.v .nilFunc] := ⟨fun _ => by kernel_rfl⟩
instance : TyShape Try.prog 69 false 1 := ⟨by kernel_rfl, by kernel_rfl⟩
instance : TyZero Try.prog 69 [.v .nilFunc] := ⟨fun _ => by kernel_rfl⟩
instance : TyShape Try.prog 70 false 1 := ⟨by kernel_rfl, by kernel_rfl⟩
instance : TyZero Try.prog 70 [.v .nilFunc] := ⟨fun _ => by kernel_rfl⟩
instance : TyShape Try.prog 71 false 1 := ⟨by kernel_rfl, by kernel_rfl⟩
instance : TyZero Try.prog 71 [.v (.tuple #[.int .i64 0, .bool false])] := ⟨fun _ => by kernel_rfl⟩
instance : TyShape Try.prog 72 false 1 := ⟨by kernel_rfl, by kernel_rfl⟩
instance : TyZero Try.prog 72 [.v .nilFunc] := ⟨fun _ => by kernel_rfl⟩
instance : TyShape Try.prog 73 false 1 := ⟨by kernel_rfl, by kernel_rfl⟩
instance : TyZero Try.prog 73 [.v .nilFunc] := ⟨fun _ => by kernel_rfl⟩
instance : TyShape Try.prog 74 false 1 := ⟨by kernel_rfl, by kernel_rfl⟩
instance : TyZero Try.prog 74 [.v (.tuple #[.agg #[.int .i64 0, .int .u64 0], .bool false])] := ⟨fun _ => by kernel_rfl⟩
instance : TyShape Try.prog 75 false 1 := ⟨by kernel_rfl, by kernel_rfl⟩
instance : TyZero Try.prog 75 [.v .nilFunc] := ⟨fun _ => by kernel_rfl⟩
instance : TyShape Try.prog 76 false 1 := ⟨by kernel_rfl, by kernel_rfl⟩
instance : TyZero Try.prog 76 [.v .nilFunc] := ⟨fun _ => by kernel_rfl⟩
instance : TyShape Try.prog 77 false 1 := ⟨by kernel_rfl, by kernel_rfl⟩
instance : TyZero Try.prog 77 [.v .nilFunc] := ⟨fun _ => by kernel_rfl⟩
instance : TyShape Try.prog 78 false 1 := ⟨by kernel_rfl, by kernel_rfl⟩
instance : TyZero Try.prog 78 [.v .nilFunc] := ⟨fun _ => by kernel_rfl⟩
instance : TyShape Try.prog 79 false 1 := ⟨by kernel_rfl, by kernel_rfl⟩
instance : TyZero Try.prog 79 [.v .nilFunc] := ⟨fun _ => by kernel_rfl⟩
instance : TyShape Try.prog 80 false 1 := ⟨by kernel_rfl, by kernel_rfl⟩
instance : TyZero Try.prog 80 [.v .nilFunc] := ⟨fun _ => by kernel_rfl⟩
instance : TyShape Try.prog 81 false 1 := ⟨by kernel_rfl, by kernel_rfl⟩
instance : TyZero Try.prog 81 [.v .nilFunc] := ⟨fun _ => by kernel_rfl⟩
instance : TyShape Try.prog 82 false 1 := ⟨by kernel_rfl, by kernel_rfl⟩
instance : TyZero Try.prog 82 [.v .nilFunc] := ⟨fun _ => by kernel_rfl⟩
instance : TyShape Try.prog 83 false 1 := ⟨by kernel_rfl, by kernel_rfl⟩
instance : TyZero Try.prog 83 [.v .nilFunc] := ⟨fun _ => by kernel_rfl⟩
instance : TyShape Try.prog 84 false 1 := ⟨by kernel_rfl, by kernel_rfl⟩
instance : TyZero Try.prog 84 [.v .nilFunc] := ⟨fun _ => by kernel_rfl⟩
instance : TyShape Try.prog 85 false 1 := ⟨by kernel_rfl, by kernel_rfl⟩
instance : TyZero Try.prog 85 [.v .nilFunc] := ⟨fun _ => by kernel_rfl⟩
instance : TyShape Try.prog 86 false 1 := ⟨by kernel_rfl, by kernel_rfl⟩
instance : TyZero Try.prog 86 [.v .nilFunc] := ⟨fun _ => by kernel_rfl⟩
instance : TyShape Try.prog 87 false 1 := ⟨by kernel_rfl, by kernel_rfl⟩
instance : TyZero Try.prog 87 [.v .nilFunc] := ⟨fun _ => by kernel_rfl⟩
instance : TyShape Try.prog 88 false 1 := ⟨by kernel_rfl, by kernel_rfl⟩
instance : TyZero Try.prog 88 [.v .nilFunc] := ⟨fun _ => by kernel_rfl⟩
instance : TyShape Try.prog 89 false 1 := ⟨by kernel_rfl, by kernel_rfl⟩
instance : TyZero Try.prog 89 [.v .nilFunc] := ⟨fun _ => by kernel_rfl⟩
instance : TyShape Try.prog 90 false 1 := ⟨by kernel_rfl, by kernel_rfl⟩
instance : TyZero Try.prog 90 [.v .nilFunc] := ⟨fun _ => by kernel_rfl⟩
instance : TyShape Try.prog 91 true 5 := ⟨by kernel_rfl, by kernel_rfl⟩
instance : TyField Try.prog 91 0 0 3 false 1 := ⟨by kernel_rfl, by kernel_rfl, by kernel_rfl, by decide⟩
instance : TyField Try.prog 91 1 1 22 false 1 := ⟨by kernel_rfl, by kernel_rfl, by kernel_rfl, by decide⟩
instance : TyField Try.prog 91 2 2 22 false 1 := ⟨by kernel_rfl, by kernel_rfl, by kernel_rfl, by decide⟩
instance : TyField Try.prog 91 3 3 26 false 1 := ⟨by kernel_rfl, by kernel_rfl, by kernel_rfl, by decide⟩
instance : TyField Try.prog 91 4 4 35 false 1 := ⟨by kernel_rfl, by kernel_rfl, by kernel_rfl, by decide⟩
instance : TyBuild Try.prog 91 [(0, 1), (1, 1), (2, 1), (3, 1), (4, 1)] [.int .i64 0, .slice none 0 0, .slice none 0 0, .slice none 0 0, .slice none 0 0] := ⟨by kernel_rfl, fun w => by kernel_rfl, by kernel_rfl⟩
instance : TyZero Try.prog 91 [.v (.int .i64 0), .v (.slice none 0 0), .v (.slice none 0 0), .v (.slice none 0 0), .v (.slice none 0 0)] := ⟨fun _ => by kernel_rfl⟩
instance : TyShape Try.prog 92 true 5 := ⟨by kernel_rfl, by kernel_rfl⟩
instance : TyField Try.prog 92 0 0 3 false 1 := ⟨by kernel_rfl, by kernel_rfl, by kernel_rfl, by decide⟩
instance : TyField Try.prog 92 1 1 22 false 1 := ⟨by kernel_rfl, by kernel_rfl, by kernel_rfl, by decide⟩
instance : TyField Try.prog 92 2 2 22 false 1 := ⟨by kernel_rfl, by kernel_rfl, by kernel_rfl, by decide⟩
instance : TyField Try.prog 92 3 3 26 false 1 := ⟨by kernel_rfl, by kernel_rfl, by kernel_rfl, by decide⟩
instance : TyField Try.prog 92 4 4 35 false 1 := ⟨by kernel_rfl, by kernel_rfl, by kernel_rfl, by decide⟩
instance : TyBuild Try.prog 92 [(0, 1), (1, 1), (2, 1), (3, 1), (4, 1)] [.int .i64 0, .slice none 0 0, .slice none 0 0, .slice none 0 0, .slice none 0 0] := ⟨by kernel_rfl, fun w => by kernel_rfl, by kernel_rfl⟩
instance : TyZero Try.prog 92 [.v (.int .i64 0), .v (.slice none 0 0), .v (.slice none 0 0), .v (.slice none 0 0), .v (.slice none 0 0)] := ⟨fun _ => by kernel_rfl⟩
instance : TyShape Try.prog 93 false 1 := ⟨by kernel_rfl, by kernel_rfl⟩
instance : TyZero Try.prog 93 [.v .nilFunc] := ⟨fun _ => by kernel_rfl⟩
instance : TyShape Try.prog 94 false 1 := ⟨by kernel_rfl, by kernel_rfl⟩
instance : TyZero Try.prog 94 [.v .nilFunc] := ⟨fun _ => by kernel_rfl⟩
instance : TyShape Try.prog 95 false 1 := ⟨by kernel_rfl, by kernel_rfl⟩
instance : TySlice Try.prog 95 92 5 := ⟨Try.underlying95, by kernel_rfl⟩
instance : TyZero Try.prog 95 [.v (.slice none 0 0)] := ⟨fun _ => by kernel_rfl⟩
instance : TyShape Try.prog 96 false 1 := ⟨by kernel_rfl, by kernel_rfl⟩
instance : TyZero Try.prog 96 [.v .nilFunc] := ⟨fun _ => by kernel_rfl⟩
instance : TyShape Try.prog 97 false 1 := ⟨by kernel_rfl, by kernel_rfl⟩
instance : TyZero Try.prog 97 [.v .nilFunc] := ⟨fun _ => by kernel_rfl⟩
instance : TyShape Try.prog 98 false 1 := ⟨by kernel_rfl, by kernel_rfl⟩
instance : TyZero Try.prog 98 [.v .nilFunc] := ⟨fun _ => by kernel_rfl⟩
instance : TyShape Try.prog 99 false 1 := ⟨by kernel_rfl, by kernel_rfl⟩
instance : TyZero Try.prog 99 [.v .nilFunc] := ⟨fun _ => by kernel_rfl⟩
instance : TyShape Try.prog 100 false 1 := ⟨by kernel_rfl, by kernel_rfl⟩
instance : TyZero Try.prog 100 [.v .nilFunc] := ⟨fun _ => by kernel_rfl⟩
instance : TyShape Try.prog 101 false 1 := ⟨by kernel_rfl, by kernel_rfl⟩
instance : TyZero Try.prog 101 [.v .nilFunc] := ⟨fun _ => by kernel_rfl⟩
instance : TyShape Try.prog 102 false 1 := ⟨by kernel_rfl, by kernel_rfl⟩
instance : TyZero Try.prog 102 [.v .nilFunc] := ⟨fun _ => by kernel_rfl⟩
instance : TyShape Try.prog 103 false 1 := ⟨by kernel_rfl, by kernel_rfl⟩
instance : TyZero Try.prog 103 [.v .nilFunc] := ⟨fun _ => by kernel_rfl⟩
instance : TyShape Try.prog 104 false 1 := ⟨by kernel_rfl, by kernel_rfl⟩
instance : TyZero Try.prog 104 [.v .nilFunc] := ⟨fun _ => by kernel_rfl⟩
instance : TyShape Try.prog 105 false 1 := ⟨by kernel_rfl, by kernel_rfl⟩
instance : TyZero Try.prog 105 [.v .nilFunc] := ⟨fun _ => by kernel_rfl⟩
instance : TyShape Try.prog 106 false 1 := ⟨by kernel_rfl, by kernel_rfl⟩
instance : TySlice Try.prog 106 29 1 := ⟨Try.underlying106, by kernel_rfl⟩
instance : TyZero Try.prog 106 [.v (.slice none 0 0)] := ⟨fun _ => by kernel_rfl⟩
instance : TyShape Try.prog 107 false 1 := ⟨by kernel_rfl, by kernel_rfl⟩
instance : TyZero Try.prog 107 [.v .nilFunc] := ⟨fun _ => by kernel_rfl⟩
instance : TyShape Try.prog 108 false 1 := ⟨by kernel_rfl, by kernel_rfl⟩
instance : TyZero Try.prog 108 [.v (.tuple #[.int .u64 0, .int .u64 0])] := ⟨fun _ => by kernel_rfl⟩
instance : TyShape Try.prog 109 false 1 := ⟨by kernel_rfl, by kernel_rfl⟩
instance : TyZero Try.prog 109 [.v .nilFunc] := ⟨fun _ => by kernel_rfl⟩
instance : TyShape Try.prog 110 false 1 := ⟨by kernel_rfl, by kernel_rfl⟩
instance : TyZero Try.prog 110 [.v .nilFunc] := ⟨fun _ => by kernel_rfl⟩
instance : TyInt Try.prog 111 .u64 := ⟨Try.underlying111⟩
instance : TyShape Try.prog 111 false 1 := ⟨by kernel_rfl, by kernel_rfl⟩
instance : TyZero Try.prog 111 [.v (.int .u64 0)] := ⟨fun _ => by kernel_rfl⟩
instance : TyShape Try.prog 112 false 1 := ⟨by kernel_rfl, by kernel_rfl⟩
instance : TyZero Try.prog 112 [.v .nilFunc] := ⟨fun _ => by kernel_rfl⟩
instance : TyShape Try.prog 113 false 1 := ⟨by kernel_rfl, by kernel_rfl⟩
instance : TyZero Try.prog 113 [.v .nilFunc] := ⟨fun _ => by kernel_rfl⟩
instance : TyShape Try.prog 114 false 1 := ⟨by kernel_rfl, by kernel_rfl⟩
instance : TyZero Try.prog 114 [.v .nilFunc] := ⟨fun _ => by kernel_rfl⟩
instance : TyShape Try.prog 115 false 1 := ⟨by kernel_rfl, by kernel_rfl⟩
instance : TyZero Try.prog 115 [.v .nilFunc] := ⟨fun _ => by kernel_rfl⟩
instance : TyShape Try.prog 116 false 1 := ⟨by kernel_rfl, by kernel_rfl⟩
instance : TyZero Try.prog 116 [.v .nilFunc] := ⟨fun _ => by kernel_rfl⟩
instance : TyShape Try.prog 117 false 1 := ⟨by kernel_rfl, by kernel_rfl⟩
instance : TySlice Try.prog 117 49 2 := ⟨Try.underlying117, by kernel_rfl⟩
instance : TyZero Try.prog 117 [.v (.slice none 0 0)] := ⟨fun _ => by kernel_rfl⟩
instance : TyShape Try.prog 118 false 1 := ⟨by kernel_rfl, by kernel_rfl⟩
instance : TyZero Try.prog 118 [.v (.pointer none)] := ⟨fun _ => by kernel_rfl⟩
instance : TyShape Try.prog 119 false 1 := ⟨by kernel_rfl, by kernel_rfl⟩
instance : TyZero Try.prog 119 [.v .nilFunc] := ⟨fun _ => by kernel_rfl⟩
instance : TyShape Try.prog 120 true 2 := ⟨by kernel_rfl, by kernel_rfl⟩
instance : TyField Try.prog 120 0 0 117 false 1 := ⟨by kernel_rfl, by kernel_rfl, by kernel_rfl, by decide⟩
instance : TyField Try.prog 120 1 1 118 false 1 := ⟨by kernel_rfl, by kernel_rfl, by kernel_rfl, by decide⟩
instance : TyBuild Try.prog 120 [(0, 1), (1, 1)] [.slice none 0 0, .pointer none] := ⟨by kernel_rfl, fun w => by kernel_rfl, by kernel_rfl⟩
instance : TyZero Try.prog 120 [.v (.slice none 0 0), .v (.pointer none)] := ⟨fun _ => by kernel_rfl⟩
instance : TyShape Try.prog 121 true 2 := ⟨by kernel_rfl, by kernel_rfl⟩
instance : TyField Try.prog 121 0 0 117 false 1 := ⟨by kernel_rfl, by kernel_rfl, by kernel_rfl, by decide⟩
instance : TyField Try.prog 121 1 1 118 false 1 := ⟨by kernel_rfl, by kernel_rfl, by kernel_rfl, by decide⟩
instance : TyBuild Try.prog 121 [(0, 1), (1, 1)] [.slice none 0 0, .pointer none] := ⟨by kernel_rfl, fun w => by kernel_rfl, by kernel_rfl⟩
instance : TyZero Try.prog 121 [.v (.slice none 0 0), .v (.pointer none)] := ⟨fun _ => by kernel_rfl⟩
instance : TyShape Try.prog 122 false 1 := ⟨by kernel_rfl, by kernel_rfl⟩
instance : TyZero Try.prog 122 [.v .nilFunc] := ⟨fun _ => by kernel_rfl⟩
instance : TyShape Try.prog 123 false 1 := ⟨by kernel_rfl, by kernel_rfl⟩
instance : TyZero Try.prog 123 [.v .nilFunc] := ⟨fun _ => by kernel_rfl⟩
instance : TyShape Try.prog 124 false 1 := ⟨by kernel_rfl, by kernel_rfl⟩
instance : TyZero Try.prog 124 [.v .nilFunc] := ⟨fun _ => by kernel_rfl⟩
instance : TyShape Try.prog 125 false 1 := ⟨by kernel_rfl, by kernel_rfl⟩
instance : TyZero Try.prog 125 [.v .nilFunc] := ⟨fun _ => by kernel_rfl⟩
instance : TyShape Try.prog 126 false 1 := ⟨by kernel_rfl, by kernel_rfl⟩
instance : TyZero Try.prog 126 [.v .nilFunc] := ⟨fun _ => by kernel_rfl⟩
instance : TyShape Try.prog 127 false 1 := ⟨by kernel_rfl, by kernel_rfl⟩
instance : TyZero Try.prog 127 [.v .nilFunc] := ⟨fun _ => by kernel_rfl⟩
instance : TyShape Try.prog 128 false 1 := ⟨by kernel_rfl, by kernel_rfl⟩
instance : TyZero Try.prog 128 [.v .nilFunc] := ⟨fun _ => by kernel_rfl⟩
instance : TyShape Try.prog 129 false 1 := ⟨by kernel_rfl, by kernel_rfl⟩
instance : TyZero Try.prog 129 [.v .nilFunc] := ⟨fun _ => by kernel_rfl⟩
instance : TyShape Try.prog 130 true 7 := ⟨by kernel_rfl, by kernel_rfl⟩
instance : TyField Try.prog 130 0 0 44 true 5 := ⟨by kernel_rfl, by kernel_rfl, by kernel_rfl, by decide⟩
instance : TyField Try.prog 130 1 5 2 false 1 := ⟨by kernel_rfl, by kernel_rfl, by kernel_rfl, by decide⟩
instance : TyField Try.prog 130 2 6 2 false 1 := ⟨by kernel_rfl, by kernel_rfl, by kernel_rfl, by decide⟩
instance : TyBuild Try.prog 130 [(0, 5), (5, 1), (6, 1)] [.int .i64 0, .int .i64 0, .int .i64 0, .int .i64 0, .int .i64 0, .int .i64 0, .int .i64 0] := ⟨by kernel_rfl, fun w => by kernel_rfl, by kernel_rfl⟩
instance : TyZero Try.prog 130 [.v (.int .i64 0), .v (.int .i64 0), .v (.int .i64 0), .v (.int .i64 0), .v (.int .i64 0), .v (.int .i64 0), .v (.int .i64 0)] := ⟨fun _ => by kernel_rfl⟩
instance : TyShape Try.prog 131 true 7 := ⟨by kernel_rfl, by kernel_rfl⟩
instance : TyField Try.prog 131 0 0 44 true 5 := ⟨by kernel_rfl, by kernel_rfl, by kernel_rfl, by decide⟩
instance : TyField Try.prog 131 1 5 2 false 1 := ⟨by kernel_rfl, by kernel_rfl, by kernel_rfl, by decide⟩
instance : TyField Try.prog 131 2 6 2 false 1 := ⟨by kernel_rfl, by kernel_rfl, by kernel_rfl, by decide⟩
instance : TyBuild Try.prog 131 [(0, 5), (5, 1), (6, 1)] [.int .i64 0, .int .i64 0, .int .i64 0, .int .i64 0, .int .i64 0, .int .i64 0, .int .i64 0] := ⟨by kernel_rfl, fun w => by kernel_rfl, by kernel_rfl⟩
instance : TyZero Try.prog 131 [.v (.int .i64 0), .v (.int .i64 0), .v (.int .i64 0), .v (.int .i64 0), .v (.int .i64 0), .v (.int .i64 0), .v (.int .i64 0)] := ⟨fun _ => by kernel_rfl⟩
instance : TyShape Try.prog 132 false 1 := ⟨by kernel_rfl, by kernel_rfl⟩
instance : TyZero Try.prog 132 [.v (.tuple #[.agg #[.int .i64 0, .int .i64 0, .int .i64 0, .int .i64 0, .int .i64 0, .int .i64 0, .int .i64 0], .bool false])] := ⟨fun _ => by kernel_rfl⟩
instance : TyShape Try.prog 133 false 1 := ⟨by kernel_rfl, by kernel_rfl⟩
instance : TyZero Try.prog 133 [.v .nilFunc] := ⟨fun _ => by kernel_rfl⟩
instance : TyShape Try.prog 134 false 1 := ⟨by kernel_rfl, by kernel_rfl⟩
instance : TyZero Try.prog 134 [.v .nilFunc] := ⟨fun _ => by kernel_rfl⟩
instance : TyShape Try.prog 135 false 1 := ⟨by kernel_rfl, by kernel_rfl⟩
instance : TyZero Try.prog 135 [.v .nilFunc] := ⟨fun _ => by kernel_rfl⟩
instance : TyShape Try.prog 136 false 1 := ⟨by kernel_rfl, by kernel_rfl⟩
instance : TyZero Try.prog 136 [.v .nilFunc] := ⟨fun _ => by kernel_rfl⟩
instance : TyShape Try.prog 137 false 1 := ⟨by kernel_rfl, by kernel_rfl⟩
instance : TyZero Try.prog 137 [.v .nilFunc] := ⟨fun _ => by kernel_rfl⟩
instance : TyShape Try.prog 138 false 1 := ⟨by kernel_rfl, by kernel_rfl⟩
instance : TyZero Try.prog 138 [.v .nilFunc] := ⟨fun _ => by kernel_rfl⟩
instance : TyShape Try.prog 139 false 1 := ⟨by kernel_rfl, by kernel_rfl⟩
instance : TyZero Try.prog 139 [.v .nilFunc] := ⟨fun _ => by kernel_rfl⟩
instance : TyShape Try.prog 140 false 1 := ⟨by kernel_rfl, by kernel_rfl⟩
instance : TyZero Try.prog 140 [.v .nilFunc] := ⟨fun _ => by kernel_rfl⟩
instance : TyShape Try.prog 141 false 1 := ⟨by kernel_rfl, by kernel_rfl⟩
instance : TyZero Try.prog 141 [.v (.map none)] := ⟨fun _ => by kernel_rfl⟩
instance : TyShape Try.prog 142 false 1 := ⟨by kernel_rfl, by kernel_rfl⟩
instance : TyZero Try.prog 142 [.v .nilFunc] := ⟨fun _ => by kernel_rfl⟩
instance : TyShape Try.prog 143 false 1 := ⟨by kernel_rfl, by kernel_rfl⟩
instance : TyZero Try.prog 143 [.v .nilFunc] := ⟨fun _ => by kernel_rfl⟩
instance : TyShape Try.prog 144 false 1 := ⟨by kernel_rfl, by kernel_rfl⟩
instance : TyZero Try.prog 144 [.v .nilFunc] := ⟨fun _ => by kernel_rfl⟩
instance : TyShape Try.prog 145 false 1 := ⟨by kernel_rfl, by kernel_rfl⟩
instance : TyZero Try.prog 145 [.v .nilFunc] := ⟨fun _ => by kernel_rfl⟩
instance : TyShape Try.prog 146 false 1 := ⟨by kernel_rfl, by kernel_rfl⟩
instance : TyZero Try.prog 146 [.v .nilFunc] := ⟨fun _ => by kernel_rfl⟩
instance : TyShape Try.prog 147 false 1 := ⟨by kernel_rfl, by kernel_rfl⟩
instance : TyZero Try.prog 147 [.v .nilFunc] := ⟨fun _ => by kernel_rfl⟩
instance : TyShape Try.prog 148 false 1 := ⟨by kernel_rfl, by kernel_rfl⟩
instance : TyZero Try.prog 148 [.v .nilFunc] := ⟨fun _ => by kernel_rfl⟩
instance : TyShape Try.prog 149 false 1 := ⟨by kernel_rfl, by kernel_rfl⟩
instance : TyZero Try.prog 149 [.v .nilFunc] := ⟨fun _ => by kernel_rfl⟩
instance : TyShape Try.prog 150 false 1 := ⟨by kernel_rfl, by kernel_rfl⟩
instance : TyZero Try.prog 150 [.v .nilFunc] := ⟨fun _ => by kernel_rfl⟩
instance : TyShape Try.prog 151 false 1 := ⟨by kernel_rfl, by kernel_rfl⟩
instance : TyZero Try.prog 151 [.v .nilFunc] := ⟨fun _ => by kernel_rfl⟩
instance : TyShape Try.prog 152 false 1 := ⟨by kernel_rfl, by kernel_rfl⟩
instance : TyZero Try.prog 152 [.v .nilFunc] := ⟨fun _ => by kernel_rfl⟩
instance : TyShape Try.prog 153 false 1 := ⟨by kernel_rfl, by kernel_rfl⟩
instance : TyZero Try.prog 153 [.v (.map none)] := ⟨fun _ => by kernel_rfl⟩
instance : TyShape Try.prog 154 true 0 := ⟨by kernel_rfl, by kernel_rfl⟩
instance : TyBuild Try.prog 154 [] [] := ⟨by kernel_rfl, fun w => by kernel_rfl, by kernel_rfl⟩
instance : TyShape Try.prog 155 false 1 := ⟨by kernel_rfl, by kernel_rfl⟩
instance : TyZero Try.prog 155 [.v .nilFunc] := ⟨fun _ => by kernel_rfl⟩
instance : TyShape Try.prog 156 false 1 := ⟨by kernel_rfl, by kernel_rfl⟩
instance : TyZero Try.prog 156 [.v .nilFunc] := ⟨fun _ => by kernel_rfl⟩
instance : TyShape Try.prog 157 true 6 := ⟨by kernel_rfl, by kernel_rfl⟩
instance : TyField Try.prog 157 0 0 25 true 2 := ⟨by kernel_rfl, by kernel_rfl, by kernel_rfl, by decide⟩
instance : TyField Try.prog 157 1 2 35 false 1 := ⟨by kernel_rfl, by kernel_rfl, by kernel_rfl, by decide⟩
instance : TyField Try.prog 157 2 3 35 false 1 := ⟨by kernel_rfl, by kernel_rfl, by kernel_rfl, by decide⟩
instance : TyField Try.prog 157 3 4 35 false 1 := ⟨by kernel_rfl, by kernel_rfl, by kernel_rfl, by decide⟩
instance : TyField Try.prog 157 4 5 35 false 1 := ⟨by kernel_rfl, by kernel_rfl, by kernel_rfl, by decide⟩
instance : TyBuild Try.prog 157 [(0, 2), (2, 1), (3, 1), (4, 1), (5, 1)] [.slice none 0 0, .slice none 0 0, .slice none 0 0, .slice none 0 0, .slice none 0 0, .slice none 0 0] := ⟨by kernel_rfl, fun w => by kernel_rfl, by kernel_rfl⟩
instance : TyZero Try.prog 157 [.v (.slice none 0 0), .v (.slice none 0 0), .v (.slice none 0 0), .v (.slice none 0 0), .v (.slice none 0 0), .v (.slice none 0 0)] := ⟨fun _ => by kernel_rfl⟩
instance : TyShape Try.prog 158 true 6 := ⟨by kernel_rfl, by kernel_rfl⟩
instance : TyField Try.prog 158 0 0 25 true 2 := ⟨by kernel_rfl, by kernel_rfl, by kernel_rfl, by decide⟩
instance : TyField Try.prog 158 1 2 35 false 1 := ⟨by kernel_rfl, by kernel_rfl, by kernel_rfl, by decide⟩
instance : TyField Try.prog 158 2 3 35 false 1 := ⟨by kernel_rfl, by kernel_rfl, by kernel_rfl, by decide⟩
instance : TyField Try.prog 158 3 4 35 false 1 := ⟨by kernel_rfl, by kernel_rfl, by kernel_rfl, by decide⟩
instance : TyField Try.prog 158 4 5 35 false 1 := ⟨by kernel_rfl, by kernel_rfl, by kernel_rfl, by decide⟩
instance : TyBuild Try.prog 158 [(0, 2), (2, 1), (3, 1), (4, 1), (5, 1)] [.slice none 0 0, .slice none 0 0, .slice none 0 0, .slice none 0 0, .slice none 0 0, .slice none 0 0] := ⟨by kernel_rfl, fun w => by kernel_rfl, by kernel_rfl⟩
instance : TyZero Try.prog 158 [.v (.slice none 0 0), .v (.slice none 0 0), .v (.slice none 0 0), .v (.slice none 0 0), .v (.slice none 0 0), .v (.slice none 0 0)] := ⟨fun _ => by kernel_rfl⟩
instance : TyShape Try.prog 159 false 1 := ⟨by kernel_rfl, by kernel_rfl⟩
instance : TyZero Try.prog 159 [.v (.tuple #[.slice none 0 0, .slice none 0 0])] := ⟨fun _ => by kernel_rfl⟩
instance : TyShape Try.prog 160 false 1 := ⟨by kernel_rfl, by kernel_rfl⟩
instance : TyZero Try.prog 160 [.v .nilFunc] := ⟨fun _ => by kernel_rfl⟩
instance : TyShape Try.prog 161 false 1 := ⟨by kernel_rfl, by kernel_rfl⟩
instance : TyZero Try.prog 161 [.v .nilFunc] := ⟨fun _ => by kernel_rfl⟩
instance : TyShape Try.prog 162 false 1 := ⟨by kernel_rfl, by kernel_rfl⟩
instance : TyZero Try.prog 162 [.v (.tuple #[.agg #[.int .i64 0, .int .i64 0, .int .i64 0, .int .i64 0, .int .i64 0], .bool false])] := ⟨fun _ => by kernel_rfl⟩
instance : TyShape Try.prog 163 false 1 := ⟨by kernel_rfl, by kernel_rfl⟩
instance : TyZero Try.prog 163 [.v .nilFunc] := ⟨fun _ => by kernel_rfl⟩
instance : TyShape Try.prog 164 false 1 := ⟨by kernel_rfl, by kernel_rfl⟩
instance : TyZero Try.prog 164 [.v .nilFunc] := ⟨fun _ => by kernel_rfl⟩
instance : TyShape Try.prog 165 false 1 := ⟨by kernel_rfl, by kernel_rfl⟩
instance : TyZero Try.prog 165 [.v .nilFunc] := ⟨fun _ => by kernel_rfl⟩
instance : TyShape Try.prog 166 false 1 := ⟨by kernel_rfl, by kernel_rfl⟩
instance : TyZero Try.prog 166 [.v .nilFunc] := ⟨fun _ => by kernel_rfl⟩
instance : TyShape Try.prog 167 false 1 := ⟨by kernel_rfl, by kernel_rfl⟩
instance : TyZero Try.prog 167 [.v .nilFunc] := ⟨fun _ => by kernel_rfl⟩
instance : TyShape Try.prog 168 false 1 := ⟨by kernel_rfl, by kernel_rfl⟩
instance : TyZero Try.prog 168 [.v .nilFunc] := ⟨fun _ => by kernel_rfl⟩
instance : TyShape Try.prog 169 false 1 := ⟨by kernel_rfl, by kernel_rfl⟩
instance : TyZero Try.prog 169 [.v .nilFunc] := ⟨fun _ => by kernel_rfl⟩
instance : TyShape Try.prog 170 false 1 := ⟨by kernel_rfl, by kernel_rfl⟩
instance : TyZero Try.prog 170 [.v .nilFunc] := ⟨fun _ => by kernel_rfl⟩
instance : TyShape Try.prog 171 false 1 := ⟨by kernel_rfl, by kernel_rfl⟩
instance : TyZero Try.prog 171 [.v .nilFunc] := ⟨fun _ => by kernel_rfl⟩
instance : TyShape Try.prog 172 false 1 := ⟨by kernel_rfl, by kernel_rfl⟩
instance : TyZero Try.prog 172 [.v .nilFunc] := ⟨fun _ => by kernel_rfl⟩
instance : TyShape Try.prog 173 false 1 := ⟨by kernel_rfl, by kernel_rfl⟩
instance : TyZero Try.prog 173 [.v .nilFunc] := ⟨fun _ => by kernel_rfl⟩
instance : TyShape Try.prog 174 false 1 := ⟨by kernel_rfl, by kernel_rfl⟩
instance : TyZero Try.prog 174 [.v .nilFunc] := ⟨fun _ => by kernel_rfl⟩
instance : TyShape Try.prog 175 false 1 := ⟨by kernel_rfl, by kernel_rfl⟩
instance : TyZero Try.prog 175 [.v .nilFunc] := ⟨fun _ => by kernel_rfl⟩
instance : TyShape Try.prog 176 false 1 := ⟨by kernel_rfl, by kernel_rfl⟩
instance : TyZero Try.prog 176 [.v .nilFunc] := ⟨fun _ => by kernel_rfl⟩
instance : TyShape Try.prog 177 true 4 := ⟨by kernel_rfl, by kernel_rfl⟩
instance : TyField Try.prog 177 0 0 17 false 1 := ⟨by kernel_rfl, by kernel_rfl, by kernel_rfl, by decide⟩
instance : TyField Try.prog 177 1 1 17 false 1 := ⟨by kernel_rfl, by kernel_rfl, by kernel_rfl, by decide⟩
instance : TyField Try.prog 177 2 2 17 false 1 := ⟨by kernel_rfl, by kernel_rfl, by kernel_rfl, by decide⟩
instance : TyField Try.prog 177 3 3 9 false 1 := ⟨by kernel_rfl, by kernel_rfl, by kernel_rfl, by decide⟩
instance : TyShape Try.prog 178 true 4 := ⟨by kernel_rfl, by kernel_rfl⟩
instance : TyField Try.prog 178 0 0 17 false 1 := ⟨by kernel_rfl, by kernel_rfl, by kernel_rfl, by decide⟩
instance : TyField Try.prog 178 1 1 17 false 1 := ⟨by kernel_rfl, by kernel_rfl, by kernel_rfl, by decide⟩
instance : TyField Try.prog 178 2 2 17 false 1 := ⟨by kernel_rfl, by kernel_rfl, by kernel_rfl, by decide⟩
instance : TyField Try.prog 178 3 3 9 false 1 := ⟨by kernel_rfl, by kernel_rfl, by kernel_rfl, by decide⟩
instance : TyShape Try.prog 179 true 0 := ⟨by kernel_rfl, by kernel_rfl⟩
instance : TyShape Try.prog 180 true 0 := ⟨by kernel_rfl, by kernel_rfl⟩
instance : TyBuild Try.prog 180 [(0, 0)] [] := ⟨by kernel_rfl, fun w => by kernel_rfl, by kernel_rfl⟩
instance : TyShape Try.prog 181 true 0 := ⟨by kernel_rfl, by kernel_rfl⟩
instance : TyBuild Try.prog 181 [(0, 0)] [] := ⟨by kernel_rfl, fun w => by kernel_rfl, by kernel_rfl⟩
instance : TyInt Try.prog 182 .u32 := ⟨Try.underlying182⟩
instance : TyShape Try.prog 182 false 1 := ⟨by kernel_rfl, by kernel_rfl⟩
instance : TyZero Try.prog 182 [.v (.int .u32 0)] := ⟨fun _ => by kernel_rfl⟩
instance : TyInt Try.prog 183 .u8 := ⟨Try.underlying183⟩
instance : TyShape Try.prog 183 false 1 := ⟨by kernel_rfl, by kernel_rfl⟩
instance : TyZero Try.prog 183 [.v (.int .u8 0)] := ⟨fun _ => by kernel_rfl⟩
instance : TyInt Try.prog 184 .u8 := ⟨Try.underlying184⟩
instance : TyShape Try.prog 184 false 1 := ⟨by kernel_rfl, by kernel_rfl⟩
instance : TyZero Try.prog 184 [.v (.int .u8 0)] := ⟨fun _ => by kernel_rfl⟩
instance : TyShape Try.prog 185 false 1 := ⟨by kernel_rfl, by kernel_rfl⟩
instance : TyZero Try.prog 185 [.v .nilFunc] := ⟨fun _ => by kernel_rfl⟩
instance : TyShape Try.prog 186 false 1 := ⟨by kernel_rfl, by kernel_rfl⟩
instance : TyZero Try.prog 186 [.v (.pointer none)] := ⟨fun _ => by kernel_rfl⟩
instance : TyInt Try.prog 187 .i32 := ⟨Try.underlying187⟩
instance : TyShape Try.prog 187 false 1 := ⟨by kernel_rfl, by kernel_rfl⟩
instance : TyZero Try.prog 187 [.v (.int .i32 0)] := ⟨fun _ => by kernel_rfl⟩
instance : TyInt Try.prog 188 .i32 := ⟨Try.underlying188⟩
instance : TyShape Try.prog 188 false 1 := ⟨by kernel_rfl, by kernel_rfl⟩
instance : TyZero Try.prog 188 [.v (.int .i32 0)] := ⟨fun _ => by kernel_rfl⟩
instance : TyShape Try.prog 189 true 11 := ⟨by kernel_rfl, by kernel_rfl⟩
instance : TyField Try.prog 189 0 0 12 false 1 := ⟨by kernel_rfl, by kernel_rfl, by kernel_rfl, by decide⟩
instance : TyField Try.prog 189 1 1 12 false 1 := ⟨by kernel_rfl, by kernel_rfl, by kernel_rfl, by decide⟩
instance : TyField Try.prog 189 2 2 182 false 1 := ⟨by kernel_rfl, by kernel_rfl, by kernel_rfl, by decide⟩
instance : TyField Try.prog 189 3 3 183 false 1 := ⟨by kernel_rfl, by kernel_rfl, by kernel_rfl, by decide⟩
instance : TyField Try.prog 189 4 4 5 false 1 := ⟨by kernel_rfl, by kernel_rfl, by kernel_rfl, by decide⟩
instance : TyField Try.prog 189 5 5 5 false 1 := ⟨by kernel_rfl, by kernel_rfl, by kernel_rfl, by decide⟩
instance : TyField Try.prog 189 6 6 184 false 1 := ⟨by kernel_rfl, by kernel_rfl, by kernel_rfl, by decide⟩
instance : TyField Try.prog 189 7 7 185 false 1 := ⟨by kernel_rfl, by kernel_rfl, by kernel_rfl, by decide⟩
instance : TyField Try.prog 189 8 8 186 false 1 := ⟨by kernel_rfl, by kernel_rfl, by kernel_rfl, by decide⟩
instance : TyField Try.prog 189 9 9 187 false 1 := ⟨by kernel_rfl, by kernel_rfl, by kernel_rfl, by decide⟩
instance : TyField Try.prog 189 10 10 188 false 1 := ⟨by kernel_rfl, by kernel_rfl, by kernel_rfl, by decide⟩
instance : TyBuild Try.prog 189 [(0, 1), (1, 1), (2, 1), (3, 1), (4, 1), (5, 1), (6, 1), (7, 1), (8, 1), (9, 1), (10, 1)] [.int .u64 0, .int .u64 0, .int .u32 0, .int .u8 0, .int .u8 0, .int .u8 0, .int .u8 0, .nilFunc, .pointer none, .int .i32 0, .int .i32 0] := ⟨by kernel_rfl, fun w => by kernel_rfl, by kernel_rfl⟩
instance : TyZero Try.prog 189 [.v (.int .u64 0), .v (.int .u64 0), .v (.int .u32 0), .v (.int .u8 0), .v (.int .u8 0), .v (.int .u8 0), .v (.int .u8 0), .v .nilFunc, .v (.pointer none), .v (.int .i32 0), .v (.int .i32 0)] := ⟨fun _ => by kernel_rfl⟩
instance : TyShape Try.prog 190 true 11 := ⟨by kernel_rfl, by kernel_rfl⟩
instance : TyField Try.prog 190 0 0 12 false 1 := ⟨by kernel_rfl, by kernel_rfl, by kernel_rfl, by decide⟩
instance : TyField Try.prog 190 1 1 12 false 1 := ⟨by kernel_rfl, by kernel_rfl, by kernel_rfl, by decide⟩
instance : TyField Try.prog 190 2 2 182 false 1 := ⟨by kernel_rfl, by kernel_rfl, by kernel_rfl, by decide⟩
instance : TyField Try.prog 190 3 3 183 false 1 := ⟨by kernel_rfl, by kernel_rfl, by kernel_rfl, by decide⟩
instance : TyField Try.prog 190 4 4 5 false 1 := ⟨by kernel_rfl, by kernel_rfl, by kernel_rfl, by decide⟩
instance : TyField Try.prog 190 5 5 5 false 1 := ⟨by kernel_rfl, by kernel_rfl, by kernel_rfl, by decide⟩
instance : TyField Try.prog 190 6 6 184 false 1 := ⟨by kernel_rfl, by kernel_rfl, by kernel_rfl, by decide⟩
instance : TyField Try.prog 190 7 7 185 false 1 := ⟨by kernel_rfl, by kernel_rfl, by kernel_rfl, by decide⟩
instance : TyField Try.prog 190 8 8 186 false 1 := ⟨by kernel_rfl, by kernel_rfl, by kernel_rfl, by decide⟩
instance : TyField Try.prog 190 9 9 187 false 1 := ⟨by kernel_rfl, by kernel_rfl, by kernel_rfl, by decide⟩
instance : TyField Try.prog 190 10 10 188 false 1 := ⟨by kernel_rfl, by kernel_rfl, by kernel_rfl, by decide⟩
instance : TyBuild Try.prog 190 [(0, 1), (1, 1), (2, 1), (3, 1), (4, 1), (5, 1), (6, 1), (7, 1), (8, 1), (9, 1), (10, 1)] [.int .u64 0, .int .u64 0, .int .u32 0, .int .u8 0, .int .u8 0, .int .u8 0, .int .u8 0, .nilFunc, .pointer none, .int .i32 0, .int .i32 0] := ⟨by kernel_rfl, fun w => by kernel_rfl, by kernel_rfl⟩
instance : TyZero Try.prog 190 [.v (.int .u64 0), .v (.int .u64 0), .v (.int .u32 0), .v (.int .u8 0), .v (.int .u8 0), .v (.int .u8 0), .v (.int .u8 0), .v .nilFunc, .v (.pointer none), .v (.int .i32 0), .v (.int .i32 0)] := ⟨fun _ => by kernel_rfl⟩
instance : TyShape Try.prog 191 false 1 := ⟨by kernel_rfl, by kernel_rfl⟩
instance : TyZero Try.prog 191 [.v (.pointer none)] := ⟨fun _ => by kernel_rfl⟩
end Go.Proofs.Ytiboffhdabeiiaa
