/-
  unite: rows of the types' table.
-/
import Derived.Test.YtogbdilbbofdiaaProg
import Derived.WalkKit
namespace Go.Proofs.Ytogbdilbbofdiaa
theorem int_info : (Try.prog.info? 3).map (fun i => (i.zero, i.size, i.bytes)) = some (some (.int .i64 0), 1, 8) := by kernel_rfl
theorem row_info : (Try.prog.info? 28).map (fun i => (i.zero, i.size, i.bytes)) = some (some (.slice none 0 0), 1, 24) := by kernel_rfl
theorem int_zero (w : World) : (zeroValue 3).run Try.prog w = .ok (.int .i64 0) w := by kernel_rfl
end Go.Proofs.Ytogbdilbbofdiaa
