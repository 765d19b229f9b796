/-
  Three closed facts of this seat's program, each by itself: together they take more memory than one declaration may.
-/
import Derived.Test.YtiboffhdabeiiaaRows
import Derived.JoinedOf
import Derived.KernelRfl
namespace Go.Proofs.Ytiboffhdabeiiaa
open Go
theorem mayE : Try.prog.mayEnter = true := by kernel_rfl
theorem liftsF : Try.prog.liftsFinal = false := by kernel_rfl
theorem makeF : Try.prog.make = some Rows.instAsksRow.make := by kernel_rfl
end Go.Proofs.Ytiboffhdabeiiaa
