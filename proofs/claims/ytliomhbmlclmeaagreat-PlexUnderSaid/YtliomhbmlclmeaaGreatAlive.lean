/-
  THE LAW OF LINEAR PROGRAMS: what it calls first answers true (by computing).
-/
import Derived.Test.YtliomhbmlclmeaaGreatPD0
import Derived.KernelRfl
set_option maxRecDepth 100000
namespace Go.Abs
def isTrue : PRes → Bool | .ret (.bool b) => b | _ => false
theorem isTrue_eq {r : PRes} (h : isTrue r = true) : r = .ret (.bool true) := by
  unfold isTrue at h
  split at h
  · rw [h]
  · cases h
theorem alive_true : isTrue (F_law20_alive []) = true := by kernel_rfl
theorem alive_ok : F_law20_alive [] = .ret (.bool true) := isTrue_eq alive_true
end Go.Abs
