/- The abstract texts are the program's. -/
import Derived.Test.YtbfochidbpdniaaPvPrim
import Derived.Test.YtbfochidbpdniaaPvK1
import Derived.Test.YtbfochidbpdniaaProg
namespace Go.Pv
set_option linter.all false
open Go.RowKit Go.Proofs
theorem kok : okTab Try.prog kE.pf ktab = true := by kernel_rfl
theorem kEok : EnvOk kE Try.prog where
  mix := by decide
  glob g cs h := by simp [kE] at h
  fn f fn h := okTab_mem kok (lookF_mem h)
  prim f g h vs v hv W σ w us hR hvs := by
    by_cases e : f = 36
    · subst e
      have : g = idxStr := by
        change (if 36 = 36 then some idxStr else none) = some g at h
        rw [if_pos rfl] at h; injection h with h; exact h.symm
      subst this
      exact idxStr_ok Try.func36 rfl rfl rfl rfl vs v hv W σ w us hR hvs
    · change (if f = 36 then some idxStr else none) = some g at h
      rw [if_neg e] at h; simp at h
end Go.Pv
