/- The abstract texts are the program's. -/
import Derived.Test.YtkookjaafgkfnaaDoorPvRow2
import Derived.Test.YtkookjaafgkfnaaDoorPvC1
import Derived.Test.YtkookjaafgkfnaaDoorPvLib
import Derived.Test.YtkookjaafgkfnaaDoorPvShelf
namespace Go.Pv
set_option linter.all false
open Go.RowKit Go.Proofs
theorem cok0 : okTab Tryd.prog (cE 0).pf ctab = true := by kernel_rfl
theorem cpf (m : Int) : (cE m).pf = (cE 0).pf := rfl
theorem cEok (m : Int) : EnvOk (cE m) Tryd.prog where
  mix := by kernel_rfl
  glob g cs h := by
    simp only [cE] at h
    split at h
    · injection h with h; subst h; rfl
    · split at h
      · injection h with h; subst h; rfl
      · simp at h
  fn f fn h := by
    rw [cpf m]
    exact okTab_mem cok0 (lookF_mem h)
  prim f g h vs v hv W σ w us hR hvs := by
    simp only [cE] at h
    split at h
    · rename_i e; subst e
      injection h with h; subst h
      exact cut_prim (m := m) (g := 1) Tryd.func16 rfl rfl rfl (fun s sep w hs hm => Tryd.strings_Cut s sep m w hs hm) vs v hv W σ w us hR hvs
    · split at h
      · rename_i e; subst e
        injection h with h; subst h
        exact repl_prim (m := m) (g := 1) Tryd.func17 rfl rfl rfl (fun s old new w hs hm h1 hl => Tryd.strings_ReplaceAll s old new m w hs hm h1 hl) vs v hv W σ w us hR hvs
      · simp at h

theorem globs_c (m : Int) (w : World) (hm : w.cell? ⟨1, 0, none⟩ = some (.int .i64 m)) (hk : GlobIs w 0 ((marks.map Lit.string).map litVal)) :
    ∀ g cs, (cE m).glob g = some cs → (∀ c ∈ cs, c.one = true) ∧ ∃ us, VRs (KW.old w) cs us ∧ (KW.old w).Row g 0 us := by
  intro g cs h
  simp only [cE] at h
  split at h
  · rename_i e; subst e
    injection h with h; subst h
    exact glob_row hk (strs_vr marks) (by decide)
  · split at h
    · rename_i e; subst e
      injection h with h; subst h
      exact glob_row (vs := [.int .i64 m]) (fun i hi => by simp at hi; subst hi; exact hm) (.cons (.int _ _) .nil) (by intro c hc; simp at hc; subst hc; rfl)
    · simp at h
end Go.Pv
