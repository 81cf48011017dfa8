/- Functions without a text: what is known of them. -/
import Derived.Test.YtkookjaafgkfnaaDoorPvEnv
namespace Go.Pv
set_option linter.all false
open Go.RowKit

theorem idxStr_ok {P : Program} {E : Env} {f : FuncId} {fn : Func} (hf : P.funcs[f]? = some fn) (hname : (fn.name == "runtime.NumGoroutine") = false)
    (hb : fn.body.isNone = true) (hn : Extern.findNext fn = none) (he : Extern.find fn = some Extern.BytealgIndexByte.indexByte) (vs : List AV) (v : AV) (h : idxStr vs = some v)
    (W : KW) (σ : St) (w : World) (us : List Value) (hR : R E W σ w) (hvs : VRs W vs us) : InvOk P f us.toArray w (Ret E W σ v) := by
  unfold idxStr at h
  split at h
  · rename_i s c
    injection h with h; subst h
    cases hvs with
    | cons h1 h2 =>
      cases h2 with
      | cons h2 h3 =>
        cases h3; cases h1; cases h2
        unfold InvOk
        have hrun := run_callFunc_extern (P := P) hf hname hb hn he #[.string ⟨s.toArray⟩, .int .u8 c] w
        rw [Lib.run_indexByteString] at hrun
        rw [show ([Value.string ⟨s.toArray⟩, Value.int .u8 c] : List Value).toArray = #[.string ⟨s.toArray⟩, .int .u8 c] from rfl, hrun]
        exact ⟨W, _, .refl W, hR, rfl, .int _ _⟩
  · simp at h
theorem idxStr_u8 (s : List UInt8) (c : UInt8) : idxStr [.str s, u8 c] = some (.int .i64 (Lib.indexByte s c)) := by
  show some (AV.int .i64 (Lib.indexByte s _)) = _
  congr 3
  simp [Nat.toUInt8]
end Go.Pv
