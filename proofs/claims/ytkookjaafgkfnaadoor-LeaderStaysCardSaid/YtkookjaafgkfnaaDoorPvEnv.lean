/- An environment of a table of abstract texts. -/
import Derived.Test.YtkookjaafgkfnaaDoorPvCall2
import Derived.Lib.Bytealg
import Derived.KernelRfl
namespace Go.Pv
set_option linter.all false
open Go.RowKit

def lookF : List (Nat × IFun) → Nat → Option IFun
  | [], _ => none
  | (k, x) :: l, f => if k = f then some x else lookF l f

theorem lookF_mem {l : List (Nat × IFun)} {f : Nat} {x : IFun} (h : lookF l f = some x) : (f, x) ∈ l := by
  induction l with
  | nil => simp [lookF] at h
  | cons y l ih =>
    obtain ⟨k, z⟩ := y
    simp only [lookF] at h
    by_cases e : k = f
    · subst e; rw [if_pos rfl] at h; injection h with h; subst h; exact List.mem_cons_self ..
    · rw [if_neg e] at h; exact List.mem_cons_of_mem _ (ih h)

def okTab (P : Program) (pf : Nat → Bool) : List (Nat × IFun) → Bool
  | [] => true
  | (f, x) :: l => (match P.funcs[f]? with | some fu => okFun P pf x fu | none => false) && okTab P pf l

theorem okTab_mem {P : Program} {pf : Nat → Bool} {l : List (Nat × IFun)} (h : okTab P pf l = true) {f : Nat} {x : IFun} (hm : (f, x) ∈ l) : ∃ fu, P.funcs[f]? = some fu ∧ okFun P pf x fu = true := by
  induction l with
  | nil => simp at hm
  | cons y l ih =>
    obtain ⟨k, z⟩ := y
    simp only [okTab, Bool.and_eq_true] at h
    rcases List.mem_cons.1 hm with e | hm
    · injection e with e1 e2; subst e1; subst e2
      cases hf : P.funcs[f]? with
      | none => simp [hf] at h
      | some fu => simp [hf] at h; exact ⟨fu, rfl, h.1⟩
    · exact ih h.2 hm

/-- The place of a byte in a string. -/
def idxStr : List AV → Option AV
  | [.str s, .int .u8 c] => some (.int .i64 (Lib.indexByte s c.toNat.toUInt8))
  | _ => none

end Go.Pv
