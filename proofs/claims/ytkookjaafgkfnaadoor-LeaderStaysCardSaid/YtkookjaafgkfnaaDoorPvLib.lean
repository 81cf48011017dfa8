/- Functions of the library that are known by their contracts. -/
import Derived.Test.YtkookjaafgkfnaaDoorPvPrim
import Derived.Lib.IndexMore
import Derived.Lib.Replace
import Derived.Lib.CountLaws
import Derived.Deep.Draws
namespace Go.Pv
set_option linter.all false
open Go.RowKit

theorem R.belowW {E : Env} {W : KW} {σ : St} {w w' : World} (h : R E W σ w) (hb : Below w.heap.size w w') : R E W σ w' := by
  have hc : ∀ b i u, w.cell? ⟨b, i, none⟩ = some u → w'.cell? ⟨b, i, none⟩ = some u := by
    intro b i u hu
    have hlt : b < w.heap.size := by
      rcases Nat.lt_or_ge b w.heap.size with h | h
      · exact h
      · simp [World.cell?, Array.getElem?_eq_none h] at hu
    rw [hb.cell (p := ⟨b, i, none⟩) hlt]; exact hu
  exact {
    below := h.below.trans (hb.mono h.below.size)
    sealed := fun b i u hs => hc b i u (h.sealed b i u hs)
    size := fun b n hs i hi => by
      obtain ⟨u, hu⟩ := Option.isSome_iff_exists.1 (h.size b n hs i hi)
      rw [hc b i u hu]; rfl
    sizelt := fun b n hs => Nat.lt_of_lt_of_le (h.sizelt b n hs) hb.size
    there := fun id b hi => let ⟨a1, a2, a3, a4⟩ := h.there id b hi; ⟨a1, Nat.lt_of_lt_of_le a2 hb.size, a3, a4⟩
    cells := fun id cs hg => by
      obtain ⟨b, a1, a2, a3⟩ := h.cells id cs hg
      refine ⟨b, a1, a2, fun i v hv => ?_⟩
      obtain ⟨f, u, hu, hr⟩ := a3 i v hv
      exact ⟨by rw [hb.frozen (p := ⟨b, i, none⟩) (h.there id b a1).2.1]; exact f, u, hc b i u hu, hr⟩
    iter := fun id s pos hg => by
      obtain ⟨b, a1, a2⟩ := h.iter id s pos hg
      exact ⟨b, a1, by rw [hb.block b (h.there id b a1).2.1]; exact a2⟩
    inj := h.inj
    tok := fun t b o ht => let ⟨a1, a2, a3, a4⟩ := h.tok t b o ht; ⟨a1, Nat.lt_of_lt_of_le a2 hb.size, a3, a4⟩
    live := fun t b o hl ht n hn i h1 h2 => by
      obtain ⟨a1, a2⟩ := h.live t b o hl ht n hn i h1 h2
      exact ⟨a1, by rw [hb.frozen (p := ⟨b, i, none⟩) (h.tok t b o ht).2.1]; exact a2⟩
    tinj := h.tinj
    ltok := h.ltok
    lid := h.lid
    glob := h.glob
    nodup := h.nodup }

theorem below_drewN {w : World} (n : Nat) : Below w.heap.size w (w.drewN n) := ⟨rfl, rfl, rfl, Nat.le_refl _, fun _ _ => rfl⟩

theorem R.globInt {E : Env} {W : KW} {σ : St} {w : World} (h : R E W σ w) {g : Nat} {m : Int} (hg : E.glob g = some [.int .i64 m]) : w.cell? ⟨g, 0, none⟩ = some (.int .i64 m) := by
  obtain ⟨_, us, hv, hr⟩ := h.glob g _ hg
  cases hv with
  | cons h1 h2 =>
    cases h2; cases h1
    exact h.sealed _ _ _ (hr 0 (by simp))

def pCut (s p : List UInt8) : Option (List UInt8 × List UInt8 × Bool) := if s.length < 4294967281 then some (Lib.cut s p) else none
def gCut : List AV → Option AV
  | [.str s, .str p] => (pCut s p).map fun r => .tuple [.str r.1, .str r.2.1, .bool r.2.2]
  | _ => none
theorem gCut_ok {s p : List UInt8} {r : List UInt8 × List UInt8 × Bool} (h : pCut s p = some r) : gCut [.str s, .str p] = some (.tuple [.str r.1, .str r.2.1, .bool r.2.2]) := by simp [gCut, h]

/-- One byte for another one. -/
def pRepl (s a b : List UInt8) : Option (List UInt8) := if s.length < 4294967281 ∧ a.length = 1 ∧ b.length = 1 then some (Lib.replaceAll s a b) else none
def gRepl : List AV → Option AV
  | [.str s, .str a, .str b] => (pRepl s a b).map .str
  | _ => none
theorem gRepl_ok {s a b r : List UInt8} (h : pRepl s a b = some r) : gRepl [.str s, .str a, .str b] = some (.str r) := by simp [gRepl, h]

section
variable {P : Program} {E : Env} {f : FuncId} {fu : Func} {m : Int} {g : Nat}

theorem cut_prim (hfu : P.funcs[f]? = some fu) (hname : (fu.name == "runtime.NumGoroutine") = false) (hb : fu.body.isNone = false) (hg : E.glob g = some [.int .i64 m])
    (hc : ∀ (s sep : ByteArray) (w : World), s.size < 4294967281 → w.cell? ⟨g, 0, none⟩ = some (.int .i64 m) → Calls P f #[.string s, .string sep] w fun e w' => e = .returned (.tuple #[.string ⟨(Lib.cut s.data.toList sep.data.toList).1.toArray⟩, .string ⟨(Lib.cut s.data.toList sep.data.toList).2.1.toArray⟩, .bool (Lib.cut s.data.toList sep.data.toList).2.2]) ∧ ∃ n, w' = w.drewN n)
    (vs : List AV) (v : AV) (h : gCut vs = some v) (W : KW) (σ : St) (w : World) (us : List Value) (hR : R E W σ w) (hvs : VRs W vs us) : InvOk P f us.toArray w (Ret E W σ v) := by
  unfold gCut at h
  split at h
  · rename_i s p
    cases hvs with
    | cons h1 h2 =>
      cases h2 with
      | cons h2 h3 =>
        cases h3; cases h1; cases h2
        unfold pCut at h
        split at h
        · rename_i hs
          injection h with h; subst h
          refine inv_of_calls hfu (by simpa using hname) hb ?_
          refine (hc ⟨s.toArray⟩ ⟨p.toArray⟩ w (by simpa [ByteArray.size] using hs) (hR.globInt hg)).mono fun e w' ⟨he, n, hw⟩ => ?_
          subst he; subst hw
          exact ⟨W, _, .refl W, hR.belowW (below_drewN n), rfl, .tuple (.cons (.str _) (.cons (.str _) (.cons (.bool _) .nil)))⟩
        · simp at h
  · simp at h

theorem repl_prim (hfu : P.funcs[f]? = some fu) (hname : (fu.name == "runtime.NumGoroutine") = false) (hb : fu.body.isNone = false) (hg : E.glob g = some [.int .i64 m])
    (hc : ∀ (s old new : ByteArray) (w : World), s.size < 4294967281 → w.cell? ⟨g, 0, none⟩ = some (.int .i64 m) → 1 ≤ old.size → s.size + Lib.countB s old * new.size ≤ 140737488355328 →
      Calls P f #[.string s, .string old, .string new] w fun e w' => e = .returned (.string ⟨(Lib.replaceAll s.data.toList old.data.toList new.data.toList).toArray⟩) ∧ Below w.heap.size w w')
    (vs : List AV) (v : AV) (h : gRepl vs = some v) (W : KW) (σ : St) (w : World) (us : List Value) (hR : R E W σ w) (hvs : VRs W vs us) : InvOk P f us.toArray w (Ret E W σ v) := by
  unfold gRepl at h
  split at h
  · rename_i s a b
    cases hvs with
    | cons h1 h2 =>
      cases h2 with
      | cons h2 h3 =>
        cases h3 with
        | cons h3 h4 =>
          cases h4; cases h1; cases h2; cases h3
          unfold pRepl at h
          split at h
          · rename_i hs
            injection h with h; subst h
            refine inv_of_calls hfu (by simpa using hname) hb ?_
            have hcount : Lib.countB ⟨s.toArray⟩ ⟨a.toArray⟩ ≤ s.length + 1 := Lib.count_le s a
            have hbs : (⟨b.toArray⟩ : ByteArray).size = 1 := by simpa [ByteArray.size] using hs.2.2
            have hss : (⟨s.toArray⟩ : ByteArray).size = s.length := by simp [ByteArray.size]
            refine (hc ⟨s.toArray⟩ ⟨a.toArray⟩ ⟨b.toArray⟩ w (by rw [hss]; exact hs.1) (hR.globInt hg) (by have := hs.2.1; simp [ByteArray.size]; omega) (by rw [hbs, hss]; omega)).mono fun e w' ⟨he, hw⟩ => ?_
            subst he
            exact ⟨W, _, .refl W, hR.belowW hw, rfl, .str _⟩
          · simp at h
  · simp at h
end
end Go.Pv
