/- Rows that list variables. -/
import Derived.Test.YtkookjaafgkfnaaDoorPvRow
import Derived.Handed
import Derived.HandedShaped
import Derived.Lib.LaidU8
import Derived.OpenShut
import Derived.FnData
namespace Go.Pv
set_option linter.all false
open Go.RowKit Go.ChangeShapes Go.WideShapes

theorem handed_laid_shaped {H : Type} {enc : TypeId × Value → H} {a : Assume} {C : Checked} {os : Os} {f : FuncId} {fn : Func} {s : ChangeSpec} {conds : List PathCond} {apart fresh handsOn again : Bool} {X : World → Array Value → Prop}
    (hX : ∀ (w w' : World) (args : Array Value), w.heap = w'.heap → X w args → X w' args)
    (own : ownKnob C.prog.godebug = none) (started : os.Started) (noInit : C.prog.inits.idxOf? f = none) (hfn : C.prog.funcs[f]? = some fn)
    (witness : ∃ (w : World) (tape : Tape) (i : Input), w.os = os ∧ (w.forCall tape i).Shaped C.prog ∧ i.vars = [] ∧ Input.okWide C.prog (w.forCall tape i) .any w.heap.size f i ∧
      ((s.pre enc C.prog fn conds apart (w.forCall tape i).memory i.args ∧ X (w.forCall tape i).memory i.args) ∧ sizedMet enc C.prog fn (OpenSpec.ofChange s) apart (w.forCall tape i).memory i.args) ∧ a.holds C.prog (lone (Frame.enter C.prog f i.args .normal) [] (w.forCall tape i)))
    (contract : ∀ (W : World) (base : Nat) (args : Array Value) (ds gs : List (DataW H)) (before : List MemPlace),
      (∀ (j : Nat) t v, fn.params[j]? = some t → args[j]? = some v → Value.okWide C.prog W .any base t v) →
      DataW.Whole enc C.prog fn.params.toList s.vars apart W args.toList ds gs before →
      conds.all (PathCond.test C.prog ⟨fn.params.toList, ds, s.plain.varTypes C.prog, gs⟩) = true →
      (DataW.weightsEach C.prog (fn.params.toList ++ s.plain.varTypes C.prog) (ds ++ gs)).all (· ≤ reachBytes) = true → X W args → W.ShapedOpen C.prog →
      a.holds C.prog (lone (Frame.enter C.prog f args .normal) [] W) →
      Calls C.prog f args W fun e W' => ∃ v, e = .returned v ∧ s.post enc C.prog fn apart fresh handsOn again W args v W') :
    ReturnsInHanded a C os f .any (fun w args => (s.pre enc C.prog fn conds apart w args ∧ X w args) ∧ sizedMet enc C.prog fn (OpenSpec.ofChange s) apart w args) (s.post enc C.prog fn apart fresh handsOn again) := by
  refine returnsInHanded_of_calls own started noInit witness ?_
  intro w tape i _ hsh _ hok hpre hholds
  obtain ⟨_, _, _, fn', hfn', _, _, _, _, hval⟩ := hok
  have e : fn' = fn := Option.some.inj (hfn'.symm.trans hfn)
  subst e
  obtain ⟨⟨⟨ds, gs, before, hw, hc⟩, hx⟩, hz⟩ := hpre
  have hw' := DataW.Whole.of_heap (w' := w.forCall tape i) (by rfl) hw
  refine (contract (w.forCall tape i) w.heap.size i.args ds gs before hval hw' hc (hz.weights hw) (hX _ _ _ (by rfl) hx) hsh hholds).mono fun e W' ⟨v, he, hp⟩ => ?_
  subst he
  exact ChangeSpec.post_blind hp

/-- The value of a literal. -/
def litVal : Lit → Value
  | .bool b => .bool b
  | .int k n => .int k n
  | .float k b => .float k b
  | .string bs => .string ⟨bs.toArray⟩
  | .nil => .pointer none

def LitT (P : Program) (e : TypeId) : Prop := ∀ {w : World} {base : Nat} {spare : Nat → Bool} {held : Bool} {fuel : Nat} {H : Type} {enc : TypeId × Value → H} {cs : List Value} {l : Lit} {ps : List MemPlace},
  DataW.trod enc P w base spare held fuel e cs = some (.lit l, ps) → cs = [litVal l]
theorem LitT.int {P : Program} {e : TypeId} {k : IntKind} (h : P.underlying e = some (.int k)) : LitT P e := by
  intro w base spare held fuel H enc cs l ps ht
  obtain ⟨n, h1, h2, _⟩ := DataW.trod_int h ht
  simp at h2
  obtain ⟨rfl, _⟩ := h2
  exact h1
theorem LitT.str {P : Program} {e : TypeId} (h : P.underlying e = some .string) : LitT P e := by
  intro w base spare held fuel H enc cs l ps ht
  obtain ⟨s, h1, h2, _⟩ := DataW.trod_string h ht
  simp at h2
  obtain ⟨rfl, _⟩ := h2
  simpa [litVal] using h1

/-- A variable's cells. -/
def GlobIs (w : World) (g : Nat) (vs : List Value) : Prop := ∀ i (h : i < vs.length), w.cell? ⟨g, i, none⟩ = some vs[i]

theorem glob_array {P : Program} {w : World} {l : List (String × DataW Unit)} (hL : laidMet P l w) {nm : String} {g : Nat} {t e : TypeId} {n : Nat} (ls : List Lit) (hm : (nm, .agg (ls.map .lit)) ∈ l) (hg : P.globalNamed nm = some g)
    (ht : (P.globals[g]?).map (·.type) = some t) (hu : P.underlying t = some (.array n e)) (hc : P.cellsOf e = 1) (hlt : LitT P e) : GlobIs w g (ls.map litVal) := by
  obtain ⟨g', t', cs, fuel, p, h1, h2, h3, h4⟩ := Go.Lib.laidMet.reads hL hm
  obtain rfl := Option.some.inj (hg.symm.trans h1)
  obtain rfl := Option.some.inj (ht.symm.trans h2)
  obtain ⟨xs, m, rfl, hx, hlen, hn, hel⟩ := DataW.trod_array hu h4
  simp only [Prod.mk.injEq, DataW.agg.injEq] at hx
  intro i hi
  have hi2 : i < ls.length := by simpa using hi
  have hxl : xs.length = ls.length := by have := congrArg List.length hx.1; simp at this; omega
  rw [World.var?_cell hg h3 i]
  have h0 := hel i (by omega)
  rw [hc, Nat.mul_one, List.getElem?_eq_getElem (by omega)] at h0
  have e1 : xs[i].1 = .lit ls[i] := by
    have := congrArg (fun q => q[i]?) hx.1
    simp only [List.getElem?_map] at this
    rw [List.getElem?_eq_getElem (by omega), List.getElem?_eq_getElem (by omega)] at this
    simpa using this.symm
  have e2 : xs[i] = (.lit ls[i], xs[i].2) := by rw [← e1]
  rw [e2] at h0
  have h5 := hlt h0
  have h6 : (cs.toList.drop i)[0]? = some (litVal ls[i]) := by
    have : ((cs.toList.drop i).take 1)[0]? = some (litVal ls[i]) := by rw [h5]; rfl
    rwa [List.getElem?_take, if_pos (by omega)] at this
  simp only [List.getElem?_drop, Nat.add_zero] at h6
  simpa using h6

/-- What an environment says of a variable. -/
theorem glob_row {w : World} {g : Nat} {cs : List AV} {vs : List Value} (h : GlobIs w g vs) (hr : VRs (KW.old w) cs vs) (h1 : ∀ c ∈ cs, c.one = true) :
    (∀ c ∈ cs, c.one = true) ∧ ∃ us, VRs (KW.old w) cs us ∧ (KW.old w).Row g 0 us :=
  ⟨h1, vs, hr, fun i hi => by rw [Nat.zero_add]; exact h i hi⟩
theorem strs_vr {W : KW} : ∀ (ss : List (List UInt8)), VRs W (ss.map .str) ((ss.map Lit.string).map litVal)
  | [] => .nil
  | s :: ss => .cons (.str s) (strs_vr ss)
end Go.Pv
