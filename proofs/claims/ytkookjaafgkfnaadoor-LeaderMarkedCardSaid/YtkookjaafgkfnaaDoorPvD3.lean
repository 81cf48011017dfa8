/- Steps of regions whose order is open. -/
import Derived.Test.YtkookjaafgkfnaaDoorPvD2
namespace Go.Pv
set_option linter.all false

section
variable {E : Env} {tm : List (Nat × AV)} {σ : St} {os : List IOper} {d : Nat} {K : List Step → M → Prop}

theorem rt {op : IOp} (h : RunO E [⟨some d, op, none⟩] ⟨tm, σ⟩ (fun e => ∃ v σ', e = ⟨(d, v) :: tm, σ'⟩ ∧ ((∃ n, evOper E (evCall E n) tm σ op = some (v, σ')) → RunT E os ⟨(d, v) :: tm, σ'⟩ (fun l e' => K (⟨⟨tm, σ⟩, some v⟩ :: l) e')))) :
    RunT E (⟨some d, op, none⟩ :: os) ⟨tm, σ⟩ K := by
  rw [runO_cons] at h
  rw [runT_cons]
  obtain ⟨n, v, σ', hv, hk⟩ := h
  rw [runO_nil] at hk
  obtain ⟨v', σ2, he, hk⟩ := hk
  simp only [M.put] at he
  injection he with h1 h2
  injection h1 with h1 _
  injection h1 with _ h1
  subst h1; subst h2
  exact ⟨n, v, σ', hv, hk ⟨n, hv⟩⟩

theorem rtn {op : IOp} (h : RunO E [⟨none, op, none⟩] ⟨tm, σ⟩ (fun e => ∃ σ', e = ⟨tm, σ'⟩ ∧ ∀ v, (∃ n, evOper E (evCall E n) tm σ op = some (v, σ')) → RunT E os ⟨tm, σ'⟩ (fun l e' => K (⟨⟨tm, σ⟩, some v⟩ :: l) e'))) :
    RunT E (⟨none, op, none⟩ :: os) ⟨tm, σ⟩ K := by
  rw [runO_cons] at h
  rw [runT_cons]
  obtain ⟨n, v, σ', hv, hk⟩ := h
  rw [runO_nil] at hk
  obtain ⟨σ2, he, hk⟩ := hk
  simp only [M.put] at he
  injection he with _ h2
  subst h2
  exact ⟨n, v, σ', hv, hk v ⟨n, hv⟩⟩

theorem tg_run {t : Nat} {w : Bool} (b : Bool) {d : Option Nat} {op : IOp} (hl : lk tm t = some (.bool b)) (hb : b = w) (h : RunT E (⟨d, op, none⟩ :: os) ⟨tm, σ⟩ K) : RunT E (⟨d, op, some (t, w)⟩ :: os) ⟨tm, σ⟩ K := by
  rw [runT_guard]
  rw [runT_cons] at h
  have : guardA tm (some (t, w)) = some true := by simp only [guardA, hl, hb]; simp
  rw [this]; exact h
theorem tg_skip {t : Nat} {w : Bool} (b : Bool) {d : Option Nat} {op : IOp} (hl : lk tm t = some (.bool b)) (hb : b = !w) (h : RunT E os (M.put ⟨tm, σ⟩ d .undef σ) (fun l e' => K (⟨⟨tm, σ⟩, none⟩ :: l) e')) : RunT E (⟨d, op, some (t, w)⟩ :: os) ⟨tm, σ⟩ K := by
  rw [runT_guard]
  have : guardA tm (some (t, w)) = some false := by simp only [guardA, hl, hb]; cases w <;> rfl
  rw [this]; exact h
theorem tg_undef {t : Nat} {w : Bool} {d : Option Nat} {op : IOp} (hl : lk tm t = some (.tuple [])) (h : RunT E os (M.put ⟨tm, σ⟩ d .undef σ) (fun l e' => K (⟨⟨tm, σ⟩, none⟩ :: l) e')) : RunT E (⟨d, op, some (t, w)⟩ :: os) ⟨tm, σ⟩ K := by
  rw [runT_guard]
  have : guardA tm (some (t, w)) = some false := by simp only [guardA, hl]
  rw [this]; exact h
theorem tx (hk : K [] ⟨tm, σ⟩) : RunT E [] ⟨tm, σ⟩ K := runT_nil.2 hk

theorem c_regd {ps : List (Nat × Nat)} {e : M} {Q : Ex → M → Prop} (h : RunT E os e (fun l e' => (∀ p ∈ ps, ReOk E os l e' p) ∧ Q .normal e')) : RunC E (.regd os ps) e Q := runC_regd.2 h
theorem re_nil {P : Nat × Nat → Prop} : ∀ p ∈ ([] : List (Nat × Nat)), P p := by simp
theorem re_cons {P : Nat × Nat → Prop} {p : Nat × Nat} {ps : List (Nat × Nat)} (h : P p) (t : ∀ q ∈ ps, P q) : ∀ q ∈ p :: ps, P q := by
  intro q hq
  rcases List.mem_cons.1 hq with rfl | hq
  · exact h
  · exact t q hq

mutual
theorem beq_self : ∀ v : AV, AV.beq v v = true
  | .bool b => by simp [AV.beq]
  | .int k n => by simp [AV.beq]
  | .float k n => by simp [AV.beq]
  | .str s => by simp [AV.beq]
  | .nilp => rfl
  | .blk a b => by simp [AV.beq]
  | .elem a b => by simp [AV.beq, beqs_self a]
  | .glob a b => by simp [AV.beq]
  | .nils => rfl
  | .list a b c => by simp [AV.beq, beqs_self c]
  | .hs a b c d => by simp [AV.beq]
  | .agg a => by simp [AV.beq, beqs_self a]
  | .tuple a => by simp [AV.beq, beqs_self a]
  | .iface t v => by simp [AV.beq, beq_self v]
  | .niliface => rfl
  | .func f a b => by simp [AV.beq, beqs_self a, beqs_self b]
  | .nilfunc => rfl
theorem beqs_self : ∀ l : List AV, AV.beqs l l = true
  | [] => rfl
  | a :: l => by simp [AV.beqs, beq_self a, beqs_self l]
end

variable {l : List Step} {e : M} {i j : Nat}
theorem re_none {o : IOper} {e1 : M} (ho : os[i]? = some o) (hl : l[i]? = some ⟨e1, none⟩) : ReOk E os l e (i, j) := ⟨0, by unfold recheck; simp only [ho, hl]⟩
theorem re_ev {op : IOp} {g : Option (Nat × Bool)} {dd : Option Nat} {v : AV} (σ2 : St) {σ3 : St} (ho : os[i]? = some ⟨dd, op, g⟩) (hl : l[i]? = some ⟨⟨tm, σ⟩, some v⟩) (hs : stAt l e (if i < j then j + 1 else j) = σ2) (n : Nat) (h : evOper E (evCall E n) tm σ2 op = some (v, σ3)) : ReOk E os l e (i, j) := by
  refine ⟨n, ?_⟩
  unfold recheck
  simp only [ho, hl, hs, h]
  exact beq_self v
theorem re_pure {op : IOp} {g : Option (Nat × Bool)} {dd : Option Nat} {v : AV} (σ2 : St) {σ3 : St} (ho : os[i]? = some ⟨dd, op, g⟩) (hl : l[i]? = some ⟨⟨tm, σ⟩, some v⟩) (hs : stAt l e (if i < j then j + 1 else j) = σ2) (hc : op.calls = false) (h : evOp E tm σ2 op = some (v, σ3)) : ReOk E os l e (i, j) := by
  refine re_ev σ2 (σ3 := σ3) ho hl hs 0 ?_
  rw [← h]
  cases op <;> first | rfl | simp [IOp.calls] at hc

/-- What a closed function comes to does not depend on the state. -/
theorem closed_any {f : FuncId} {vs : List AV} {v : AV} {σ' : St} {n : Nat} (hc : (E.prim f).isSome = true ∨ ∃ fn, E.prim f = none ∧ E.fn f = some fn ∧ fn.mode = .closed) (h : evCall E n f vs σ = some (v, σ')) (τ : St) : evCall E n f vs τ = some (v, τ) := by
  cases n with
  | zero => simp [evCall] at h
  | succ n =>
    simp only [evCall] at h ⊢
    cases hp : E.prim f with
    | some g =>
      simp only [hp] at h ⊢
      obtain ⟨h1, _⟩ := mapS h
      rw [h1]; rfl
    | none =>
      rcases hc with hc | ⟨fn, _, hf, hm⟩
      · rw [hp] at hc; simp at hc
      · simp only [hp, hf, evFun, hm] at h ⊢
        cases ha : closes vs with
        | none => rw [ha] at h; simp at h
        | some args =>
          simp only [ha] at h ⊢
          split at h
          · rename_i v1 σ1 h1
            obtain ⟨h2, _⟩ := mapS h
            rw [h2]; rfl
          · simp at h
theorem re_call {f : FuncId} {args : List Opnd} {g : Option (Nat × Bool)} {dd : Option Nat} {v : AV} {σ' : St} (σ2 : St) (hc : (E.prim f).isSome = true ∨ ∃ fn, E.prim f = none ∧ E.fn f = some fn ∧ fn.mode = .closed) (ho : os[i]? = some ⟨dd, .call f args, g⟩) (hl : l[i]? = some ⟨⟨tm, σ⟩, some v⟩)
    (hs : stAt l e (if i < j then j + 1 else j) = σ2) (h : ∃ n, evOper E (evCall E n) tm σ (.call f args) = some (v, σ')) : ReOk E os l e (i, j) := by
  obtain ⟨n, h⟩ := h
  simp only [evOper] at h
  split at h
  · rename_i vs hvs
    refine re_ev σ2 (σ3 := σ2) ho hl hs n ?_
    simp only [evOper, hvs]
    exact closed_any hc h σ2
  · simp at h
theorem is_closed {f : FuncId} {fn : IFun} (hp : E.prim f = none) (hf : E.fn f = some fn) (hm : fn.mode = .closed) : (E.prim f).isSome = true ∨ ∃ fn, E.prim f = none ∧ E.fn f = some fn ∧ fn.mode = .closed := .inr ⟨fn, hp, hf, hm⟩
theorem is_prim {f : FuncId} (hp : (E.prim f).isSome = true) : (E.prim f).isSome = true ∨ ∃ fn, E.prim f = none ∧ E.fn f = some fn ∧ fn.mode = .closed := .inl hp
end
end Go.Pv
