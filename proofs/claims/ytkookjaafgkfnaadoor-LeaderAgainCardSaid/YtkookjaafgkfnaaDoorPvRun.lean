/- Runs with unknowns: what an abstract run comes to, told step by step, with as much fuel as it needs. -/
import Derived.Test.YtkookjaafgkfnaaDoorPvEnv
namespace Go.Pv
set_option linter.all false

/-! ### More fuel changes nothing -/

def CfLe (cf cf' : CallF) : Prop := ∀ f vs σ r, cf f vs σ = some r → cf' f vs σ = some r

section
variable {E : Env} {cf cf' : CallF}

theorem oper_mono (h : CfLe cf cf') {tm : List (Nat × AV)} {σ : St} {o : IOp} {r : AV × St} (hr : evOper E cf tm σ o = some r) : evOper E cf' tm σ o = some r := by
  cases o <;> first | exact hr | skip
  · simp only [evOper] at hr ⊢
    split at hr
    · exact h _ _ _ _ hr
    · simp at hr
  · simp only [evOper] at hr ⊢
    split at hr
    · exact h _ _ _ _ hr
    · simp at hr

theorem ops_mono (h : CfLe cf cf') : ∀ {os : List IOper} {e e' : M}, evOps E cf os e = some e' → evOps E cf' os e = some e'
  | [], _, _, hr => hr
  | o :: os, e, e', hr => by
    simp only [evOps] at hr ⊢
    split at hr
    · simp at hr
    · exact ops_mono h hr
    · split at hr
      · rename_i v σ hv
        rw [oper_mono h hv]
        exact ops_mono h hr
      · simp at hr

theorem trace_mono (h : CfLe cf cf') : ∀ {os : List IOper} {e : M} {r : List Step × M}, evTrace E cf os e = some r → evTrace E cf' os e = some r
  | [], _, _, hr => hr
  | o :: os, e, r, hr => by
    simp only [evTrace] at hr ⊢
    split at hr
    · simp at hr
    · split at hr
      · rename_i l e1 hv
        rw [trace_mono h hv]; exact hr
      · simp at hr
    · split at hr
      · rename_i v σ hv
        rw [oper_mono h hv]
        simp only
        split at hr
        · rename_i l e1 hv
          rw [trace_mono h hv]; exact hr
        · simp at hr
      · simp at hr

theorem recheck_mono (h : CfLe cf cf') {ops : List IOper} {l : List Step} {e : M} {p : Nat × Nat} (hr : recheck E cf ops l e p = true) : recheck E cf' ops l e p = true := by
  unfold recheck at hr ⊢
  split at hr
  · split at hr
    · rfl
    · split at hr
      · rename_i v' σ' hv
        simp only [oper_mono h hv]
        exact hr
      · simp at hr
  · simp at hr

theorem opsd_mono (h : CfLe cf cf') {ops : List IOper} {pairs : List (Nat × Nat)} {e e' : M} (hr : evOpsD E cf ops pairs e = some e') : evOpsD E cf' ops pairs e = some e' := by
  unfold evOpsD at hr ⊢
  split at hr
  · rename_i l e1 ht
    rw [trace_mono h ht]
    simp only
    split at hr
    · rename_i hall
      rw [if_pos ?_]; · exact hr
      rw [List.all_eq_true] at hall ⊢
      exact fun p hp => recheck_mono h (hall p hp)
    · simp at hr
  · simp at hr

theorem loop_mono {b b' : M → Option (Ex × M)} (h : ∀ e r, b e = some r → b' e = some r) : ∀ {n m : Nat} {e : M} {r : Ex × M}, n ≤ m → evLoop b n e = some r → evLoop b' m e = some r
  | 0, _, _, _, _, hr => by simp [evLoop] at hr
  | n + 1, 0, _, _, hnm, _ => by omega
  | n + 1, m + 1, e, r, hnm, hr => by
    simp only [evLoop] at hr ⊢
    split at hr
    · rename_i e1 h1
      rw [h _ _ h1]
      exact loop_mono h (by omega) hr
    · rename_i r1 hr1
      rw [h _ _ hr]
      split
      · rename_i e2 he2
        injection he2 with he2; subst he2
        exact (hr1 e2 hr).elim
      · rfl

theorem code_mono (h : CfLe cf cf') : ∀ (c : IC) {n m : Nat} {e : M} {r : Ex × M}, n ≤ m → evCode E cf n c e = some r → evCode E cf' m c e = some r := by
  intro c
  induction c with
  | skip => intro n m e r _ hr; exact hr
  | reg ops =>
    intro n m e r _ hr
    simp only [evCode] at hr ⊢
    cases ho : evOps E cf ops e with
    | none => simp [ho] at hr
    | some e' => rw [ops_mono h ho]; rw [ho] at hr; exact hr
  | regd ops pairs =>
    intro n m e r _ hr
    simp only [evCode] at hr ⊢
    cases ho : evOpsD E cf ops pairs e with
    | none => simp [ho] at hr
    | some e' => rw [opsd_mono h ho]; rw [ho] at hr; exact hr
  | seq a b iha ihb =>
    intro n m e r hnm hr
    simp only [evCode] at hr ⊢
    split at hr
    · rename_i e1 h1
      rw [iha hnm h1]; exact ihb hnm hr
    · rename_i hno
      have := iha hnm hr
      rw [this]
      split
      · rename_i e2 he2; injection he2 with he2; subst he2; exact absurd hr (hno e2)
      · rfl
  | cond c a b iha ihb =>
    intro n m e r hnm hr
    simp only [evCode] at hr ⊢
    split at hr
    · exact iha hnm hr
    · exact ihb hnm hr
    · simp at hr
  | block id b ih =>
    intro n m e r hnm hr
    simp only [evCode] at hr ⊢
    split at hr
    · rename_i id' e1 h1
      rw [ih hnm h1]; exact hr
    · rename_i hno
      have := ih hnm hr
      rw [this]
      split
      · rename_i id' e2 he2; injection he2 with he2; subst he2; exact absurd hr (hno id' e2)
      · rfl
  | loop b ih =>
    intro n m e r hnm hr
    simp only [evCode] at hr ⊢
    exact loop_mono (fun e r hb => ih hnm hb) hnm hr
  | exit id => intro n m e r _ hr; exact hr
  | ret => intro n m e r _ hr; exact hr
  | keep ts b ih => intro n m e r hnm hr; simp only [evCode] at hr ⊢; exact ih hnm hr

theorem body_mono (h : CfLe cf cf') {n m : Nat} (hnm : n ≤ m) {fn : IFun} {args : List AV} {σ : St} {r : AV × St} (hr : evBody E cf n fn args σ = some r) : evBody E cf' m fn args σ = some r := by
  unfold evBody at hr ⊢
  by_cases ha : args.length = fn.nargs
  · rw [if_pos ha] at hr ⊢
    split at hr
    · rename_i e1 h1; rw [code_mono h _ hnm h1]; exact hr
    · rename_i e1 h1; rw [code_mono h _ hnm h1]; exact hr
    · simp at hr
  · rw [if_neg ha] at hr; simp at hr

theorem fun_mono (h : CfLe cf cf') {n m : Nat} (hnm : n ≤ m) {fn : IFun} {args : List AV} {σ : St} {r : AV × St} (hr : evFun E cf n fn args σ = some r) : evFun E cf' m fn args σ = some r := by
  unfold evFun at hr ⊢
  cases hm : fn.mode <;> simp only [hm] at hr ⊢
  · exact body_mono h hnm hr
  · split at hr
    · rename_i v σ1 h1; rw [body_mono h hnm h1]; exact hr
    · simp at hr
  · split at hr
    · rename_i v σ1 h1; rw [body_mono h hnm h1]; exact hr
    · simp at hr
  · split at hr
    · split at hr
      · rename_i v σ1 h1; simp only [body_mono h hnm h1]; exact hr
      · simp at hr
    · simp at hr

theorem call_mono : ∀ {n m : Nat}, n ≤ m → CfLe (evCall E n) (evCall E m)
  | 0, _, _ => fun _ _ _ _ h => by simp [evCall] at h
  | n + 1, 0, hnm => by omega
  | n + 1, m + 1, hnm => fun f vs σ r h => by
    simp only [evCall] at h ⊢
    split at h
    · exact h
    · split at h
      · exact fun_mono (call_mono (by omega)) (by omega) h
      · simp at h

end

/-! ### Runs -/

section
variable (E : Env)

def RunF (f : FuncId) (vs : List AV) (σ : St) (K : AV → St → Prop) : Prop := ∃ n v σ', evCall E n f vs σ = some (v, σ') ∧ K v σ'
def RunOp (tm : List (Nat × AV)) (σ : St) (op : IOp) (K : AV → St → Prop) : Prop := ∃ n v σ', evOper E (evCall E n) tm σ op = some (v, σ') ∧ K v σ'
def RunO (os : List IOper) (e : M) (K : M → Prop) : Prop := ∃ n e', evOps E (evCall E n) os e = some e' ∧ K e'
def RunT (os : List IOper) (e : M) (K : List Step → M → Prop) : Prop := ∃ n l e', evTrace E (evCall E n) os e = some (l, e') ∧ K l e'
def RunC (c : IC) (e : M) (Q : Ex → M → Prop) : Prop := ∃ n ex e', evCode E (evCall E n) n c e = some (ex, e') ∧ Q ex e'
def RunB (fn : IFun) (vs : List AV) (σ : St) (K : AV → St → Prop) : Prop := ∃ n v σ', evBody E (evCall E n) n fn vs σ = some (v, σ') ∧ K v σ'
def ReOk (ops : List IOper) (l : List Step) (e : M) (p : Nat × Nat) : Prop := ∃ n, recheck E (evCall E n) ops l e p = true

def OptQ : Option (AV × St) → (AV → St → Prop) → Prop
  | some (v, σ), K => K v σ
  | none, _ => False

def OptV : Option AV → (AV → Prop) → Prop
  | some v, K => K v
  | none, _ => False

def CondQ : Option AV → Prop → Prop → Prop
  | some (.bool true), p, _ => p
  | some (.bool false), _, q => q
  | _, _, _ => False

/-- What follows, where a run comes to its end. -/
def Cont (c : IC) (Q : Ex → M → Prop) : Ex → M → Prop
  | .normal, e => RunC E c e Q
  | ex, e => Q ex e

def BlkQ (id : Nat) (Q : Ex → M → Prop) : Ex → M → Prop
  | .exit id', e => Q (if id' = id then .normal else .exit id') e
  | ex, e => Q ex e

/-- What a body hands back. -/
def ResQ (res : List IRes) (K : AV → St → Prop) : Ex → M → Prop
  | .exit _, _ => False
  | _, e => match ressA E e res with
    | some vs => K (oneOr vs) e.st
    | none => False

def IOp.calls : IOp → Bool
  | .call _ _ | .callv _ _ => true
  | _ => false

end

section
variable {E : Env}

theorem two_fuels {α : Type} {F : Nat → Option α} (hF : ∀ n m r, n ≤ m → F n = some r → F m = some r) {n m : Nat} {x y : α} (hx : F n = some x) (hy : F m = some y) : x = y := by
  have h1 := hF n (max n m) x (by omega) hx
  have h2 := hF m (max n m) y (by omega) hy
  rw [h1] at h2; injection h2

theorem code_up {n m : Nat} (h : n ≤ m) {c : IC} {e : M} {r : Ex × M} (hr : evCode E (evCall E n) n c e = some r) : evCode E (evCall E m) m c e = some r := code_mono (call_mono h) c h hr

theorem runC_skip {e : M} {Q : Ex → M → Prop} : RunC E .skip e Q ↔ Q .normal e := by
  constructor
  · rintro ⟨n, ex, e', h, hq⟩; simp [evCode] at h; obtain ⟨rfl, rfl⟩ := h; exact hq
  · intro h; exact ⟨0, _, _, rfl, h⟩

theorem runC_exit {id : Nat} {e : M} {Q : Ex → M → Prop} : RunC E (.exit id) e Q ↔ Q (.exit id) e := by
  constructor
  · rintro ⟨n, ex, e', h, hq⟩; simp [evCode] at h; obtain ⟨rfl, rfl⟩ := h; exact hq
  · intro h; exact ⟨0, _, _, rfl, h⟩

theorem runC_ret {e : M} {Q : Ex → M → Prop} : RunC E .ret e Q ↔ Q .ret e := by
  constructor
  · rintro ⟨n, ex, e', h, hq⟩; simp [evCode] at h; obtain ⟨rfl, rfl⟩ := h; exact hq
  · intro h; exact ⟨0, _, _, rfl, h⟩

theorem runC_keep {ts : List Nat} {b : IC} {e : M} {Q : Ex → M → Prop} : RunC E (.keep ts b) e Q ↔ RunC E b ⟨keepT e.tm ts, e.st⟩ Q := Iff.rfl

theorem runC_seq {a b : IC} {e : M} {Q : Ex → M → Prop} : RunC E (.seq a b) e Q ↔ RunC E a e (Cont E b Q) := by
  constructor
  · rintro ⟨n, ex, e', h, hq⟩
    simp only [evCode] at h
    split at h
    · rename_i e1 h1; exact ⟨n, _, _, h1, n, _, _, h, hq⟩
    · rename_i hno
      refine ⟨n, _, _, h, ?_⟩
      cases ex with
      | normal => exact absurd h (hno e')
      | exit id => exact hq
      | ret => exact hq
  · rintro ⟨n, ex, e', h, hq⟩
    cases ex with
    | normal =>
      obtain ⟨m, ex2, e2, h2, hq⟩ := hq
      refine ⟨max n m, ex2, e2, ?_, hq⟩
      simp only [evCode]
      rw [code_up (Nat.le_max_left n m) h]
      exact code_up (Nat.le_max_right n m) h2
    | exit id => exact ⟨n, _, _, by simp only [evCode]; rw [h], hq⟩
    | ret => exact ⟨n, _, _, by simp only [evCode]; rw [h], hq⟩

theorem runC_cond {c : Opnd} {a b : IC} {e : M} {Q : Ex → M → Prop} : RunC E (.cond c a b) e Q ↔ CondQ (c.ev e.tm) (RunC E a e Q) (RunC E b e Q) := by
  constructor
  · rintro ⟨n, ex, e', h, hq⟩
    simp only [evCode] at h
    split at h
    · rename_i hc; rw [hc]; exact ⟨n, _, _, h, hq⟩
    · rename_i hc; rw [hc]; exact ⟨n, _, _, h, hq⟩
    · simp at h
  · intro h
    unfold CondQ at h
    split at h
    · rename_i hc; obtain ⟨n, ex, e', h, hq⟩ := h; exact ⟨n, ex, e', by simp only [evCode, hc]; exact h, hq⟩
    · rename_i hc; obtain ⟨n, ex, e', h, hq⟩ := h; exact ⟨n, ex, e', by simp only [evCode, hc]; exact h, hq⟩
    · exact h.elim

theorem runC_block {id : Nat} {b : IC} {e : M} {Q : Ex → M → Prop} : RunC E (.block id b) e Q ↔ RunC E b e (BlkQ id Q) := by
  constructor
  · rintro ⟨n, ex, e', h, hq⟩
    simp only [evCode] at h
    split at h
    · rename_i id' e1 h1
      injection h with h; injection h with h2 h3; subst h2; subst h3
      exact ⟨n, _, _, h1, hq⟩
    · rename_i hno
      refine ⟨n, _, _, h, ?_⟩
      cases ex with
      | normal => exact hq
      | exit id' => exact absurd h (hno id' e')
      | ret => exact hq
  · rintro ⟨n, ex, e', h, hq⟩
    cases ex with
    | normal => exact ⟨n, _, _, by simp only [evCode]; rw [h], hq⟩
    | ret => exact ⟨n, _, _, by simp only [evCode]; rw [h], hq⟩
    | exit id' => exact ⟨n, _, _, by simp only [evCode]; rw [h], hq⟩

/-- A loop is its body, and the loop. -/
theorem runC_loop {b : IC} {e : M} {Q : Ex → M → Prop} : RunC E (.loop b) e Q ↔ RunC E b e (Cont E (.loop b) Q) := by
  constructor
  · rintro ⟨n, ex, e', h, hq⟩
    cases n with
    | zero => simp [evCode, evLoop] at h
    | succ n =>
      simp only [evCode, evLoop] at h
      split at h
      · rename_i e1 h1
        exact ⟨n + 1, _, _, h1, n + 1, ex, e', by simp only [evCode]; exact loop_mono (fun _ _ h => h) (Nat.le_succ n) h, hq⟩
      · rename_i hno
        refine ⟨n + 1, _, _, h, ?_⟩
        cases ex with
        | normal => exact absurd h (hno e')
        | exit id => exact hq
        | ret => exact hq
  · rintro ⟨n, ex, e', h, hq⟩
    cases ex with
    | normal =>
      obtain ⟨m, ex2, e2, h2, hq⟩ := hq
      refine ⟨max n m + 1, ex2, e2, ?_, hq⟩
      simp only [evCode, evLoop]
      rw [code_up (show n ≤ max n m + 1 by omega) h]
      simp only [evCode] at h2
      exact loop_mono (fun e r hr => code_mono (call_mono (show m ≤ max n m + 1 by omega)) b (by omega) hr) (by omega) h2
    | exit id =>
      refine ⟨n + 1, _, _, ?_, hq⟩
      simp only [evCode, evLoop]
      rw [code_up (Nat.le_succ n) h]
    | ret =>
      refine ⟨n + 1, _, _, ?_, hq⟩
      simp only [evCode, evLoop]
      rw [code_up (Nat.le_succ n) h]

theorem runC_reg {os : List IOper} {e : M} {Q : Ex → M → Prop} : RunC E (.reg os) e Q ↔ RunO E os e (Q .normal) := by
  constructor
  · rintro ⟨n, ex, e', h, hq⟩
    simp only [evCode] at h
    cases ho : evOps E (evCall E n) os e with
    | none => simp [ho] at h
    | some e1 => simp [ho] at h; obtain ⟨rfl, rfl⟩ := h; exact ⟨n, _, ho, hq⟩
  · rintro ⟨n, e', h, hq⟩
    exact ⟨n, _, _, by simp only [evCode, h]; rfl, hq⟩

theorem runC_regd {os : List IOper} {pairs : List (Nat × Nat)} {e : M} {Q : Ex → M → Prop} : RunC E (.regd os pairs) e Q ↔ RunT E os e (fun l e' => (∀ p ∈ pairs, ReOk E os l e' p) ∧ Q .normal e') := by
  constructor
  · rintro ⟨n, ex, e', h, hq⟩
    simp only [evCode, evOpsD] at h
    cases ho : evTrace E (evCall E n) os e with
    | none => simp [ho] at h
    | some q =>
      obtain ⟨l, e1⟩ := q
      simp only [ho] at h
      split at h
      · rename_i hall
        simp at h; obtain ⟨rfl, rfl⟩ := h
        rw [List.all_eq_true] at hall
        exact ⟨n, l, _, ho, fun p hp => ⟨n, hall p hp⟩, hq⟩
      · simp at h
  · rintro ⟨n, l, e', h, hre, hq⟩
    have : ∀ ps : List (Nat × Nat), (∀ p ∈ ps, ReOk E os l e' p) → ∃ m, n ≤ m ∧ ps.all (recheck E (evCall E m) os l e') = true := by
      intro ps
      induction ps with
      | nil => intro _; exact ⟨n, Nat.le_refl _, rfl⟩
      | cons p ps ih =>
        intro hall
        obtain ⟨m, hm, hps⟩ := ih fun q hq => hall q (List.mem_cons_of_mem _ hq)
        obtain ⟨k, hk⟩ := hall p (List.mem_cons_self ..)
        refine ⟨max m k, by omega, ?_⟩
        rw [List.all_cons, Bool.and_eq_true]
        refine ⟨recheck_mono (call_mono (Nat.le_max_right m k)) hk, ?_⟩
        rw [List.all_eq_true] at hps ⊢
        exact fun q hq => recheck_mono (call_mono (Nat.le_max_left m k)) (hps q hq)
    obtain ⟨m, hm, hall⟩ := this pairs hre
    refine ⟨m, .normal, e', ?_, hq⟩
    simp only [evCode, evOpsD, trace_mono (call_mono hm) h]
    rw [if_pos hall]; rfl

theorem runO_nil {e : M} {K : M → Prop} : RunO E [] e K ↔ K e := by
  constructor
  · rintro ⟨n, e', h, hq⟩; simp [evOps] at h; subst h; exact hq
  · intro h; exact ⟨0, _, rfl, h⟩

theorem runO_cons {d : Option Nat} {op : IOp} {os : List IOper} {e : M} {K : M → Prop} : RunO E (⟨d, op, none⟩ :: os) e K ↔ RunOp E e.tm e.st op (fun v σ => RunO E os (e.put d v σ) K) := by
  constructor
  · rintro ⟨n, e', h, hq⟩
    simp only [evOps, guardA] at h
    split at h
    · rename_i v σ hv; exact ⟨n, v, σ, hv, n, e', h, hq⟩
    · simp at h
  · rintro ⟨n, v, σ, h, m, e', h2, hq⟩
    refine ⟨max n m, e', ?_, hq⟩
    simp only [evOps, guardA, oper_mono (call_mono (Nat.le_max_left n m)) h]
    exact ops_mono (call_mono (Nat.le_max_right n m)) h2

/-- Is an operation wanted? -/
def GuardQ : Option Bool → Prop → Prop → Prop
  | some true, p, _ => p
  | some false, _, q => q
  | none, _, _ => False

theorem runO_guard {d : Option Nat} {op : IOp} {g : Nat × Bool} {os : List IOper} {e : M} {K : M → Prop} :
    RunO E (⟨d, op, some g⟩ :: os) e K ↔ GuardQ (guardA e.tm (some g)) (RunOp E e.tm e.st op (fun v σ => RunO E os (e.put d v σ) K)) (RunO E os (e.put d .undef e.st) K) := by
  constructor
  · rintro ⟨n, e', h, hq⟩
    simp only [evOps] at h
    split at h
    · simp at h
    · rename_i hg; rw [hg]; exact ⟨n, e', h, hq⟩
    · rename_i hg
      rw [hg]
      split at h
      · rename_i v σ hv; exact ⟨n, v, σ, hv, n, e', h, hq⟩
      · simp at h
  · intro h
    unfold GuardQ at h
    split at h
    · rename_i hg
      obtain ⟨n, v, σ, h, m, e', h2, hq⟩ := h
      refine ⟨max n m, e', ?_, hq⟩
      simp only [evOps, hg, oper_mono (call_mono (Nat.le_max_left n m)) h]
      exact ops_mono (call_mono (Nat.le_max_right n m)) h2
    · rename_i hg
      obtain ⟨n, e', h, hq⟩ := h
      exact ⟨n, e', by simp only [evOps, hg]; exact h, hq⟩
    · exact h.elim

theorem runT_nil {e : M} {K : List Step → M → Prop} : RunT E [] e K ↔ K [] e := by
  constructor
  · rintro ⟨n, l, e', h, hq⟩; simp [evTrace] at h; obtain ⟨rfl, rfl⟩ := h; exact hq
  · intro h; exact ⟨0, _, _, rfl, h⟩

theorem runT_cons {d : Option Nat} {op : IOp} {os : List IOper} {e : M} {K : List Step → M → Prop} :
    RunT E (⟨d, op, none⟩ :: os) e K ↔ RunOp E e.tm e.st op (fun v σ => RunT E os (e.put d v σ) (fun l e' => K (⟨e, some v⟩ :: l) e')) := by
  constructor
  · rintro ⟨n, l, e', h, hq⟩
    simp only [evTrace, guardA] at h
    split at h
    · rename_i v σ hv
      split at h
      · rename_i l1 e1 h1
        injection h with h; injection h with h2 h3; subst h2; subst h3
        exact ⟨n, v, σ, hv, n, l1, e1, h1, hq⟩
      · simp at h
    · simp at h
  · rintro ⟨n, v, σ, h, m, l, e', h2, hq⟩
    refine ⟨max n m, _, e', ?_, hq⟩
    simp only [evTrace, guardA, oper_mono (call_mono (Nat.le_max_left n m)) h, trace_mono (call_mono (Nat.le_max_right n m)) h2]

theorem runT_guard {d : Option Nat} {op : IOp} {g : Nat × Bool} {os : List IOper} {e : M} {K : List Step → M → Prop} :
    RunT E (⟨d, op, some g⟩ :: os) e K ↔ GuardQ (guardA e.tm (some g)) (RunOp E e.tm e.st op (fun v σ => RunT E os (e.put d v σ) (fun l e' => K (⟨e, some v⟩ :: l) e')))
      (RunT E os (e.put d .undef e.st) (fun l e' => K (⟨e, none⟩ :: l) e')) := by
  constructor
  · rintro ⟨n, l, e', h, hq⟩
    simp only [evTrace] at h
    split at h
    · simp at h
    · rename_i hg
      split at h
      · rename_i l1 e1 h1
        injection h with h; injection h with h2 h3; subst h2; subst h3
        rw [hg]; exact ⟨n, l1, e1, h1, hq⟩
      · simp at h
    · rename_i hg
      split at h
      · rename_i v σ hv
        split at h
        · rename_i l1 e1 h1
          injection h with h; injection h with h2 h3; subst h2; subst h3
          rw [hg]; exact ⟨n, v, σ, hv, n, l1, e1, h1, hq⟩
        · simp at h
      · simp at h
  · intro h
    unfold GuardQ at h
    split at h
    · rename_i hg
      obtain ⟨n, v, σ, h, m, l, e', h2, hq⟩ := h
      refine ⟨max n m, _, e', ?_, hq⟩
      simp only [evTrace, hg, oper_mono (call_mono (Nat.le_max_left n m)) h, trace_mono (call_mono (Nat.le_max_right n m)) h2]
    · rename_i hg
      obtain ⟨n, l, e', h, hq⟩ := h
      exact ⟨n, _, e', by simp only [evTrace, hg, h], hq⟩
    · exact h.elim

theorem runOp_ev {tm : List (Nat × AV)} {σ : St} {op : IOp} {K : AV → St → Prop} (h : op.calls = false) : RunOp E tm σ op K ↔ OptQ (evOp E tm σ op) K := by
  have hev : ∀ n, evOper E (evCall E n) tm σ op = evOp E tm σ op := by
    intro n; cases op <;> first | rfl | simp [IOp.calls] at h
  constructor
  · rintro ⟨n, v, σ', h, hq⟩; rw [hev] at h; rw [h]; exact hq
  · intro h
    unfold OptQ at h
    split at h
    · rename_i v σ' he; exact ⟨0, v, σ', (hev 0).trans he, h⟩
    · exact h.elim

def ArgsQ : Option (List AV) → (List AV → Prop) → Prop
  | some vs, K => K vs
  | none, _ => False

theorem runOp_call {tm : List (Nat × AV)} {σ : St} {f : FuncId} {args : List Opnd} {K : AV → St → Prop} : RunOp E tm σ (.call f args) K ↔ ArgsQ (evs tm args) (fun vs => RunF E f vs σ K) := by
  constructor
  · rintro ⟨n, v, σ', h, hq⟩
    simp only [evOper] at h
    split at h
    · rename_i vs hvs; rw [hvs]; exact ⟨n, v, σ', h, hq⟩
    · simp at h
  · intro h
    unfold ArgsQ at h
    split at h
    · rename_i vs hvs; obtain ⟨n, v, σ', h, hq⟩ := h; exact ⟨n, v, σ', by simp only [evOper, hvs]; exact h, hq⟩
    · exact h.elim

theorem runF_prim {f : FuncId} {vs : List AV} {σ : St} {K : AV → St → Prop} {g : List AV → Option AV} (hg : E.prim f = some g) : RunF E f vs σ K ↔ OptV (g vs) (fun v => K v σ) := by
  constructor
  · rintro ⟨n, v, σ', h, hq⟩
    cases n with
    | zero => simp [evCall] at h
    | succ n => simp only [evCall, hg] at h; obtain ⟨h1, rfl⟩ := mapS h; rw [h1]; exact hq
  · intro h
    unfold OptV at h
    split at h
    · rename_i v hv; exact ⟨1, v, σ, by simp only [evCall, hg, hv]; rfl, h⟩
    · exact h.elim

theorem runB {fn : IFun} {vs : List AV} {σ : St} {K : AV → St → Prop} : RunB E fn vs σ K ↔ vs.length = fn.nargs ∧ RunC E fn.body ⟨argsT 0 vs, σ⟩ (ResQ E fn.res K) := by
  constructor
  · rintro ⟨n, v, σ', h, hq⟩
    unfold evBody at h
    split at h
    · rename_i hl
      refine ⟨hl, ?_⟩
      split at h
      · rename_i e1 h1
        refine ⟨n, _, _, h1, ?_⟩
        show match ressA E e1 fn.res with | some vs => K (oneOr vs) e1.st | none => False
        split at h
        · rename_i rs hrs; injection h with h; injection h with h2 h3; subst h2; subst h3; simp only [hrs]; exact hq
        · simp at h
      · rename_i e1 h1
        refine ⟨n, _, _, h1, ?_⟩
        show match ressA E e1 fn.res with | some vs => K (oneOr vs) e1.st | none => False
        split at h
        · rename_i rs hrs; injection h with h; injection h with h2 h3; subst h2; subst h3; simp only [hrs]; exact hq
        · simp at h
      · simp at h
    · simp at h
  · rintro ⟨hl, n, ex, e', h, hq⟩
    have key : (∃ n0, evCode E (evCall E n) n0 fn.body ⟨argsT 0 vs, σ⟩ = some (.normal, e') ∧ n0 = n ∨ evCode E (evCall E n) n0 fn.body ⟨argsT 0 vs, σ⟩ = some (.ret, e') ∧ n0 = n) → (match ressA E e' fn.res with | some vs => K (oneOr vs) e'.st | none => False) → RunB E fn vs σ K := by
      rintro ⟨n0, h | h⟩ hq <;> obtain ⟨h, rfl⟩ := h
      · cases hrs : ressA E e' fn.res with
        | none => simp [hrs] at hq
        | some rs => simp only [hrs] at hq; exact ⟨n0, _, _, by simp only [evBody, if_pos hl, h, hrs], hq⟩
      · cases hrs : ressA E e' fn.res with
        | none => simp [hrs] at hq
        | some rs => simp only [hrs] at hq; exact ⟨n0, _, _, by simp only [evBody, if_pos hl, h, hrs], hq⟩
    cases ex with
    | normal => exact key ⟨n, .inl ⟨h, rfl⟩⟩ hq
    | ret => exact key ⟨n, .inr ⟨h, rfl⟩⟩ hq
    | exit id => exact hq.elim

theorem runF_of {f : FuncId} {vs : List AV} {σ : St} {K : AV → St → Prop} {fn : IFun} (hg : E.prim f = none) (hf : E.fn f = some fn) : RunF E f vs σ K ↔ ∃ n v σ', evFun E (evCall E n) n fn vs σ = some (v, σ') ∧ K v σ' := by
  constructor
  · rintro ⟨n, v, σ', h, hq⟩
    cases n with
    | zero => simp [evCall] at h
    | succ n => simp only [evCall, hg, hf] at h; exact ⟨n, v, σ', h, hq⟩
  · rintro ⟨n, v, σ', h, hq⟩
    exact ⟨n + 1, v, σ', by simp only [evCall, hg, hf]; exact h, hq⟩

theorem runF_plain {f : FuncId} {vs : List AV} {σ : St} {K : AV → St → Prop} {fn : IFun} (hg : E.prim f = none) (hf : E.fn f = some fn) (hm : fn.mode = .plain) : RunF E f vs σ K ↔ RunB E fn vs σ K := by
  rw [runF_of hg hf]
  simp only [evFun, hm]
  exact Iff.rfl

def TidyQ (k : Nat) (K : AV → St → Prop) (v : AV) (σ : St) : Prop :=
  match tidyHeap k σ.heap with
  | some h => low k v = true ∧ K v { σ with heap := h, nid := k }
  | none => False

theorem runF_tidy {f : FuncId} {vs : List AV} {σ : St} {K : AV → St → Prop} {fn : IFun} (hg : E.prim f = none) (hf : E.fn f = some fn) (hm : fn.mode = .tidy) : RunF E f vs σ K ↔ RunB E fn vs σ (TidyQ σ.nid K) := by
  rw [runF_of hg hf]
  simp only [evFun, hm]
  constructor
  · rintro ⟨n, v, σ', h, hq⟩
    split at h
    · rename_i v1 σ1 h1
      split at h
      · rename_i hp hhp
        split at h
        · rename_i hlo
          injection h with h; injection h with h2 h3; subst h2; subst h3
          exact ⟨n, _, _, h1, by unfold TidyQ; simp only [hhp]; exact ⟨hlo, hq⟩⟩
        · simp at h
      · simp at h
    · simp at h
  · rintro ⟨n, v, σ', h, hq⟩
    unfold TidyQ at hq
    split at hq
    · rename_i hp hhp
      exact ⟨n, v, _, by simp only [h, hhp]; rw [if_pos hq.1], hq.2⟩
    · exact hq.elim

theorem runF_closed {f : FuncId} {vs : List AV} {σ : St} {K : AV → St → Prop} {fn : IFun} (hg : E.prim f = none) (hf : E.fn f = some fn) (hm : fn.mode = .closed) :
    RunF E f vs σ K ↔ ArgsQ (closes vs) (fun vs => RunB E fn vs .zero (fun v _ => OptV (close v) (fun v => K v σ))) := by
  rw [runF_of hg hf]
  simp only [evFun, hm]
  constructor
  · rintro ⟨n, v, σ', h, hq⟩
    split at h
    · rename_i args ha
      split at h
      · rename_i v1 σ1 h1
        obtain ⟨h2, rfl⟩ := mapS h
        rw [ha]
        exact ⟨n, _, _, h1, by show OptV (close v1) _; rw [h2]; exact hq⟩
      · simp at h
    · simp at h
  · intro h
    unfold ArgsQ at h
    split at h
    · rename_i args ha
      obtain ⟨n, v, σ', h, hq⟩ := h
      unfold OptV at hq
      split at hq
      · rename_i v1 hv1
        exact ⟨n, v1, σ, by simp only [ha, h, hv1]; rfl, hq⟩
      · exact hq.elim
    · exact h.elim

/-- What a call comes to, as a rule for those who call. -/
theorem RunF.rule {f : FuncId} {vs : List AV} {σ τ : St} {x : AV} (h : RunF E f vs σ (fun v σ' => v = x ∧ σ' = τ)) (K : AV → St → Prop) : RunF E f vs σ K ↔ K x τ := by
  obtain ⟨n, v, σ', h, rfl, rfl⟩ := h
  constructor
  · rintro ⟨m, v', σ2, h', hk⟩
    have := two_fuels (F := fun n => evCall E n f vs σ) (fun n m r hnm hr => call_mono hnm _ _ _ _ hr) h h'
    injection this with h1 h2; subst h1; subst h2; exact hk
  · intro hk; exact ⟨n, _, _, h, hk⟩

theorem RunF.mono {f : FuncId} {vs : List AV} {σ : St} {K K' : AV → St → Prop} (h : RunF E f vs σ K) (hk : ∀ v σ', K v σ' → K' v σ') : RunF E f vs σ K' := by
  obtain ⟨n, v, σ', h, hq⟩ := h; exact ⟨n, v, σ', h, hk _ _ hq⟩
theorem RunC.mono {c : IC} {e : M} {Q Q' : Ex → M → Prop} (h : RunC E c e Q) (hk : ∀ ex e', Q ex e' → Q' ex e') : RunC E c e Q' := by
  obtain ⟨n, v, σ', h, hq⟩ := h; exact ⟨n, v, σ', h, hk _ _ hq⟩

end

end Go.Pv
