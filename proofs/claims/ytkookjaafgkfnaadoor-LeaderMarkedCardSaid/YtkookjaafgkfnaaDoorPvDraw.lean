/- A region whose order is open: whatever order it is, it comes to what the text's order comes to. -/
import Derived.Test.YtkookjaafgkfnaaDoorPvReg
namespace Go.Pv
set_option linter.all false
open Go.RowKit

section
variable {E : Env} {cf : CallF} {tm tm' : List (Nat × AV)} {σ σ' : St} {v : AV}

theorem opnd_congr {x : Opnd} (h : ∀ t ∈ opndT x, lk tm t = lk tm' t) : x.ev tm = x.ev tm' := by
  cases x <;> simp [opndT, Opnd.ev] at h ⊢
  exact h

theorem evs_congr : ∀ {xs : List Opnd}, (∀ t ∈ xs.flatMap opndT, lk tm t = lk tm' t) → evs tm xs = evs tm' xs
  | [], _ => rfl
  | x :: xs, h => by
    simp only [List.flatMap_cons, List.mem_append] at h
    simp only [evs]
    rw [opnd_congr (fun t ht => h t (.inl ht)), evs_congr (fun t ht => h t (.inr ht))]

theorem evo_congr {x : Option Opnd} (h : ∀ t ∈ x.toList.flatMap opndT, lk tm t = lk tm' t) : evo tm x = evo tm' x := by
  cases x with
  | none => rfl
  | some x => simp only [evo]; rw [opnd_congr (fun t ht => h t (by simpa using ht))]

theorem evParts_congr : ∀ {ps : List (Nat × Nat × Opnd)}, (∀ t ∈ ps.flatMap (fun p => opndT p.2.2), lk tm t = lk tm' t) → evParts tm ps = evParts tm' ps
  | [], _ => rfl
  | (o, n, x) :: ps, h => by
    simp only [List.flatMap_cons, List.mem_append] at h
    simp only [evParts]
    rw [opnd_congr (fun t ht => h t (.inl ht)), evParts_congr (fun t ht => h t (.inr ht))]

theorem evOper_congr {io : IOp} (h : ∀ t ∈ io.reads, lk tm t = lk tm' t) : evOper E cf tm σ io = evOper E cf tm' σ io := by
  cases io <;> simp only [IOp.reads, List.mem_append] at h <;> simp only [evOper, evOp]
  all_goals first
    | rfl
    | rw [opnd_congr (fun t ht => h t ht)]
    | rw [evParts_congr (fun t ht => h t ht)]
    | rw [evs_congr (fun t ht => h t ht)]
    | rw [opnd_congr (fun t ht => h t (.inl ht)), opnd_congr (fun t ht => h t (.inr ht))]
    | rw [opnd_congr (fun t ht => h t (.inl ht)), evs_congr (fun t ht => h t (.inr ht))]
    | rw [opnd_congr (fun t ht => h t (.inl (.inl ht))), opnd_congr (fun t ht => h t (.inl (.inr ht))), opnd_congr (fun t ht => h t (.inr ht))]
    | rw [opnd_congr (fun t ht => h t (.inl (.inl ht))), evo_congr (fun t ht => h t (.inl (.inr ht))), evo_congr (fun t ht => h t (.inr ht))]
    | rw [opnd_congr (fun t ht => h t (.inl (.inl (.inl ht)))), evo_congr (fun t ht => h t (.inl (.inl (.inr ht)))), evo_congr (fun t ht => h t (.inl (.inr ht))), evo_congr (fun t ht => h t (.inr ht))]
    | (simp only [List.flatMap_append, List.mem_append] at h
       rw [evs_congr (fun t ht => h t (.inl ht)), evs_congr (fun t ht => h t (.inr ht))])

/-- Calls that are pure change no state. -/
def CfPure (pf : FuncId → Bool) (cf : CallF) : Prop := ∀ f vs σ v σ', pf f = true → cf f vs σ = some (v, σ') → σ' = σ

theorem read_same {pf : FuncId → Bool} (hp : CfPure pf cf) {io : IOp} (hc : cls pf io = .read) (h : evOper E cf tm σ io = some (v, σ')) : σ' = σ := by
  cases io <;> simp only [cls, reduceCtorEq] at hc
  case load n x =>
    simp only [evOper, evOp] at h
    cases hx : x.ev tm with
    | none => simp [hx] at h
    | some p => simp only [hx] at h; exact (mapS h).2.symm
  case bytesstr x =>
    simp only [evOper, evOp] at h
    cases hx : x.ev tm with
    | none => simp [hx] at h
    | some p =>
      simp only [hx] at h
      cases hs : sliceCells σ 1 p with
      | none => simp [hs] at h
      | some cs =>
        simp only [hs] at h
        cases hb : bytesOf cs with
        | none => simp [hb] at h
        | some bs => simp [hb] at h; exact h.2.symm
  case mklist row _ _ _ _ => cases row <;> simp at hc
  case call f args =>
    simp only [evOper] at h
    cases hv : evs tm args with
    | none => simp [hv] at h
    | some vs =>
      simp only [hv] at h
      refine hp f vs σ v σ' ?_ h
      cases hpf : pf f <;> simp [hpf] at hc ⊢

theorem pure_any {pf : FuncId → Bool} {io : IOp} (hc : cls pf io = .pure) (h : evOper E cf tm σ io = some (v, σ')) : σ' = σ ∧ ∀ τ, evOper E cf tm τ io = some (v, τ) := by
  have key : ∀ (F : St → Option (AV × St)), (∃ o : Option AV, ∀ τ, F τ = o.map (fun x => (x, τ))) → F σ = some (v, σ') → σ' = σ ∧ ∀ τ, F τ = some (v, τ) := by
    rintro F ⟨o, ho⟩ hF
    rw [ho] at hF
    obtain ⟨h1, h2⟩ := mapS hF
    refine ⟨h2.symm, fun τ => ?_⟩
    rw [ho, h1]; rfl
  refine key (fun τ => evOper E cf tm τ io) ?_ h
  have hnone : ∀ (p : St → Option (AV × St)), (∀ τ, p τ = none) → ∃ o : Option AV, ∀ τ, p τ = o.map (fun x => (x, τ)) := fun p hp => ⟨none, hp⟩
  cases io <;> simp only [cls, reduceCtorEq] at hc <;> simp only [evOper, evOp]
  case mov x => exact ⟨x.ev tm, fun τ => rfl⟩
  case pick c a b =>
    cases c.ev tm with
    | none => exact ⟨none, fun τ => rfl⟩
    | some cv =>
      cases cv <;> first | exact ⟨none, fun τ => rfl⟩ | skip
      rename_i bb
      cases bb
      · exact ⟨b.ev tm, fun τ => rfl⟩
      · exact ⟨a.ev tm, fun τ => rfl⟩
  case build zero parts =>
    cases evParts tm parts with
    | none => exact ⟨none, fun τ => rfl⟩
    | some ps => exact ⟨(fillA zero ps).map .agg, fun τ => by cases hq : fillA zero ps <;> simp [hq]⟩
  case mklist row sz len zero parts =>
    cases row <;> simp at hc
    cases evParts tm parts with
    | none => exact ⟨none, fun τ => rfl⟩
    | some ps => exact ⟨(fillA (List.replicate len zero).flatten ps).map (.list .own sz), fun τ => by cases hq : fillA (List.replicate len zero).flatten ps <;> simp [hq]⟩
  case nilchk x => cases x.ev tm with
    | none => exact ⟨none, fun τ => rfl⟩
    | some p => exact ⟨nilchkA p, fun τ => rfl⟩
  case bin op x y => cases x.ev tm with
    | none => exact ⟨none, fun τ => rfl⟩
    | some p => cases y.ev tm with
      | none => exact ⟨none, fun τ => rfl⟩
      | some q => exact ⟨binA op p q, fun τ => rfl⟩
  case eqv k neg x y => cases x.ev tm with
    | none => exact ⟨none, fun τ => rfl⟩
    | some p => cases y.ev tm with
      | none => exact ⟨none, fun τ => rfl⟩
      | some q => exact ⟨(eqA k p q).map fun r => .bool (if neg then !r else r), fun τ => by simp only; cases eqA k p q <;> rfl⟩
  case un op x => cases x.ev tm with
    | none => exact ⟨none, fun τ => rfl⟩
    | some p => exact ⟨unA op p, fun τ => rfl⟩
  case toint k x => cases x.ev tm with
    | none => exact ⟨none, fun τ => rfl⟩
    | some p => cases p <;> first | exact ⟨none, fun τ => rfl⟩ | exact ⟨some _, fun τ => rfl⟩
  case tofloat k x => cases x.ev tm with
    | none => exact ⟨none, fun τ => rfl⟩
    | some p => cases p <;> first | exact ⟨none, fun τ => rfl⟩ | exact ⟨some _, fun τ => rfl⟩
  case strbytes row x => cases x.ev tm with
    | none => exact ⟨none, fun τ => rfl⟩
    | some p =>
      cases row
      · cases p <;> first | exact ⟨none, fun τ => rfl⟩ | exact ⟨some _, fun τ => rfl⟩
      · cases p <;> exact ⟨none, fun τ => rfl⟩
  case intstr x => cases x.ev tm with
    | none => exact ⟨none, fun τ => rfl⟩
    | some p => cases p <;> first | exact ⟨none, fun τ => rfl⟩ | exact ⟨some _, fun τ => rfl⟩
  case strid x => cases x.ev tm with
    | none => exact ⟨none, fun τ => rfl⟩
    | some p => cases p <;> first | exact ⟨none, fun τ => rfl⟩ | exact ⟨some _, fun τ => rfl⟩
  case strish x => cases x.ev tm with
    | none => exact ⟨none, fun τ => rfl⟩
    | some p =>
      cases p <;> try exact ⟨none, fun τ => rfl⟩
      rename_i tok sz cs
      cases tok <;> try exact ⟨none, fun τ => rfl⟩
      cases cs
      · exact ⟨none, fun τ => rfl⟩
      · exact ⟨some _, fun τ => rfl⟩
  case strrunes => exact ⟨none, fun τ => rfl⟩
  case runesstr => exact ⟨none, fun τ => rfl⟩
  case iface t x => exact ⟨(x.ev tm).map (.iface t), fun τ => by cases x.ev tm <;> rfl⟩
  case mkfn fn a b => cases evs tm a with
    | none => exact ⟨none, fun τ => rfl⟩
    | some p => cases evs tm b with
      | none => exact ⟨none, fun τ => rfl⟩
      | some q => exact ⟨some _, fun τ => rfl⟩
  case slstr x lo hi => cases x.ev tm with
    | none => exact ⟨none, fun τ => rfl⟩
    | some p => cases evo tm lo with
      | none => cases p <;> exact ⟨none, fun τ => rfl⟩
      | some l => cases evo tm hi with
        | none => cases p <;> exact ⟨none, fun τ => rfl⟩
        | some h => cases p <;> first | exact ⟨none, fun τ => rfl⟩ | exact ⟨slstrA _ l h, fun τ => rfl⟩
  case sl sz x lo hi mx => cases x.ev tm with
    | none => exact ⟨none, fun τ => rfl⟩
    | some p => cases evo tm lo with
      | none => exact ⟨none, fun τ => rfl⟩
      | some l => cases evo tm hi with
        | none => exact ⟨none, fun τ => rfl⟩
        | some h => cases evo tm mx with
          | none => exact ⟨none, fun τ => rfl⟩
          | some m => exact ⟨slA sz p l h m, fun τ => rfl⟩
  case slarr n sz x lo hi mx => cases x.ev tm with
    | none => exact ⟨none, fun τ => rfl⟩
    | some p => cases evo tm lo with
      | none => exact ⟨none, fun τ => rfl⟩
      | some l => cases evo tm hi with
        | none => exact ⟨none, fun τ => rfl⟩
        | some h => cases evo tm mx with
          | none => exact ⟨none, fun τ => rfl⟩
          | some m => exact ⟨slarrA n sz p l h m, fun τ => rfl⟩
  case flda off x => cases x.ev tm with
    | none => exact ⟨none, fun τ => rfl⟩
    | some p => exact ⟨addA off p, fun τ => rfl⟩
  case fld n off x => cases x.ev tm with
    | none => exact ⟨none, fun τ => rfl⟩
    | some p => cases p <;> first | exact ⟨none, fun τ => rfl⟩ | exact ⟨cut _ off n, fun τ => rfl⟩
  case idxa sz x i => cases x.ev tm with
    | none => exact ⟨none, fun τ => rfl⟩
    | some p => cases i.ev tm with
      | none => exact ⟨none, fun τ => rfl⟩
      | some q => exact ⟨idxaA sz p q, fun τ => rfl⟩
  case idxarr len sz x i => cases x.ev tm with
    | none => exact ⟨none, fun τ => rfl⟩
    | some p => cases i.ev tm with
      | none => exact ⟨none, fun τ => rfl⟩
      | some q => exact ⟨idxarrA len sz p q, fun τ => rfl⟩
  case idxs x i => cases x.ev tm with
    | none => exact ⟨none, fun τ => rfl⟩
    | some p => cases i.ev tm with
      | none => exact ⟨none, fun τ => rfl⟩
      | some q => exact ⟨idxsA p q, fun τ => rfl⟩
  case idxv len n sz x i => cases x.ev tm with
    | none => exact ⟨none, fun τ => rfl⟩
    | some p => cases i.ev tm with
      | none => exact ⟨none, fun τ => rfl⟩
      | some q => exact ⟨idxvA len n sz p q, fun τ => rfl⟩
  case ext x i => cases x.ev tm with
    | none => exact ⟨none, fun τ => rfl⟩
    | some p => cases p <;> first | exact ⟨none, fun τ => rfl⟩ | exact ⟨_, fun τ => rfl⟩
  case len str x => cases x.ev tm with
    | none => exact ⟨none, fun τ => rfl⟩
    | some p => exact ⟨lenA str p, fun τ => rfl⟩
  case lenc n => exact ⟨some _, fun τ => rfl⟩
  case minmax mx xs => cases evs tm xs with
    | none => exact ⟨none, fun τ => rfl⟩
    | some p => exact ⟨minmaxA mx p, fun τ => rfl⟩
  case call f args => cases hpf : pf f <;> simp [hpf] at hc

/-! ### The trace -/

/-- The machine ahead of an operation. -/
def mAt (l : List Step) (e : M) (i : Nat) : M := match l[i]? with | some s => s.e | none => e

theorem stAt_mAt (l : List Step) (e : M) (i : Nat) : stAt l e i = (mAt l e i).st := by unfold stAt mAt; cases l[i]? <;> rfl

theorem trace_at : ∀ {ios : List IOper} {e : M} {l : List Step} {e' : M}, evTrace E cf ios e = some (l, e') →
    l.length = ios.length ∧ mAt l e' 0 = e ∧ ∀ i io, ios[i]? = some io → ∃ s b, l[i]? = some s ∧ guardA s.e.tm io.guard = some b ∧
      (b = false → s.r = none ∧ mAt l e' (i + 1) = s.e.put io.dst .undef s.e.st) ∧
      (b = true → ∃ v σ, s.r = some v ∧ evOper E cf s.e.tm s.e.st io.op = some (v, σ) ∧ mAt l e' (i + 1) = s.e.put io.dst v σ)
  | [], e, l, e', h => by
    simp [evTrace] at h; obtain ⟨rfl, rfl⟩ := h
    exact ⟨rfl, rfl, fun i io hi => by simp at hi⟩
  | o :: os, e, l, e', h => by
    simp only [evTrace] at h
    cases hg : guardA e.tm o.guard with
    | none => simp [hg] at h
    | some b =>
      have fin : ∀ (e1 : M) (r : Option AV) (l1 : List Step), evTrace E cf os e1 = some (l1, e') → l = ⟨e, r⟩ :: l1 →
          ((b = false → r = none ∧ e1 = e.put o.dst .undef e.st) ∧ (b = true → ∃ v σ, r = some v ∧ evOper E cf e.tm e.st o.op = some (v, σ) ∧ e1 = e.put o.dst v σ)) →
          l.length = (o :: os).length ∧ mAt l e' 0 = e ∧ ∀ i io, (o :: os)[i]? = some io → ∃ s b, l[i]? = some s ∧ guardA s.e.tm io.guard = some b ∧
            (b = false → s.r = none ∧ mAt l e' (i + 1) = s.e.put io.dst .undef s.e.st) ∧
            (b = true → ∃ v σ, s.r = some v ∧ evOper E cf s.e.tm s.e.st io.op = some (v, σ) ∧ mAt l e' (i + 1) = s.e.put io.dst v σ) := by
        intro e1 r l1 h1 hl hb
        obtain ⟨k1, k2, k3⟩ := trace_at h1
        subst hl
        refine ⟨by simp [k1], rfl, fun i io hi => ?_⟩
        cases i with
        | zero =>
          simp at hi; subst hi
          have : mAt (⟨e, r⟩ :: l1) e' 1 = e1 := by rw [← k2]; simp [mAt]
          refine ⟨⟨e, r⟩, b, rfl, hg, ?_, ?_⟩
          · rw [this]; exact hb.1
          · rw [this]; exact hb.2
        | succ i =>
          have hmm : mAt (⟨e, r⟩ :: l1) e' (i + 1 + 1) = mAt l1 e' (i + 1) := by simp [mAt]
          simp at hi
          obtain ⟨s, b', h2, h3, h4, h5⟩ := k3 i io hi
          refine ⟨s, b', by simpa using h2, h3, ?_, ?_⟩
          · rw [hmm]; exact h4
          · rw [hmm]; exact h5
      cases b with
      | false =>
        simp only [hg] at h
        cases ht : evTrace E cf os (e.put o.dst .undef e.st) with
        | none => simp [ht] at h
        | some q =>
          obtain ⟨l1, e1⟩ := q
          simp [ht] at h; obtain ⟨rfl, rfl⟩ := h
          exact fin _ none l1 ht rfl ⟨fun _ => ⟨rfl, rfl⟩, fun hb => by simp at hb⟩
      | true =>
        simp only [hg] at h
        cases hv : evOper E cf e.tm e.st o.op with
        | none => simp [hv] at h
        | some q =>
          obtain ⟨v, σ1⟩ := q
          simp only [hv] at h
          cases ht : evTrace E cf os (e.put o.dst v σ1) with
          | none => simp [ht] at h
          | some q =>
            obtain ⟨l1, e1⟩ := q
            simp [ht] at h; obtain ⟨rfl, rfl⟩ := h
            exact fin _ (some v) l1 ht rfl ⟨fun hb => by simp at hb, fun _ => ⟨v, σ1, rfl, hv, rfl⟩⟩

theorem evOps_trace : ∀ {ios : List IOper} {e e' : M}, evOps E cf ios e = some e' → ∃ l, evTrace E cf ios e = some (l, e')
  | [], e, e', h => by simp [evOps] at h; subst h; exact ⟨[], rfl⟩
  | o :: os, e, e', h => by
    simp only [evOps] at h
    simp only [evTrace]
    cases hg : guardA e.tm o.guard with
    | none => simp [hg] at h
    | some b =>
      cases b with
      | false =>
        simp only [hg] at h
        obtain ⟨l, hl⟩ := evOps_trace h
        exact ⟨_, by simp only [hl]; rfl⟩
      | true =>
        simp only [hg] at h
        cases hv : evOper E cf e.tm e.st o.op with
        | none => simp [hv] at h
        | some q =>
          obtain ⟨v, σ1⟩ := q
          simp only [hv] at h
          obtain ⟨l, hl⟩ := evOps_trace h
          exact ⟨_, by simp only [hl]; rfl⟩

theorem M.put_lk_ne {e : M} {dst : Option Nat} {σ : St} {t : Nat} (h : dst ≠ some t) : lk (e.put dst v σ).tm t = lk e.tm t := by
  cases dst with
  | none => rfl
  | some d => simp only [M.put, lk]; rw [if_neg (fun e => h (by rw [e]))]

theorem M.put_lk {e : M} {σ : St} {t : Nat} : lk (e.put (some t) v σ).tm t = some v := by simp [M.put, lk]

theorem M.put_st {e : M} {dst : Option Nat} {σ : St} : (e.put dst v σ).st = σ := by cases dst <;> rfl

/-- What an operation came to. -/
def resOf (l : List Step) (i : Nat) : AV := match l[i]? with | some s => s.r.getD .undef | none => .undef

theorem trace_step {ios : List IOper} {e : M} {l : List Step} {e' : M} (h : evTrace E cf ios e = some (l, e')) {i : Nat} {io : IOper} (hi : ios[i]? = some io) :
    ∃ σ1, mAt l e' (i + 1) = (mAt l e' i).put io.dst (resOf l i) σ1 := by
  obtain ⟨_, _, k⟩ := trace_at h
  obtain ⟨s, b, h1, h2, h3, h4⟩ := k i io hi
  have hm : mAt l e' i = s.e := by simp [mAt, h1]
  cases b with
  | false => obtain ⟨h5, h6⟩ := h3 rfl; exact ⟨s.e.st, by rw [h6, hm]; simp [resOf, h1, h5]⟩
  | true => obtain ⟨v, σ1, h5, _, h6⟩ := h4 rfl; exact ⟨σ1, by rw [h6, hm]; simp [resOf, h1, h5]⟩

/-- A temporary that nothing ahead lays holds what it held. -/
theorem lk_init {ios : List IOper} {e : M} {l : List Step} {e' : M} (h : evTrace E cf ios e = some (l, e')) {t : Nat} : ∀ (i : Nat), i ≤ ios.length → (∀ k io, k < i → ios[k]? = some io → io.dst ≠ some t) → lk (mAt l e' i).tm t = lk e.tm t
  | 0, _, _ => by rw [(trace_at h).2.1]
  | i + 1, hi, hno => by
    have hio : ios[i]? = some ios[i] := List.getElem?_eq_getElem (by omega)
    obtain ⟨σ1, hs⟩ := trace_step h hio
    rw [hs, M.put_lk_ne (hno i _ (by omega) hio)]
    exact lk_init h i (by omega) (fun k io hk => hno k io (by omega))

theorem once_spec : ∀ {ios : List IOper}, onceDst ios = true → ∀ {i j : Nat} {x y : IOper} {t : Nat}, ios[i]? = some x → ios[j]? = some y → x.dst = some t → y.dst = some t → i = j
  | [], _, i, j, x, y, t, hi, _, _, _ => by simp at hi
  | o :: os, h, i, j, x, y, t, hi, hj, hx, hy => by
    simp only [onceDst, Bool.and_eq_true] at h
    obtain ⟨h1, h2⟩ := h
    have noMem : ∀ {k : Nat} {z : IOper}, os[k]? = some z → o.dst = some t → z.dst = some t → False := by
      intro k z hk ho hz
      rw [ho] at h1
      simp at h1
      exact h1 z (List.mem_of_getElem? hk) hz
    cases i with
    | zero =>
      simp at hi; subst hi
      cases j with
      | zero => rfl
      | succ j => simp at hj; exact (noMem hj hx hy).elim
    | succ i =>
      simp at hi
      cases j with
      | zero => simp at hj; subst hj; exact (noMem hi hy hx).elim
      | succ j => simp at hj; rw [once_spec h2 hi hj hx hy]

/-- A temporary that an operation ahead lays holds what that came to. -/
theorem lk_res {ios : List IOper} {e : M} {l : List Step} {e' : M} (h : evTrace E cf ios e = some (l, e')) (ho : onceDst ios = true) {t k : Nat} {x : IOper} (hk : ios[k]? = some x) (hx : x.dst = some t) :
    ∀ (i : Nat), k < i → i ≤ ios.length → lk (mAt l e' i).tm t = some (resOf l k)
  | 0, hki, _ => by omega
  | i + 1, hki, hi => by
    have hio : ios[i]? = some ios[i] := List.getElem?_eq_getElem (by omega)
    obtain ⟨σ1, hs⟩ := trace_step h hio
    rw [hs]
    by_cases e1 : k = i
    · subst e1
      rw [hk] at hio; injection hio with hio
      rw [← hio, hx, M.put_lk]
    · rw [M.put_lk_ne (fun hd => e1 (once_spec ho hk hio hx hd))]
      exact lk_res h ho hk hx i (by omega) (by omega)

/-- The state where nothing between changes it. -/
theorem st_same {pf : FuncId → Bool} (hp : CfPure pf cf) {ios : List IOper} {e : M} {l : List Step} {e' : M} (h : evTrace E cf ios e = some (l, e')) : ∀ (i j : Nat), i ≤ j → j ≤ ios.length →
    (∀ k io, i ≤ k → k < j → ios[k]? = some io → cls pf io.op ≠ .eff) → (mAt l e' j).st = (mAt l e' i).st
  | i, 0, hij, _, _ => by have : i = 0 := by omega
                          subst this; rfl
  | i, j + 1, hij, hj, hno => by
    by_cases e1 : i = j + 1
    · rw [e1]
    · have hio : ios[j]? = some ios[j] := List.getElem?_eq_getElem (by omega)
      rw [← st_same hp h i j (by omega) (by omega) (fun k io h1 h2 => hno k io h1 (by omega))]
      obtain ⟨_, _, k⟩ := trace_at h
      obtain ⟨s, b, h1, h2, h3, h4⟩ := k j _ hio
      have hm : mAt l e' j = s.e := by simp [mAt, h1]
      cases b with
      | false => rw [(h3 rfl).2, M.put_st, hm]
      | true =>
        obtain ⟨v, σ1, _, h6, h7⟩ := h4 rfl
        rw [h7, M.put_st, hm]
        have hne := hno j _ (by omega) (by omega) hio
        cases hc : cls pf (ios[j]).op with
        | eff => exact absurd hc hne
        | pure => exact (pure_any hc h6).1
        | read => exact read_same hp hc h6

end
end Go.Pv
