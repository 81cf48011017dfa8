/- A region in the order of the text. -/
import Derived.Test.YtkookjaafgkfnaaDoorPvOp10
import Derived.Orders
namespace Go.Pv
set_option linter.all false
open Go.RowKit

section
variable {E : Env} {P : Program} {W : KW} {σ σ' : St} {w : World} {tm : List (Nat × AV)} {a : Act} {v : AV}

set_option maxHeartbeats 1000000 in
theorem op_ok (hR : R E W σ w) (hT : TR W tm a.tmps) {io : IOp} {o : Oper} (hok : okOp P io o.op = true) (hev : evOp E tm σ io = some (v, σ')) :
    OpOk E P W σ' w v (execOp a.eval o) := by
  obtain ⟨d, op, ty, pos, af, g⟩ := o
  cases io
  case mov => exact mov_ok hR hT hok hev
  case call => simp [evOp] at hev
  case callv => simp [evOp] at hev
  case strrunes => simp [evOp] at hev
  case runesstr => simp [evOp] at hev
  case copy => cases op <;> exact absurd hok Bool.false_ne_true
  case pick => cases op <;> first | exact absurd hok Bool.false_ne_true | exact pick_ok hR hT hok hev
  case alloc => cases op <;> first | exact absurd hok Bool.false_ne_true | exact alloc_ok hR hok hev
  case box => cases op <;> first | exact absurd hok Bool.false_ne_true | exact box_ok hR hT hok hev
  case build => cases op <;> first | exact absurd hok Bool.false_ne_true | exact build_ok hR hT hok hev
  case mklist => cases op <;> first | exact absurd hok Bool.false_ne_true | exact mklist_ok hR hT hok hev
  case load => cases op <;> first | exact absurd hok Bool.false_ne_true | exact load_ok hR hT hok hev
  case store => cases op <;> first | exact absurd hok Bool.false_ne_true | exact store_ok hR hT hok hev
  case nilchk => cases op <;> first | exact absurd hok Bool.false_ne_true | exact nilchk_ok hR hT hok hev
  case bin => cases op <;> first | exact absurd hok Bool.false_ne_true | exact bin_ok hR hT hok hev
  case eqv => cases op <;> first | exact absurd hok Bool.false_ne_true | exact eqv_ok hR hT hok hev
  case un => cases op <;> first | exact absurd hok Bool.false_ne_true | exact un_ok hR hT hok hev
  case toint => cases op <;> first | exact absurd hok Bool.false_ne_true | exact toint_ok hR hT hok hev
  case tofloat => cases op <;> first | exact absurd hok Bool.false_ne_true | exact tofloat_ok hR hT hok hev
  case strbytes => cases op <;> first | exact absurd hok Bool.false_ne_true | exact strbytes_ok hR hT hok hev
  case bytesstr => cases op <;> first | exact absurd hok Bool.false_ne_true | exact bytesstr_ok hR hT hok hev
  case intstr => cases op <;> first | exact absurd hok Bool.false_ne_true | exact intstr_ok hR hT hok hev
  case strid => cases op <;> first | exact absurd hok Bool.false_ne_true | exact strid_ok hR hT hok hev
  case strish => cases op <;> first | exact absurd hok Bool.false_ne_true | exact strish_ok hR hT hok hev
  case iface => cases op <;> first | exact absurd hok Bool.false_ne_true | exact iface_ok hR hT hok hev
  case mkfn => cases op <;> first | exact absurd hok Bool.false_ne_true | exact mkfn_ok hR hT hok hev
  case mkslice => cases op <;> first | exact absurd hok Bool.false_ne_true | exact mkslice_ok hR hT hok hev
  case slstr => cases op <;> first | exact absurd hok Bool.false_ne_true | exact slstr_ok hR hT hok hev
  case sl => cases op <;> first | exact absurd hok Bool.false_ne_true | exact sl_ok hR hT hok hev
  case slarr => cases op <;> first | exact absurd hok Bool.false_ne_true | exact slarr_ok hR hT hok hev
  case flda => cases op <;> first | exact absurd hok Bool.false_ne_true | exact flda_ok hR hT hok hev
  case fld => cases op <;> first | exact absurd hok Bool.false_ne_true | exact fld_ok hR hT hok hev
  case idxa => cases op <;> first | exact absurd hok Bool.false_ne_true | exact idxa_ok hR hT hok hev
  case idxarr => cases op <;> first | exact absurd hok Bool.false_ne_true | exact idxarr_ok hR hT hok hev
  case idxs => cases op <;> first | exact absurd hok Bool.false_ne_true | exact idxs_ok hR hT hok hev
  case idxv => cases op <;> first | exact absurd hok Bool.false_ne_true | exact idxv_ok hR hT hok hev
  case ext => cases op <;> first | exact absurd hok Bool.false_ne_true | exact ext_ok hR hT hok hev
  case len => cases op <;> first | exact absurd hok Bool.false_ne_true | exact len_ok hR hT hok hev
  case lenc => cases op <;> first | exact absurd hok Bool.false_ne_true | exact lenc_ok hR hok hev
  case append => cases op <;> first | exact absurd hok Bool.false_ne_true | exact append_ok hR hT hok hev
  case minmax => cases op <;> first | exact absurd hok Bool.false_ne_true | exact minmax_ok hR hT hok hev
  case rng => cases op <;> first | exact absurd hok Bool.false_ne_true | exact rng_ok hR hT hok hev
  case nxt => cases op <;> first | exact absurd hok Bool.false_ne_true | exact nxt_ok hR hT hok hev

/-- What a call of a function comes to. -/
def InvOk (P : Program) (f : FuncId) (args : Array Value) (w : World) (Q : Ending → World → Prop) : Prop :=
  match (callFunc f args).run P w with
  | .ok (.value u) w' => Q (.returned u) w'
  | .ok (.enter g args') w' => Calls P g args' w' Q
  | _ => False

def Ret (E : Env) (W : KW) (σ' : St) (v : AV) (e : Ending) (w' : World) : Prop :=
  ∃ W' u, W.Le W' ∧ R E W' σ' w' ∧ e = .returned u ∧ VR W' v u

/-- What calls come to abstractly, they come to. -/
def CfOk (E : Env) (P : Program) (cf : CallF) : Prop :=
  ∀ f vs σ v σ', cf f vs σ = some (v, σ') → ∀ W w us, R E W σ w → VRs W vs us → InvOk P f us.toArray w (Ret E W σ' v)

theorem func_vr {fn : Fn} {f c : List AV} {u : Value} (h : VR W (.func fn f c) u) : ∃ us vs, u = .func fn us.toArray vs.toArray ∧ VRs W f us ∧ VRs W c vs := by
  cases h; exact ⟨_, _, rfl, by assumption, by assumption⟩

theorem oper_wp {cf : CallF} (hcf : CfOk E P cf) {Q : Exit → Act → World → Prop} {K : Act → World → Prop} {io : IOp} {o : Oper} (hR : R E W σ w) (hT : TR W tm a.tmps)
    (hok : okOp P io o.op = true) (hev : evOper E cf tm σ io = some (v, σ')) (hK : ∀ W' w' u, W.Le W' → R E W' σ' w' → VR W' v u → K (a.put o.dst u) w') :
    o.wp P a w K Q := by
  have hcall : ∀ (f : FuncId) (args : Array Value) (vs : List AV) (us : List Value), args = us.toArray → VRs W vs us → cf f vs σ = some (v, σ') → execOp a.eval o = callFunc f args → o.wp P a w K Q := by
    intro f args vs us hargs hvs hc hex
    have h := hcf f vs σ v σ' hc W w us hR hvs
    rw [← hargs] at h
    unfold Oper.wp
    rw [hex]
    unfold InvOk at h
    cases hr : (callFunc f args).run P w with
    | halt x w' => rw [hr] at h; exact h.elim
    | ok nx w' =>
      rw [hr] at h
      cases nx <;> simp only at h
      case value u =>
        obtain ⟨W', u', h1, h2, h3, h4⟩ := h
        injection h3 with h3; subst h3
        rw [Oper.upon_value]
        exact hK W' w' u h1 h2 h4
      case enter f' args' =>
        rw [Oper.upon_enter]
        refine h.mono fun e w2 he => ?_
        obtain ⟨W', u', h1, h2, rfl, h4⟩ := he
        exact hK W' w2 u' h1 h2 h4
  by_cases hc : (∃ f args, io = .call f args) ∨ (∃ x args, io = .callv x args)
  · obtain ⟨d, op, ty, pos, af, g⟩ := o
    rcases hc with ⟨f, args, rfl⟩ | ⟨x, args, rfl⟩
    · cases op <;> simp only [okOp, Bool.false_eq_true] at hok
      rename_i c
      cases hcal : c.callee with
      | builtin => simp [hcal] at hok
      | invoke => simp [hcal] at hok
      | value y =>
        cases y <;> simp [hcal] at hok
        obtain ⟨rfl, hargs⟩ := hok
        simp only [evOper] at hev
        cases hvs : evs tm args with
        | none => simp [hvs] at hev
        | some vs =>
          simp only [hvs] at hev
          refine hcall f (c.args.map a.eval) vs (c.args.toList.map a.eval) (by apply Array.ext'; simp) (opnds_vr hT hargs hvs) hev ?_
          simp [execOp, resolve, hcal, Act.eval, Deferred.ofValue, invoke]
    · cases op <;> simp only [okOp, Bool.false_eq_true] at hok
      rename_i c
      cases hcal : c.callee with
      | builtin => simp [hcal] at hok
      | invoke => simp [hcal] at hok
      | value y =>
        simp [hcal] at hok
        obtain ⟨hx, hargs⟩ := hok
        simp only [evOper] at hev
        cases hxe : x.ev tm with
        | none => simp [hxe] at hev
        | some xv =>
          cases hvs : evs tm args with
          | none => cases xv <;> simp [hxe, hvs] at hev
          | some vs =>
            cases xv <;> simp only [hxe, hvs, reduceCtorEq] at hev
            rename_i fn first captured
            cases fn <;> simp only [reduceCtorEq] at hev
            rename_i f
            obtain ⟨us, ws, hu, h1, h2⟩ := func_vr (opnd_vr hT hx hxe)
            refine hcall f (us.toArray ++ c.args.map a.eval ++ ws.toArray) _ (us ++ c.args.toList.map a.eval ++ ws) (by apply Array.ext'; simp) ((h1.append (opnds_vr hT hargs hvs)).append h2) hev ?_
            simp [execOp, resolve, hcal, hu, Deferred.ofValue, invoke]
  · have hev' : evOp E tm σ io = some (v, σ') := by
      cases io <;> first | exact hev | exact absurd (.inl ⟨_, _, rfl⟩) hc | exact absurd (.inr ⟨_, _, rfl⟩) hc
    obtain ⟨W', w', h1, h2, h3⟩ := op_ok hR hT hok hev'
    unfold Oper.wp
    rcases h3 with ⟨u, hrun, hvr⟩ | ⟨hrun, rfl⟩
    · rw [hrun, Oper.upon_value]; exact hK W' w' u h1 h2 hvr
    · rw [hrun, Oper.upon_skip]
      exact hK W' w' undef h1 h2 (.tuple (us := []) .nil)

/-- The machine's state. -/
structure MR (E : Env) (N : Nat) (W : KW) (e : M) (a : Act) (w : World) : Prop where
  r : R E W e.st w
  t : TR W e.tm a.tmps
  n : a.tmps.size = N
  d : a.defers = []

theorem MR.put {N : Nat} {e : M} (h : MR E N W e a w) {W' : KW} {w' : World} {u : Value} {dst : Option Nat} (hle : W.Le W') (hR : R E W' σ' w') (hv : VR W' v u)
    (hd : ∀ d, dst = some d → d < N) : MR E N W' (e.put dst v σ') (a.put dst u) w' := by
  cases dst with
  | none => exact ⟨hR, h.t.mono hle, h.n, h.d⟩
  | some d => exact ⟨hR, (h.t.mono hle).put (by rw [h.n]; exact hd d rfl) hv, by simp [Act.put, h.n], h.d⟩

theorem dst_lt {N : Nat} {o : Option Nat} (h : (match o with | some d => decide (d < N) | none => true) = true) : ∀ d, o = some d → d < N := by
  intro d hd; subst hd; simpa using h

theorem guard_ok {N : Nat} {e : M} {os : Array Oper} (h : MR E N W e a w) {io : IOper} {o : Oper} (hok : okGuard os io.guard o.guard = true) {b : Bool} (hg : guardA e.tm io.guard = some b) :
    Region.wanted o (yielded os a.tmps) = b := by
  cases hi : io.guard with
  | none =>
    rw [hi] at hok hg
    cases ho : o.guard with
    | none => simp [guardA] at hg; subst hg; simp [Region.wanted, ho]
    | some q => rw [ho] at hok; simp [okGuard] at hok
  | some p =>
    obtain ⟨t, want⟩ := p
    rw [hi] at hok hg
    cases ho : o.guard with
    | none => rw [ho] at hok; simp [okGuard] at hok
    | some q =>
      obtain ⟨j, want'⟩ := q
      rw [ho] at hok
      simp [okGuard] at hok
      obtain ⟨rfl, hd⟩ := hok
      simp only [guardA] at hg
      simp only [Region.wanted, ho, yielded]
      have hd2 : (os[j]?).bind (·.dst) = some t := by simpa using hd
      rw [hd2]
      cases hl : lk e.tm t with
      | none => simp [hl] at hg
      | some x =>
        obtain ⟨u, hu, hr⟩ := h.t t x hl
        simp only [hl] at hg
        simp only [Option.bind_some, hu]
        cases x <;> try (simp at hg; done)
        · simp at hg; cases hr; subst hg; rfl
        · rename_i vs
          cases vs with
          | nil => injection hg with hg; subst hg; cases hr; rfl
          | cons => exact absurd hg (by simp)

theorem ops_text {N : Nat} {cf : CallF} (hcf : CfOk E P cf) {os : Array Oper} {Q : Exit → Act → World → Prop} : ∀ (ios : List IOper) (l : List Oper) (k : Nat) (W : KW) (e e' : M) (a : Act) (w : World),
    okOpers P N os ios l = true → (∀ i, l[i]? = os[k + i]?) → MR E N W e a w → evOps E cf ios e = some e' →
    (∀ W' a' w', W.Le W' → MR E N W' e' a' w' → Q .normal a' w') → wpOps P os Q (List.range' k l.length) a w
  | [], [], k, W, e, e', a, w, _, _, hM, hev, hQ => by
    simp [evOps] at hev; subst hev
    exact hQ W a w (.refl W) hM
  | io :: ios, o :: l, k, W, e, e', a, w, hok, hl, hM, hev, hQ => by
    simp only [okOpers, okOper, Bool.and_eq_true] at hok
    obtain ⟨⟨⟨⟨hop, hdst⟩, hdn⟩, hg⟩, hrest⟩ := hok
    have hdst : io.dst = o.dst := by simpa using hdst
    have ho : os[k]? = some o := by simpa using (hl 0).symm
    have hl' : ∀ i, l[i]? = os[k + 1 + i]? := fun i => by have := hl (i + 1); simpa [Nat.add_assoc, Nat.add_comm 1 i] using this
    simp only [List.length_cons, List.range'_succ]
    rw [wpOps_cons]
    unfold wpOp
    rw [ho]
    simp only [evOps] at hev
    cases hgv : guardA e.tm io.guard with
    | none => simp [hgv] at hev
    | some b =>
      have hw := guard_ok hM hg hgv
      cases b with
      | false =>
        simp only [hgv] at hev
        simp only [hw, Bool.false_eq_true, if_false]
        refine ops_text hcf ios l (k + 1) W _ e' _ w hrest hl' ?_ hev hQ
        rw [hdst]
        exact hM.put (.refl W) hM.r (.tuple (us := []) .nil) (dst_lt hdn)
      | true =>
        simp only [hgv] at hev
        simp only [hw, if_true]
        left
        cases hop' : evOper E cf e.tm e.st io.op with
        | none => simp [hop'] at hev
        | some r =>
          obtain ⟨v, σ'⟩ := r
          simp only [hop'] at hev
          refine oper_wp hcf hM.r hM.t hop hop' fun W' w' u h1 h2 h3 => ?_
          refine ops_text hcf ios l (k + 1) W' _ e' _ w' hrest hl' ?_ hev fun W2 a2 w2 h4 h5 => hQ W2 a2 w2 (h1.trans h4) h5
          rw [hdst]
          exact hM.put h1 h2 h3 (dst_lt hdn)
  | [], _ :: _, _, _, _, _, _, _, hok, _, _, _, _ => by simp [okOpers] at hok
  | _ :: _, [], _, _, _, _, _, _, hok, _, _, _, _ => by simp [okOpers] at hok

end
end Go.Pv
