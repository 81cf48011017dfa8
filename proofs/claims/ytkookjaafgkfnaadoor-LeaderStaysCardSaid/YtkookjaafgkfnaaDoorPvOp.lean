/- One operation: what it comes to abstractly, the model's comes to. -/
import Derived.Test.YtkookjaafgkfnaaDoorPvStep
import Derived.Test.YtkookjaafgkfnaaDoorPvChk
import Derived.ChangeKeysEq
import Derived.Laws.Entries
namespace Go.Pv
set_option linter.all false
open Go.RowKit

mutual
theorem okConst_vr (W : KW) : ∀ (v : AV) (u : Value), okConst v u = true → VR W v u
  | .bool a, u, h => by cases u <;> simp [okConst] at h; subst h; exact .bool _
  | .int k n, u, h => by cases u <;> simp [okConst] at h; obtain ⟨rfl, rfl⟩ := h; exact .int _ _
  | .float k n, u, h => by cases u <;> simp [okConst] at h; obtain ⟨rfl, rfl⟩ := h; exact .float _ _
  | .str l, u, h => by
    cases u <;> simp [okConst] at h
    rename_i s
    have : s = ⟨l.toArray⟩ := by cases s; simp at h; simp [← h]
    subst this; exact .str _
  | .nilp, u, h => by
    cases u
    case pointer a => cases a <;> first | exact .nilp | simp [okConst] at h
    all_goals simp [okConst] at h
  | .nils, u, h => by
    cases u
    case slice a l c => cases a <;> cases l <;> cases c <;> first | exact .nils | simp [okConst] at h
    all_goals simp [okConst] at h
  | .niliface, u, h => by cases u <;> simp [okConst] at h; exact .niliface
  | .nilfunc, u, h => by cases u <;> simp [okConst] at h; exact .nilfunc
  | .agg cs, u, h => by
    cases u <;> simp [okConst] at h
    rename_i us
    have := VR.agg (okConsts_vr W cs us.toList h.2) (by simpa using h.1)
    simpa using this
  | .iface t v, u, h => by
    cases u <;> simp [okConst] at h
    obtain ⟨rfl, h⟩ := h
    exact .iface _ (okConst_vr W v _ h)
  | .blk _ _, u, h => by cases u <;> simp [okConst] at h
  | .elem _ _, u, h => by cases u <;> simp [okConst] at h
  | .glob _ _, u, h => by cases u <;> simp [okConst] at h
  | .list _ _ _, u, h => by cases u <;> simp [okConst] at h
  | .hs _ _ _ _, u, h => by cases u <;> simp [okConst] at h
  | .tuple _, u, h => by cases u <;> simp [okConst] at h
  | .func _ _ _, u, h => by cases u <;> simp [okConst] at h
theorem okConsts_vr (W : KW) : ∀ (l : List AV) (m : List Value), okConsts l m = true → VRs W l m
  | [], [], _ => .nil
  | a :: l, u :: m, h => by
    simp [okConsts] at h
    exact .cons (okConst_vr W a u h.1) (okConsts_vr W l m h.2)
  | [], _ :: _, h => by simp [okConsts] at h
  | _ :: _, [], h => by simp [okConsts] at h
end

section
variable {E : Env} {P : Program} {W : KW} {σ σ' : St} {w : World} {tm : List (Nat × AV)} {a : Act} {v : AV}

theorem opnd_vr (hT : TR W tm a.tmps) {x : Opnd} {y : Operand} (hok : okOpnd x y = true) (hx : x.ev tm = some v) : VR W v (a.eval y) := by
  cases x <;> cases y <;> simp [okOpnd] at hok
  · subst hok
    obtain ⟨u, hu, hr⟩ := hT _ _ hx
    simpa [Act.eval, Array.getD_eq_getD_getElem?, hu] using hr
  · simp [Opnd.ev] at hx; subst hx
    exact okConst_vr W _ _ hok
  · subst hok
    simp [Opnd.ev] at hx; subst hx
    exact .glob _ 0
  · subst hok
    simp [Opnd.ev] at hx; subst hx
    exact .func _ .nil .nil

theorem opnds_vr (hT : TR W tm a.tmps) : ∀ {xs : List Opnd} {ys : List Operand} {vs : List AV}, okOpnds xs ys = true → evs tm xs = some vs → VRs W vs (ys.map a.eval)
  | [], [], vs, _, h => by simp [evs] at h; subst h; exact .nil
  | x :: xs, y :: ys, vs, hok, h => by
    simp [okOpnds] at hok
    simp only [evs] at h
    cases hx : x.ev tm with
    | none => simp [hx] at h
    | some v0 =>
      cases hxs : evs tm xs with
      | none => simp [hx, hxs] at h
      | some vs0 =>
        simp [hx, hxs] at h; subst h
        exact .cons (opnd_vr hT hok.1 hx) (opnds_vr hT hok.2 hxs)
  | [], _ :: _, _, hok, _ => by simp [okOpnds] at hok
  | _ :: _, [], _, hok, _ => by simp [okOpnds] at hok

/-- What an operation comes to. -/
def OpOk (E : Env) (P : Program) (W : KW) (σ' : St) (w : World) (v : AV) (s : Sem Next) : Prop :=
  ∃ W' w', W.Le W' ∧ R E W' σ' w' ∧ ((∃ u, s.run P w = .ok (.value u) w' ∧ VR W' v u) ∨ (s.run P w = .ok .skip w' ∧ v = .undef))

theorem OpOk.same (hR : R E W σ w) {s : Sem Next} {u : Value} (h : s.run P w = .ok (.value u) w) (hv : VR W v u) : OpOk E P W σ w v s :=
  ⟨W, w, .refl W, hR, .inl ⟨u, h, hv⟩⟩

theorem szOf_info {t : TypeId} {n : Nat} (h : szOf P t = some n) : ∃ i, P.info? t = some i ∧ i.size = n := by
  unfold szOf at h
  cases hi : P.info? t with
  | none => simp [hi] at h
  | some i => simp [hi] at h; exact ⟨i, rfl, h⟩

theorem run_size {t : TypeId} {n : Nat} (h : szOf P t = some n) (w : World) : (sizeOf t).run P w = .ok n w := by
  obtain ⟨i, hi, rfl⟩ := szOf_info h
  simp [sizeOf, typeInfo, hi]

theorem run_agg {t : TypeId} {n : Option Nat} (h : okAgg P t n = true) (w : World) :
    (isAgg t).run P w = .ok n.isSome w ∧ ∀ k, (n = some k → szOf P t = some k) ∧ (n = none → szOf P t = some 1) := by
  unfold okAgg at h
  cases hu : P.underlying t with
  | none => simp [hu] at h
  | some d =>
    have hr := run_underlying hu w
    cases d <;> cases n <;> simp [hu] at h <;> simp [isAgg, hr, h]

/-- A pointer's cells: what is read there. -/
theorem cells_at (hR : R E W σ w) {p : AV} {u : Value} {cs : List AV} {off : Nat} (hp : VR W p u) (hc : cellsAt E σ p = some (cs, off)) :
    ∃ b o, u = .pointer (some ⟨b, o + off, none⟩) ∧ (∀ c ∈ cs, c.one = true) ∧ ∀ i v, cs[i]? = some v → ∃ x, w.cell? ⟨b, o + i, none⟩ = some x ∧ VR W v x := by
  cases hp <;> simp [cellsAt] at hc
  case blk id b off' hb =>
    cases hg : σ.get id with
    | none => simp [hg] at hc
    | some x =>
      cases x with
      | iter => simp [hg] at hc
      | cells cs' =>
        simp [hg] at hc; obtain ⟨rfl, rfl⟩ := hc
        obtain ⟨b', hb', h1, h2⟩ := hR.cells id cs' hg
        rw [hb] at hb'; injection hb' with e; subst e
        exact ⟨b, 0, by simp, h1, fun i v hv => let ⟨_, x, hx, hr⟩ := h2 i v hv; ⟨x, by simpa using hx, hr⟩⟩
  case elem cs' us b o off' h h1 hr =>
    obtain ⟨rfl, rfl⟩ := hc
    refine ⟨b, o, rfl, h1, fun i v hv => ?_⟩
    obtain ⟨x, hx, hvr⟩ := h.get i hv
    have hlt : i < us.length := by
      rcases Nat.lt_or_ge i us.length with h | h
      · exact h
      · simp [List.getElem?_eq_none h] at hx
    rw [List.getElem?_eq_getElem hlt] at hx; injection hx with hx
    exact ⟨x, hR.sealed _ _ _ (hx ▸ hr i hlt), hvr⟩
  case glob g off' =>
    cases hg : E.glob g with
    | none => simp [hg] at hc
    | some cs' =>
      simp [hg] at hc; obtain ⟨rfl, rfl⟩ := hc
      obtain ⟨h1, us, h, hr⟩ := hR.glob g cs' hg
      refine ⟨g, 0, by simp, h1, fun i v hv => ?_⟩
      obtain ⟨x, hx, hvr⟩ := h.get i hv
      have hlt : i < us.length := by
        rcases Nat.lt_or_ge i us.length with h | h
        · exact h
        · simp [List.getElem?_eq_none h] at hx
      rw [List.getElem?_eq_getElem hlt] at hx; injection hx with hx
      exact ⟨x, hR.sealed _ _ _ (hx ▸ hr i hlt), hvr⟩

theorem Addr.add_none (b o n : Nat) : (⟨b, o, none⟩ : Addr).add n = ⟨b, o + n, none⟩ := by
  unfold Addr.add; split <;> simp_all

/-- Cells that are read in a row. -/
theorem run_cells {b o : Nat} {cs : List AV} (h : ∀ i v, cs[i]? = some v → ∃ x, w.cell? ⟨b, o + i, none⟩ = some x ∧ VR W v x) :
    ∃ us, VRs W cs us ∧ (loadCells ⟨b, o, none⟩ cs.length).run P w = .ok us.toArray w := by
  have : ∃ us, VRs W cs us ∧ ∀ j (x : Value), us[j]? = some x → w.cell? ⟨b, o + j, none⟩ = some x := by
    induction cs generalizing o with
    | nil => exact ⟨[], .nil, fun j x hx => by simp at hx⟩
    | cons c cs ih =>
      obtain ⟨x, hx, hr⟩ := h 0 c rfl
      obtain ⟨us, hus, hall⟩ := ih (o := o + 1) (fun i v hv => by
        have := h (i + 1) v (by simpa using hv)
        rwa [show o + (i + 1) = o + 1 + i by omega] at this)
      refine ⟨x :: us, .cons hr hus, fun j y hy => ?_⟩
      cases j with
      | zero => simp at hy; subst hy; exact hx
      | succ j => simp at hy; have := hall j y hy; rwa [show o + (j + 1) = o + 1 + j by omega]
  obtain ⟨us, hus, hall⟩ := this
  refine ⟨us, hus, ?_⟩
  have := run_loadCells_list (P := P) (w := w) ⟨b, o, none⟩ us (fun j x hx => by rw [Addr.add_none]; exact hall j x hx)
  rw [hus.length]; exact this

theorem cut_vr {cs : List AV} {off : Nat} {n : Option Nat} (h1 : ∀ c ∈ cs, c.one = true) (hc : cut cs off n = some v)
    {b o : Nat} (h : ∀ i v, cs[i]? = some v → ∃ x, w.cell? ⟨b, o + i, none⟩ = some x ∧ VR W v x) {t : TypeId} (hok : okAgg P t n = true) :
    ∃ u, (loadVar t ⟨b, o + off, none⟩).run P w = .ok u w ∧ VR W v u := by
  obtain ⟨hag, hsz⟩ := run_agg hok w
  cases n with
  | none =>
    simp only [cut] at hc
    obtain ⟨x, hx, hr⟩ := h off v hc
    refine ⟨x, ?_, hr⟩
    simp [loadVar, hag, hx]
  | some k =>
    simp only [cut] at hc
    by_cases hle : off + k ≤ cs.length
    · rw [if_pos hle] at hc; injection hc with hc; subst hc
      have hlen : ((cs.drop off).take k).length = k := by simp; omega
      obtain ⟨us, hus, hrun⟩ := run_cells (P := P) (b := b) (o := o + off) (cs := (cs.drop off).take k) (w := w) (W := W) (fun i v hv => by
        have hi : i < k := by
          rcases Nat.lt_or_ge i k with h | h
          · exact h
          · rw [List.getElem?_eq_none (by rw [hlen]; exact h)] at hv; simp at hv
        rw [List.getElem?_take_of_lt hi, List.getElem?_drop] at hv
        have := h (off + i) v hv
        rwa [show o + (off + i) = o + off + i by omega] at this)
      rw [hlen] at hrun
      refine ⟨.agg us.toArray, ?_, .agg hus (fun c hc => h1 c (List.mem_of_mem_drop (List.mem_of_mem_take hc)))⟩
      simp [loadVar, hag, run_size ((hsz k).1 rfl), hrun]
    · rw [if_neg hle] at hc; simp at hc

theorem load_ok (hR : R E W σ w) (hT : TR W tm a.tmps) {n : Option Nat} {x : Opnd} {t : TypeId} {y : Operand} {ty : TypeId} {pos : String} {af : Array Edge} {g : Option (Nat × Bool)} {d : Option Tmp}
    (hok : okOp P (.load n x) (.load t y) = true) (hev : evOp E tm σ (.load n x) = some (v, σ')) :
    OpOk E P W σ' w v (execOp a.eval ⟨d, .load t y, ty, pos, af, g⟩) := by
  simp [okOp] at hok
  simp only [evOp] at hev
  cases hx : x.ev tm with
  | none => simp [hx] at hev
  | some p =>
    simp only [hx, loadA] at hev
    have hp := opnd_vr hT hok.2 hx
    cases hc : cellsAt E σ p with
    | none => simp [hc] at hev
    | some q =>
      obtain ⟨cs, off⟩ := q
      simp only [hc] at hev
      cases hcut : cut cs off n with
      | none => simp [hcut] at hev
      | some v' =>
        simp [hcut] at hev
        obtain ⟨rfl, rfl⟩ := hev
        obtain ⟨b, o, hu, h1, hall⟩ := cells_at hR hp hc
        obtain ⟨u, hrun, hvr⟩ := cut_vr h1 hcut hall hok.1
        exact .same hR (u := u) (by simp [execOp, Instr.loadAt, hu, Instr.sureAddr, hrun]) hvr

end
end Go.Pv
