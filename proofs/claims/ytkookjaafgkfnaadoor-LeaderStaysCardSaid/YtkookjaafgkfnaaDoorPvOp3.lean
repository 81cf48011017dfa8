import Derived.Test.YtkookjaafgkfnaaDoorPvOp2
namespace Go.Pv
set_option linter.all false
open Go.RowKit

section
variable {E : Env} {P : Program} {W : KW} {σ σ' : St} {w : World} {tm : List (Nat × AV)} {a : Act} {v : AV} {ty : TypeId} {pos : String} {af : Array Edge} {g : Option (Nat × Bool)} {d : Option Tmp}

theorem mapM_places {fs : Array Field} (h : ∀ f ∈ fs.toList, (szOf P f.type).isSome = true) (w : World) :
    ∃ ps : Array (Nat × Nat), (fs.mapM fun (f : Field) => (Prod.mk f.offset <$> sizeOf f.type : Sem (Nat × Nat))).run P w = .ok ps w ∧ ∀ (i : Nat), ps[i]? = placeOf P fs i := by
  have key : ∀ (l : List Field), (∀ f ∈ l, (szOf P f.type).isSome = true) →
      ∃ ps : List (Nat × Nat), (l.mapM fun (f : Field) => (Prod.mk f.offset <$> sizeOf f.type : Sem (Nat × Nat))).run P w = .ok ps w ∧ ∀ (i : Nat), ps[i]? = (match (l[i]? : Option Field) with | some f => (match szOf P f.type with | some n => some (f.offset, n) | none => none) | none => none) := by
    intro l
    induction l with
    | nil => intro _; exact ⟨[], by simp, fun i => by simp⟩
    | cons f l ih =>
      intro hall
      obtain ⟨ps, h1, h2⟩ := ih (fun x hx => hall x (List.mem_cons_of_mem _ hx))
      obtain ⟨n, hn⟩ := Option.isSome_iff_exists.1 (hall f (by simp))
      refine ⟨(f.offset, n) :: ps, ?_, fun i => ?_⟩
      · simp only [List.mapM_cons, Sem.run_bind, Sem.run_map, run_size hn, Result.andThen_ok, Sem.run_pure, h1]
      · cases i with
        | zero => simp [hn]
        | succ i => simpa using h2 i
  obtain ⟨ps, h1, h2⟩ := key fs.toList h
  refine ⟨ps.toArray, ?_, fun i => ?_⟩
  · rw [Array.mapM_eq_mapM_toList]
    simp only [Sem.run_map, h1, Result.andThen_ok]
  · have := h2 i
    rw [List.getElem?_toArray, this]; unfold placeOf; rw [Array.getElem?_toList]; cases fs[i]? <;> rfl

theorem build_ok (hR : R E W σ w) (hT : TR W tm a.tmps) {zero : List AV} {parts : List (Nat × Nat × Opnd)} {t : TypeId} {ps : Array (Nat × Operand)}
    (hok : okOp P (.build zero parts) (.build t ps) = true) (hev : evOp E tm σ (.build zero parts) = some (v, σ')) :
    OpOk E P W σ' w v (execOp a.eval ⟨d, .build t ps, ty, pos, af, g⟩) := by
  simp only [okOp, Bool.and_eq_true] at hok
  obtain ⟨hz, hok⟩ := hok
  simp only [evOp] at hev
  cases hps : evParts tm parts with
  | none => simp [hps] at hev
  | some qs =>
    simp only [hps] at hev
    cases hf : fillA zero qs with
    | none => simp [hf] at hev
    | some cs =>
      simp [hf] at hev; obtain ⟨rfl, rfl⟩ := hev
      obtain ⟨z, hzr, h1, h2⟩ := run_zero hz
      have hmap : (ps.map fun (x : Nat × Operand) => (x.1, a.eval x.2)).toList = ps.toList.map fun x => (x.1, a.eval x.2) := by simp
      cases hu : P.underlying t with
      | none => simp [hu] at hok
      | some de =>
        cases de <;> simp [hu] at hok
        case array n e =>
          cases hs : szOf P e with
          | none => simp [hs] at hok
          | some sz =>
            simp only [hs] at hok
            obtain ⟨ca', h3, h4, h5⟩ := parts_fill hT (ca := z.cells) hok hps hf (h2 W) h1
            refine .same hR (u := .agg ca') ?_ (by simpa using VR.agg h4 h5)
            simp [execOp, Instr.build, hzr, run_underlying hu, run_size hs, hmap, h3]
        case struct fs =>
          obtain ⟨hall, hok⟩ := hok
          obtain ⟨pl, hpl, hpl2⟩ := mapM_places (P := P) (fs := fs) (fun f hf => by obtain ⟨i, hi, rfl⟩ := List.mem_iff_getElem.1 hf; simpa using hall i (by simpa using hi)) w
          obtain ⟨ca', h3, h4, h5⟩ := parts_fill hT (ca := z.cells) hok hps hf (h2 W) h1
          refine .same hR (u := .agg ca') ?_ (by simpa using VR.agg h4 h5)
          have hpl3 : (fun i => pl[i]?) = placeOf P fs := funext hpl2
          simp [execOp, Instr.build, hzr, run_underlying hu, hpl, hmap, hpl3, h3]

theorem store_ok (hR : R E W σ w) (hT : TR W tm a.tmps) {n : Nat} {p x : Opnd} {t : TypeId} {p' x' : Operand}
    (hok : okOp P (.store n p x) (.store t p' x') = true) (hev : evOp E tm σ (.store n p x) = some (v, σ')) :
    OpOk E P W σ' w v (execOp a.eval ⟨d, .store t p' x', ty, pos, af, g⟩) := by
  simp [okOp] at hok
  obtain ⟨⟨hs, hp⟩, hx⟩ := hok
  simp only [evOp] at hev
  cases hpe : p.ev tm with
  | none => simp [hpe] at hev
  | some pv =>
    cases hxe : x.ev tm with
    | none => simp [hpe, hxe] at hev
    | some xv =>
      simp only [hpe, hxe] at hev
      have hpr := opnd_vr hT hp hpe
      have hxr := opnd_vr hT hx hxe
      cases pv <;> simp [storeA] at hev
      rename_i id off
      cases hg : σ.get id with
      | none => simp [hg] at hev
      | some bl =>
        cases bl with
        | iter => simp [hg] at hev
        | cells cs =>
          cases hc : xv.cells with
          | none => simp [hg, hc] at hev
          | some vc =>
            simp [hg, hc] at hev
            obtain ⟨⟨⟨_, hn, hfit⟩, e2⟩, e1⟩ := hev
            subst e1; subst e2
            obtain ⟨hv, hone⟩ := hxr.cells hc
            generalize hpu : a.eval p' = pu at hpr
            cases hpr
            rename_i b hb
            have hlen := hv.length
            have hw := hR.write (off := off) hg hb hv hone (by omega)
            rw [hn] at hw
            simp only [List.append_assoc] at hw
            refine ⟨W, _, .refl W, hw, .inr ⟨?_, rfl⟩⟩
            obtain ⟨b', hb', _, k2⟩ := hR.cells id cs hg
            have : b' = b := by rw [hb] at hb'; injection hb' with e; exact e.symm
            subst this
            have hsc := run_storeCells_cells (P := P) b' off (a.eval x').cells.toList 0 w (fun j hj => by
                obtain ⟨_, u, hu, _⟩ := k2 (off + 0 + j) cs[off + 0 + j] (List.getElem?_eq_getElem (by omega))
                rw [hu]; rfl) (fun j hj => (k2 (off + 0 + j) cs[off + 0 + j] (List.getElem?_eq_getElem (by omega))).1)
              (fun y hy => by
                obtain ⟨i, hi, rfl⟩ := List.mem_iff_getElem.1 hy
                obtain ⟨q, hq, hr⟩ := hv.get' i (List.getElem?_eq_getElem hi)
                exact hr.one (hone q (List.mem_of_getElem? hq)))
            have hsz : (a.eval x').cells.size = n := by rw [← hn, hlen]; simp
            simp [execOp, Instr.storeAt, hpu, Instr.sureAddr, storeVar, run_size hs, hsz]
            simp at hsc
            rw [hsc]; rfl

theorem nilchk_ok (hR : R E W σ w) (hT : TR W tm a.tmps) {x : Opnd} {y : Operand}
    (hok : okOp P (.nilchk x) (.nilCheck y) = true) (hev : evOp E tm σ (.nilchk x) = some (v, σ')) :
    OpOk E P W σ' w v (execOp a.eval ⟨d, .nilCheck y, ty, pos, af, g⟩) := by
  simp only [okOp] at hok
  simp only [evOp] at hev
  cases hx : x.ev tm with
  | none => simp [hx] at hev
  | some p =>
    have hp := opnd_vr hT hok hx
    simp only [hx] at hev
    generalize hyu : a.eval y = yu at hp
    cases p <;> simp [nilchkA] at hev
    case func fn f c =>
      cases fn <;> simp [nilchkA] at hev
      obtain ⟨rfl, rfl⟩ := hev
      cases hp
      rename_i us vs h1 h2
      exact .same hR (u := .func _ us.toArray vs.toArray) (by simp [execOp, hyu]) (.func _ h1 h2)
    all_goals
      obtain ⟨rfl, rfl⟩ := hev
      refine .same hR (u := yu) ?_ hp
      cases hp <;> simp [execOp, hyu]

end
end Go.Pv
