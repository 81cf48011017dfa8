import Derived.Test.YtkookjaafgkfnaaDoorPvOp
namespace Go.Pv
set_option linter.all false
open Go.RowKit

section
variable {E : Env} {P : Program} {W : KW} {σ σ' : St} {w : World} {tm : List (Nat × AV)} {a : Act} {v : AV} {ty : TypeId} {pos : String} {af : Array Edge} {g : Option (Nat × Bool)} {d : Option Tmp}

theorem mov_ok (hR : R E W σ w) (hT : TR W tm a.tmps) {x : Opnd} {op : Op}
    (hok : okOp P (.mov x) op = true) (hev : evOp E tm σ (.mov x) = some (v, σ')) :
    OpOk E P W σ' w v (execOp a.eval ⟨d, op, ty, pos, af, g⟩) := by
  simp only [okOp] at hok
  simp only [evOp] at hev
  cases hx : x.ev tm with
  | none => simp [hx] at hev
  | some p =>
    simp [hx] at hev; obtain ⟨rfl, rfl⟩ := hev
    cases op <;> simp [okMove] at hok
    · exact .same hR (by simp [execOp]) (opnd_vr hT hok hx)
    · exact .same hR (by simp [execOp]) (opnd_vr hT hok hx)

theorem pick_ok (hR : R E W σ w) (hT : TR W tm a.tmps) {c x y : Opnd} {c' x' y' : Operand}
    (hok : okOp P (.pick c x y) (.pick c' x' y') = true) (hev : evOp E tm σ (.pick c x y) = some (v, σ')) :
    OpOk E P W σ' w v (execOp a.eval ⟨d, .pick c' x' y', ty, pos, af, g⟩) := by
  simp [okOp] at hok
  simp only [evOp] at hev
  obtain ⟨⟨h1, h2⟩, h3⟩ := hok
  cases hc : c.ev tm with
  | none => simp [hc] at hev
  | some cv =>
    cases cv <;> simp [hc] at hev
    rename_i b
    have hb := opnd_vr hT h1 hc
    generalize hcu : a.eval c' = cu at hb
    cases hb
    cases b
    · simp at hev; obtain ⟨q, hq, rfl, rfl⟩ := hev
      exact .same hR (u := a.eval y') (by simp [execOp, hcu, asBool]) (opnd_vr hT h3 hq)
    · simp at hev; obtain ⟨q, hq, rfl, rfl⟩ := hev
      exact .same hR (u := a.eval x') (by simp [execOp, hcu, asBool]) (opnd_vr hT h2 hq)

theorem zero_info {t : TypeId} {zero : List AV} (h : okZero P t zero = true) : ∃ i z, P.info? t = some i ∧ i.zero = some z ∧ (∀ c ∈ zero, c.one = true) ∧ okConsts zero z.cells.toList = true := by
  unfold okZero at h
  cases hi : P.info? t with
  | none => simp [hi] at h
  | some i =>
    cases hz : i.zero with
    | none => simp [hi, hz] at h
    | some z => simp [hi, hz] at h; exact ⟨i, z, rfl, hz, h.1, h.2⟩

theorem run_zero {t : TypeId} {zero : List AV} (h : okZero P t zero = true) : ∃ z, (∀ w, (zeroValue t).run P w = .ok z w) ∧ (∀ c ∈ zero, c.one = true) ∧ ∀ W, VRs W zero z.cells.toList := by
  obtain ⟨i, z, hi, hz, h1, h2⟩ := zero_info h
  exact ⟨z, fun w => by simp [zeroValue, typeInfo, hi, hz], h1, fun W => okConsts_vr W _ _ h2⟩

theorem new_ok (hR : R E W σ w) {cs : List AV} {ca : Array Value} {T : TypeId} (h1 : ∀ c ∈ cs, c.one = true) (hv : VRs W cs ca.toList) {s : Sem Next}
    (hs : s.run P w = .ok (.value (.pointer (some ⟨w.heap.size, 0, none⟩))) (w.alloc (.cells ca T))) : OpOk E P W (σ.new (.cells cs)) w (.blk σ.nid 0) s := by
  refine ⟨_, _, hR.addBlk_le w.heap.size, hR.newCells (T := T) (ca := ca) h1 (fun i v hi => ?_), .inl ⟨_, hs, .blk 0 ?_⟩⟩
  · obtain ⟨u, hu, hr⟩ := hv.get i hi
    exact ⟨u, by simpa using hu, hr⟩
  · show (if σ.nid = σ.nid then _ else _) = _; rw [if_pos rfl]

theorem alloc_ok (hR : R E W σ w) {zero : List AV} {t : TypeId}
    (hok : okOp P (.alloc zero) (.alloc t) = true) (hev : evOp E tm σ (.alloc zero) = some (v, σ')) :
    OpOk E P W σ' w v (execOp a.eval ⟨d, .alloc t, ty, pos, af, g⟩) := by
  simp only [okOp] at hok
  simp only [evOp] at hev
  injection hev with hev; injection hev with e1 e2; subst e1; subst e2
  obtain ⟨z, hz, h1, h2⟩ := run_zero hok
  exact new_ok hR (T := t) (ca := z.cells) h1 (h2 W) (by simp [execOp, Instr.alloc, hz, newVar, newRow])

theorem box_ok (hR : R E W σ w) (hT : TR W tm a.tmps) {x : Opnd} {t : TypeId} {y : Operand}
    (hok : okOp P (.box x) (.box t y) = true) (hev : evOp E tm σ (.box x) = some (v, σ')) :
    OpOk E P W σ' w v (execOp a.eval ⟨d, .box t y, ty, pos, af, g⟩) := by
  simp only [okOp] at hok
  simp only [evOp] at hev
  cases hx : x.ev tm with
  | none => simp [hx] at hev
  | some p =>
    cases hc : p.cells with
    | none => simp [hx, hc] at hev
    | some cs =>
      simp [hx, hc] at hev; obtain ⟨rfl, rfl⟩ := hev
      obtain ⟨h1, h2⟩ := (opnd_vr hT hok hx).cells hc
      exact new_ok hR (T := t) (ca := (a.eval y).cells) h2 h1 (by simp [execOp, Instr.box, newVar, newRow])

/-! ### Literals -/

theorem zip_set (off : Nat) : ∀ (vs : List Value) (k : Nat) (cs : Array Value), off + k + vs.length ≤ cs.size →
    ((vs.zipIdx k).foldl (fun cs (x : Value × Nat) => cs.setIfInBounds (off + x.2) x.1) cs).toList = cs.toList.take (off + k) ++ vs ++ cs.toList.drop (off + k + vs.length)
  | [], k, cs, _ => by simp
  | v :: vs, k, cs, h => by
    simp only [List.length_cons] at h
    simp only [List.zipIdx_cons, List.foldl_cons]
    rw [zip_set off vs (k + 1) _ (by simp; omega)]
    apply List.ext_getElem?
    intro i
    simp only [Array.toList_setIfInBounds, List.append_assoc, List.length_cons, List.cons_append, List.getElem?_append, List.length_take, List.length_set, Array.length_toList, List.getElem?_take, List.getElem?_drop, List.getElem?_set, List.getElem?_cons]
    by_cases h1 : i < off + k
    · have e1 : i < min (off + (k + 1)) cs.size := by omega
      have e2 : i < min (off + k) cs.size := by omega
      have e3 : i < off + (k + 1) := by omega
      have e4 : ¬ (off + k = i) := by omega
      simp [e1, e2, e3, e4, h1]
    · by_cases h2 : i = off + k
      · subst h2
        have e1 : off + k < min (off + (k + 1)) cs.size := by omega
        have e2 : ¬ (off + k < min (off + k) cs.size) := by omega
        have e3 : off + k < off + (k + 1) := by omega
        have e4 : off + k - min (off + k) cs.size = 0 := by omega
        have e5 : off + k < cs.size := by omega
        simp [e1, e2, e3, e4, e5]
      · have e1 : ¬ (i < min (off + (k + 1)) cs.size) := by omega
        have e2 : ¬ (i < min (off + k) cs.size) := by omega
        have e3 : ¬ (i - min (off + k) cs.size = 0) := by omega
        have e4 : i - min (off + k) cs.size - 1 = i - min (off + (k + 1)) cs.size := by omega
        have e5 : i - min (off + k) cs.size - (vs.length + 1) = i - min (off + (k + 1)) cs.size - vs.length := by omega
        have e6 : ¬ (off + k = off + (k + 1) + vs.length + (i - min (off + (k + 1)) cs.size - vs.length)) := by omega
        have e7 : off + k + (vs.length + 1) = off + (k + 1) + vs.length := by omega
        have e8 : i - min (off + k) cs.size < vs.length + 1 ↔ i - min (off + (k + 1)) cs.size < vs.length := by omega
        simp [e1, e2, e3, e4, e5, e6, e7, e8]

theorem parts_fill (hT : TR W tm a.tmps) {place : Nat → Option (Nat × Nat)} : ∀ {parts : List (Nat × Nat × Opnd)} {ps : List (Nat × Operand)} {qs : List (Nat × Nat × AV)} {zero cs : List AV} {ca : Array Value},
    okParts place parts ps = true → evParts tm parts = some qs → fillA zero qs = some cs → VRs W zero ca.toList → (∀ c ∈ zero, c.one = true) →
    ∃ ca', Instr.fill place ca (ps.map fun x => (x.1, a.eval x.2)) = some ca' ∧ VRs W cs ca'.toList ∧ (∀ c ∈ cs, c.one = true)
  | [], [], qs, zero, cs, ca, _, he, hf, hv, h1 => by
    simp [evParts] at he; subst he
    simp [fillA] at hf; subst hf
    exact ⟨ca, rfl, hv, h1⟩
  | (o, n, x) :: parts, (i, y) :: ps, qs, zero, cs, ca, hok, he, hf, hv, h1 => by
    simp [okParts] at hok
    obtain ⟨⟨hp, ho⟩, hok⟩ := hok
    simp only [evParts] at he
    cases hx : x.ev tm with
    | none => simp [hx] at he
    | some q =>
      cases hps : evParts tm parts with
      | none => simp [hx, hps] at he
      | some qs' =>
        simp [hx, hps] at he; subst he
        simp only [fillA] at hf
        cases hc : q.cells with
        | none => simp [hc] at hf
        | some vc =>
          simp only [hc] at hf
          by_cases hcond : vc.length = n ∧ o + n ≤ zero.length
          · rw [if_pos hcond] at hf
            obtain ⟨e1, e2⟩ := hcond
            obtain ⟨hvc, hone⟩ := (opnd_vr hT ho hx).cells hc
            have hlv := hvc.length
            have hlz := hv.length
            have hsz : (a.eval y).cells.size = n := by rw [← e1, hlv]; simp
            simp only [Array.length_toList] at hlz
            have hset := zip_set o (a.eval y).cells.toList 0 ca (by simp only [Nat.add_zero, Array.length_toList]; omega)
            simp only [Nat.add_zero, Array.length_toList] at hset
            obtain ⟨ca', h2, h3, h4⟩ := parts_fill hT (ca := (a.eval y).cells.zipIdx.foldl (fun cs x => cs.setIfInBounds (o + x.2) x.1) ca) hok hps hf (by
              rw [← Array.foldl_toList, Array.toList_zipIdx, hset]
              rw [hsz]
              exact ((hv.take o).append hvc).append (hv.drop (o + n))) (by
              intro c hc'
              simp only [List.append_assoc, List.mem_append] at hc'
              rcases hc' with hc' | hc' | hc'
              · exact h1 c (List.mem_of_mem_take hc')
              · exact hone c hc'
              · exact h1 c (List.mem_of_mem_drop hc'))
            refine ⟨ca', ?_, h3, h4⟩
            simp only [List.map_cons, Instr.fill, hp]
            rw [if_neg (by simp [hsz]; omega)]
            exact h2
          · rw [if_neg hcond] at hf; simp at hf
  | [], _ :: _, _, _, _, _, hok, _, _, _, _ => by simp [okParts] at hok
  | _ :: _, [], _, _, _, _, hok, _, _, _, _ => by simp [okParts] at hok

end
end Go.Pv
