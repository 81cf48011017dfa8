import Derived.Test.YtkookjaafgkfnaaDoorPvOp8
namespace Go.Pv
set_option linter.all false
open Go.RowKit

section
variable {E : Env} {P : Program} {W : KW} {σ σ' : St} {w : World} {tm : List (Nat × AV)} {a : Act} {v : AV} {ty : TypeId} {pos : String} {af : Array Edge} {g : Option (Nat × Bool)} {d : Option Tmp}

theorem flat_get {α : Type} (l : List α) : ∀ (k i : Nat), i < k * l.length → (List.replicate k l).flatten[i]? = l[i % l.length]?
  | 0, i, h => by simp at h
  | k + 1, i, h => by
    rw [List.replicate_succ, List.flatten_cons]
    by_cases hi : i < l.length
    · rw [List.getElem?_append_left hi, Nat.mod_eq_of_lt hi]
    · rw [List.getElem?_append_right (by omega), flat_get l k (i - l.length) (by rw [Nat.add_mul, Nat.one_mul] at h; omega)]
      congr 1
      exact (Nat.mod_eq_sub_mod (by omega)).symm

theorem flat_len {α : Type} (l : List α) (k : Nat) : (List.replicate k l).flatten.length = k * l.length := by simp

/-- A row of zeros. -/
theorem zero_row {z : Array Value} {sz : Nat} (hz : z.size = sz) (k : Nat) :
    ((Array.range (k * sz)).map fun i => z[i % z.size]!).toList = (List.replicate k z.toList).flatten := by
  apply List.ext_getElem?
  intro i
  by_cases hi : i < k * sz
  · have hlen : z.toList.length = sz := by simpa using hz
    rw [flat_get z.toList k i (by rw [hlen]; exact hi), hlen]
    have hpos : 0 < sz := by
      rcases Nat.eq_zero_or_pos sz with h | h
      · subst h; simp at hi
      · exact h
    have hm : i % sz < z.size := by rw [hz]; exact Nat.mod_lt _ hpos
    have hm' : i % sz < z.toList.length := by rw [hlen]; exact Nat.mod_lt _ hpos
    rw [List.getElem?_eq_getElem hm']
    simp [hi, hz]
    exact getElem!_pos z (i % sz) hm
  · rw [List.getElem?_eq_none (by simp; omega), List.getElem?_eq_none (by rw [flat_len]; simp [hz]; omega)]

theorem VRs.flat {zero : List AV} {us : List Value} (h : VRs W zero us) : ∀ k, VRs W (List.replicate k zero).flatten (List.replicate k us).flatten
  | 0 => .nil
  | k + 1 => by rw [List.replicate_succ, List.flatten_cons, List.replicate_succ, List.flatten_cons]; exact h.append (VRs.flat h k)

theorem flat_one {zero : List AV} (h : ∀ c ∈ zero, c.one = true) (k : Nat) : ∀ c ∈ (List.replicate k zero).flatten, c.one = true := by
  intro c hc
  simp only [List.mem_flatten, List.mem_replicate] at hc
  obtain ⟨l, ⟨_, rfl⟩, hc⟩ := hc
  exact h c hc

theorem VRs.rowGet {cs : List AV} {us : List Value} {ca : Array Value} (h : VRs W cs us) (hca : ∀ (i : Nat) (u : Value), us[i]? = some u → ca[i]? = some u) :
    ∀ (i : Nat) (v : AV), cs[i]? = some v → ∃ u, ca[i]? = some u ∧ VR W v u := by
  intro i v hi
  obtain ⟨u, hu, hr⟩ := h.get i hi
  exact ⟨u, hca i u hu, hr⟩

/-- A new row for ever, of a slice that begins there. -/
theorem newRow_ok (hR : R E W σ w) {cs : List AV} {us : List Value} {ca : Array Value} {T : TypeId} {sz len : Nat} (h : VRs W cs us) (h1 : ∀ c ∈ cs, c.one = true)
    (hca : ∀ (i : Nat) (u : Value), us[i]? = some u → ca[i]? = some u) (hs : 1 ≤ sz) (hl : cs.length = len * sz) :
    W.Le (W.addRow w.heap.size us ca.size) ∧ R E (W.addRow w.heap.size us ca.size) σ (w.alloc (.cells ca T)) ∧
    ∀ (tok : Tok) (cap : Nat), len ≤ cap → (tok = .no ∨ (tok = .exact ∧ cap = len) ∨ (tok = .own ∧ cap = len ∧ ca.size ≤ us.length)) → VR (W.addRow w.heap.size us ca.size) (.list tok sz cs) (.slice (some ⟨w.heap.size, 0, none⟩) len cap) := by
  have hle := hR.addRow_le us ca.size
  refine ⟨hle, hR.newRow (T := T) (fr := (0, 0)) hca, fun tok cap hcap htok => ?_⟩
  refine .list (h.mono hle) h1 (fun i hi => ?_) hs hl hcap ?_
  · show (if w.heap.size = w.heap.size then us[0 + i]? else _) = _
    rw [if_pos rfl, Nat.zero_add, List.getElem?_eq_getElem hi]
  · rcases htok with rfl | ⟨rfl, he⟩ | ⟨rfl, he, hu⟩
    · trivial
    · exact he
    · refine ⟨he, hR.below.size, ca.size, ?_, ?_, fun i hi => ?_⟩
      · show (if w.heap.size = w.heap.size then some ca.size else _) = _; rw [if_pos rfl]
      · have := h.length
        have hle : us.length ≤ ca.size := by
          rcases Nat.lt_or_ge ca.size us.length with hlt | hge
          · have := hca ca.size us[ca.size] (List.getElem?_eq_getElem hlt)
            simp at this
          · exact hge
        omega
      · show (if w.heap.size = w.heap.size then us[i]? else _).isSome = true
        rw [if_pos rfl]; simp; omega

/-- A new row whose room behind is held under a new token. -/
theorem newRowTok_ok (hR : R E W σ w) {cs : List AV} {us : List Value} {ca : Array Value} {T : TypeId} {sz len cap : Nat} (h : VRs W cs us) (h1 : ∀ c ∈ cs, c.one = true)
    (hca : ∀ (i : Nat) (u : Value), us[i]? = some u → ca[i]? = some u) (hs : 1 ≤ sz) (hl : cs.length = len * sz) (hcap : len ≤ cap) (hsz : cap * sz ≤ ca.size) :
    ∃ W', W.Le W' ∧ R E W' σ.tok (w.alloc (.cells ca T)) ∧ VR W' (.list (.tk σ.nt) sz cs) (.slice (some ⟨w.heap.size, 0, none⟩) len cap) := by
  obtain ⟨hle, hR1, hv⟩ := newRow_ok (T := T) hR h h1 hca hs hl
  have hlen := h.length
  have hle2 := hR1.addTok_le w.heap.size cs.length
  have hsize : (W.addRow w.heap.size us ca.size).size w.heap.size = some ca.size := by
    show (if w.heap.size = w.heap.size then _ else _) = _; rw [if_pos rfl]
  refine ⟨_, hle.trans hle2, hR1.newTok w.heap.size cs.length hR.below.size (by simp) (fun id => hR.blkOf_ne id) (fun t p _ => hR.tok_ne t p) ?_, ?_⟩
  · intro n hn i hi hin
    rw [hsize] at hn; injection hn with hn; subst hn
    refine ⟨?_, by simp⟩
    show (if w.heap.size = w.heap.size then us[i]? else _) = none
    rw [if_pos rfl]; exact List.getElem?_eq_none (by omega)
  · refine .list ((h.mono hle).mono hle2) h1 (fun i hi => hle2.sealed _ _ _ ?_) hs hl hcap ⟨(w.heap.size, cs.length), ?_, .inr ⟨by simp, ca.size, hsize, ?_⟩⟩
    · show (if w.heap.size = w.heap.size then us[0 + i]? else _) = _
      rw [if_pos rfl, Nat.zero_add, List.getElem?_eq_getElem hi]
    · show (if σ.nt = σ.nt then some (w.heap.size, cs.length) else _) = _
      rw [if_pos rfl]
    · rw [hl, Nat.sub_mul]
      have := Nat.mul_le_mul_right sz hcap
      omega

theorem wrap64_id {n : Int} (h0 : 0 ≤ n) (h1 : n ≤ 2 ^ 60) : IntKind.i64.wrap n = n := by
  unfold IntKind.wrap
  simp only [IntKind.bits, IntKind.signed]
  have e1 : (2 ^ 64 : Int) = 18446744073709551616 := by decide
  have e2 : (2 ^ (64 - 1) : Int) = 9223372036854775808 := by decide
  have e3 : (2 ^ 60 : Int) = 1152921504606846976 := by decide
  rw [e3] at h1
  simp only [e1, e2]
  have hm : n % 18446744073709551616 = n := Int.emod_eq_of_lt h0 (by omega)
  rw [hm, if_neg]
  simp; omega

theorem mkslice_ok (hR : R E W σ w) (hT : TR W tm a.tmps) {row : Bool} {bytes sz : Nat} {zero : List AV} {l c : Opnd} {t : TypeId} {l' c' : Operand}
    (hok : okOp P (.mkslice row bytes sz zero l c) (.makeSlice t l' c') = true) (hev : evOp E tm σ (.mkslice row bytes sz zero l c) = some (v, σ')) :
    OpOk E P W σ' w v (execOp a.eval ⟨d, .makeSlice t l' c', ty, pos, af, g⟩) := by
  simp only [okOp, Bool.and_eq_true] at hok
  obtain ⟨⟨hl, hc⟩, ht⟩ := hok
  simp only [evOp] at hev
  cases hle : l.ev tm with
  | none => simp [hle] at hev
  | some lv =>
    cases hce : c.ev tm with
    | none => simp [hle, hce] at hev
    | some cv =>
      simp only [hle, hce] at hev
      have hlr := opnd_vr hT hl hle
      have hcr := opnd_vr hT hc hce
      generalize hlu : a.eval l' = lu at hlr
      generalize hcu : a.eval c' = cu at hcr
      cases lv <;> cases cv <;> simp only [mksliceA, reduceCtorEq] at hev
      rename_i k1 ln k2 cn
      cases hlr; cases hcr
      by_cases hcond : 0 ≤ ln ∧ ln ≤ cn ∧ cn * bytes ≤ (room : Int) ∧ cn ≤ (room : Int) ∧ zero.length = sz ∧ sz ≠ 0
      · rw [if_pos hcond] at hev
        obtain ⟨p1, p2, p3, p4, p5, p6⟩ := hcond
        cases hut : P.underlying t with
        | none => simp [hut] at ht
        | some dt =>
          cases dt <;> simp [hut] at ht
          rename_i e
          obtain ⟨⟨⟨hinfo, hz⟩, hzl⟩, hsz1⟩ := ht
          cases hie : P.info? e with
          | none => simp [hie] at hinfo
          | some i =>
            simp [hie] at hinfo
            obtain ⟨hb, hs⟩ := hinfo
            obtain ⟨z, hzr, h1, h2⟩ := run_zero hz
            have hzs : z.cells.size = sz := by have := (h2 W).length; simp at this; omega
            have hroom : (room : Int) = 1099511627776 := by unfold room; decide
            have w1 : IntKind.i64.wrap ln = ln := wrap64_id p1 (by have : (2 ^ 60 : Int) = 1152921504606846976 := by decide
                                                                   omega)
            have w2 : IntKind.i64.wrap cn = cn := wrap64_id (by omega) (by have : (2 ^ 60 : Int) = 1152921504606846976 := by decide
                                                                           omega)
            have hbig : ¬ ((281474976710656 : Int) < (bytes : Int) * cn) := by
              rw [Int.mul_comm]; omega
            have hr0 : ∀ (f : Nat → Value), (Array.range 0).map f = #[] := by intro f; simp
            have hrun : (execOp a.eval ⟨d, .makeSlice t l' c', ty, pos, af, g⟩).run P w =
                .ok (.value (.slice (some ⟨w.heap.size, 0, none⟩) ln.toNat cn.toNat)) (w.alloc (.cells ((Array.range (cn.toNat * sz)).map fun i => z.cells[i % z.cells.size]!) e)) := by
              have q1 : ¬ cn < 0 := by omega
              have q2 : ¬ ln < 0 := by omega
              have q3 : ¬ cn < ln := by omega
              by_cases hn0 : cn.toNat * sz = 0
              · have hrow : ((Array.range (cn.toNat * sz)).map fun i => z.cells[i % z.cells.size]!) = #[] := by rw [hn0]; simp
                rw [hrow]
                have hc0 : cn.toNat = 0 := by
                  rcases Nat.mul_eq_zero.1 hn0 with h | h
                  · exact h
                  · omega
                simp [execOp, Instr.makeSlice, run_underlying hut, hlu, hcu, asInt, asIntOf, typeInfo, hie, sizeOf, hb, hs, w1, w2, q1, q2, q3, hbig, hc0, newRow, hr0]
              · have hc0 : ¬ (cn.toNat = 0 ∨ sz = 0) := fun h => hn0 (Nat.mul_eq_zero.2 h)
                simp [execOp, Instr.makeSlice, run_underlying hut, hlu, hcu, asInt, asIntOf, typeInfo, hie, sizeOf, hb, hs, w1, w2, q1, q2, q3, hbig, hc0, newRow, hzr]
                intro h; exact absurd h hn0
            have hfull := zero_row hzs cn.toNat
            have hget : ∀ (k : Nat), k ≤ cn.toNat → ∀ (i : Nat) (u : Value), (List.replicate k z.cells.toList).flatten[i]? = some u → ((Array.range (cn.toNat * sz)).map fun i => z.cells[i % z.cells.size]!)[i]? = some u := by
              intro k hk i u hu
              rw [← Array.getElem?_toList, hfull]
              have hi : i < k * z.cells.toList.length := by
                rcases Nat.lt_or_ge i (k * z.cells.toList.length) with h | h
                · exact h
                · rw [List.getElem?_eq_none (by rw [flat_len]; exact h)] at hu; simp at hu
              have hi2 : i < cn.toNat * z.cells.toList.length := Nat.lt_of_lt_of_le hi (Nat.mul_le_mul_right _ hk)
              rw [flat_get _ _ _ hi] at hu
              rw [flat_get _ _ _ hi2]; exact hu
            cases row with
            | true =>
              simp only [if_true, Option.some.injEq, Prod.mk.injEq] at hev
              obtain ⟨rfl, rfl⟩ := hev
              have hvr := (h2 W).flat cn.toNat
              refine ⟨_, _, hR.addBlk_le w.heap.size, hR.newCells (T := e) (ca := (Array.range (cn.toNat * sz)).map fun i => z.cells[i % z.cells.size]!) (flat_one h1 _) (hvr.rowGet (hget _ (Nat.le_refl _))), .inl ⟨_, hrun, .hs _ _ ?_ (by omega) (fun c hc => by injection hc)⟩⟩
              show (if σ.nid = σ.nid then _ else _) = _; rw [if_pos rfl]
            | false =>
              simp only [Bool.false_eq_true, if_false] at hev
              by_cases hlc : ln = cn
              · rw [if_pos hlc] at hev
                simp only [Option.some.injEq, Prod.mk.injEq] at hev
                obtain ⟨rfl, rfl⟩ := hev
                subst hlc
                obtain ⟨k1, k2, k3⟩ := newRow_ok (T := e) (sz := sz) (len := ln.toNat) hR ((h2 W).flat ln.toNat) (flat_one h1 _) (hget _ (Nat.le_refl _)) (by omega) (by rw [flat_len, p5])
                exact ⟨_, _, k1, k2, .inl ⟨_, hrun, k3 .exact _ (Nat.le_refl _) (.inr (.inl ⟨rfl, rfl⟩))⟩⟩
              · rw [if_neg hlc] at hev
                simp only [Option.some.injEq, Prod.mk.injEq] at hev
                obtain ⟨rfl, rfl⟩ := hev
                obtain ⟨W', k1, k2, k3⟩ := newRowTok_ok (T := e) (sz := sz) (len := ln.toNat) (cap := cn.toNat) hR ((h2 W).flat ln.toNat) (flat_one h1 _) (hget _ (by omega)) (by omega) (by rw [flat_len, p5]) (by omega) (by simp)
                exact ⟨W', _, k1, k2, .inl ⟨_, hrun, k3⟩⟩
      · rw [if_neg hcond] at hev; simp at hev

theorem fill_len {place : Nat → Option (Nat × Nat)} : ∀ {parts : List (Nat × Nat × AV)} {zero cs : List AV}, fillA zero parts = some cs → cs.length = zero.length
  | [], zero, cs, h => by simp [fillA] at h; rw [h]
  | (o, n, q) :: parts, zero, cs, h => by
    simp only [fillA] at h
    cases hc : q.cells with
    | none => simp [hc] at h
    | some vc =>
      simp only [hc] at h
      by_cases hcond : vc.length = n ∧ o + n ≤ zero.length
      · rw [if_pos hcond] at h
        have := fill_len (place := place) h
        rw [this]; simp; omega
      · rw [if_neg hcond] at h; simp at h

theorem mklist_ok (hR : R E W σ w) (hT : TR W tm a.tmps) {row : Bool} {sz len : Nat} {zero : List AV} {parts : List (Nat × Nat × Opnd)} {t : TypeId} {n : Nat} {ps : Array (Nat × Operand)}
    (hok : okOp P (.mklist row sz len zero parts) (.buildSlice t n ps) = true) (hev : evOp E tm σ (.mklist row sz len zero parts) = some (v, σ')) :
    OpOk E P W σ' w v (execOp a.eval ⟨d, .buildSlice t n ps, ty, pos, af, g⟩) := by
  simp only [okOp, Bool.and_eq_true, beq_iff_eq] at hok
  obtain ⟨rfl, ht⟩ := hok
  simp only [evOp] at hev
  cases hps : evParts tm parts with
  | none => simp [hps] at hev
  | some qs =>
    simp only [hps] at hev
    cases hf : fillA (List.replicate len zero).flatten qs with
    | none => simp [hf] at hev
    | some cs =>
      simp only [hf] at hev
      cases hut : P.underlying t with
      | none => simp [hut] at ht
      | some dt =>
        cases dt <;> simp [hut] at ht
        rename_i e
        obtain ⟨⟨⟨⟨⟨hs, hz⟩, hzl⟩, hsz1⟩, hlim⟩, hparts⟩ := ht
        obtain ⟨z, hzr, h1, h2⟩ := run_zero hz
        have hzs : z.cells.size = sz := by have := (h2 W).length; simp at this; omega
        have hfull := zero_row hzs len
        have hrow : VRs W (List.replicate len zero).flatten ((Array.range (len * sz)).map fun i => z.cells[i % z.cells.size]!).toList := by
          rw [hfull]; exact (h2 W).flat len
        obtain ⟨ca', h3, h4, h5⟩ := parts_fill hT (place := fun i => some (i * sz, sz)) hparts hps hf hrow (flat_one h1 len)
        have hclen : cs.length = len * sz := by rw [fill_len (place := fun _ => none) hf, flat_len, hzl]
        have hmap : (ps.map fun (x : Nat × Operand) => (x.1, a.eval x.2)).toList = ps.toList.map fun x => (x.1, a.eval x.2) := by simp
        have hrun : (execOp a.eval ⟨d, .buildSlice t len ps, ty, pos, af, g⟩).run P w = .ok (.value (.slice (some ⟨w.heap.size, 0, none⟩) len len)) (w.alloc (.cells ca' e)) := by
          have hlim' : ¬ (16777216 < len * sz) := by omega
          by_cases hn0 : len * sz = 0
          · have hl0 : len = 0 := by
              rcases Nat.mul_eq_zero.1 hn0 with h | h
              · exact h
              · omega
            subst hl0
            have hr0 : ∀ (f : Nat → Value), (Array.range 0).map f = #[] := by intro f; simp
            simp only [Nat.zero_mul, hr0] at h3
            simp [execOp, Instr.buildSlice, run_underlying hut, run_size hs, hmap, h3, newRow, hr0]
          · have hl0 : ¬ (len = 0 ∨ sz = 0) := fun h => hn0 (Nat.mul_eq_zero.2 h)
            simp [execOp, Instr.buildSlice, run_underlying hut, run_size hs, hl0, hzr, hlim', hmap, h3, newRow]
            intro h; exact absurd h hn0
        cases row with
        | true =>
          simp only [if_true, Option.some.injEq, Prod.mk.injEq] at hev
          obtain ⟨rfl, rfl⟩ := hev
          refine ⟨_, _, hR.addBlk_le w.heap.size, hR.newCells (T := e) (ca := ca') h5 (h4.rowGet (fun i u hu => by simpa using hu)), .inl ⟨_, hrun, .hs _ _ ?_ (Nat.le_refl _) (fun c hc => by injection hc)⟩⟩
          show (if σ.nid = σ.nid then _ else _) = _; rw [if_pos rfl]
        | false =>
          simp only [Bool.false_eq_true, if_false, Option.some.injEq, Prod.mk.injEq] at hev
          obtain ⟨rfl, rfl⟩ := hev
          obtain ⟨k1, k2, k3⟩ := newRow_ok (T := e) (sz := sz) (len := len) hR h4 h5 (fun i u hu => by simpa using hu) (by omega) hclen
          exact ⟨_, _, k1, k2, .inl ⟨_, hrun, k3 .own _ (Nat.le_refl _) (.inr (.inr ⟨rfl, rfl, by simp⟩))⟩⟩

end
end Go.Pv
