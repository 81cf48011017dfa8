import Derived.Test.YtkookjaafgkfnaaDoorPvOp5
namespace Go.Pv
set_option linter.all false
open Go.RowKit

section
variable {E : Env} {P : Program} {W : KW} {σ σ' : St} {w : World} {tm : List (Nat × AV)} {a : Act} {v : AV} {ty : TypeId} {pos : String} {af : Array Edge} {g : Option (Nat × Bool)} {d : Option Tmp}

theorem mapS {o : Option AV} (h : o.map (fun x => (x, σ)) = some (v, σ')) : o = some v ∧ σ = σ' := by
  cases o with
  | none => simp at h
  | some r => simp at h; exact ⟨by rw [h.1], h.2⟩

/-- A place further on. -/
theorem addA_vr {n : Nat} {x : AV} {u : Value} (hx : VR W x u) (ha : addA n x = some v) : ∃ p, u = .pointer (some p) ∧ VR W v (.pointer (some (p.add n))) := by
  cases hx <;> simp [addA] at ha
  case blk id b off hb => subst ha; exact ⟨_, rfl, by rw [Addr.add_none]; exact .blk _ hb⟩
  case elem cs us b o off h h1 hr => subst ha; exact ⟨_, rfl, by rw [Addr.add_none, Nat.add_assoc]; exact .elem _ h h1 hr⟩
  case glob gg off => subst ha; exact ⟨_, rfl, by rw [Addr.add_none]; exact .glob _ _⟩

theorem flda_ok (hR : R E W σ w) (hT : TR W tm a.tmps) {off : Nat} {x : Opnd} {t : TypeId} {y : Operand} {i : Nat}
    (hok : okOp P (.flda off x) (.fieldAddr t y i) = true) (hev : evOp E tm σ (.flda off x) = some (v, σ')) :
    OpOk E P W σ' w v (execOp a.eval ⟨d, .fieldAddr t y i, ty, pos, af, g⟩) := by
  simp only [okOp, Bool.and_eq_true] at hok
  obtain ⟨hx, ht⟩ := hok
  simp only [evOp] at hev
  cases hxe : x.ev tm with
  | none => simp [hxe] at hev
  | some xv =>
    simp only [hxe] at hev
    cases ha : addA off xv with
    | none => simp [ha] at hev
    | some r =>
      simp only [ha, Option.map_some, Option.some.injEq, Prod.mk.injEq] at hev
      obtain ⟨rfl, rfl⟩ := hev
      obtain ⟨p, hp, hvr⟩ := addA_vr (opnd_vr hT hx hxe) ha
      refine .same hR ?_ hvr
      cases hut : P.underlying t with
      | none => simp [hut] at ht
      | some dt =>
        cases dt <;> simp [hut] at ht
        rename_i fs
        cases hf : fs[i]? with
        | none => simp [hf] at ht
        | some f =>
          simp [hf] at ht
          obtain ⟨rfl, hs⟩ := ht
          cases hsz : szOf P f.type with
          | none => simp [hsz] at hs
          | some n =>
            simp [hsz] at hs
            simp [execOp, Instr.fieldAt, run_underlying hut, hf, hp, Instr.sureAddr, fieldPlace, run_size hsz, hs]

theorem fld_ok (hR : R E W σ w) (hT : TR W tm a.tmps) {n : Option Nat} {off : Nat} {x : Opnd} {t : TypeId} {y : Operand} {i : Nat}
    (hok : okOp P (.fld n off x) (.field t y i) = true) (hev : evOp E tm σ (.fld n off x) = some (v, σ')) :
    OpOk E P W σ' w v (execOp a.eval ⟨d, .field t y i, ty, pos, af, g⟩) := by
  simp only [okOp, Bool.and_eq_true] at hok
  obtain ⟨hx, ht⟩ := hok
  simp only [evOp] at hev
  cases hxe : x.ev tm with
  | none => simp [hxe] at hev
  | some xv =>
    have hxr := opnd_vr hT hx hxe
    generalize hyu : a.eval y = yu at hxr
    cases xv <;> simp only [hxe, reduceCtorEq] at hev
    obtain ⟨hc, rfl⟩ := mapS hev
    cases hxr
    rename_i cs us hus h1
    cases hut : P.underlying t with
    | none => simp [hut] at ht
    | some dt =>
      cases dt <;> simp [hut] at ht
      rename_i fs
      cases hf : fs[i]? with
      | none => simp [hf] at ht
      | some f =>
        simp [hf] at ht
        obtain ⟨rfl, hag⟩ := ht
        obtain ⟨hisagg, hsz⟩ := run_agg hag w
        cases n with
        | none =>
          simp only [cut] at hc
          obtain ⟨u, hu, hr⟩ := hus.get _ hc
          exact .same hR (u := u) (by simp [execOp, Instr.field, run_underlying hut, hf, hyu, asAgg, part, hisagg, hu]) hr
        | some k =>
          simp only [cut] at hc
          by_cases hle : f.offset + k ≤ cs.length
          · rw [if_pos hle] at hc; injection hc with hc; subst hc
            refine .same hR (u := .agg (((us.drop f.offset).take k).toArray)) ?_ (.agg ((hus.drop _).take _) (fun c hc => h1 c (List.mem_of_mem_drop (List.mem_of_mem_take hc))))
            simp [execOp, Instr.field, run_underlying hut, hf, hyu, asAgg, part, hisagg, run_size ((hsz k).1 rfl), List.take_drop, Nat.add_comm]
          · rw [if_neg hle] at hc; simp at hc

theorem idxarr_ok (hR : R E W σ w) (hT : TR W tm a.tmps) {len sz : Nat} {x i : Opnd} {t : TypeId} {y j : Operand}
    (hok : okOp P (.idxarr len sz x i) (.indexAddr t y j) = true) (hev : evOp E tm σ (.idxarr len sz x i) = some (v, σ')) :
    OpOk E P W σ' w v (execOp a.eval ⟨d, .indexAddr t y j, ty, pos, af, g⟩) := by
  simp only [okOp, Bool.and_eq_true] at hok
  obtain ⟨⟨hx, hi⟩, ht⟩ := hok
  simp only [evOp] at hev
  cases hxe : x.ev tm with
  | none => simp [hxe] at hev
  | some xv =>
    cases hie : i.ev tm with
    | none => simp [hxe, hie] at hev
    | some iv =>
      simp only [hxe, hie] at hev
      have hir := opnd_vr hT hi hie
      generalize hju : a.eval j = ju at hir
      have hev2 := mapS hev
      clear hev
      obtain ⟨hev, rfl⟩ := hev2
      cases iv <;> simp [idxarrA] at hev
      rename_i k n
      cases hir
      obtain ⟨⟨h0, hlt⟩, ha⟩ := hev
      obtain ⟨p, hp, hvr⟩ := addA_vr (opnd_vr hT hx hxe) ha
      refine .same hR ?_ hvr
      cases hut : P.underlying t with
      | none => simp [hut] at ht
      | some dt =>
        cases dt <;> simp [hut] at ht
        obtain ⟨rfl, hs⟩ := ht
        simp [execOp, Instr.indexAt, run_underlying hut, hju, asIntOf, hp, Instr.sureAddr, h0, hlt, run_size hs]

theorem idxa_ok (hR : R E W σ w) (hT : TR W tm a.tmps) {sz : Nat} {x i : Opnd} {t : TypeId} {y j : Operand}
    (hok : okOp P (.idxa sz x i) (.indexAddr t y j) = true) (hev : evOp E tm σ (.idxa sz x i) = some (v, σ')) :
    OpOk E P W σ' w v (execOp a.eval ⟨d, .indexAddr t y j, ty, pos, af, g⟩) := by
  simp only [okOp, Bool.and_eq_true] at hok
  obtain ⟨⟨hx, hi⟩, ht⟩ := hok
  simp only [evOp] at hev
  cases hxe : x.ev tm with
  | none => simp [hxe] at hev
  | some xv =>
    cases hie : i.ev tm with
    | none => simp [hxe, hie] at hev
    | some iv =>
      simp only [hxe, hie] at hev
      have hir := opnd_vr hT hi hie
      have hxr := opnd_vr hT hx hxe
      generalize hju : a.eval j = ju at hir
      generalize hyu : a.eval y = yu at hxr
      have hev2 := mapS hev
      clear hev
      obtain ⟨hev, rfl⟩ := hev2
      cases iv <;> simp [idxaA] at hev
      rename_i k n
      cases hir
      cases hut : P.underlying t with
      | none => simp [hut] at ht
      | some dt =>
        cases dt <;> simp [hut] at ht
        cases xv <;> simp at hev
        · rename_i tok z cs
          obtain ⟨⟨rfl, hz, h0, hlt⟩, rfl⟩ := hev
          cases hxr
          rename_i us b o len cap hr hc hs h h1 hl htok
          have hlen : cs.length / z = len := by rw [hl]; exact Nat.mul_div_cancel _ (by omega)
          have hlt' : n < (len : Int) := by rw [← hlen]; simpa using hlt
          refine .same hR (u := .pointer (some ⟨b, o + n.toNat * z, none⟩)) ?_ (.elem _ h h1 hr)
          simp [execOp, Instr.indexAt, run_underlying hut, hju, hyu, asIntOf, h0, hlt', run_size ht, Addr.add_none]
        · rename_i id off len cap
          obtain ⟨⟨h0, hlt⟩, rfl⟩ := hev
          cases hxr
          rename_i b cap' hb hc hc'
          refine .same hR (u := .pointer (some ⟨b, off + n.toNat * sz, none⟩)) ?_ (.blk _ hb)
          simp [execOp, Instr.indexAt, run_underlying hut, hju, hyu, asIntOf, h0, hlt, run_size ht, Addr.add_none]

theorem idxs_ok (hR : R E W σ w) (hT : TR W tm a.tmps) {x i : Opnd} {t : TypeId} {y j : Operand}
    (hok : okOp P (.idxs x i) (.index t y j) = true) (hev : evOp E tm σ (.idxs x i) = some (v, σ')) :
    OpOk E P W σ' w v (execOp a.eval ⟨d, .index t y j, ty, pos, af, g⟩) := by
  simp only [okOp, Bool.and_eq_true] at hok
  obtain ⟨⟨hx, hi⟩, ht⟩ := hok
  simp only [evOp] at hev
  cases hxe : x.ev tm with
  | none => simp [hxe] at hev
  | some xv =>
    cases hie : i.ev tm with
    | none => simp [hxe, hie] at hev
    | some iv =>
      simp only [hxe, hie] at hev
      have hir := opnd_vr hT hi hie
      have hxr := opnd_vr hT hx hxe
      generalize hju : a.eval j = ju at hir
      generalize hyu : a.eval y = yu at hxr
      have hev2 := mapS hev
      clear hev
      obtain ⟨hev, rfl⟩ := hev2
      cases xv <;> cases iv <;> simp [idxsA] at hev
      rename_i s k n
      cases hir; cases hxr
      obtain ⟨h0, hr⟩ := hev
      cases hb : s[n.toNat]? with
      | none => simp [hb] at hr
      | some b =>
        simp [hb] at hr; subst hr
        cases hut : P.underlying t with
        | none => simp [hut] at ht
        | some dt =>
          cases dt <;> simp [hut] at ht
          have hg : (⟨s.toArray⟩ : ByteArray)[n.toNat]? = some b := by
            have hlt : n.toNat < s.length := by
              rcases Nat.lt_or_ge n.toNat s.length with h | h
              · exact h
              · simp [List.getElem?_eq_none h] at hb
            have hsz : n.toNat < (⟨s.toArray⟩ : ByteArray).size := by simpa [ByteArray.size] using hlt
            rw [getElem?_pos (⟨s.toArray⟩ : ByteArray) n.toNat hsz]
            rw [List.getElem?_eq_getElem hlt] at hb
            injection hb with hb
            show some (s.toArray[n.toNat]) = some b
            simp [hb]
          refine .same hR (u := .int .u8 b.toNat) ?_ (.int _ _)
          simp [execOp, Instr.index, run_underlying hut, hju, hyu, asIntOf, h0, hg]

theorem idxv_ok (hR : R E W σ w) (hT : TR W tm a.tmps) {len : Nat} {n : Option Nat} {sz : Nat} {x i : Opnd} {t : TypeId} {y j : Operand}
    (hok : okOp P (.idxv len n sz x i) (.index t y j) = true) (hev : evOp E tm σ (.idxv len n sz x i) = some (v, σ')) :
    OpOk E P W σ' w v (execOp a.eval ⟨d, .index t y j, ty, pos, af, g⟩) := by
  simp only [okOp, Bool.and_eq_true] at hok
  obtain ⟨⟨hx, hi⟩, ht⟩ := hok
  simp only [evOp] at hev
  cases hxe : x.ev tm with
  | none => simp [hxe] at hev
  | some xv =>
    cases hie : i.ev tm with
    | none => simp [hxe, hie] at hev
    | some iv =>
      simp only [hxe, hie] at hev
      have hir := opnd_vr hT hi hie
      have hxr := opnd_vr hT hx hxe
      generalize hju : a.eval j = ju at hir
      generalize hyu : a.eval y = yu at hxr
      have hev2 := mapS hev
      clear hev
      obtain ⟨hev, rfl⟩ := hev2
      cases xv <;> cases iv <;> simp [idxvA] at hev
      rename_i cs k m
      cases hir; cases hxr
      rename_i us hus h1
      obtain ⟨⟨h0, hlt⟩, hc⟩ := hev
      cases hut : P.underlying t with
      | none => simp [hut] at ht
      | some dt =>
        cases dt <;> simp [hut] at ht
        obtain ⟨⟨rfl, hs⟩, hag⟩ := ht
        obtain ⟨hisagg, hsz⟩ := run_agg hag w
        cases n with
        | none =>
          simp only [cut] at hc
          obtain ⟨u, hu, hr⟩ := hus.get _ hc
          exact .same hR (u := u) (by simp [execOp, Instr.index, run_underlying hut, hju, hyu, asIntOf, h0, hlt, run_size hs, part, hisagg, hu]) hr
        | some q =>
          simp only [cut] at hc
          by_cases hle : m.toNat * sz + q ≤ cs.length
          · rw [if_pos hle] at hc; injection hc with hc; subst hc
            have hq : q = sz := by have := (hsz q).1 rfl; rw [hs] at this; injection this with this; exact this.symm
            subst hq
            refine .same hR (u := .agg (((us.drop (m.toNat * q)).take q).toArray)) ?_ (.agg ((hus.drop _).take _) (fun c hc => h1 c (List.mem_of_mem_drop (List.mem_of_mem_take hc))))
            simp [execOp, Instr.index, run_underlying hut, hju, hyu, asIntOf, h0, hlt, run_size hs, part, hisagg, List.take_drop, Nat.add_comm]
          · rw [if_neg hle] at hc; simp at hc

theorem ext_ok (hR : R E W σ w) (hT : TR W tm a.tmps) {x : Opnd} {i : Nat} {y : Operand} {j : Nat}
    (hok : okOp P (.ext x i) (.extract y j) = true) (hev : evOp E tm σ (.ext x i) = some (v, σ')) :
    OpOk E P W σ' w v (execOp a.eval ⟨d, .extract y j, ty, pos, af, g⟩) := by
  simp [okOp] at hok
  obtain ⟨hx, rfl⟩ := hok
  simp only [evOp] at hev
  cases hxe : x.ev tm with
  | none => simp [hxe] at hev
  | some xv =>
    have hxr := opnd_vr hT hx hxe
    generalize hyu : a.eval y = yu at hxr
    cases xv <;> simp only [hxe, reduceCtorEq] at hev
    obtain ⟨hg, rfl⟩ := mapS hev
    cases hxr
    rename_i us hus
    obtain ⟨u, hu, hr⟩ := hus.get _ hg
    exact .same hR (u := u) (by simp [execOp, Instr.extract, hyu, hu]) hr

end
end Go.Pv
