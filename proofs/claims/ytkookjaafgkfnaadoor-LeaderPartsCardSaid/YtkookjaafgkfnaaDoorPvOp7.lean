import Derived.Test.YtkookjaafgkfnaaDoorPvOp6
namespace Go.Pv
set_option linter.all false
open Go.RowKit

section
variable {E : Env} {P : Program} {W : KW} {σ σ' : St} {w : World} {tm : List (Nat × AV)} {a : Act} {v : AV} {ty : TypeId} {pos : String} {af : Array Edge} {g : Option (Nat × Bool)} {d : Option Tmp}

/-- Operands that may be left out. -/
def OVR (W : KW) : Option AV → Option Value → Prop
  | none, none => True
  | some v, some u => VR W v u
  | _, _ => False

theorem opndO_vr (hT : TR W tm a.tmps) {x : Option Opnd} {y : Option Operand} {r : Option AV} (hok : okOpndO x y = true) (hx : evo tm x = some r) : OVR W r (y.map a.eval) := by
  cases x <;> cases y <;> simp [okOpndO] at hok <;> simp [evo] at hx
  · subst hx; trivial
  · obtain ⟨q, hq, rfl⟩ := hx
    exact opnd_vr hT hok hq

theorem bound_run {x : AV} {u : Value} {dflt up n y : Nat} (hx : VR W x u) (hb : boundA (some x) dflt up = some n) (hy : up ≤ y) (code : BoundsCode) :
    n ≤ up ∧ (Instr.sliceBound u y code).run P w = .ok n w := by
  cases hx <;> simp [boundA] at hb
  rename_i k m
  obtain ⟨⟨h0, h1⟩, rfl⟩ := hb
  have h2 : m ≤ (y : Int) := by omega
  exact ⟨by omega, by simp [Instr.sliceBound, asIntOf, h0, h2]⟩

theorem bounds_run {lo hi mx : Option AV} {lo' hi' mx' : Option Value} {len top cap m h l : Nat} (isSl : Bool) (hlo : OVR W lo lo') (hhi : OVR W hi hi') (hmx : OVR W mx mx') (hcap : top ≤ cap)
    (hsome : mx'.isSome = true → hi'.isSome = true) (hm : boundA mx top top = some m) (hh : boundA hi len m = some h) (hl : boundA lo 0 h = some l) (hle : mx = none → hi = none → len ≤ top) :
    m ≤ top ∧ h ≤ m ∧ l ≤ h ∧ (Instr.sliceBounds isSl len cap lo' hi' mx').run P w = .ok (l, h, if mx'.isSome then m else cap) w := by
  have key : ∃ cm, cm = (if mx'.isSome then m else cap) ∧ m ≤ top ∧ m ≤ cm ∧ (match mx' with
      | some v => Instr.sliceBound v cap (if isSl then .slice3Acap else .slice3Alen)
      | none => pure cap).run P w = .ok cm w := by
    cases mx with
    | none =>
      cases mx' <;> simp [OVR] at hmx
      simp [boundA] at hm; subst hm
      exact ⟨cap, by simp, Nat.le_refl _, hcap, rfl⟩
    | some x =>
      cases mx' <;> simp [OVR] at hmx
      obtain ⟨h1, h2⟩ := bound_run (P := P) (w := w) (y := cap) hmx hm hcap (if isSl then .slice3Acap else .slice3Alen)
      exact ⟨m, by simp, h1, Nat.le_refl _, h2⟩
  obtain ⟨cm, hcm, hmt, hmc, hrun⟩ := key
  have key2 : h ≤ m ∧ (match hi', mx' with
      | some v, some _ => Instr.sliceBound v cm .slice3B
      | some v, none => Instr.sliceBound v cm (if isSl then .sliceAcap else .sliceAlen)
      | none, none => pure len
      | none, some _ => stuck "Slice: max without high").run P w = .ok h w := by
    cases hi with
    | none =>
      cases hi' <;> simp [OVR] at hhi
      cases mx' with
      | some q => simp at hsome
      | none =>
        cases mx with
        | some q => simp [OVR] at hmx
        | none =>
          simp [boundA] at hh hm; subst hh; subst hm
          exact ⟨hle rfl rfl, rfl⟩
    | some x =>
      cases hi' <;> simp [OVR] at hhi
      rename_i u
      cases mx' with
      | none => obtain ⟨h1, h2⟩ := bound_run (P := P) (w := w) (y := cm) hhi hh hmc (if isSl then .sliceAcap else .sliceAlen); exact ⟨h1, h2⟩
      | some q => obtain ⟨h1, h2⟩ := bound_run (P := P) (w := w) (y := cm) hhi hh hmc .slice3B; exact ⟨h1, h2⟩
  obtain ⟨hhm, hrun2⟩ := key2
  have key3 : l ≤ h ∧ (match lo' with
      | some v => Instr.sliceBound v h (if mx'.isSome then .slice3C else .sliceB)
      | none => pure 0).run P w = .ok l w := by
    cases lo with
    | none =>
      cases lo' <;> simp [OVR] at hlo
      simp [boundA] at hl; subst hl
      exact ⟨Nat.zero_le _, rfl⟩
    | some x =>
      cases lo' <;> simp [OVR] at hlo
      obtain ⟨h1, h2⟩ := bound_run (P := P) (w := w) (y := h) hlo hl (Nat.le_refl _) (if mx'.isSome then .slice3C else .sliceB)
      exact ⟨h1, h2⟩
  obtain ⟨hlh, hrun3⟩ := key3
  refine ⟨hmt, hhm, hlh, ?_⟩
  subst hcm
  clear hmx hhi hlo hm hh hl hle hsome
  cases mx' with
  | none =>
    simp only [Option.isSome_none, Bool.false_eq_true, if_false] at hrun2 ⊢
    cases hi' with
    | none =>
      simp only [Sem.run_pure, Result.ok.injEq, and_true] at hrun2
      subst hrun2
      cases lo' with
      | none => simp only [Sem.run_pure, Result.ok.injEq, and_true] at hrun3; subst hrun3; rfl
      | some x => simp only [Instr.sliceBounds, Sem.run_bind, Sem.run_pure, Result.andThen_ok, hrun3]
    | some y =>
      cases lo' with
      | none => simp only [Sem.run_pure, Result.ok.injEq, and_true] at hrun3; subst hrun3; simp only [Instr.sliceBounds, Sem.run_bind, Sem.run_pure, Result.andThen_ok, hrun2]
      | some x => simp only [Instr.sliceBounds, Sem.run_bind, Sem.run_pure, Result.andThen_ok, hrun2, hrun3]
  | some z =>
    simp only [Option.isSome_some, if_true] at hrun hrun2 hrun3 ⊢
    cases hi' with
    | none => simp at hrun2
    | some y =>
      cases lo' with
      | none => simp only [Sem.run_pure, Result.ok.injEq, and_true] at hrun3; subst hrun3; simp only [Instr.sliceBounds, Sem.run_bind, Sem.run_pure, Result.andThen_ok, hrun, hrun2]
      | some x => simp only [Instr.sliceBounds, Sem.run_bind, Sem.run_pure, Result.andThen_ok, hrun, hrun2, Option.isSome_some, if_true, hrun3]

theorem slstr_ok (hR : R E W σ w) (hT : TR W tm a.tmps) {x : Opnd} {lo hi : Option Opnd} {t : TypeId} {y : Operand} {lo' hi' mx' : Option Operand}
    (hok : okOp P (.slstr x lo hi) (.slice t y lo' hi' mx') = true) (hev : evOp E tm σ (.slstr x lo hi) = some (v, σ')) :
    OpOk E P W σ' w v (execOp a.eval ⟨d, .slice t y lo' hi' mx', ty, pos, af, g⟩) := by
  cases mx' with
  | some q => simp [okOp] at hok
  | none =>
    simp only [okOp, Bool.and_eq_true] at hok
    obtain ⟨⟨⟨hx, hlo⟩, hhi⟩, ht⟩ := hok
    simp only [evOp] at hev
    cases hxe : x.ev tm with
    | none => simp [hxe] at hev
    | some xv =>
      cases hle : evo tm lo with
      | none => cases xv <;> simp [hxe, hle] at hev
      | some lv =>
        cases hhe : evo tm hi with
        | none => cases xv <;> simp [hxe, hle, hhe] at hev
        | some hv =>
          have hxr := opnd_vr hT hx hxe
          generalize hyu : a.eval y = yu at hxr
          cases xv <;> simp only [hxe, hle, hhe, reduceCtorEq] at hev
          rename_i s
          cases hxr
          obtain ⟨hc, rfl⟩ := mapS hev
          unfold slstrA at hc
          cases hh : boundA hv s.length s.length with
          | none => simp [hh] at hc
          | some h =>
            cases hl : boundA lv 0 h with
            | none => simp [hh, hl] at hc
            | some l =>
              simp [hh, hl] at hc; subst hc
              have hb := bounds_run (P := P) (w := w) (mx := none) (mx' := none) (m := s.length) (len := s.length) (top := s.length) (cap := s.length) false (opndO_vr hT hlo hle) (opndO_vr hT hhi hhe) trivial (Nat.le_refl _) (by simp) (by simp [boundA]) hh hl (fun _ _ => Nat.le_refl _)
              obtain ⟨_, _, hlh, hrun⟩ := hb
              cases hut : P.underlying t with
              | none => simp [hut] at ht
              | some dt =>
                cases dt <;> simp [hut] at ht
                have hsz : (⟨s.toArray⟩ : ByteArray).size = s.length := by simp [ByteArray.size]
                refine .same hR (u := .string ((⟨s.toArray⟩ : ByteArray).extract l h)) ?_ ?_
                · simp [execOp, Instr.sliceAt, run_underlying hut, hyu, Instr.slice, hsz, hrun]
                · have : (⟨s.toArray⟩ : ByteArray).extract l h = ⟨((s.take h).drop l).toArray⟩ := by
                    apply ByteArray.ext
                    rw [ByteArray.data_extract]
                    apply Array.ext'
                    simp [List.extract_eq_take_drop, List.drop_take]
                  rw [this]; exact .str _

theorem sl_ok (hR : R E W σ w) (hT : TR W tm a.tmps) {sz : Nat} {x : Opnd} {lo hi mx : Option Opnd} {t : TypeId} {y : Operand} {lo' hi' mx' : Option Operand}
    (hok : okOp P (.sl sz x lo hi mx) (.slice t y lo' hi' mx') = true) (hev : evOp E tm σ (.sl sz x lo hi mx) = some (v, σ')) :
    OpOk E P W σ' w v (execOp a.eval ⟨d, .slice t y lo' hi' mx', ty, pos, af, g⟩) := by
  simp only [okOp, Bool.and_eq_true] at hok
  obtain ⟨⟨⟨⟨⟨hx, hlo⟩, hhi⟩, hmx⟩, hsm⟩, ht⟩ := hok
  simp only [evOp] at hev
  cases hxe : x.ev tm with
  | none => simp [hxe] at hev
  | some xv =>
    cases hle : evo tm lo with
    | none => simp [hxe, hle] at hev
    | some lv =>
      cases hhe : evo tm hi with
      | none => simp [hxe, hle, hhe] at hev
      | some hv =>
        cases hme : evo tm mx with
        | none => simp [hxe, hle, hhe, hme] at hev
        | some mv =>
          simp only [hxe, hle, hhe, hme] at hev
          obtain ⟨hc, rfl⟩ := mapS hev
          have hxr := opnd_vr hT hx hxe
          have hlr := opndO_vr hT hlo hle
          have hhr := opndO_vr hT hhi hhe
          have hmr := opndO_vr hT hmx hme
          generalize hyu : a.eval y = yu at hxr
          have hsm' : (mx'.map a.eval).isSome = true → (hi'.map a.eval).isSome = true := by
            cases mx' <;> cases hi' <;> simp at hsm <;> simp
          cases hut : P.underlying t with
          | none => simp [hut] at ht
          | some dt =>
            cases dt <;> simp [hut] at ht
            rename_i e
            cases xv <;> simp only [slA, reduceCtorEq] at hc
            case nils =>
              cases hxr
              cases hm : boundA mv 0 0 with
              | none => simp [hm] at hc
              | some m =>
                cases hh : boundA hv 0 0 with
                | none => simp [hm, hh] at hc
                | some h =>
                  cases hl : boundA lv 0 0 with
                  | none => simp [hm, hh, hl] at hc
                  | some l =>
                    simp [hm, hh, hl] at hc; subst hc
                    have hm0 : m = 0 := by cases mv with
                      | none => simp [boundA] at hm; exact hm.symm
                      | some q => cases q <;> simp [boundA] at hm; omega
                    have hh0 : h = 0 := by cases hv with
                      | none => simp [boundA] at hh; exact hh.symm
                      | some q => cases q <;> simp [boundA] at hh; omega
                    subst hm0; subst hh0
                    obtain ⟨_, _, h3, hrun⟩ := bounds_run (P := P) (w := w) (len := 0) (top := 0) (cap := 0) true hlr hhr hmr (Nat.le_refl _) hsm' hm hh hl (fun _ _ => Nat.le_refl _)
                    have hl0 : l = 0 := by omega
                    subst hl0
                    have hite : (if (mx'.map a.eval).isSome = true then 0 else 0) = 0 := by split <;> rfl
                    rw [hite] at hrun
                    refine .same hR (u := .slice none 0 0) ?_ .nils
                    simp [execOp, Instr.sliceAt, run_underlying hut, hyu, Instr.slice, hrun, run_size ht]
            case list tok z cs =>
              by_cases hz : z ≠ sz ∨ sz = 0
              · rw [if_pos hz] at hc; simp at hc
              · rw [if_neg hz] at hc
                have hz1 : z = sz := by rcases Nat.decEq z sz with h | h; · exact absurd (.inl h) hz
                                        · exact h
                have hz2 : sz ≠ 0 := fun e => hz (.inr e)
                subst hz1
                cases hxr
                rename_i us b o len cap hr hcap hs h h1 hl0 htok
                have hlen : cs.length / z = len := by rw [hl0]; exact Nat.mul_div_cancel _ (by omega)
                simp only [hlen] at hc
                cases hm : boundA mv len len with
                | none => simp [hm] at hc
                | some m =>
                  cases hh : boundA hv len m with
                  | none => simp [hm, hh] at hc
                  | some hi2 =>
                    cases hl : boundA lv 0 hi2 with
                    | none => simp [hm, hh, hl] at hc
                    | some l =>
                      simp only [hm, hh, hl] at hc
                      obtain ⟨q1, q2, q3, hrun⟩ := bounds_run (P := P) (w := w) (len := len) (top := len) (cap := cap) true hlr hhr hmr hcap hsm' hm hh hl (fun _ _ => Nat.le_refl _)
                      generalize hM : (if (mx'.map a.eval).isSome = true then m else cap) = M at hrun
                      have hMh : hi2 ≤ M := by rw [← hM]; split <;> omega
                      have hexec : (execOp a.eval ⟨d, .slice t y lo' hi' mx', ty, pos, af, g⟩).run P w = .ok (.value (.slice (some ⟨b, if M = l then o else o + l * z, none⟩) (hi2 - l) (M - l))) w := by
                        simp [execOp, Instr.sliceAt, run_underlying hut, hyu, Instr.slice, hrun, run_size ht, Addr.add_none]
                        split <;> rfl
                      refine .same hR hexec ?_
                      -- the cells
                      have hmul : ∀ {p q : Nat}, p ≤ q → p * z ≤ q * z := fun h => Nat.mul_le_mul_right z h
                      have hvs : VRs W ((cs.take (hi2 * z)).drop (l * z)) ((us.take (hi2 * z)).drop (l * z)) := (h.take _).drop _
                      have hlu := h.length
                      have hcl : ((cs.take (hi2 * z)).drop (l * z)).length = (hi2 - l) * z := by
                        have := hmul (show hi2 ≤ len by omega)
                        simp only [List.length_drop, List.length_take, Nat.sub_mul]; omega
                      have hone : ∀ c ∈ (cs.take (hi2 * z)).drop (l * z), c.one = true := fun c hc => h1 c (List.mem_of_mem_take (List.mem_of_mem_drop hc))
                      have hrow : W.Row b (if M = l then o else o + l * z) ((us.take (hi2 * z)).drop (l * z)) := by
                        intro i hi
                        have hil : ((us.take (hi2 * z)).drop (l * z)).length = (hi2 - l) * z := by rw [← hvs.length]; exact hcl
                        by_cases hMl : M = l
                        · have : hi2 - l = 0 := by omega
                          rw [hil, this] at hi; simp at hi
                        · rw [if_neg hMl]
                          have hlt : l * z + i < us.length := by
                            have := hmul (show hi2 ≤ len by omega)
                            rw [hil, Nat.sub_mul] at hi
                            have := hmul q3
                            omega
                          have := hr (l * z + i) hlt
                          rw [show o + l * z + i = o + (l * z + i) by omega, this]
                          congr 1
                          rw [List.getElem_drop, List.getElem_take]
                      have hTok : ∀ tk, (tk = .no ∨ (tk = .exact ∧ M = hi2) ∨ (tk = tok ∧ hi2 = len ∧ M = cap)) → TokOk W tk b ((if M = l then o else o + l * z) + ((cs.take (hi2 * z)).drop (l * z)).length) (hi2 - l) (M - l) z := by
                        intro tk htk
                        rcases htk with rfl | ⟨rfl, he⟩ | ⟨rfl, he1, he2⟩
                        · trivial
                        · show M - l = hi2 - l; rw [he]
                        · subst he1; subst he2
                          cases tk with
                          | no => trivial
                          | exact => have : M = hi2 := htok; show M - l = hi2 - l; omega
                          | own =>
                            obtain ⟨k1, k2, n', k3, k5, k4⟩ := htok
                            refine ⟨by omega, k2, n', k3, ?_, k4⟩
                            by_cases hMl : M = l
                            · have : hi2 - l = 0 := by omega
                              rw [hcl, if_pos hMl, this]; omega
                            · rw [hcl, if_neg hMl, Nat.sub_mul]
                              have := hmul q3
                              omega
                          | tk n =>
                            obtain ⟨tx, htx, htok⟩ := htok
                            refine ⟨tx, htx, ?_⟩
                            rcases htok with ht1 | ⟨ht1, n', ht2, ht3⟩
                            · exact .inl (by omega)
                            · by_cases hMl : M = l
                              · exact .inl (by omega)
                              · refine .inr ⟨?_, n', ht2, ?_⟩
                                · rw [if_neg hMl, hcl, ht1, hl0]
                                  have := hmul q3
                                  rw [Nat.sub_mul]; congr 1; omega
                                · rw [if_neg hMl, hcl, Nat.sub_mul]
                                  have h5 := hmul q3
                                  have h6 : M - l - (hi2 - l) = M - hi2 := by omega
                                  rw [h6]; omega
                      cases mv with
                      | some q =>
                        have hMm : M = m := by
                          rw [← hM]
                          cases mx' with
                          | none => simp [OVR] at hmr
                          | some => rfl
                        simp only [Option.some.injEq] at hc; subst hc
                        refine .list hvs hone hrow (by omega) hcl (by omega) (hTok _ ?_)
                        by_cases hmh : m = hi2
                        · rw [if_pos hmh]; exact .inr (.inl ⟨rfl, by omega⟩)
                        · rw [if_neg hmh]; exact .inl rfl
                      | none =>
                        have hMc : M = cap := by
                          rw [← hM]
                          cases mx' with
                          | none => rfl
                          | some => simp [OVR] at hmr
                        simp only [Option.some.injEq] at hc; subst hc
                        refine .list hvs hone hrow (by omega) hcl (by omega) (hTok _ ?_)
                        by_cases hhl : hi2 = len
                        · rw [if_pos hhl]; exact .inr (.inr ⟨rfl, hhl, hMc⟩)
                        · rw [if_neg hhl]; exact .inl rfl
            case hs id off len cap0 =>
              cases hxr
              rename_i b cap hb hcap hcap'
              have hrun0 : ∀ {top m hi2 l : Nat}, top ≤ cap → len ≤ top → boundA mv top top = some m → boundA hv len m = some hi2 → boundA lv 0 hi2 = some l →
                  ∃ M, M = (if (mx'.map a.eval).isSome then m else cap) ∧ l ≤ hi2 ∧ hi2 ≤ M ∧ m ≤ top ∧ hi2 ≤ m ∧ (execOp a.eval ⟨d, .slice t y lo' hi' mx', ty, pos, af, g⟩).run P w = .ok (.value (.slice (some ⟨b, if M = l then off else off + l * sz, none⟩) (hi2 - l) (M - l))) w := by
                intro top m hi2 l htc hlt hm hh hl
                obtain ⟨q1, q2, q3, hrun⟩ := bounds_run (P := P) (w := w) (len := len) (top := top) (cap := cap) true hlr hhr hmr htc hsm' hm hh hl (fun _ _ => hlt)
                refine ⟨_, rfl, q3, by split <;> omega, q1, q2, ?_⟩
                generalize hM : (if (mx'.map a.eval).isSome = true then m else cap) = M at hrun
                simp [execOp, Instr.sliceAt, run_underlying hut, hyu, Instr.slice, hrun, run_size ht, Addr.add_none]
                split <;> rfl
              have hMv : ∀ {m : Nat}, (∀ q, mv = some q → (if (mx'.map a.eval).isSome then m else cap) = m) ∧ (mv = none → (if (mx'.map a.eval).isSome then m else cap) = cap) := by
                intro m
                constructor
                · intro q hq
                  subst hq
                  cases mx' with
                  | none => simp [OVR] at hmr
                  | some => rfl
                · intro hq
                  subst hq
                  cases mx' with
                  | none => rfl
                  | some => simp [OVR] at hmr
              cases cap0 with
              | some c =>
                have hcc := hcap' c rfl
                subst hcc
                simp only at hc
                cases hm : boundA mv cap cap with
                | none => simp [hm] at hc
                | some m =>
                  cases hh : boundA hv len m with
                  | none => simp [hm, hh] at hc
                  | some hi2 =>
                    cases hl : boundA lv 0 hi2 with
                    | none => simp [hm, hh, hl] at hc
                    | some l =>
                      simp only [hm, hh, hl, Option.some.injEq] at hc; subst hc
                      obtain ⟨M, hM, q3, hMh, _, _, hexec⟩ := hrun0 (Nat.le_refl _) hcap hm hh hl
                      have hMm : M = m := by
                        cases mv with
                        | some q => rw [hM]; exact hMv.1 q rfl
                        | none => rw [hM, hMv.2 rfl]; simp [boundA] at hm; exact hm
                      subst hMm
                      refine .same hR hexec ?_
                      exact .hs _ _ hb (by omega) (fun c hc => by injection hc)
              | none =>
                simp only at hc
                cases hm : boundA mv len len with
                | none => simp [hm] at hc
                | some m =>
                  cases hh : boundA hv len m with
                  | none => simp [hm, hh] at hc
                  | some hi2 =>
                    cases hl : boundA lv 0 hi2 with
                    | none => simp [hm, hh, hl] at hc
                    | some l =>
                      simp only [hm, hh, hl] at hc
                      obtain ⟨M, hM, q3, hMh, q1, q2, hexec⟩ := hrun0 hcap (Nat.le_refl _) hm hh hl
                      refine .same hR hexec ?_
                      cases mv with
                      | some q =>
                        have hMm : M = m := by rw [hM]; exact hMv.1 q rfl
                        subst hMm
                        simp only [Option.some.injEq] at hc; subst hc
                        exact .hs _ _ hb (by omega) (fun c hc => by injection hc)
                      | none =>
                        have hMm : M = cap := by rw [hM]; exact hMv.2 rfl
                        subst hMm
                        simp only at hc
                        by_cases hz : sz = 0
                        · rw [if_pos hz] at hc; simp at hc
                        · rw [if_neg hz] at hc
                          by_cases hcc : l = len ∧ l ≠ 0
                          · rw [if_pos hcc] at hc; injection hc with hc; subst hc
                            have h0 : hi2 - l = 0 := by omega
                            rw [h0]
                            exact .list .nil (by simp) (fun i hi => by simp at hi) (by omega) (by simp) (Nat.zero_le _) trivial
                          · rw [if_neg hcc] at hc; injection hc with hc; subst hc
                            by_cases hMl : M = l
                            · have hl0 : l = 0 := by
                                rcases Nat.eq_zero_or_pos l with h | h
                                · exact h
                                · exact absurd ⟨by omega, by omega⟩ hcc
                              subst hl0
                              rw [if_pos hMl]
                              simp only [Nat.zero_mul, Nat.add_zero]
                              exact .hs _ _ hb (by omega) (fun c hc => by simp at hc)
                            · rw [if_neg hMl]
                              exact .hs _ _ hb (by omega) (fun c hc => by simp at hc)

end
end Go.Pv
