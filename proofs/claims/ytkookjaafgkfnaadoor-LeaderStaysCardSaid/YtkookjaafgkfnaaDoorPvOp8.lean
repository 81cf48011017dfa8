import Derived.Test.YtkookjaafgkfnaaDoorPvOp7
namespace Go.Pv
set_option linter.all false
open Go.RowKit

section
variable {E : Env} {P : Program} {W : KW} {σ σ' : St} {w : World} {tm : List (Nat × AV)} {a : Act} {v : AV} {ty : TypeId} {pos : String} {af : Array Edge} {g : Option (Nat × Bool)} {d : Option Tmp}

theorem slarr_ok (hR : R E W σ w) (hT : TR W tm a.tmps) {n sz : Nat} {x : Opnd} {lo hi mx : Option Opnd} {t : TypeId} {y : Operand} {lo' hi' mx' : Option Operand}
    (hok : okOp P (.slarr n sz x lo hi mx) (.slice t y lo' hi' mx') = true) (hev : evOp E tm σ (.slarr n sz x lo hi mx) = some (v, σ')) :
    OpOk E P W σ' w v (execOp a.eval ⟨d, .slice t y lo' hi' mx', ty, pos, af, g⟩) := by
  simp only [okOp, Bool.and_eq_true] at hok
  obtain ⟨⟨⟨⟨⟨hx, hlo⟩, hhi⟩, hmx⟩, hsm⟩, ht⟩ := hok
  simp only [evOp] at hev
  cases hxe : x.ev tm with
  | none => simp [hxe] at hev
  | some xv =>
    cases hle : evo tm lo with
    | none => simp [hxe, hle] at hev
    | some lv =>
      cases hhe : evo tm hi with
      | none => simp [hxe, hle, hhe] at hev
      | some hv =>
        cases hme : evo tm mx with
        | none => simp [hxe, hle, hhe, hme] at hev
        | some mv =>
          simp only [hxe, hle, hhe, hme] at hev
          obtain ⟨hc, rfl⟩ := mapS hev
          have hxr := opnd_vr hT hx hxe
          have hlr := opndO_vr hT hlo hle
          have hhr := opndO_vr hT hhi hhe
          have hmr := opndO_vr hT hmx hme
          generalize hyu : a.eval y = yu at hxr
          have hsm' : (mx'.map a.eval).isSome = true → (hi'.map a.eval).isSome = true := by
            cases mx' <;> cases hi' <;> simp at hsm <;> simp
          cases xv <;> simp only [slarrA, reduceCtorEq] at hc
          rename_i id off
          cases hxr
          rename_i b hb
          cases hm : boundA mv n n with
          | none => simp [hm] at hc
          | some m =>
            cases hh : boundA hv n m with
            | none => simp [hm, hh] at hc
            | some hi2 =>
              cases hl : boundA lv 0 hi2 with
              | none => simp [hm, hh, hl] at hc
              | some l =>
                simp only [hm, hh, hl, Option.some.injEq] at hc; subst hc
                obtain ⟨q1, q2, q3, hrun⟩ := bounds_run (P := P) (w := w) (len := n) (top := n) (cap := n) false hlr hhr hmr (Nat.le_refl _) hsm' hm hh hl (fun _ _ => Nat.le_refl _)
                have hM : (if (mx'.map a.eval).isSome then m else n) = m := by
                  cases mv with
                  | none =>
                    simp [boundA] at hm; subst hm
                    split <;> rfl
                  | some q =>
                    cases mx' with
                    | none => simp [OVR] at hmr
                    | some => rfl
                rw [hM] at hrun
                refine .same hR (u := .slice (some ⟨b, if m = l then off else off + l * sz, none⟩) (hi2 - l) (m - l)) ?_ (.hs _ _ hb (by omega) (fun c hc => by injection hc))
                cases hut : P.underlying t with
                | none => simp [hut] at ht
                | some dt =>
                  cases dt <;> simp [hut] at ht
                  · rename_i ar
                    cases hua : P.underlying ar with
                    | none => simp [hua] at ht
                    | some da =>
                      cases da <;> simp [hua] at ht
                      obtain ⟨rfl, hs⟩ := ht
                      simp [execOp, Instr.sliceAt, run_underlying hut, hyu, Instr.slice, asAddr, run_underlying hua, hrun, run_size hs, Addr.add_none]
                      split <;> rfl
                  · obtain ⟨rfl, hs⟩ := ht
                    simp [execOp, Instr.sliceAt, run_underlying hut, hyu, Instr.sureAddr, hrun, run_size hs, Addr.add_none]
                    split <;> rfl

theorem args_one {c : Call} {x : Opnd} (h : okOpnds [x] c.args.toList = true) : ∃ y, c.args = #[y] ∧ okOpnd x y = true := by
  cases hc : c.args.toList with
  | nil => simp [hc, okOpnds] at h
  | cons y l =>
    cases l with
    | cons => simp [hc, okOpnds] at h
    | nil =>
      simp [hc, okOpnds] at h
      exact ⟨y, Array.toList_inj.1 (by simpa using hc), h⟩

theorem args_two {c : Call} {x x2 : Opnd} (h : okOpnds [x, x2] c.args.toList = true) : ∃ y y2, c.args = #[y, y2] ∧ okOpnd x y = true ∧ okOpnd x2 y2 = true := by
  cases hc : c.args.toList with
  | nil => simp [hc, okOpnds] at h
  | cons y l =>
    cases l with
    | nil => simp [hc, okOpnds] at h
    | cons y2 l =>
      cases l with
      | cons => simp [hc, okOpnds] at h
      | nil =>
        simp [hc, okOpnds] at h
        exact ⟨y, y2, Array.toList_inj.1 (by simpa using hc), h⟩

theorem exec_builtin {c : Call} {b : Builtin} (hb : c.callee = .builtin b) :
    ∃ cs, execOp a.eval ⟨d, .call c, ty, pos, af, g⟩ = builtin b c.argTypes ty cs (c.args.map a.eval) :=
  ⟨_, by simp only [execOp, resolve, hb]; rfl⟩

theorem len_ok (hR : R E W σ w) (hT : TR W tm a.tmps) {str : Bool} {x : Opnd} {c : Call}
    (hok : okOp P (.len str x) (.call c) = true) (hev : evOp E tm σ (.len str x) = some (v, σ')) :
    OpOk E P W σ' w v (execOp a.eval ⟨d, .call c, ty, pos, af, g⟩) := by
  simp only [okOp] at hok
  cases hcal : c.callee with
  | value => simp [hcal] at hok
  | invoke => simp [hcal] at hok
  | builtin b =>
    cases b <;> simp only [hcal, Bool.false_eq_true, Bool.and_eq_true] at hok
    obtain ⟨hx, ht⟩ := hok
    obtain ⟨y, hy, hx⟩ := args_one hx
    simp only [evOp] at hev
    cases hxe : x.ev tm with
    | none => simp [hxe] at hev
    | some xv =>
      simp only [hxe] at hev
      obtain ⟨hl, rfl⟩ := mapS hev
      have hxr := opnd_vr hT hx hxe
      cases hat : c.argTypes[0]? with
      | none => simp [hat] at ht
      | some t =>
        simp only [hat] at ht
        have key : ∃ u, (Builtin.len_ c.argTypes ty #[a.eval y]).run P w = .ok u w ∧ VR W v u := by
          generalize a.eval y = yu at hxr
          cases hut : P.underlying t with
          | none => simp [hut] at ht
          | some dt =>
            cases dt <;> simp [hut] at ht
            case string =>
              subst ht
              cases xv <;> simp [lenA] at hl
              subst hl; cases hxr
              rename_i s
              have hsz : (⟨s.toArray⟩ : ByteArray).size = s.length := by simp [ByteArray.size]
              exact ⟨goInt s.length, by simp [Builtin.len_, hat, run_underlying hut, hsz], .int _ _⟩
            case slice e =>
              subst ht
              cases xv <;> simp only [lenA, reduceCtorEq, Option.some.injEq] at hl
              · subst hl; cases hxr
                exact ⟨.int .i64 0, by simp [Builtin.len_, hat, run_underlying hut, goInt], .int _ _⟩
              · rename_i tok sz cs
                by_cases hz : sz = 0
                · rw [if_pos hz] at hl; simp at hl
                · rw [if_neg hz] at hl; injection hl with hl; subst hl
                  cases hxr
                  rename_i us b o len cap hr hcap hs h h1 hl0 htok
                  have hlen : cs.length / sz = len := by rw [hl0]; exact Nat.mul_div_cancel _ (by omega)
                  rw [hlen]
                  exact ⟨.int .i64 len, by simp [Builtin.len_, hat, run_underlying hut, goInt], .int _ _⟩
              · subst hl; cases hxr
                exact ⟨.int .i64 _, by simp [Builtin.len_, hat, run_underlying hut, goInt], .int _ _⟩
        obtain ⟨u, hrun, hvr⟩ := key
        obtain ⟨cs, hex⟩ := exec_builtin (a := a) (d := d) (ty := ty) (pos := pos) (af := af) (g := g) hcal
        refine .same hR (u := u) ?_ hvr
        rw [hex]
        simp [builtin, hy, hrun]

theorem lenc_ok (hR : R E W σ w) {n : Nat} {c : Call}
    (hok : okOp P (.lenc n) (.call c) = true) (hev : evOp E tm σ (.lenc n) = some (v, σ')) :
    OpOk E P W σ' w v (execOp a.eval ⟨d, .call c, ty, pos, af, g⟩) := by
  simp only [okOp] at hok
  cases hcal : c.callee with
  | value => simp [hcal] at hok
  | invoke => simp [hcal] at hok
  | builtin b =>
    cases b <;> simp only [hcal, Bool.false_eq_true, Bool.and_eq_true, beq_iff_eq] at hok
    obtain ⟨hx, ht⟩ := hok
    simp only [evOp, Option.some.injEq, Prod.mk.injEq] at hev
    obtain ⟨rfl, rfl⟩ := hev
    have hargs : ∃ y, c.args = #[y] := by
      cases hc : c.args.toList with
      | nil => have : c.args.toList.length = 1 := by simpa using hx
               simp [hc] at this
      | cons y l =>
        cases l with
        | nil => exact ⟨y, Array.toList_inj.1 (by simpa using hc)⟩
        | cons => have : c.args.toList.length = 1 := by simpa using hx
                  simp [hc] at this
    obtain ⟨y, hy⟩ := hargs
    cases hat : c.argTypes[0]? with
    | none => simp [hat] at ht
    | some t =>
      simp only [hat] at ht
      have key : (Builtin.len_ c.argTypes ty #[a.eval y]).run P w = .ok (goInt n) w := by
        cases hut : P.underlying t with
        | none => simp [hut] at ht
        | some dt =>
          cases dt <;> simp [hut] at ht
          case array k e =>
            subst ht
            simp only [Builtin.len_, hat, run_underlying hut, Sem.run_bind, Result.andThen_ok]
            cases a.eval y <;> simp [run_underlying hut]
          case pointer ar =>
            cases hua : P.underlying ar with
            | none => simp [hua] at ht
            | some da =>
              cases da <;> simp [hua] at ht
              subst ht
              cases a.eval y <;> simp [Builtin.len_, hat, run_underlying hut, run_underlying hua]
      obtain ⟨cs, hex⟩ := exec_builtin (a := a) (d := d) (ty := ty) (pos := pos) (af := af) (g := g) hcal
      refine .same hR (u := goInt n) ?_ (.int _ _)
      rw [hex]
      simp [builtin, hy, key]

theorem minmax_ok (hR : R E W σ w) (hT : TR W tm a.tmps) {mx : Bool} {xs : List Opnd} {c : Call}
    (hok : okOp P (.minmax mx xs) (.call c) = true) (hev : evOp E tm σ (.minmax mx xs) = some (v, σ')) :
    OpOk E P W σ' w v (execOp a.eval ⟨d, .call c, ty, pos, af, g⟩) := by
  simp only [okOp] at hok
  simp only [evOp] at hev
  cases hxe : evs tm xs with
  | none => simp [hxe] at hev
  | some vs =>
    simp only [hxe] at hev
    obtain ⟨hm, rfl⟩ := mapS hev
    have fold : ∀ (rest : List AV) (us : List Value) (acc : AV) (u : Value), VRs W rest us → VR W acc u →
        mmFold mx acc rest = some v → ∃ r, (us.foldlM (if mx then Builtin.max2 else Builtin.min2) u).run P w = .ok r w ∧ VR W v r := by
      intro rest
      induction rest with
      | nil => intro us acc u h1 h2 h3; cases h1; simp [mmFold] at h3; subst h3; exact ⟨u, rfl, h2⟩
      | cons y rest ih =>
        intro us acc u h1 h2 h3
        cases h1 with
        | cons hy hrest =>
          simp only [mmFold] at h3
          cases acc <;> cases y <;> simp only [mmStep, reduceCtorEq] at h3
          rename_i k m k' n
          by_cases hk : k = k'
          · subst hk
            rw [if_pos rfl] at h3
            cases h2; cases hy
            cases mx
            · obtain ⟨r, hr, hv⟩ := ih _ _ (.int k (if n < m then n else m)) hrest (.int _ _) h3
              refine ⟨r, ?_, hv⟩
              simp only [List.foldlM_cons, Sem.run_bind, Bool.false_eq_true, if_false, Builtin.min2, Sem.run_pure, Result.andThen_ok] at hr ⊢
              exact hr
            · obtain ⟨r, hr, hv⟩ := ih _ _ (.int k (if n > m then n else m)) hrest (.int _ _) h3
              refine ⟨r, ?_, hv⟩
              simp only [List.foldlM_cons, Sem.run_bind, if_true, Builtin.max2, Sem.run_pure, Result.andThen_ok] at hr ⊢
              exact hr
          · rw [if_neg hk] at h3; simp at h3
    cases hcal : c.callee with
    | value => simp [hcal] at hok
    | invoke => simp [hcal] at hok
    | builtin b =>
      have hb : (b = .max ∧ mx = true ∨ b = .min ∧ mx = false) ∧ okOpnds xs c.args.toList = true := by
        cases b <;> simp [hcal] at hok
        · exact ⟨.inl ⟨rfl, hok.1⟩, hok.2⟩
        · exact ⟨.inr ⟨rfl, by simpa using hok.1⟩, hok.2⟩
      obtain ⟨hb, hargs⟩ := hb
      have hvs := opnds_vr hT hargs hxe
      obtain ⟨cs, hex⟩ := exec_builtin (a := a) (d := d) (ty := ty) (pos := pos) (af := af) (g := g) hcal
      have hlist : (c.args.map a.eval).toList = c.args.toList.map a.eval := by simp
      cases vs with
      | nil => simp [minmaxA] at hm
      | cons x rest =>
        cases hl : c.args.toList.map a.eval with
        | nil => rw [hl] at hvs; cases hvs
        | cons u us =>
          rw [hl] at hvs
          cases hvs with
          | cons hx hrest =>
            obtain ⟨r, hr, hv⟩ := fold rest us x u hrest hx hm
            refine .same hR (u := r) ?_ hv
            rw [hex]
            rcases hb with ⟨rfl, rfl⟩ | ⟨rfl, rfl⟩
            · simp only [if_true] at hr
              simp only [builtin, Builtin.max_, hlist, hl, Sem.run_bind, hr, Result.andThen_ok, Sem.run_pure]
            · simp only [Bool.false_eq_true, if_false] at hr
              simp only [builtin, Builtin.min_, hlist, hl, Sem.run_bind, hr, Result.andThen_ok, Sem.run_pure]

theorem rng_ok (hR : R E W σ w) (hT : TR W tm a.tmps) {x : Opnd} {t : TypeId} {y : Operand}
    (hok : okOp P (.rng x) (.range t y) = true) (hev : evOp E tm σ (.rng x) = some (v, σ')) :
    OpOk E P W σ' w v (execOp a.eval ⟨d, .range t y, ty, pos, af, g⟩) := by
  simp only [okOp, Bool.and_eq_true] at hok
  obtain ⟨hx, ht⟩ := hok
  simp only [evOp] at hev
  cases hxe : x.ev tm with
  | none => simp [hxe] at hev
  | some xv =>
    have hxr := opnd_vr hT hx hxe
    generalize hyu : a.eval y = yu at hxr
    cases xv <;> simp [hxe] at hev
    obtain ⟨rfl, rfl⟩ := hev
    cases hxr
    rename_i s
    cases hut : P.underlying t with
    | none => simp [hut] at ht
    | some dt =>
      cases dt <;> simp [hut] at ht
      refine ⟨_, _, hR.addBlk_le w.heap.size, hR.newIter s 0, .inl ⟨.pointer (some ⟨w.heap.size, 0, none⟩), ?_, .blk 0 ?_⟩⟩
      · simp [execOp, Instr.range, run_underlying hut, hyu]
      · show (if σ.nid = σ.nid then _ else _) = _; rw [if_pos rfl]

theorem nxt_ok (hR : R E W σ w) (hT : TR W tm a.tmps) {x : Opnd} {y : Operand} {b : Bool}
    (hok : okOp P (.nxt x) (.next y b) = true) (hev : evOp E tm σ (.nxt x) = some (v, σ')) :
    OpOk E P W σ' w v (execOp a.eval ⟨d, .next y b, ty, pos, af, g⟩) := by
  simp only [okOp, Bool.and_eq_true] at hok
  obtain ⟨hb, hx⟩ := hok
  subst hb
  simp only [evOp] at hev
  cases hxe : x.ev tm with
  | none => simp [hxe] at hev
  | some xv =>
    have hxr := opnd_vr hT hx hxe
    generalize hyu : a.eval y = yu at hxr
    simp only [hxe] at hev
    split at hev
    · rename_i id hx0
      injection hx0 with hx0; subst hx0
      cases hxr
      rename_i bb hbb
      split at hev
      · rename_i s pos' hg
        split at hev
        · rename_i hfid
          obtain ⟨b', hb', hi⟩ := hR.iter _ _ _ hg
          have : b' = bb := by rw [hbb] at hb'; injection hb' with e; exact e.symm
          subst this
          have hget : (getObj b').run P w = .ok (.stringIter ⟨s.toArray⟩ pos') w := by simp [getObj, Sem.run, hi]
          have hsz : (⟨s.toArray⟩ : ByteArray).size = s.length := by simp [ByteArray.size]
          split at hev
          · rename_i hlt
            simp only [Option.some.injEq, Prod.mk.injEq] at hev
            obtain ⟨rfl, rfl⟩ := hev
            refine ⟨W, _, .refl W, hR.iterOn (pos' := pos' + (Utf8.decode ⟨s.toArray⟩ pos').2) hg hbb, .inl ⟨.tuple #[.bool true, goInt pos', .int .i32 (Utf8.decode ⟨s.toArray⟩ pos').1], ?_, ?_⟩⟩
            · simp [execOp, Instr.next, hyu, hget, hsz, hlt, setObj, Sem.run, hi]
            · exact .tuple (us := [.bool true, goInt pos', .int .i32 (Utf8.decode ⟨s.toArray⟩ pos').1]) (.cons (.bool _) (.cons (.int _ _) (.cons (.int _ _) .nil)))
          · rename_i hlt
            simp only [Option.some.injEq, Prod.mk.injEq] at hev
            obtain ⟨rfl, rfl⟩ := hev
            refine .same hR (u := .tuple #[.bool false]) ?_ (.tuple (us := [.bool false]) (.cons (.bool _) .nil))
            simp [execOp, Instr.next, hyu, hget, hsz, hlt]
        · simp at hev
      · simp at hev
    · simp at hev

end
end Go.Pv
