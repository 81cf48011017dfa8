import Derived.Test.YtkookjaafgkfnaaDoorPvOp9
namespace Go.Pv
set_option linter.all false
open Go.RowKit

section
variable {E : Env} {P : Program} {W : KW} {σ σ' : St} {w : World} {tm : List (Nat × AV)} {a : Act} {v : AV} {ty : TypeId} {pos : String} {af : Array Edge} {g : Option (Nat × Bool)} {d : Option Tmp}

/-- What is appended, or copied. -/
theorem more_ok (hR : R E W σ w) {u : Value} {cs : List AV} {sz : Nat} (hv : VR W v u) (hs : moreCells σ sz v = some cs) :
    ∃ n, cs.length = n * sz ∧ (∀ c ∈ cs, c.one = true) ∧ (Builtin.lenOf u).run P w = .ok n w ∧
      ∀ k, k ≤ n → ∃ us, VRs W (cs.take (k * sz)) us ∧ (Builtin.firstCells sz k u).run P w = .ok us.toArray w := by
  by_cases hstr : ∃ s, v = .str s
  · obtain ⟨s, rfl⟩ := hstr
    cases hv
    simp only [moreCells] at hs
    by_cases h1 : sz = 1
    · rw [if_pos h1] at hs; injection hs with hs; subst hs; subst h1
      refine ⟨s.length, by simp, u8_one s, by simp [Builtin.lenOf, ByteArray.size], fun k hk => ?_⟩
      refine ⟨((s.take k).map fun b => Value.int .u8 (b.toNat : Int)), ?_, ?_⟩
      · have := u8_vrs W (s.take k)
        rw [List.map_take] at this
        rw [Nat.mul_one]; exact this
      · have : ((⟨s.toArray⟩ : ByteArray).extract 0 k).data = (s.take k).toArray := by
          rw [ByteArray.data_extract]
          apply Array.ext'
          simp
        simp [Builtin.firstCells, this]
    · rw [if_neg h1] at hs; simp at hs
  · have hsl : sliceCells σ sz v = some cs := by
      cases v <;> first | exact hs | exact absurd ⟨_, rfl⟩ hstr
    obtain ⟨base, len, cap, rfl, hcap, hok⟩ := slice_ok hR hv hsl
    refine ⟨len, hok.1, hok.2.1, by simp [Builtin.lenOf], fun k hk => ?_⟩
    obtain ⟨us, h1, h2⟩ := slCells_run (P := P) hok k (by rw [hok.1]; exact Nat.mul_le_mul_right _ hk)
    exact ⟨us, h1, h2 cap⟩

theorem growBy_le (n : Nat) : ∀ (r c : Nat), c ≤ n + (n + 768) / 4 → Builtin.growBy n r c ≤ n + (n + 768) / 4
  | 0, c, h => h
  | r + 1, c, h => by
    unfold Builtin.growBy
    split
    · exact h
    · rename_i hc
      exact growBy_le n r _ (by omega)

theorem cap_le {need old : Nat} (h : old < need) : Builtin.nextslicecap need old ≤ 2 * need + 192 := by
  unfold Builtin.nextslicecap
  split
  · omega
  · split
    · omega
    · have := growBy_le need 4 old (by omega)
      omega

theorem exec_append {c : Call} (hc : c.callee = .builtin .append) {y y2 : Operand} (hy : c.args = #[y, y2]) :
    execOp a.eval ⟨d, .call c, ty, pos, af, g⟩ = (do pure (.value (← Builtin.append_ c.argTypes ty #[a.eval y, a.eval y2]))) := by
  obtain ⟨cs, hex⟩ := exec_builtin (a := a) (d := d) (ty := ty) (pos := pos) (af := af) (g := g) hc
  rw [hex, hy]; simp [builtin]

structure AppT (P : Program) (c : Call) (sz bytes : Nat) (e : TypeId) : Prop where
  t0 : ∃ t, c.argTypes[0]? = some t ∧ P.underlying t = some (.slice e)
  t1 : ∃ t, c.argTypes[1]? = some t ∧ (P.underlying t = some .string ∨ ∃ e', P.underlying t = some (.slice e'))
  info : ∃ i z, P.info? e = some i ∧ i.bytes = bytes ∧ i.size = sz ∧ i.zero = some z ∧ z.cells.size = sz

theorem append_inplace {c : Call} {sz bytes : Nat} {e : TypeId} (hT : AppT P c sz bytes e) {base : Option Addr} {len cap n : Nat} {u2 : Value} {us : List Value} (hlen : (Builtin.lenOf u2).run P w = .ok n w)
    (hcells : (Builtin.firstCells sz n u2).run P w = .ok us.toArray w) (hfit : len + n ≤ cap) :
    (Builtin.append_ c.argTypes ty #[.slice base len cap, u2]).run P w = (match base with
      | some p => ((storeCells (p.add (len * sz)) us).run P w).andThen fun _ w' => .ok (.slice base (len + n) cap) w'
      | none => .ok (.slice base (len + n) cap) w) := by
  obtain ⟨t, h0, hu0⟩ := hT.t0
  obtain ⟨t1, h1, hu1⟩ := hT.t1
  obtain ⟨i, z, hi, hb, hs, hz, hzs⟩ := hT.info
  rcases hu1 with hu1 | ⟨e', hu1⟩ <;> cases base <;> simp [Builtin.append_, h0, h1, run_underlying hu0, run_underlying hu1, sizeOf, typeInfo, hi, hs, hlen, hcells, hfit]

theorem append_new {c : Call} {sz bytes : Nat} {e : TypeId} (hT : AppT P c sz bytes e) {base : Option Addr} {len cap n : Nat} {u2 : Value} {us old : List Value} (hlen : (Builtin.lenOf u2).run P w = .ok n w)
    (hc : (Builtin.firstCells sz n u2).run P w.drew = .ok us.toArray w.drew) (ho : (Builtin.firstCells sz len (.slice base len cap)).run P w.drew = .ok old.toArray w.drew)
    (hfit : ¬ len + n ≤ cap) (hroom : (len + n) * bytes ≤ room) (hroom2 : len + n ≤ room) :
    ∃ newCap, len + n ≤ newCap ∧ ∃ rest : Array Value, rest.size = (newCap - (len + n)) * sz ∧
    (Builtin.append_ c.argTypes ty #[.slice base len cap, u2]).run P w = .ok (.slice (some ⟨w.heap.size, 0, none⟩) (len + n) newCap) (w.drew.alloc (.cells (old.toArray ++ (us.toArray ++ rest)) e)) := by
  obtain ⟨t, h0, hu0⟩ := hT.t0
  obtain ⟨t1, h1, hu1⟩ := hT.t1
  obtain ⟨i, z, hi, hb, hs, hz, hzs⟩ := hT.info
  have hroomv : room = 1099511627776 := by unfold room; decide
  have hcap := cap_le (need := len + n) (old := cap) (by omega)
  have hpos : 1 ≤ len + n := by omega
  have hbig : ¬ (281474976710656 < Builtin.nextslicecap (len + n) cap * i.bytes) := by
    have h2 : Builtin.nextslicecap (len + n) cap * bytes ≤ (2 * (len + n) + 192) * bytes := Nat.mul_le_mul_right _ hcap
    have h3 : (2 * (len + n) + 192) * bytes = 2 * ((len + n) * bytes) + 192 * bytes := by rw [Nat.add_mul, Nat.mul_assoc]
    have h4 : bytes ≤ (len + n) * bytes := Nat.le_mul_of_pos_left _ hpos
    rw [hb]; omega
  have hmax : ¬ (IntKind.i64.max < ((len + n : Nat) : Int)) := by
    have : IntKind.i64.max = 9223372036854775807 := rfl
    rw [this]; omega
  let newCap := (Question.appendCap (len + n) cap e).cut (w.tape w.drawn (Question.appendCap (len + n) cap e))
  have hge : len + n ≤ newCap := Nat.le_add_right _ _
  refine ⟨newCap, hge, Builtin.zeroCells z.cells (newCap - (len + n)), by simp [Builtin.zeroCells, hzs], ?_⟩
  have hforced : (Question.appendCap (len + n) cap e).forced = false := rfl
  have hmax' : ¬ ((9223372036854775807 : Int) < (len : Int) + (n : Int)) := by omega
  have hmx : IntKind.i64.max = 9223372036854775807 := rfl
  rcases hu1 with hu1 | ⟨e', hu1⟩ <;>
    simp [Builtin.append_, h0, h1, run_underlying hu0, run_underlying hu1, sizeOf, typeInfo, hi, hs, hlen, hfit, hbig, hmx, hmax', hforced, hc, ho, zeroValue, hz, newRow] <;> exact ⟨rfl, rfl⟩

theorem append_app {row : Bool} {sz bytes : Nat} {x y : Opnd} {c : Call} (hok : okOp P (.append row sz bytes x y) (.call c) = true) :
    c.callee = .builtin .append ∧ 1 ≤ sz ∧ ∃ x' y' e, c.args = #[x', y'] ∧ okOpnd x x' = true ∧ okOpnd y y' = true ∧ AppT P c sz bytes e := by
  simp only [okOp] at hok
  cases hcal : c.callee with
  | value => simp [hcal] at hok
  | invoke => simp [hcal] at hok
  | builtin b =>
    cases b <;> simp only [hcal, Bool.false_eq_true, Bool.and_eq_true] at hok
    obtain ⟨⟨hx, hsz⟩, ht⟩ := hok
    obtain ⟨x', y', hy, hx1, hx2⟩ := args_two hx
    refine ⟨rfl, by simpa using hsz, x', y', ?_⟩
    cases h0 : c.argTypes[0]? with
    | none => simp [h0] at ht
    | some t =>
      cases h1 : c.argTypes[1]? with
      | none => simp [h0, h1] at ht
      | some t1 =>
        simp only [h0, h1, Bool.and_eq_true] at ht
        obtain ⟨ht0, ht1⟩ := ht
        cases hu : P.underlying t with
        | none => simp [hu] at ht0
        | some dt =>
          cases dt <;> simp [hu] at ht0
          rename_i e
          cases hi : P.info? e with
          | none => simp [hi] at ht0
          | some i =>
            simp [hi] at ht0
            obtain ⟨⟨hb, hs⟩, hz⟩ := ht0
            cases hzz : i.zero with
            | none => simp [hzz] at hz
            | some z =>
              simp [hzz] at hz
              refine ⟨e, hy, hx1, hx2, ⟨t, h0, hu⟩, ⟨t1, h1, ?_⟩, ⟨i, z, hi, hb, hs, hzz, hz⟩⟩
              cases hu1 : P.underlying t1 with
              | none => simp [hu1] at ht1
              | some d1 =>
                cases d1 <;> simp [hu1] at ht1
                · exact .inl rfl
                · exact .inr ⟨_, rfl⟩

theorem append_ok (hR : R E W σ w) (hT : TR W tm a.tmps) {row : Bool} {sz bytes : Nat} {x y : Opnd} {c : Call}
    (hok : okOp P (.append row sz bytes x y) (.call c) = true) (hev : evOp E tm σ (.append row sz bytes x y) = some (v, σ')) :
    OpOk E P W σ' w v (execOp a.eval ⟨d, .call c, ty, pos, af, g⟩) := by
  obtain ⟨hcal, hsz, x', y', e, hargs, hx, hy, hA⟩ := append_app hok
  simp only [evOp] at hev
  cases hxe : x.ev tm with
  | none => simp [hxe] at hev
  | some xv =>
    cases hye : y.ev tm with
    | none => simp [hxe, hye] at hev
    | some yv =>
      simp only [hxe, hye] at hev
      have hxr := opnd_vr hT hx hxe
      have hyr := opnd_vr hT hy hye
      have hex := exec_append (a := a) (d := d) (ty := ty) (pos := pos) (af := af) (g := g) hcal hargs
      unfold appendA at hev
      cases hm : moreCells σ sz yv with
      | none => simp [hm] at hev
      | some new =>
        simp only [hm] at hev
        obtain ⟨n, hn, hnone, hlenr, hcells⟩ := more_ok (P := P) hR hyr hm
        have hRd : R E W σ w.drew := hR.drawn _
        obtain ⟨n2, hn2, _, hlenr2, hcells2⟩ := more_ok (P := P) hRd hyr hm
        have hnn : n2 = n := Nat.eq_of_mul_eq_mul_right (by omega : 0 < sz) (by omega)
        subst hnn
        have hfullt : new.take (n2 * sz) = new := List.take_of_length_le (by omega)
        cases hnew : new with
        | nil =>
          rw [hnew] at hev hn
          have hn0 : n2 = 0 := by
            rcases Nat.mul_eq_zero.1 (by simpa using hn.symm) with h | h
            · exact h
            · omega
          subst hn0
          obtain ⟨us, hus, hfc⟩ := hcells 0 (Nat.le_refl _)
          simp at hus
          cases hus
          have hkey : ∀ base len cap, a.eval x' = .slice base len cap → len ≤ cap → OpOk E P W σ w xv (execOp a.eval ⟨d, .call c, ty, pos, af, g⟩) := by
            intro base len cap hxu hcap
            refine .same hR (u := .slice base len cap) ?_ (hxu ▸ hxr)
            rw [hex]
            have := append_inplace (ty := ty) hA (base := base) (len := len) (cap := cap) hlenr hfc (by omega)
            simp only [Sem.run_bind, hxu, this]
            cases base <;> simp [storeCells]
          generalize hxu : a.eval x' = xu at hxr hkey
          cases hxr <;> simp only [reduceCtorEq, Option.some.injEq, Prod.mk.injEq] at hev
          · obtain ⟨rfl, rfl⟩ := hev; exact hkey _ _ _ rfl (Nat.le_refl _)
          · obtain ⟨rfl, rfl⟩ := hev; exact hkey _ _ _ rfl (by assumption)
          · obtain ⟨rfl, rfl⟩ := hev; exact hkey _ _ _ rfl (by assumption)
        | cons q0 new0 =>
          rw [hnew] at hev
          simp only at hev
          rw [← hnew] at hev
          have hn1 : 1 ≤ n2 := by
            rcases Nat.eq_zero_or_pos n2 with h | h
            · subst h; simp at hn; rw [hn] at hnew; simp at hnew
            · exact h
          obtain ⟨us, hus, hfc⟩ := hcells n2 (Nat.le_refl _)
          obtain ⟨usd, husd, hfcd⟩ := hcells2 n2 (Nat.le_refl _)
          rw [hfullt] at hus husd
          have hdiv : new.length / sz = n2 := by rw [hn]; exact Nat.mul_div_cancel _ (by omega)
          generalize hxu : a.eval x' = xu at hxr
          cases xv <;> simp only [reduceCtorEq] at hev
          case nils =>
            cases hxr
            by_cases hcond : sz ≠ 0 ∧ new.length % sz = 0 ∧ new.length / sz * bytes ≤ room ∧ new.length / sz ≤ room
            · rw [if_pos hcond] at hev
              rw [hdiv] at hcond hev
              obtain ⟨newCap, hge, rest, hrest, hrun⟩ := append_new (ty := ty) hA (base := none) (len := 0) (cap := 0) (old := []) hlenr hfcd (by simp [Builtin.firstCells]) (by omega) (by simpa using hcond.2.2.1) (by simpa using hcond.2.2.2)
              simp only [Nat.zero_add] at hge hrest hrun
              have hrun' : (execOp a.eval ⟨d, .call c, ty, pos, af, g⟩).run P w = .ok (.value (.slice (some ⟨w.heap.size, 0, none⟩) n2 newCap)) (w.drew.alloc (.cells (#[] ++ (usd.toArray ++ rest)) e)) := by
                rw [hex]; simp only [Sem.run_bind, hxu, hrun, Result.andThen_ok, Sem.run_pure]
              have hget : ∀ (i : Nat) (u : Value), usd[i]? = some u → (#[] ++ (usd.toArray ++ rest))[i]? = some u := by
                intro i u hu
                have hi : i < usd.length := by
                  rcases Nat.lt_or_ge i usd.length with h | h
                  · exact h
                  · simp [List.getElem?_eq_none h] at hu
                rw [Array.empty_append, Array.getElem?_append_left (by simpa using hi)]
                simpa using hu
              cases row with
              | true =>
                simp only [if_true, Option.some.injEq, Prod.mk.injEq] at hev
                obtain ⟨rfl, rfl⟩ := hev
                refine ⟨_, _, hRd.addBlk_le w.drew.heap.size, hRd.newCells (T := e) (ca := #[] ++ (usd.toArray ++ rest)) hnone (husd.rowGet hget), .inl ⟨_, hrun', .hs _ _ ?_ (by omega) (fun c hc => by simp at hc)⟩⟩
                show (if σ.nid = σ.nid then _ else _) = _; rw [if_pos rfl]; rfl
              | false =>
                simp only [Bool.false_eq_true, if_false, Option.some.injEq, Prod.mk.injEq] at hev
                obtain ⟨rfl, rfl⟩ := hev
                have hul := husd.length
                obtain ⟨W', k1, k2, k3⟩ := newRowTok_ok (T := e) (sz := sz) (len := n2) (cap := newCap) hRd husd hnone hget hsz hn hge (by
                  simp [hrest]
                  rw [Nat.sub_mul]
                  have := Nat.mul_le_mul_right sz hge
                  omega)
                exact ⟨W', _, k1, k2, .inl ⟨_, hrun', k3⟩⟩
            · rw [if_neg hcond] at hev; simp at hev
          case list tok z cs =>
            by_cases hcond : z = sz ∧ new.length % sz = 0 ∧ (cs ++ new).length / sz * bytes ≤ room ∧ (cs ++ new).length / sz ≤ room
            · rw [if_pos hcond] at hev
              obtain ⟨rfl, _, hroom1, hroom2⟩ := hcond
              have hxr0 := hxr
              cases hxr
              rename_i us0 b o len cap hr hcap hs0 h h1 hl htok
              have hclen : (cs ++ new).length = (len + n2) * z := by simp [hl, hn, Nat.add_mul]
              have hcdiv : (cs ++ new).length / z = len + n2 := by rw [hclen]; exact Nat.mul_div_cancel _ (by omega)
              rw [hcdiv] at hroom1 hroom2
              have hone : ∀ c ∈ cs ++ new, c.one = true := by
                intro c hc
                rcases List.mem_append.1 hc with hc | hc
                · exact h1 c hc
                · exact hnone c hc
              -- a new row
              have hnewrow : ¬ len + n2 ≤ cap → ∀ σ1 : St, R E W σ1 w.drew → ∃ W' w', W.Le W' ∧ R E W' σ1.tok w' ∧ ∃ u, (execOp a.eval ⟨d, .call c, ty, pos, af, g⟩).run P w = .ok (.value u) w' ∧ VR W' (.list (.tk σ1.nt) z (cs ++ new)) u := by
                intro hnf σ1 hR1
                have hsl0 : sliceCells σ z (.list tok z cs) = some cs := by simp [sliceCells]
                obtain ⟨base, len', cap', hu', hc', hok'⟩ := slice_ok hRd hxr0 hsl0
                injection hu' with e1 e2 e3
                subst e1; subst e2; subst e3
                obtain ⟨old, hold, hofc⟩ := slCells_run (P := P) hok' len (by rw [hl]; exact Nat.le_refl _)
                rw [List.take_of_length_le (by omega)] at hold
                obtain ⟨newCap, hge, rest, hrest, hrun⟩ := append_new (ty := ty) hA (base := some ⟨b, o, none⟩) (len := len) (cap := cap) hlenr hfcd (hofc cap) hnf hroom1 hroom2
                have hrun' : (execOp a.eval ⟨d, .call c, ty, pos, af, g⟩).run P w = .ok (.value (.slice (some ⟨w.heap.size, 0, none⟩) (len + n2) newCap)) (w.drew.alloc (.cells (old.toArray ++ (usd.toArray ++ rest)) e)) := by
                  rw [hex]; simp only [Sem.run_bind, hxu, hrun, Result.andThen_ok, Sem.run_pure]
                have hget : ∀ (i : Nat) (u : Value), (old ++ usd)[i]? = some u → (old.toArray ++ (usd.toArray ++ rest))[i]? = some u := by
                  intro i u hu
                  have hi : i < (old ++ usd).length := by
                    rcases Nat.lt_or_ge i (old ++ usd).length with h | h
                    · exact h
                    · simp [List.getElem?_eq_none h] at hu
                  rw [← Array.append_assoc, Array.getElem?_append_left (by simpa using hi)]
                  simpa using hu
                have hol := hold.length
                have hul := husd.length
                obtain ⟨W', k1, k2, k3⟩ := newRowTok_ok (T := e) (sz := z) (len := len + n2) (cap := newCap) hR1 (hold.append husd) hone hget hsz hclen hge (by
                  simp [hrest]
                  rw [Nat.sub_mul]
                  have h5 := Nat.mul_le_mul_right z hge
                  have h6 : (len + n2) * z = len * z + n2 * z := Nat.add_mul _ _ _
                  omega)
                exact ⟨W', _, k1, k2, _, hrun', k3⟩
              cases tok with
              | no => simp at hev
              | exact =>
                simp only [Option.some.injEq, Prod.mk.injEq] at hev
                obtain ⟨rfl, rfl⟩ := hev
                have hce : cap = len := htok
                obtain ⟨W', w', k1, k2, u, k3, k4⟩ := hnewrow (by omega) σ hRd
                exact ⟨W', w', k1, k2, .inl ⟨u, k3, k4⟩⟩
              | own =>
                simp only [Option.some.injEq, Prod.mk.injEq] at hev
                obtain ⟨rfl, rfl⟩ := hev
                have hce : cap = len := htok.1
                obtain ⟨W', w', k1, k2, u, k3, k4⟩ := hnewrow (by omega) σ hRd
                exact ⟨W', w', k1, k2, .inl ⟨u, k3, k4⟩⟩
              | tk t =>
                by_cases hlive : σ.ft ≤ t ∧ t ∈ σ.live
                · simp only [if_pos hlive, Option.some.injEq, Prod.mk.injEq] at hev
                  obtain ⟨rfl, rfl⟩ := hev
                  by_cases hfit : len + n2 ≤ cap
                  · obtain ⟨tx, htk, htok⟩ := htok
                    rcases htok with hce | ⟨htx, m, hm1, hm2⟩
                    · omega
                    · subst htx
                      have hul := hus.length
                      have hfit2 : o + cs.length + us.length ≤ m := by
                        have h5 := Nat.mul_le_mul_right z hfit
                        rw [Nat.add_mul] at h5
                        rw [Nat.sub_mul] at hm2
                        have h6 : us.length = n2 * z := by omega
                        omega
                      have hRe := hR.extend hlive.2 htk hm1 hfit2
                      have hLe := hR.extend_le hlive.2 htk hm1 hfit2
                      obtain ⟨t1, t2, t3, t4⟩ := hR.tok t b (o + cs.length) htk
                      have hLe2 := hRe.addTok_le b (o + cs.length + us.length)
                      have hRn := hRe.newTok b (o + cs.length + us.length) t1 (by rw [setCells_size]; exact t2) t4 (by
                        intro t' p ht' hp
                        have := hR.tinj t t' b _ p hlive.2 (List.mem_of_mem_erase ht') htk hp
                        subst this
                        exact (List.Nodup.mem_erase_iff hR.nodup).1 ht' |>.1 rfl) (by
                        intro n' hn' i hi hin
                        have hn'' : W.size b = some n' := hn'
                        rw [hm1] at hn''; injection hn'' with hn''; subst hn''
                        obtain ⟨s1, s2⟩ := hR.live t b _ hlive.2 htk m hm1 i (by omega) hin
                        refine ⟨?_, by rw [World.frozen?_setCells]; exact s2⟩
                        show (if b = b ∧ o + cs.length ≤ i ∧ i < o + cs.length + us.length then us[i - (o + cs.length)]? else W.sealed b i) = none
                        rw [if_neg (by omega)]; exact s1)
                      have hRn' : R E ((W.addSeal b (o + cs.length) us).addTok σ.nt b (o + cs.length + us.length)) (σ.use t) (w.setCells b (o + cs.length) us) := hRn
                      refine ⟨_, _, hLe.trans hLe2, hRn', .inl ⟨.slice (some ⟨b, o, none⟩) (len + n2) cap, ?_, ?_⟩⟩
                      · have := append_inplace (ty := ty) hA (base := some ⟨b, o, none⟩) (len := len) (cap := cap) hlenr hfc hfit
                        simp only [Addr.add_none] at this
                        have hsc := run_storeCells_cells (P := P) b (o + len * z) us 0 w (fun j hj => by
                            exact hR.size b m hm1 _ (by omega)) (fun j hj => by
                            exact (hR.live t b _ hlive.2 htk m hm1 _ (by omega) (by omega)).2)
                          (fun y hy => by
                            obtain ⟨i, hi, rfl⟩ := List.mem_iff_getElem.1 hy
                            obtain ⟨q, hq, hrq⟩ := hus.get' i (List.getElem?_eq_getElem hi)
                            exact hrq.one (hnone q (List.mem_of_getElem? hq)))
                        simp only [Nat.add_zero] at hsc
                        rw [hex]
                        simp only [Sem.run_bind, hxu, this, hsc, Result.andThen_ok, Sem.run_pure, hl]
                      · have hv1 := (h.mono (hLe.trans hLe2)).append (hus.mono (hLe.trans hLe2))
                        have hlu0 := h.length
                        refine .list hv1 hone ?_ hsz hclen hfit ⟨(b, o + cs.length + us.length), ?_, .inr ⟨by simp; omega, m, ?_, ?_⟩⟩
                        · intro i hi
                          simp only [List.length_append] at hi
                          by_cases hi0 : i < us0.length
                          · rw [List.getElem_append_left hi0]
                            exact (hLe.trans hLe2).sealed _ _ _ (hr i hi0)
                          · rw [List.getElem_append_right (by omega)]
                            refine hLe2.sealed _ _ _ ?_
                            show (if b = b ∧ o + cs.length ≤ o + i ∧ o + i < o + cs.length + us.length then us[o + i - (o + cs.length)]? else W.sealed b (o + i)) = _
                            rw [if_pos (by omega)]
                            have hidx : o + i - (o + cs.length) = i - us0.length := by omega
                            rw [hidx, List.getElem?_eq_getElem (by omega)]
                        · show (if σ.nt = σ.nt then some (b, o + cs.length + us.length) else _) = _
                          rw [if_pos rfl]
                        · exact (hLe.trans hLe2).size _ _ hm1
                        · have h5 : (cap - (len + n2)) * z = (cap - len) * z - n2 * z := by rw [← Nat.sub_sub, Nat.sub_mul (cap - len)]
                          have h7 : n2 * z ≤ (cap - len) * z := Nat.mul_le_mul_right z (by omega)
                          simp only [List.length_append]
                          omega
                  · have hRf : R E W { σ with live := σ.live.erase t } w.drew := hRd.fewer (fun t' ht' => List.mem_of_mem_erase ht') (hR.nodup.erase t)
                    obtain ⟨W', w', k1, k2, u, k3, k4⟩ := hnewrow hfit _ hRf
                    exact ⟨W', w', k1, k2, .inl ⟨u, k3, k4⟩⟩
                · simp [if_neg hlive] at hev
            · rw [if_neg hcond] at hev; simp at hev

end
end Go.Pv
