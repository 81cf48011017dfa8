import Derived.Test.YtkookjaafgkfnaaDoorPvOp3
import Derived.Laws.StructEq
namespace Go.Pv
set_option linter.all false
open Go.RowKit

section
variable {E : Env} {P : Program} {W : KW} {σ σ' : St} {w : World} {tm : List (Nat × AV)} {a : Act} {v : AV} {ty : TypeId} {pos : String} {af : Array Edge} {g : Option (Nat × Bool)} {d : Option Tmp}

theorem beq_dec {α : Type} [BEq α] [LawfulBEq α] [DecidableEq α] (a b : α) : (a == b) = decide (a = b) := by
  by_cases h : a = b <;> simp [h]

theorem int_run (op : BinOp) (t : TypeId) (k : IntKind) (m n : Int) (hop : op ≠ .shl ∧ op ≠ .shr) (h : intA op k m n = some v) : ∃ u, (binOp op t (.int k m) (.int k n)).run P w = .ok u w ∧ VR W v u := by
  cases op <;> simp only [intA, bitsA, Option.some.injEq, ne_eq, not_true, false_and, and_false] at h hop
  case quo => simp at h; obtain ⟨h0, rfl⟩ := h; exact ⟨_, by simp [binOp, Op.intDiv, h0], .int _ _⟩
  case rem => simp at h; obtain ⟨h0, rfl⟩ := h; exact ⟨_, by simp [binOp, Op.intDiv, h0], .int _ _⟩
  case eql => subst h; exact ⟨.bool (decide (m = n)), by simp [binOp, Op.intCmp, beq_dec], .bool _⟩
  case neq => subst h; exact ⟨.bool (!decide (m = n)), by simp [binOp, Op.intCmp, bne, beq_dec], .bool _⟩
  all_goals
    subst h
    first
      | exact ⟨_, by simp only [binOp, if_false, ne_eq, not_true]; rfl, .int _ _⟩
      | exact ⟨_, by simp only [binOp, if_false, ne_eq, not_true]; rfl, .bool _⟩

theorem shift_run (op : BinOp) (t : TypeId) (k k' : IntKind) (m n : Int) (h : shiftA op k m n = some v) : ∃ u, (binOp op t (.int k m) (.int k' n)).run P w = .ok u w ∧ VR W v u := by
  unfold shiftA at h
  by_cases h0 : n < 0
  · rw [if_pos h0] at h; simp at h
  · rw [if_neg h0] at h
    cases op <;> simp at h
    · subst h; exact ⟨_, by simp [binOp, Op.shift, h0], .int _ _⟩
    · subst h; exact ⟨_, by simp [binOp, Op.shift, h0], .int _ _⟩

theorem str_run (op : BinOp) (t : TypeId) (x y : List UInt8) (h : strA op x y = some v) : ∃ u, (binOp op t (.string ⟨x.toArray⟩) (.string ⟨y.toArray⟩)).run P w = .ok u w ∧ VR W v u := by
  cases op <;> simp [strA] at h
  case add =>
    obtain ⟨h0, rfl⟩ := h
    refine ⟨.string ⟨(x ++ y).toArray⟩, ?_, .str _⟩
    have hsz : (⟨x.toArray⟩ : ByteArray).size = x.length := by simp [ByteArray.size]
    have hsy : (⟨y.toArray⟩ : ByteArray).size = y.length := by simp [ByteArray.size]
    have happ : (⟨x.toArray⟩ : ByteArray) ++ ⟨y.toArray⟩ = ⟨(x ++ y).toArray⟩ := by
      apply ByteArray.ext
      apply Array.ext'
      rw [ByteArray.data_append]; simp
    have hlim : ¬ (((x.length + y.length : Nat) : Int) > IntKind.i64.max) := by
      unfold strLim at h0
      have : IntKind.i64.max = 9223372036854775807 := rfl
      rw [this]; omega
    simp only [binOp, Op.stringOp, hsz, hsy, hlim, if_false, happ, Sem.run_pure]
  case eql => subst h; exact ⟨.bool (decide (x = y)), by simp [binOp, Op.stringOp, ByteArray.toList_mk, beq_dec], .bool _⟩
  case neq => subst h; exact ⟨.bool (!decide (x = y)), by simp [binOp, Op.stringOp, ByteArray.toList_mk, beq_dec], .bool _⟩
  case lss => subst h; exact ⟨.bool (Op.bytesLess x y), by simp [binOp, Op.stringOp, ByteArray.toList_mk], .bool _⟩
  case leq => subst h; exact ⟨.bool (Op.bytesLess x y || decide (x = y)), by simp [binOp, Op.stringOp, ByteArray.toList_mk, beq_dec], .bool _⟩
  case gtr => subst h; exact ⟨.bool (!(Op.bytesLess x y || decide (x = y))), by simp [binOp, Op.stringOp, ByteArray.toList_mk, beq_dec], by simpa using VR.bool _⟩
  case geq => subst h; exact ⟨.bool (!Op.bytesLess x y), by simp [binOp, Op.stringOp, ByteArray.toList_mk], .bool _⟩

theorem float_run (op : BinOp) (t : TypeId) (k : FloatKind) (x y : Nat) (h : floatA op k x y = some v) : ∃ u, (binOp op t (.float k x) (.float k y)).run P w = .ok u w ∧ VR W v u := by
  cases op <;> simp [floatA] at h
  case add => obtain ⟨r, h1, rfl⟩ := h; exact ⟨_, by simp [binOp, Op.floatArith, h1], .float _ _⟩
  case sub => obtain ⟨r, h1, rfl⟩ := h; exact ⟨_, by simp [binOp, Op.floatArith, h1], .float _ _⟩
  case mul => obtain ⟨r, h1, rfl⟩ := h; exact ⟨_, by simp [binOp, Op.floatArith, h1], .float _ _⟩
  case quo => obtain ⟨r, h1, rfl⟩ := h; exact ⟨_, by simp [binOp, Op.floatArith, h1], .float _ _⟩
  all_goals
    subst h
    exact ⟨_, by simp only [binOp, Op.floatCmp, if_false, ne_eq, not_true]; rfl, .bool _⟩

theorem eqGuard_plain (op : BinOp) (t : TypeId) (x y : Operand) {p q : Value} (h : ∀ cs, p ≠ .agg cs) (h' : p ≠ .nilIface) (w : World) : (eqGuard op t x y p q).run P w = .ok () w := by
  cases op <;> first
    | rfl
    | (cases p <;> first | exact absurd rfl h' | exact absurd rfl (h _) | rfl)

theorem bin_ok (hR : R E W σ w) (hT : TR W tm a.tmps) {op op' : BinOp} {x y : Opnd} {t : TypeId} {x' y' : Operand} {t' : TypeId}
    (hok : okOp P (.bin op x y) (.binOp op' t x' y' t') = true) (hev : evOp E tm σ (.bin op x y) = some (v, σ')) :
    OpOk E P W σ' w v (execOp a.eval ⟨d, .binOp op' t x' y' t', ty, pos, af, g⟩) := by
  simp [okOp] at hok
  obtain ⟨⟨rfl, hx⟩, hy⟩ := hok
  simp only [evOp] at hev
  cases hxe : x.ev tm with
  | none => simp [hxe] at hev
  | some xv =>
    cases hye : y.ev tm with
    | none => simp [hxe, hye] at hev
    | some yv =>
      simp [hxe, hye] at hev
      obtain ⟨r, hb, rfl, rfl⟩ := hev
      have hxr := opnd_vr hT hx hxe
      have hyr := opnd_vr hT hy hye
      have key : ∃ u, (binOp op t (a.eval x') (a.eval y')).run P w = .ok u w ∧ VR W r u := by
        generalize a.eval x' = xu at hxr
        generalize a.eval y' = yu at hyr
        cases xv <;> cases yv <;> simp [binA] at hb
        · cases hxr; cases hyr
          rename_i k m k' n
          by_cases hs : op = .shl ∨ op = .shr
          · rcases hs with rfl | rfl <;> exact shift_run _ t k k' m n hb
          · have : (if k = k' then intA op k m n else none) = some r := by
              cases op <;> simp at hs <;> exact hb
            by_cases hk : k = k'
            · subst hk; rw [if_pos rfl] at this; exact int_run op t k m n ⟨fun e => hs (.inl e), fun e => hs (.inr e)⟩ this
            · rw [if_neg hk] at this; simp at this
        · cases hxr; cases hyr
          obtain ⟨rfl, hb⟩ := hb
          exact float_run op t _ _ _ hb
        · cases hxr; cases hyr
          exact str_run op t _ _ hb
      obtain ⟨u, hrun, hvr⟩ := key
      refine .same hR (u := u) ?_ hvr
      have hg := eqGuard_plain (P := P) op t x' y' (p := a.eval x') (q := a.eval y') (by
        intro cs e; rw [e] at hxr; cases hxr; cases yv <;> simp [binA] at hb) (by
        intro e; rw [e] at hxr; cases hxr; cases yv <;> simp [binA] at hb) w
      simp [execOp, hg, hrun]

/-! ### Values of one kind, held against each other -/

theorem leavesEq_append {ks ks' : List LK} : ∀ {l m : List AV} {r : Bool}, leavesEq (ks ++ ks') l m = some r →
    ∃ r1 r2, leavesEq ks (l.take ks.length) (m.take ks.length) = some r1 ∧ leavesEq ks' (l.drop ks.length) (m.drop ks.length) = some r2 ∧ r = (r1 && r2) := by
  induction ks with
  | nil => intro l m r h; exact ⟨true, r, by simp [leavesEq], by simpa using h, by simp⟩
  | cons k ks ih =>
    intro l m r h
    cases l with
    | nil => simp [leavesEq] at h
    | cons x l =>
      cases m with
      | nil => simp [leavesEq] at h
      | cons y m =>
        simp only [List.cons_append, leavesEq] at h
        cases h1 : leafEq k x y with
        | none => simp [h1] at h
        | some b1 =>
          cases h2 : leavesEq (ks ++ ks') l m with
          | none => simp [h1, h2] at h
          | some b2 =>
            simp [h1, h2] at h; subst h
            obtain ⟨r1, r2, e1, e2, e3⟩ := ih h2
            refine ⟨b1 && r1, r2, by simp [leavesEq, h1, e1], by simpa using e2, by rw [e3, Bool.and_assoc]⟩

theorem leavesEq_length {ks : List LK} : ∀ {l m : List AV} {r : Bool}, leavesEq ks l m = some r → l.length = ks.length ∧ m.length = ks.length := by
  induction ks with
  | nil => intro l m r h; cases l <;> cases m <;> simp [leavesEq] at h; simp
  | cons k ks ih =>
    intro l m r h
    cases l with
    | nil => simp [leavesEq] at h
    | cons x l =>
      cases m with
      | nil => simp [leavesEq] at h
      | cons y m =>
        simp only [leavesEq] at h
        cases h1 : leafEq k x y with
        | none => simp [h1] at h
        | some b1 =>
          cases h2 : leavesEq ks l m with
          | none => simp [h1, h2] at h
          | some b2 => have := ih h2; simp [this]

/-- The value of a type out of its cells. -/
def aggVal (P : Program) (t : TypeId) (us : List Value) : Value :=
  match P.underlying t with
  | some (.struct _) => .agg us.toArray
  | _ => us.headD undef

theorem leafKinds_size : ∀ {dd : Nat} {t : TypeId} {ks : List LK}, leafKinds P dd t = some ks → szOf P t = some ks.length
  | 0, _, _, h => by simp [leafKinds] at h
  | dd + 1, t, ks, h => by
    unfold leafKinds at h
    split at h
    · split at h <;> simp at h; subst h; assumption
    · split at h <;> simp at h; subst h; assumption
    · split at h <;> simp at h; subst h; assumption
    · split at h
      · simp at h
      · split at h
        · split at h
          · simp at h; subst h; assumption
          · simp at h
        · simp at h
    · simp at h

theorem run_partVal {t : TypeId} {n : Nat} {us : List Value} {off : Nat} (hs : szOf P t = some n) (hu : (∃ fs, P.underlying t = some (.struct fs)) ∨ (n = 1 ∧ (∃ de, P.underlying t = some de ∧ (match de with | .struct _ | .array _ _ => true | _ => false) = false)))
    (hn : off + n ≤ us.length) (w : World) : (part t us.toArray off).run P w = .ok (aggVal P t ((us.drop off).take n)) w := by
  rcases hu with ⟨fs, hu⟩ | ⟨rfl, de, hu, hde⟩
  · simp only [part, isAgg, Sem.run_bind, run_underlying hu, Result.andThen_ok, Sem.run_pure, if_true, run_size hs, aggVal, hu]
    simp [List.take_drop]
  · have ha : (isAgg t).run P w = .ok false w := by
      simp only [isAgg, Sem.run_bind, run_underlying hu, Result.andThen_ok]
      cases de <;> simp at hde <;> rfl
    have hx : us.toArray[off]? = some us[off] := by simp
    simp only [part, Sem.run_bind, ha, Result.andThen_ok, Bool.false_eq_true, if_false, hx, Sem.run_pure]
    have : aggVal P t ((us.drop off).take 1) = us[off] := by
      have h1 : (us.drop off).take 1 = [us[off]] := by
        rw [List.drop_eq_getElem_cons (by omega)]; rfl
      rw [h1]; unfold aggVal; rw [hu]; cases de <;> simp at hde <;> rfl
    rw [this]

theorem leafKinds_under {dd : Nat} {t : TypeId} {ks : List LK} (h : leafKinds P dd t = some ks) :
    (∃ fs, P.underlying t = some (.struct fs)) ∨ (ks.length = 1 ∧ (∃ de, P.underlying t = some de ∧ (match de with | .struct _ | .array _ _ => true | _ => false) = false)) := by
  cases dd with
  | zero => simp [leafKinds] at h
  | succ dd =>
    unfold leafKinds at h
    split at h
    · split at h <;> simp at h; subst h; exact .inr ⟨rfl, _, by assumption, rfl⟩
    · split at h <;> simp at h; subst h; exact .inr ⟨rfl, _, by assumption, rfl⟩
    · split at h <;> simp at h; subst h; exact .inr ⟨rfl, _, by assumption, rfl⟩
    · exact .inl ⟨_, by assumption⟩
    · simp at h

theorem leaves_run : ∀ (dd : Nat) {t : TypeId} {ks : List LK}, leafKinds P dd t = some ks → ∀ {D : Nat}, dd ≤ D → ∀ {cs ds : List AV} {us vs : List Value} {r : Bool},
    leavesEq ks cs ds = some r → VRs W cs us → VRs W ds vs → ∀ w, (Op.equalIn D t (aggVal P t us) (aggVal P t vs)).run P w = .ok r w
  | 0, _, _, h, _, _, _, _, _, _, _, _, _, _, _ => by simp [leafKinds] at h
  | dd + 1, t, ks, h, D, hD, cs, ds, us, vs, r, hl, hu, hv, w => by
    obtain ⟨D, rfl⟩ : ∃ k, D = k + 1 := ⟨D - 1, by omega⟩
    unfold leafKinds at h
    have one : ∀ {k : LK}, ks = [k] → ∃ x y u q, cs = [x] ∧ ds = [y] ∧ us = [u] ∧ vs = [q] ∧ VR W x u ∧ VR W y q ∧ leafEq k x y = some r := by
      intro k hk; subst hk
      obtain ⟨l1, l2⟩ := leavesEq_length hl
      cases hu with
      | nil => simp at l1
      | cons hx hxs =>
        cases hxs with
        | cons => simp at l1
        | nil =>
          cases hv with
          | nil => simp at l2
          | cons hy hys =>
            cases hys with
            | cons => simp at l2
            | nil =>
              refine ⟨_, _, _, _, rfl, rfl, rfl, rfl, hx, hy, ?_⟩
              simp only [leavesEq] at hl
              split at hl
              · rename_i x y e1 e2; simp at e2; subst e2; simpa [e1] using hl
              · simp at hl
    split at h
    · rename_i hud
      split at h <;> simp at h; subst h
      obtain ⟨x, y, u, q, rfl, rfl, rfl, rfl, hx, hy, hle⟩ := one rfl
      simp only [aggVal, hud, List.headD_cons]
      cases hx <;> cases hy <;> simp [leafEq] at hle
      subst hle; exact run_equalIn_bool' w D t _ _ hud
    · rename_i k hud
      split at h <;> simp at h; subst h
      obtain ⟨x, y, u, q, rfl, rfl, rfl, rfl, hx, hy, hle⟩ := one rfl
      simp only [aggVal, hud, List.headD_cons]
      cases hx <;> cases hy <;> simp [leafEq] at hle
      obtain ⟨rfl, rfl⟩ := hle
      rw [run_equalIn_int w D t _ _ _ _ hud, beq_dec]
    · rename_i hud
      split at h <;> simp at h; subst h
      obtain ⟨x, y, u, q, rfl, rfl, rfl, rfl, hx, hy, hle⟩ := one rfl
      simp only [aggVal, hud, List.headD_cons]
      cases hx <;> cases hy <;> simp [leafEq] at hle
      subst hle
      rw [run_equalIn_string w D t _ _ hud]; simp [ByteArray.toList_mk, beq_dec]
    · rename_i fs hud
      have hfo : P.fieldsOf t = fs := by simp [Program.fieldsOf, hud]
      by_cases hst : P.stoodInHeld t = true
      · rw [if_pos hst] at h; simp at h
      · rw [if_neg hst] at h
        cases hlf : leafFields (leafKinds P dd) fs.toList 0 with
        | none => simp [hlf] at h
        | some ks' =>
          simp only [hlf] at h
          by_cases hsz : szOf P t = some ks'.length
          · rw [if_pos hsz] at h; injection h with h; subst h
            simp only [aggVal, hud]
            rw [run_equalIn_agg w D t _ _ (by rw [hfo]; exact hud) (by simpa using hst), hfo]
            have key : ∀ (l : List Field) (off : Nat) (kk : List LK) (r : Bool), off ≤ cs.length → off ≤ ds.length → leafFields (leafKinds P dd) l off = some kk → leavesEq kk (cs.drop off) (ds.drop off) = some r →
                (Op.eqFields D us.toArray vs.toArray l).run P w = .ok r w := by
              intro l
              induction l with
              | nil =>
                intro off kk r o1 o2 h1 h2
                simp [leafFields] at h1; subst h1
                have : r = true := by
                  have := leavesEq_length h2
                  cases hc : cs.drop off <;> cases hd : ds.drop off <;> simp [hc, hd, leavesEq] at h2
                  exact h2
                subst this; rfl
              | cons f l ih =>
                intro off kk r o1 o2 h1 h2
                simp only [leafFields] at h1
                by_cases hf : f.offset = off ∧ f.name ≠ "_"
                · rw [if_pos hf] at h1
                  cases hk : leafKinds P dd f.type with
                  | none => simp [hk] at h1
                  | some k1 =>
                    cases hk2 : leafFields (leafKinds P dd) l (off + k1.length) with
                    | none => simp [hk, hk2] at h1
                    | some k2 =>
                      simp [hk, hk2] at h1; subst h1
                      obtain ⟨r1, r2, e1, e2, e3⟩ := leavesEq_append h2
                      obtain ⟨L1, L2⟩ := leavesEq_length e1
                      simp only [List.length_take, List.length_drop] at L1 L2
                      have hlu := hu.length
                      have hlv := hv.length
                      have hp1 := run_partVal (us := us) (off := off) (leafKinds_size hk) (leafKinds_under hk) (by omega) w
                      have hp2 := run_partVal (us := vs) (off := off) (leafKinds_size hk) (leafKinds_under hk) (by omega) w
                      have hq := leaves_run dd hk (D := D) (by omega) e1 ((hu.drop off).take k1.length) ((hv.drop off).take k1.length) w
                      rw [List.drop_drop, List.drop_drop] at e2
                      have hrest := ih (off + k1.length) k2 r2 (by omega) (by omega) hk2 e2
                      simp only [Op.eqFields, if_pos hf.2, Sem.run_bind, hf.1, hp1, hp2, Result.andThen_ok, hq]
                      cases r1
                      · simp [e3]
                      · simp [hrest, e3]
                · rw [if_neg hf] at h1; simp at h1
            exact key fs.toList 0 ks' r (Nat.zero_le _) (Nat.zero_le _) hlf (by simpa using hl)
          · rw [if_neg hsz] at h; simp at h
    · simp at h

theorem eqv_run {D : Nat} (hD : 8 ≤ D) {k : EqK} {t : TypeId} {x' y' : Operand} {x y : AV} {p q : Value} {r : Bool} (hk : okEqK P k t x' y' = true) (he : eqA k x y = some r) (hx : VR W x p) (hy : VR W y q) (w : World) :
    (Op.equalIn (D + 1) t p q).run P w = .ok r w ∧ ∀ op, (eqGuard op t x' y' p q).run P w = .ok () w := by
  cases k <;> simp only [okEqK] at hk
  case agg ks =>
    cases hu : P.underlying t with
    | none => simp [hu] at hk
    | some de =>
      cases de <;> simp [hu] at hk
      obtain ⟨h1, h2⟩ := hk
      cases x <;> cases y <;> simp [eqA] at he
      cases hx; cases hy
      rename_i cs ds us hus _ vs hvs _
      have := leaves_run 8 h1 (D := D + 1) (by omega) he hus hvs w
      simp only [aggVal, hu] at this
      exact ⟨this, fun op => run_eqGuard_agg w op t x' y' _ _ h2⟩
  all_goals
    cases hu : P.underlying t with
    | none => simp [hu] at hk
    | some de =>
      cases de <;> simp [hu] at hk
      all_goals
        cases x <;> cases y <;> simp [eqA] at he
        all_goals
          cases hx; cases hy; subst he
          refine ⟨by rw [Op.equalIn, Sem.run_bind, run_underlying hu]; rfl, fun op => ?_⟩
          first
            | (refine eqGuard_plain op t x' y' ?_ ?_ w <;> (simp; done))
            | (cases op <;> first | rfl | (simp [eqGuard]; intro h3 h4; rcases hk with hk | hk <;> first | exact absurd (h3.symm.trans hk) (by decide) | exact absurd (h4.symm.trans hk) (by decide)))

/-- No number and no string. -/
def kindless : Value → Bool
  | .int _ _ | .float _ _ | .complex _ _ _ | .string _ => false
  | _ => true

theorem binOp_eql (t : TypeId) (p q : Value) (hp : kindless p = true) : binOp .eql t p q = (do pure (.bool (← Op.equal t p q))) := by
  cases p <;> simp [kindless] at hp <;> cases q <;> rfl

theorem binOp_neq (t : TypeId) (p q : Value) (hp : kindless p = true) : binOp .neq t p q = (do pure (.bool (!(← Op.equal t p q)))) := by
  cases p <;> simp [kindless] at hp <;> cases q <;> rfl

theorem eqA_kindless {k : EqK} {x y : AV} {p : Value} {r : Bool} (he : eqA k x y = some r) (hx : VR W x p) : kindless p = true := by
  cases hx <;> first | rfl | (cases k <;> simp [eqA] at he)

theorem eqv_ok (hR : R E W σ w) (hT : TR W tm a.tmps) {k : EqK} {neg : Bool} {x y : Opnd} {op : BinOp} {t : TypeId} {x' y' : Operand} {t' : TypeId}
    (hok : okOp P (.eqv k neg x y) (.binOp op t x' y' t') = true) (hev : evOp E tm σ (.eqv k neg x y) = some (v, σ')) :
    OpOk E P W σ' w v (execOp a.eval ⟨d, .binOp op t x' y' t', ty, pos, af, g⟩) := by
  simp [okOp] at hok
  obtain ⟨⟨⟨hop, hk⟩, hx⟩, hy⟩ := hok
  simp only [evOp] at hev
  cases hxe : x.ev tm with
  | none => simp [hxe] at hev
  | some xv =>
    cases hye : y.ev tm with
    | none => simp [hxe, hye] at hev
    | some yv =>
      simp only [hxe, hye] at hev
      cases hb : eqA k xv yv with
      | none => simp [hb] at hev
      | some r =>
        simp only [hb, Option.map_some, Option.some.injEq, Prod.mk.injEq] at hev
        obtain ⟨rfl, rfl⟩ := hev
        have hxr := opnd_vr hT hx hxe
        have hyr := opnd_vr hT hy hye
        obtain ⟨h1, h2⟩ := eqv_run (D := 9999) (by omega) hk hb hxr hyr w
        have h1' : (Op.equal t (a.eval x') (a.eval y')).run P w = .ok r w := h1
        have hkl := eqA_kindless hb hxr
        refine .same hR (u := .bool (if neg then !r else r)) ?_ (.bool _)
        subst hop
        cases neg
        · simp [execOp, h2, binOp_eql _ _ _ hkl, h1']
        · simp [execOp, h2, binOp_neq _ _ _ hkl, h1']

end
end Go.Pv
