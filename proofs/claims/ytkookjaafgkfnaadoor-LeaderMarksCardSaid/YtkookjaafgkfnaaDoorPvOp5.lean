import Derived.Test.YtkookjaafgkfnaaDoorPvOp4
import Derived.Laws.IdiomStrings
namespace Go.Pv
set_option linter.all false
open Go.RowKit

section
variable {E : Env} {P : Program} {W : KW} {σ σ' : St} {w : World} {tm : List (Nat × AV)} {a : Act} {v : AV} {ty : TypeId} {pos : String} {af : Array Edge} {g : Option (Nat × Bool)} {d : Option Tmp}

/-- What a slice's cells are in the world. -/
def SlOk (W : KW) (w : World) (cs : List AV) (base : Option Addr) (len sz : Nat) : Prop :=
  cs.length = len * sz ∧ (∀ c ∈ cs, c.one = true) ∧
  match base with
  | none => len = 0
  | some p => p.spot = none ∧ ∀ i c, cs[i]? = some c → ∃ x, w.cell? ⟨p.block, p.off + i, none⟩ = some x ∧ VR W c x

theorem slice_ok (hR : R E W σ w) {u : Value} {cs : List AV} {sz : Nat} (hv : VR W v u) (hs : sliceCells σ sz v = some cs) :
    ∃ base len cap, u = .slice base len cap ∧ len ≤ cap ∧ SlOk W w cs base len sz := by
  cases hv <;> simp [sliceCells] at hs
  case nils => subst hs; exact ⟨none, 0, 0, rfl, Nat.le_refl _, by simp, by simp, rfl⟩
  case list tok z cs' us b o len cap h h1 hr hz hl hc ht =>
    obtain ⟨rfl, rfl⟩ := hs
    refine ⟨some ⟨b, o, none⟩, len, cap, rfl, hc, hl, h1, rfl, fun i c hi => ?_⟩
    obtain ⟨x, hx, hvr⟩ := h.get i hi
    have hlt : i < us.length := by
      rcases Nat.lt_or_ge i us.length with h | h
      · exact h
      · simp [List.getElem?_eq_none h] at hx
    rw [List.getElem?_eq_getElem hlt] at hx; injection hx with hx
    exact ⟨x, hR.sealed _ _ _ (hx ▸ hr i hlt), hvr⟩
  case hs id b off len cap cap' hb hc hc' =>
    cases hg : σ.get id with
    | none => simp [hg] at hs
    | some bl =>
      cases bl with
      | iter => simp [hg] at hs
      | cells cs' =>
        simp [hg] at hs
        obtain ⟨hle, rfl⟩ := hs
        obtain ⟨b', hb', k1, k2⟩ := hR.cells id cs' hg
        have : b' = b := by rw [hb] at hb'; injection hb' with e; exact e.symm
        subst this
        refine ⟨some ⟨b', off, none⟩, len, cap', rfl, hc, by simp; omega, fun c hc => k1 c (List.mem_of_mem_drop (List.mem_of_mem_take hc)), rfl, fun i c hi => ?_⟩
        have hlt : i < len * sz := by
          rcases Nat.lt_or_ge i (len * sz) with h | h
          · exact h
          · rw [List.getElem?_eq_none (by simp; omega)] at hi; simp at hi
        rw [List.getElem?_take_of_lt hlt, List.getElem?_drop] at hi
        exact (k2 _ c hi).2

/-- The cells that are read. -/
theorem slCells_run {cs : List AV} {base : Option Addr} {len sz : Nat} (h : SlOk W w cs base len sz) (n : Nat) (hn : n * sz ≤ cs.length) :
    ∃ us, VRs W (cs.take (n * sz)) us ∧ ∀ cap, (Builtin.firstCells sz n (.slice base len cap)).run P w = .ok us.toArray w := by
  obtain ⟨h1, _, h2⟩ := h
  cases base with
  | none =>
    simp at h2; subst h2
    simp at h1; subst h1
    exact ⟨[], by simp; exact .nil, fun cap => by simp [Builtin.firstCells]⟩
  | some p =>
    obtain ⟨hs, hall⟩ := h2
    obtain ⟨pb, po, ps⟩ := p
    simp at hs; subst hs
    obtain ⟨us, hus, hrun⟩ := run_cells (P := P) (b := pb) (o := po) (cs := cs.take (n * sz)) (w := w) (W := W) (fun i c hi => by
      have hlt : i < n * sz := by
        rcases Nat.lt_or_ge i (n * sz) with h | h
        · exact h
        · rw [List.getElem?_eq_none (by simp; omega)] at hi; simp at hi
      rw [List.getElem?_take_of_lt hlt] at hi
      exact hall i c hi)
    refine ⟨us, hus, fun cap => ?_⟩
    have : (cs.take (n * sz)).length = n * sz := by simp; omega
    rw [this] at hrun
    simp only [Builtin.firstCells]; exact hrun

theorem un_ok (hR : R E W σ w) (hT : TR W tm a.tmps) {op op' : UnOp} {x : Opnd} {t : TypeId} {y : Operand}
    (hok : okOp P (.un op x) (.unOp op' t y) = true) (hev : evOp E tm σ (.un op x) = some (v, σ')) :
    OpOk E P W σ' w v (execOp a.eval ⟨d, .unOp op' t y, ty, pos, af, g⟩) := by
  simp [okOp] at hok
  obtain ⟨rfl, hx⟩ := hok
  simp only [evOp] at hev
  cases hxe : x.ev tm with
  | none => simp [hxe] at hev
  | some xv =>
    simp only [hxe] at hev
    cases hu : unA op xv with
    | none => simp [hu] at hev
    | some r =>
      simp only [hu, Option.map_some, Option.some.injEq, Prod.mk.injEq] at hev
      obtain ⟨rfl, rfl⟩ := hev
      have hxr := opnd_vr hT hx hxe
      generalize hyu : a.eval y = yu at hxr
      cases op <;> cases xv <;> simp only [unA, bitsA, Option.some.injEq, reduceCtorEq] at hu <;> cases hxr <;> subst hu
      · exact .same hR (u := .int _ _) (by simp [execOp, hyu, Op.unary, Op.intArith]) (.int _ _)
      · exact .same hR (u := .float _ _) (by simp [execOp, hyu, Op.unary, Op.negFloat]) (.float _ _)
      · exact .same hR (u := .int _ _) (by simp only [execOp, hyu, Op.unary, Op.intBits]; rfl) (.int _ _)
      · exact .same hR (u := .bool _) (by simp [execOp, hyu, Op.unary]) (.bool _)

theorem toint_ok (hR : R E W σ w) (hT : TR W tm a.tmps) {k : IntKind} {x : Opnd} {s t : TypeId} {y : Operand}
    (hok : okOp P (.toint k x) (.convert s t y) = true) (hev : evOp E tm σ (.toint k x) = some (v, σ')) :
    OpOk E P W σ' w v (execOp a.eval ⟨d, .convert s t y, ty, pos, af, g⟩) := by
  simp only [okOp, Bool.and_eq_true] at hok
  obtain ⟨⟨⟨hx, _⟩, hs⟩, ht⟩ := hok
  simp only [evOp] at hev
  cases hxe : x.ev tm with
  | none => simp [hxe] at hev
  | some xv =>
    have hxr := opnd_vr hT hx hxe
    generalize hyu : a.eval y = yu at hxr
    cases xv <;> simp [hxe] at hev
    obtain ⟨rfl, rfl⟩ := hev
    cases hxr
    cases hus : P.underlying s with
    | none => simp [hus] at hs
    | some ds =>
      cases ds <;> simp [hus] at hs
      cases hut : P.underlying t with
      | none => simp [hut] at ht
      | some dt =>
        cases dt <;> simp [hut] at ht
        subst ht
        exact .same hR (u := .int _ _) (by simp [execOp, hyu, convert, run_underlying hus, run_underlying hut, Conv.intToInt]) (.int _ _)

theorem tofloat_ok (hR : R E W σ w) (hT : TR W tm a.tmps) {k : FloatKind} {x : Opnd} {s t : TypeId} {y : Operand}
    (hok : okOp P (.tofloat k x) (.convert s t y) = true) (hev : evOp E tm σ (.tofloat k x) = some (v, σ')) :
    OpOk E P W σ' w v (execOp a.eval ⟨d, .convert s t y, ty, pos, af, g⟩) := by
  simp only [okOp, Bool.and_eq_true] at hok
  obtain ⟨⟨hx, hs⟩, ht⟩ := hok
  simp only [evOp] at hev
  cases hxe : x.ev tm with
  | none => simp [hxe] at hev
  | some xv =>
    have hxr := opnd_vr hT hx hxe
    generalize hyu : a.eval y = yu at hxr
    cases xv <;> simp [hxe] at hev
    obtain ⟨rfl, rfl⟩ := hev
    cases hxr
    cases hus : P.underlying s with
    | none => simp [hus] at hs
    | some ds =>
      cases ds <;> simp [hus] at hs
      cases hut : P.underlying t with
      | none => simp [hut] at ht
      | some dt =>
        cases dt <;> simp [hut] at ht
        subst ht
        exact .same hR (u := .float _ _) (by simp [execOp, hyu, convert, run_underlying hus, run_underlying hut, Conv.intToFloat]) (.float _ _)

theorem intstr_ok (hR : R E W σ w) (hT : TR W tm a.tmps) {x : Opnd} {s t : TypeId} {y : Operand}
    (hok : okOp P (.intstr x) (.convert s t y) = true) (hev : evOp E tm σ (.intstr x) = some (v, σ')) :
    OpOk E P W σ' w v (execOp a.eval ⟨d, .convert s t y, ty, pos, af, g⟩) := by
  simp only [okOp, Bool.and_eq_true] at hok
  obtain ⟨⟨hx, ht⟩, hs⟩ := hok
  simp only [evOp] at hev
  cases hxe : x.ev tm with
  | none => simp [hxe] at hev
  | some xv =>
    have hxr := opnd_vr hT hx hxe
    generalize hyu : a.eval y = yu at hxr
    cases xv <;> simp [hxe] at hev
    obtain ⟨rfl, rfl⟩ := hev
    cases hxr
    cases hus : P.underlying s with
    | none => simp [hus] at hs
    | some ds =>
      cases ds <;> simp [hus] at hs
      cases hut : P.underlying t with
      | none => simp [hut] at ht
      | some dt =>
        cases dt <;> simp [hut] at ht
        refine .same hR (u := .string ⟨(Utf8.encode _).data.toList.toArray⟩) ?_ (.str _)
        simp [execOp, hyu, convert, run_underlying hus, run_underlying hut, Conv.intToString]

theorem strid_ok (hR : R E W σ w) (hT : TR W tm a.tmps) {x : Opnd} {s t : TypeId} {y : Operand}
    (hok : okOp P (.strid x) (.convert s t y) = true) (hev : evOp E tm σ (.strid x) = some (v, σ')) :
    OpOk E P W σ' w v (execOp a.eval ⟨d, .convert s t y, ty, pos, af, g⟩) := by
  simp only [okOp, Bool.and_eq_true] at hok
  obtain ⟨⟨hx, ht⟩, hs⟩ := hok
  simp only [evOp] at hev
  cases hxe : x.ev tm with
  | none => simp [hxe] at hev
  | some xv =>
    have hxr := opnd_vr hT hx hxe
    generalize hyu : a.eval y = yu at hxr
    cases xv <;> simp [hxe] at hev
    obtain ⟨rfl, rfl⟩ := hev
    cases hxr
    cases hus : P.underlying s with
    | none => simp [hus] at hs
    | some ds =>
      cases ds <;> simp [hus] at hs
      cases hut : P.underlying t with
      | none => simp [hut] at ht
      | some dt =>
        cases dt <;> simp [hut] at ht
        exact .same hR (u := .string _) (by simp [execOp, hyu, convert, run_underlying hus, run_underlying hut]) (.str _)

theorem strish_ok (hR : R E W σ w) (hT : TR W tm a.tmps) {x : Opnd} {s t : TypeId} {y : Operand}
    (hok : okOp P (.strish x) (.convert s t y) = true) (hev : evOp E tm σ (.strish x) = some (v, σ')) :
    OpOk E P W σ' w v (execOp a.eval ⟨d, .convert s t y, ty, pos, af, g⟩) := by
  simp only [okOp, Bool.and_eq_true, beq_iff_eq] at hok
  obtain ⟨⟨hx, rfl⟩, hs⟩ := hok
  simp only [evOp] at hev
  cases hxe : x.ev tm with
  | none => simp [hxe] at hev
  | some xv =>
    have hxr := opnd_vr hT hx hxe
    generalize hyu : a.eval y = yu at hxr
    cases xv <;> try (simp [hxe] at hev)
    rename_i tok sz cs
    cases tok <;> try (simp [hxe] at hev)
    cases cs with
    | nil => simp [hxe] at hev
    | cons c0 cs =>
      simp only [hxe, Option.some.injEq, Prod.mk.injEq] at hev
      obtain ⟨rfl, rfl⟩ := hev
      have hxr0 := hxr
      cases hxr
      rename_i us b o len cap hr hc hs1 h h1 hl ht
      obtain ⟨k1, k2, n, k3, k5, k4⟩ := ht
      cases hus : P.underlying s with
      | none => simp [hus] at hs
      | some ds =>
        cases ds <;> simp [hus] at hs
        rename_i e
        cases hue : P.underlying e with
        | none => simp [hue] at hs
        | some de =>
          cases de <;> simp [hue] at hs
          rename_i k
          cases k <;> simp at hs
          have hn : 0 < n := by simp at k5; omega
          cases hsh : w.shape? b with
          | none => exact .same hR (u := .slice (some ⟨b, o, none⟩) len cap) (by simp [execOp, hyu, convert, run_underlying hus, run_underlying hue, markStringish, hsh]) hxr0
          | some p =>
            obtain ⟨q, z⟩ := p
            exact ⟨W, _, .refl W, hR.freeze (k := z) (m := 1) k2 hn k3 k4, .inl ⟨.slice (some ⟨b, o, none⟩) len cap, by simp [execOp, hyu, convert, run_underlying hus, run_underlying hue, markStringish, hsh], hxr0⟩⟩

theorem u8_vrs (W : KW) (s : List UInt8) : VRs W (s.map u8) (s.map fun b => Value.int .u8 (b.toNat : Int)) := by
  induction s with
  | nil => exact .nil
  | cons b s ih => exact .cons (.int _ _) ih

theorem u8_one (s : List UInt8) : ∀ c ∈ s.map u8, c.one = true := by
  intro c hc; simp at hc; obtain ⟨b, _, rfl⟩ := hc; rfl

theorem strbytes_ok (hR : R E W σ w) (hT : TR W tm a.tmps) {row : Bool} {x : Opnd} {s t : TypeId} {y : Operand}
    (hok : okOp P (.strbytes row x) (.convert s t y) = true) (hev : evOp E tm σ (.strbytes row x) = some (v, σ')) :
    OpOk E P W σ' w v (execOp a.eval ⟨d, .convert s t y, ty, pos, af, g⟩) := by
  simp only [okOp, Bool.and_eq_true] at hok
  obtain ⟨⟨hx, hs⟩, ht⟩ := hok
  simp only [evOp] at hev
  cases hxe : x.ev tm with
  | none => simp [hxe] at hev
  | some xv =>
    have hxr := opnd_vr hT hx hxe
    generalize hyu : a.eval y = yu at hxr
    cases xv <;> simp [hxe] at hev
    rename_i l
    obtain ⟨_, rfl, rfl⟩ := hev
    cases hxr
    cases hus : P.underlying s with
    | none => simp [hus] at hs
    | some ds =>
      cases ds <;> simp [hus] at hs
      cases hut : P.underlying t with
      | none => simp [hut] at ht
      | some dt =>
        cases dt <;> simp [hut] at ht
        rename_i e
        cases hue : P.underlying e with
        | none => simp [hue] at ht
        | some de =>
          cases de <;> simp [hue] at ht
          rename_i k
          cases k <;> simp at ht
          have hrun := run_bytes_of_string (P := P) w s t e ⟨l.toArray⟩ hus hut hue
          have hsz : (⟨l.toArray⟩ : ByteArray).size = l.length := by simp [ByteArray.size]
          rw [hsz] at hrun
          generalize hcap : grownCap w l.length 0 e = cap at hrun
          have hge : l.length ≤ cap := by rw [← hcap]; exact grownCap_ge w _ _ _
          have hrow : ∀ (i : Nat) (u : Value), (l.map fun b => Value.int .u8 (b.toNat : Int))[i]? = some u → (bytesRow ⟨l.toArray⟩ cap)[i]? = some u := by
            intro i u hu
            unfold bytesRow
            rw [Array.getElem?_append_left]
            · simpa using hu
            · have : i < (l.map fun b => Value.int .u8 (b.toNat : Int)).length := by
                rcases Nat.lt_or_ge i (l.map fun b => Value.int .u8 (b.toNat : Int)).length with h | h
                · exact h
                · simp [List.getElem?_eq_none h] at hu
              simpa using this
          have hR1 : R E W σ w.drew := hR.drawn _
          have hR2 := hR1.newRow (T := e) (fr := ((bytesRow ⟨l.toArray⟩ cap).size, (bytesRow ⟨l.toArray⟩ cap).size + 1)) hrow
          have hle := hR1.addRow_le (l.map fun b => Value.int .u8 (b.toNat : Int)) (bytesRow ⟨l.toArray⟩ cap).size
          refine ⟨_, _, hle, hR2, .inl ⟨.slice (some ⟨w.heap.size, 0, none⟩) l.length cap, ?_, ?_⟩⟩
          · simp [execOp, hyu, hrun]
          · refine .list (u8_vrs _ l) (u8_one l) (fun i hi => ?_) (Nat.le_refl 1) (by simp) hge trivial
            show (if w.heap.size = w.drew.heap.size then _ else _) = _
            rw [if_pos (show w.heap.size = w.drew.heap.size from rfl), Nat.zero_add, List.getElem?_eq_getElem hi]

theorem bytesOf_ints {cs : List AV} {bs : List UInt8} (h : bytesOf cs = some bs) {us : List Value} (hv : VRs W cs us) :
    ∃ ns : List Int, us = ns.map (Value.int .u8) ∧ bs = ns.map fun n => UInt8.ofNat n.toNat := by
  induction cs generalizing bs us with
  | nil => cases hv; simp [bytesOf] at h; subst h; exact ⟨[], rfl, rfl⟩
  | cons c cs ih =>
    cases hv with
    | cons hx hxs =>
      simp only [bytesOf] at h
      cases hb : byteOf c with
      | none => simp [hb] at h
      | some b =>
        cases hbs : bytesOf cs with
        | none => simp [hb, hbs] at h
        | some bs' =>
          simp [hb, hbs] at h; subst h
          obtain ⟨ns, rfl, rfl⟩ := ih hbs hxs
          cases c <;> simp [byteOf] at hb
          rename_i k n
          cases k <;> simp [byteOf] at hb
          cases hx
          exact ⟨n :: ns, rfl, by simp [hb]⟩

theorem foldl_push_ints : ∀ (ns : List Int) (r : ByteArray), ns.foldl (fun r n => r.push (UInt8.ofNat n.toNat)) r = ⟨r.data ++ (ns.map fun n => UInt8.ofNat n.toNat).toArray⟩
  | [], r => by simp
  | b :: l, r => by
    simp only [List.map_cons, List.foldl_cons]
    rw [foldl_push_ints l]
    simp [ByteArray.push]

theorem bytesstr_ok (hR : R E W σ w) (hT : TR W tm a.tmps) {x : Opnd} {s t : TypeId} {y : Operand}
    (hok : okOp P (.bytesstr x) (.convert s t y) = true) (hev : evOp E tm σ (.bytesstr x) = some (v, σ')) :
    OpOk E P W σ' w v (execOp a.eval ⟨d, .convert s t y, ty, pos, af, g⟩) := by
  simp only [okOp, Bool.and_eq_true] at hok
  obtain ⟨⟨hx, ht⟩, hs⟩ := hok
  simp only [evOp] at hev
  cases hxe : x.ev tm with
  | none => simp [hxe] at hev
  | some xv =>
    have hxr := opnd_vr hT hx hxe
    simp only [hxe] at hev
    cases hc : sliceCells σ 1 xv with
    | none => simp [hc] at hev
    | some cs =>
      simp only [hc] at hev
      cases hb : bytesOf cs with
      | none => simp [hb] at hev
      | some bs =>
        simp only [hb, Option.map_some, Option.some.injEq, Prod.mk.injEq] at hev
        obtain ⟨rfl, rfl⟩ := hev
        obtain ⟨base, len, cap, hu, _, hsl⟩ := slice_ok hR hxr hc
        cases hut : P.underlying t with
        | none => simp [hut] at ht
        | some dt =>
          cases dt <;> simp [hut] at ht
          cases hus : P.underlying s with
          | none => simp [hus] at hs
          | some ds =>
            cases ds <;> simp [hus] at hs
            rename_i e
            cases hue : P.underlying e with
            | none => simp [hue] at hs
            | some de =>
              cases de <;> simp [hue] at hs
              rename_i k
              cases k <;> simp at hs
              refine .same hR (u := .string ⟨bs.toArray⟩) ?_ (.str _)
              simp only [execOp, hu]
              simp only [Sem.run_bind, run_convert_bytes_string w s t e base len cap hus hue hut]
              have h1 := hsl.1
              simp only [Nat.mul_one] at h1
              obtain ⟨us, hvs, hrun⟩ := slCells_run (P := P) hsl len (by omega)
              rw [List.take_of_length_le (by omega)] at hvs
              obtain ⟨ns, rfl, rfl⟩ := bytesOf_ints hb hvs
              cases base with
              | none =>
                have h2 : len = 0 := hsl.2.2
                subst h2
                simp at h1; subst h1
                cases hvs' : ns with
                | nil => simp [Conv.bytesToString]; rfl
                | cons n ns => have := hvs.length; simp [hvs'] at this
              | some p =>
                have h3 := hrun cap
                simp only [Builtin.firstCells, Nat.mul_one] at h3
                rw [run_bytesToString w p len cap ns h3, foldl_push_ints]
                have he0 : ByteArray.empty.data = #[] := rfl
                rw [he0]; simp

theorem iface_ok (hR : R E W σ w) (hT : TR W tm a.tmps) {x : Opnd} {t t' : TypeId} {y : Operand}
    (hok : okOp P (.iface t x) (.makeInterface t' y) = true) (hev : evOp E tm σ (.iface t x) = some (v, σ')) :
    OpOk E P W σ' w v (execOp a.eval ⟨d, .makeInterface t' y, ty, pos, af, g⟩) := by
  simp only [okOp, Bool.and_eq_true, beq_iff_eq] at hok
  obtain ⟨⟨rfl, hx⟩, ht⟩ := hok
  simp only [evOp] at hev
  cases hxe : x.ev tm with
  | none => simp [hxe] at hev
  | some xv =>
    simp [hxe] at hev
    obtain ⟨rfl, rfl⟩ := hev
    refine .same hR (u := .iface t (a.eval y)) ?_ (.iface _ (opnd_vr hT hx hxe))
    cases hu : P.underlying t with
    | none => simp [hu] at ht
    | some de => cases de <;> simp [hu] at ht <;> simp [execOp, Instr.makeInterface, run_underlying hu]

theorem mkfn_ok (hR : R E W σ w) (hT : TR W tm a.tmps) {fn fn' : Fn} {xs ys : List Opnd} {xs' ys' : Array Operand}
    (hok : okOp P (.mkfn fn xs ys) (.makeFunc fn' xs' ys') = true) (hev : evOp E tm σ (.mkfn fn xs ys) = some (v, σ')) :
    OpOk E P W σ' w v (execOp a.eval ⟨d, .makeFunc fn' xs' ys', ty, pos, af, g⟩) := by
  simp [okOp] at hok
  obtain ⟨⟨rfl, hx⟩, hy⟩ := hok
  simp only [evOp] at hev
  cases hxe : evs tm xs with
  | none => simp [hxe] at hev
  | some xv =>
    cases hye : evs tm ys with
    | none => simp [hxe, hye] at hev
    | some yv =>
      simp [hxe, hye] at hev
      obtain ⟨rfl, rfl⟩ := hev
      refine .same hR (u := .func fn (xs'.map a.eval) (ys'.map a.eval)) (by simp [execOp, Instr.makeFunc]) ?_
      have h1 := opnds_vr hT hx hxe
      have h2 := opnds_vr hT hy hye
      have e1 : xs'.map a.eval = (xs'.toList.map a.eval).toArray := by apply Array.ext'; simp
      have e2 : ys'.map a.eval = (ys'.toList.map a.eval).toArray := by apply Array.ext'; simp
      rw [e1, e2]; exact VR.func fn h1 h2

end
end Go.Pv
