/- Steps of abstract runs: one rule for each operation. -/
import Derived.Test.YtkookjaafgkfnaaDoorPvD
namespace Go.Pv
set_option linter.all false

section
variable {E : Env} {tm : List (Nat × AV)} {σ : St} {os : List IOper} {K : M → Prop} {d : Nat}

theorem so {op : IOp} (v : AV) (σ' : St) (hc : op.calls = false) (h : evOp E tm σ op = some (v, σ')) (hk : RunO E os ⟨(d, v) :: tm, σ'⟩ K) : RunO E (⟨some d, op, none⟩ :: os) ⟨tm, σ⟩ K := by
  rw [runO_cons, runOp_ev hc]
  show OptQ (evOp E tm σ op) _
  rw [h]; exact hk
/-- An operation that makes nothing. -/
theorem sp {op : IOp} (v : AV) (hc : op.calls = false) (h : evOp E tm σ op = some (v, σ)) (hk : RunO E os ⟨(d, v) :: tm, σ⟩ K) : RunO E (⟨some d, op, none⟩ :: os) ⟨tm, σ⟩ K := so v σ hc h hk
theorem spe {op : IOp} {v0 : AV} (v : AV) (hc : op.calls = false) (h : evOp E tm σ op = some (v0, σ)) (e : v0 = v) (hk : RunO E os ⟨(d, v) :: tm, σ⟩ K) : RunO E (⟨some d, op, none⟩ :: os) ⟨tm, σ⟩ K := so v σ hc (by rw [h, e]) hk
theorem sn {op : IOp} (v : AV) (σ' : St) (hc : op.calls = false) (h : evOp E tm σ op = some (v, σ')) (hk : RunO E os ⟨tm, σ'⟩ K) : RunO E (⟨none, op, none⟩ :: os) ⟨tm, σ⟩ K := by
  rw [runO_cons, runOp_ev hc]
  show OptQ (evOp E tm σ op) _
  rw [h]; exact hk

theorem sg_run {t : Nat} {w : Bool} (b : Bool) {d : Option Nat} {op : IOp} (hl : lk tm t = some (.bool b)) (hb : b = w) (h : RunO E (⟨d, op, none⟩ :: os) ⟨tm, σ⟩ K) : RunO E (⟨d, op, some (t, w)⟩ :: os) ⟨tm, σ⟩ K := by
  rw [runO_guard]
  rw [runO_cons] at h
  have : guardA tm (some (t, w)) = some true := by simp only [guardA, hl, hb]; simp
  rw [this]; exact h
theorem sg_skip {t : Nat} {w : Bool} (b : Bool) {d : Option Nat} {op : IOp} (hl : lk tm t = some (.bool b)) (hb : b = !w) (h : RunO E os (M.put ⟨tm, σ⟩ d .undef σ) K) : RunO E (⟨d, op, some (t, w)⟩ :: os) ⟨tm, σ⟩ K := by
  rw [runO_guard]
  have : guardA tm (some (t, w)) = some false := by simp only [guardA, hl, hb]; cases w <;> rfl
  rw [this]; exact h
theorem sg_undef {t : Nat} {w : Bool} {d : Option Nat} {op : IOp} (hl : lk tm t = some (.tuple [])) (h : RunO E os (M.put ⟨tm, σ⟩ d .undef σ) K) : RunO E (⟨d, op, some (t, w)⟩ :: os) ⟨tm, σ⟩ K := by
  rw [runO_guard]
  have : guardA tm (some (t, w)) = some false := by simp only [guardA, hl]
  rw [this]; exact h

theorem sx (hk : K ⟨tm, σ⟩) : RunO E [] ⟨tm, σ⟩ K := runO_nil.2 hk

/-! ### Pure operations -/

theorem e_pick_t {c a b : Opnd} {x : Bool} {v : AV} (hc : c.ev tm = some (.bool x)) (hx : x = true) (ha : a.ev tm = some v) : evOp E tm σ (.pick c a b) = some (v, σ) := by
  simp only [evOp, hc, hx, ha]; rfl
theorem e_pick_f {c a b : Opnd} {x : Bool} {v : AV} (hc : c.ev tm = some (.bool x)) (hx : x = false) (hb : b.ev tm = some v) : evOp E tm σ (.pick c a b) = some (v, σ) := by
  simp only [evOp, hc, hx, hb]; rfl
theorem e_idxs {x y : Opnd} {s : List UInt8} {k : IntKind} {i : Int} {c : UInt8} (hx : x.ev tm = some (.str s)) (hy : y.ev tm = some (.int k i)) (h : lIdx s i = some c) : evOp E tm σ (.idxs x y) = some (u8 c, σ) := by
  unfold lIdx at h
  split at h
  · rename_i h0
    simp only [evOp, hx, hy, idxsA]
    rw [if_pos h0, h]; rfl
  · simp at h

theorem e_notnot {x : Opnd} {b : Bool} (hx : x.ev tm = some (.bool (!b))) : evOp E tm σ (.un .not x) = some (.bool b, σ) := by
  simp only [evOp, hx, unA]; simp
theorem SL.one {α : Type} {R : α → List AV → Prop} {sz : Nat} {xs : List α} {v : AV} (s : SL R sz xs v) : v.cells = some [v] := by
  rcases s with ⟨rfl, rfl⟩ | ⟨tok, cs, rfl, h⟩ <;> rfl
theorem fill_nil {cs : List AV} : fillA cs [] = some cs := rfl
theorem fill_cons {cs vc : List AV} (cs' : List AV) {off n : Nat} {v : AV} {rest : List (Nat × Nat × AV)} {r : List AV} (hv : v.cells = some vc) (hn : vc.length = n) (hl : off + n ≤ cs.length) (he : cs.take off ++ vc ++ cs.drop (off + n) = cs') (k : fillA cs' rest = some r) : fillA cs ((off, n, v) :: rest) = some r := by
  simp only [fillA, hv]
  rw [if_pos ⟨hn, hl⟩, he]; exact k
theorem e_build {zero cs : List AV} {parts : List (Nat × Nat × Opnd)} {ps : List (Nat × Nat × AV)} (hp : evParts tm parts = some ps) (hf : fillA zero ps = some cs) : evOp E tm σ (.build zero parts) = some (.agg cs, σ) := by
  simp only [evOp, hp, hf]; rfl
theorem e_mklist {sz len : Nat} {zero cs : List AV} {parts : List (Nat × Nat × Opnd)} {ps : List (Nat × Nat × AV)} (hp : evParts tm parts = some ps) (hf : fillA (List.replicate len zero).flatten ps = some cs) : evOp E tm σ (.mklist false sz len zero parts) = some (.list .own sz cs, σ) := by
  simp only [evOp, hp, hf]; rfl
theorem e_quo {x y : Opnd} {k : IntKind} {a b q : Int} (hx : x.ev tm = some (.int k a)) (hy : y.ev tm = some (.int k b)) (h : iQuo k a b = some q) : evOp E tm σ (.bin .quo x y) = some (.int k q, σ) := by
  unfold iQuo at h
  split at h
  · simp at h
  · rename_i hb
    injection h with h
    simp only [evOp, hx, hy, binA, intA, if_pos, if_neg hb, h]; rfl
theorem e_rem {x y : Opnd} {k : IntKind} {a b q : Int} (hx : x.ev tm = some (.int k a)) (hy : y.ev tm = some (.int k b)) (h : iRem a b = some q) : evOp E tm σ (.bin .rem x y) = some (.int k q, σ) := by
  unfold iRem at h
  split at h
  · simp at h
  · rename_i hb
    injection h with h
    simp only [evOp, hx, hy, binA, intA, if_pos, if_neg hb, h]; rfl
theorem u8_rem (c d : UInt8) {q : Int} (h : iRem (c.toNat : Int) (d.toNat : Int) = some q) : (.int .u8 q : AV) = u8 (toB q) := by
  show AV.int .u8 _ = AV.int .u8 _
  rw [toB_nat]
  unfold iRem at h
  split at h
  · simp at h
  · rename_i hd
    injection h with h
    have h1 := c.toNat_lt
    have h2 := d.toNat_lt
    have h3 : 0 ≤ (c.toNat : Int).tmod d.toNat := Int.tmod_nonneg _ (by omega)
    have h4 : (c.toNat : Int).tmod d.toNat < d.toNat := Int.tmod_lt_of_pos _ (by omega)
    congr 1; omega
theorem e_shl {x y : Opnd} {k k' : IntKind} {a b q : Int} (hx : x.ev tm = some (.int k a)) (hy : y.ev tm = some (.int k' b)) (h : iShl k a b = some q) : evOp E tm σ (.bin .shl x y) = some (.int k q, σ) := by
  unfold iShl at h
  split at h
  · simp at h
  · rename_i hb
    injection h with h
    simp only [evOp, hx, hy, binA, shiftA, if_neg hb, h]; rfl
theorem e_shr {x y : Opnd} {k k' : IntKind} {a b q : Int} (hx : x.ev tm = some (.int k a)) (hy : y.ev tm = some (.int k' b)) (h : iShr k a b = some q) : evOp E tm σ (.bin .shr x y) = some (.int k q, σ) := by
  unfold iShr at h
  split at h
  · simp at h
  · rename_i hb
    injection h with h
    simp only [evOp, hx, hy, binA, shiftA, if_neg hb, h]; rfl
theorem e_sadd {x y : Opnd} {a b q : List UInt8} (hx : x.ev tm = some (.str a)) (hy : y.ev tm = some (.str b)) (h : sAdd a b = some q) : evOp E tm σ (.bin .add x y) = some (.str q, σ) := by
  unfold sAdd at h
  split at h
  · rename_i hb
    injection h with h
    simp only [evOp, hx, hy, binA, strA, if_pos hb, h]; rfl
  · simp at h
theorem e_idxv {α : Type} {f : α → AV} {xs : List α} {cs : List AV} {x y : Opnd} {k : IntKind} {i : Int} {len : Nat} {a : α} (hx : x.ev tm = some (.agg cs)) (hy : y.ev tm = some (.int k i)) (h : lIdx xs i = some a) (hc : cs = xs.map f) (hl : xs.length = len) : evOp E tm σ (.idxv len none 1 x y) = some (f a, σ) := by
  unfold lIdx at h
  split at h
  · rename_i h0
    have hi := (List.getElem?_eq_some_iff.1 h).1
    simp only [evOp, hx, hy, idxvA]
    rw [if_pos ⟨h0, by omega⟩]
    simp only [cut, hc, Nat.mul_one, List.getElem?_map, h]; rfl
  · simp at h

theorem st_idxa {α : Type} {R : α → List AV → Prop} {sz : Nat} {xs : List α} {v : AV} {x y : Opnd} {k : IntKind} {i : Int} {a : α} (hx : x.ev tm = some v) (s : SL R sz xs v) (hy : y.ev tm = some (.int k i)) (hz : 0 < sz) (h : lIdx xs i = some a)
    (hk : ∀ ce o cs, R a cs → cs.length = sz → ElemAt ce o cs → RunO E os ⟨(d, .elem ce o) :: tm, σ⟩ K) : RunO E (⟨some d, .idxa sz x y, none⟩ :: os) ⟨tm, σ⟩ K := by
  unfold lIdx at h
  split at h
  case isFalse => simp at h
  rename_i h0
  rcases s with ⟨rfl, rfl⟩ | ⟨tok, cs, rfl, hr⟩
  · simp at h
  · obtain ⟨c, h1, h2, h3⟩ := hr.get h
    have hlen := hr.length
    have hi := (List.getElem?_eq_some_iff.1 h).1
    refine sp (.elem cs (i.toNat * sz)) rfl ?_ (hk _ _ c h1 h2 h3)
    have e : idxaA sz (.list tok sz cs) (.int k i) = some (.elem cs (i.toNat * sz)) := by
      unfold idxaA
      dsimp only
      rw [hlen, Nat.mul_div_cancel _ hz, if_pos ⟨rfl, by omega, h0, by omega⟩]
    simp only [evOp, hx, hy, e]; rfl

theorem e_load_elem {x : Opnd} {ce cs : List AV} {o : Nat} (j : Nat) {c : AV} (hx : x.ev tm = some (.elem ce (o + j))) (l : ElemAt ce o cs) (h : cs[j]? = some c) : evOp E tm σ (.load none x) = some (c, σ) := by
  simp only [evOp, hx, loadA, cellsAt, cut]
  rw [l j c h]; rfl
theorem elem_cut {ce cs : List AV} {o : Nat} (l : ElemAt ce o cs) (j n : Nat) (hl : j + n ≤ cs.length) : (ce.drop (o + j)).take n = (cs.drop j).take n ∧ (1 ≤ n → o + j + n ≤ ce.length) := by
  have hle : 1 ≤ n → o + j + n ≤ ce.length := by
    intro hn
    have hj : j + n - 1 < cs.length := by omega
    have := l (j + n - 1) _ (List.getElem?_eq_getElem hj)
    have := (List.getElem?_eq_some_iff.1 this).1
    omega
  refine ⟨?_, hle⟩
  apply List.ext_getElem?
  intro i
  rw [List.getElem?_take, List.getElem?_take, List.getElem?_drop, List.getElem?_drop]
  split
  · rename_i hi
    have hj : j + i < cs.length := by omega
    rw [List.getElem?_eq_getElem hj, Nat.add_assoc]
    exact l (j + i) _ (List.getElem?_eq_getElem hj)
  · rfl
theorem e_load_elems {x : Opnd} {ce cs sub : List AV} {o : Nat} (j n : Nat) (hx : x.ev tm = some (.elem ce (o + j))) (l : ElemAt ce o cs) (h : (cs.drop j).take n = sub) (hl : j + n ≤ cs.length) (hn : 1 ≤ n) : evOp E tm σ (.load (some n) x) = some (.agg sub, σ) := by
  obtain ⟨h1, h2⟩ := elem_cut l j n hl
  simp only [evOp, hx, loadA, cellsAt, cut]
  rw [if_pos (h2 hn), h1, h]; rfl

theorem e_len {α : Type} {R : α → List AV → Prop} {sz : Nat} {xs : List α} {v : AV} {x : Opnd} (hx : x.ev tm = some v) (s : SL R sz xs v) (hz : 0 < sz) : evOp E tm σ (.len false x) = some (.int .i64 (xs.length : Int), σ) := by
  simp only [evOp, hx]
  rcases s with ⟨rfl, rfl⟩ | ⟨tok, cs, rfl, hr⟩
  · rfl
  · simp only [lenA]
    rw [if_neg (by omega), hr.length, Nat.mul_div_cancel _ hz]; rfl

def BndIs (v : Option AV) (d n : Int) : Prop := match v with
  | none => n = d
  | some (.int _ m) => n = m
  | _ => False

theorem bnd_lo {v : Option AV} {l h : Int} {up : Nat} (b : BndIs v 0 l) (h0 : 0 ≤ l) (h1 : l ≤ h) (hh : h.toNat = up) : boundA v 0 up = some l.toNat := by
  unfold BndIs at b
  split at b
  · subst b; rfl
  · subst b; simp only [boundA]; rw [if_pos ⟨h0, by omega⟩]
  · exact b.elim
theorem bnd_hi {v : Option AV} {h : Int} {n up : Nat} (b : BndIs v (n : Int) h) (h0 : 0 ≤ h) (hn : n = up) (h1 : h ≤ (up : Int)) : boundA v n up = some h.toNat := by
  unfold BndIs at b
  split at b
  · subst b; rfl
  · subst b; simp only [boundA]; rw [if_pos ⟨h0, h1⟩]
  · exact b.elim

theorem e_slstr {x : Opnd} {lo hi : Option Opnd} {lo' hi' : Option AV} {s t : List UInt8} (l h : Int) (hx : x.ev tm = some (.str s)) (hlo : evo tm lo = some lo') (hhi : evo tm hi = some hi') (bl : BndIs lo' 0 l) (bh : BndIs hi' (s.length : Int) h) (hs : lSub s l h = some t) :
    evOp E tm σ (.slstr x lo hi) = some (.str t, σ) := by
  unfold lSub at hs
  split at hs
  case isFalse => simp at hs
  rename_i hc
  injection hs with hs
  simp only [evOp, hx, hlo, hhi, slstrA]
  rw [bnd_hi bh (by omega) rfl hc.2.2]
  simp only
  rw [bnd_lo bl hc.1 hc.2.1 rfl]
  simp only [hs]; rfl

theorem slA_nils {sz : Nat} {lo hi mx : Option AV} (h1 : boundA mx 0 0 = some 0) (h2 : boundA hi 0 0 = some 0) (h3 : boundA lo 0 0 = some 0) : slA sz .nils lo hi mx = some .nils := by
  unfold slA; dsimp only; rw [h1]; dsimp only; rw [h2]; dsimp only; rw [h3]
theorem slA_list {sz : Nat} {lo hi : Option AV} {tok : Tok} {cs : List AV} {n h l : Nat} (hz : 0 < sz) (hn : cs.length / sz = n) (h2 : boundA hi n n = some h) (h3 : boundA lo 0 h = some l) :
    slA sz (.list tok sz cs) lo hi none = some (.list (if h = n then tok else .no) sz ((cs.take (h * sz)).drop (l * sz))) := by
  unfold slA; dsimp only
  rw [if_neg (by omega), hn]
  rw [show boundA none n n = some n from rfl]; dsimp only; rw [h2]; dsimp only; rw [h3]
theorem slA_list3 {sz : Nat} {lo hi mx : Option AV} {tok : Tok} {cs : List AV} {n m l : Nat} {u : AV} (hm : mx = some u) (hz : 0 < sz) (hn : cs.length / sz = n) (h1 : boundA mx n n = some m) (h2 : boundA hi n m = some m) (h3 : boundA lo 0 m = some l) :
    slA sz (.list tok sz cs) lo hi mx = some (.list .exact sz ((cs.take (m * sz)).drop (l * sz))) := by
  unfold slA; dsimp only
  rw [if_neg (by omega), hn, h1]; dsimp only; rw [h2]; dsimp only; rw [h3]; subst hm; dsimp only; rw [if_pos rfl]

theorem st_sl {α : Type} {R : α → List AV → Prop} {sz : Nat} {xs ys : List α} {v : AV} {x : Opnd} {lo hi : Option Opnd} {lo' hi' : Option AV} (l h : Int) (hx : x.ev tm = some v) (s : SL R sz xs v) (hlo : evo tm lo = some lo') (hhi : evo tm hi = some hi')
    (bl : BndIs lo' 0 l) (bh : BndIs hi' (xs.length : Int) h) (hz : 0 < sz) (hs : lSub xs l h = some ys) (hk : ∀ v', SL R sz ys v' → RunO E os ⟨(d, v') :: tm, σ⟩ K) : RunO E (⟨some d, .sl sz x lo hi none, none⟩ :: os) ⟨tm, σ⟩ K := by
  unfold lSub at hs
  split at hs
  case isFalse => simp at hs
  rename_i hc
  injection hs with hs
  have hmx : evo tm none = some none := rfl
  rcases s with ⟨rfl, rfl⟩ | ⟨tok, cs, rfl, hr⟩
  · simp only [List.length_nil] at bh hc
    have e0 : h = 0 := by omega
    have e1 : l = 0 := by omega
    subst e0; subst e1
    refine sp .nils rfl ?_ (hk _ ?_)
    · simp only [evOp, hx, hlo, hhi, hmx]
      rw [slA_nils rfl (bnd_hi (n := 0) (up := 0) bh (by omega) rfl (by omega)) (bnd_lo (h := 0) (up := 0) bl hc.1 (by omega) rfl)]
      rfl
    · rw [← hs]; simp; exact SL.nil
  · have hlen := hr.length
    have hdiv : cs.length / sz = xs.length := by rw [hlen]; exact Nat.mul_div_cancel _ hz
    refine sp (.list (if h.toNat = xs.length then tok else .no) sz ((cs.take (h.toNat * sz)).drop (l.toNat * sz))) rfl ?_ (hk _ ?_)
    · simp only [evOp, hx, hlo, hhi, hmx]
      rw [slA_list hz hdiv (bnd_hi (n := xs.length) (up := xs.length) bh (by omega) rfl hc.2.2) (bnd_lo bl hc.1 hc.2.1 rfl)]
      rfl
    · rw [← hs]; exact .mk ((hr.take _).drop _)

/-- With an end of its room. -/
theorem st_sl3 {α : Type} {R : α → List AV → Prop} {sz : Nat} {xs ys : List α} {v : AV} {x : Opnd} {lo hi mx : Option Opnd} {lo' hi' : Option AV} {k : IntKind} (l h : Int) (hx : x.ev tm = some v) (s : SL R sz xs v) (hlo : evo tm lo = some lo') (hhi : evo tm hi = some hi') (hmx : evo tm mx = some (some (.int k h)))
    (bl : BndIs lo' 0 l) (bh : BndIs hi' (xs.length : Int) h) (hz : 0 < sz) (hs : lSub xs l h = some ys) (hk : ∀ v', SL R sz ys v' → (∀ bs os', Inv σ bs os' → Inv σ bs (v' :: os')) → RunO E os ⟨(d, v') :: tm, σ⟩ K) : RunO E (⟨some d, .sl sz x lo hi mx, none⟩ :: os) ⟨tm, σ⟩ K := by
  unfold lSub at hs
  split at hs
  case isFalse => simp at hs
  rename_i hc
  injection hs with hs
  rcases s with ⟨rfl, rfl⟩ | ⟨tok, cs, rfl, hr⟩
  · simp only [List.length_nil] at bh hc
    have e0 : h = 0 := by omega
    have e1 : l = 0 := by omega
    subst e0; subst e1
    refine sp .nils rfl ?_ (hk _ ?_ (fun bs os' hI => hI.onil))
    · simp only [evOp, hx, hlo, hhi, hmx]
      rw [slA_nils rfl (bnd_hi (n := 0) (up := 0) bh (by omega) rfl (by omega)) (bnd_lo (h := 0) (up := 0) bl hc.1 (by omega) rfl)]
      rfl
    · rw [← hs]; simp; exact SL.nil
  · have hlen := hr.length
    have hdiv : cs.length / sz = xs.length := by rw [hlen]; exact Nat.mul_div_cancel _ hz
    have hb2 : boundA hi' xs.length h.toNat = some h.toNat := by
      unfold BndIs at bh
      split at bh
      · subst bh; rfl
      · subst bh; simp only [boundA]; rw [if_pos ⟨by omega, by omega⟩]
      · exact bh.elim
    have hb1 : boundA (some (.int k h)) xs.length xs.length = some h.toNat := by simp only [boundA]; rw [if_pos ⟨by omega, hc.2.2⟩]
    refine sp (.list .exact sz ((cs.take (h.toNat * sz)).drop (l.toNat * sz))) rfl ?_ (hk _ ?_ (fun bs os' hI => hI.oexact))
    · simp only [evOp, hx, hlo, hhi, hmx]
      rw [slA_list3 rfl hz hdiv hb1 hb2 (bnd_lo bl hc.1 hc.2.1 rfl)]
      rfl
    · rw [← hs]; exact .mk ((hr.take _).drop _)

theorem bytes_map : ∀ (p : List UInt8), bytesOf (p.map u8) = some p
  | [] => rfl
  | c :: p => by
    simp only [List.map_cons, bytesOf, bytes_map p, byteOf]
    simp
theorem e_bytesstr {x : Opnd} {p : List UInt8} {v : AV} (hx : x.ev tm = some v) (s : SL RU8 1 p v) : evOp E tm σ (.bytesstr x) = some (.str p, σ) := by
  obtain ⟨cs, h1, h2⟩ := s.cells σ
  have := RL.of_map (f := u8) h2
  simp only [evOp, hx, h1, this, bytes_map]; rfl

theorem st_app {α : Type} {R : α → List AV → Prop} {sz : Nat} {xs ys zs : List α} {v w : AV} {x y : Opnd} {bs : List (Nat × Blk)} {ow : List AV} {bytes : Nat} (hI : Inv σ bs (v :: ow)) (hx : x.ev tm = some v) (s : SL R sz xs v) (hy : y.ev tm = some w) (m : MC R sz ys w) (hz : 0 < sz)
    (h : lApp bytes xs ys = some zs) (hk : ∀ v' σ', SL R sz zs v' → Inv σ' bs (v' :: ow) → RunO E os ⟨(d, v') :: tm, σ'⟩ K) : RunO E (⟨some d, .append false sz bytes x y, none⟩ :: os) ⟨tm, σ⟩ K := by
  obtain ⟨v', σ', h1, h2, h3⟩ := app_ok bytes hI s m hz h
  exact so v' σ' rfl (by simp only [evOp, hx, hy, h1]) (hk v' σ' h2 h3)

theorem st_alloc {zero : List AV} {bs : List (Nat × Blk)} {ow : List AV} (hI : Inv σ bs ow) (hk : ∀ r σ', Inv σ' ((r, .cells zero) :: bs) ow → RunO E os ⟨(d, .blk r 0) :: tm, σ'⟩ K) : RunO E (⟨some d, .alloc zero, none⟩ :: os) ⟨tm, σ⟩ K :=
  so (.blk σ.nid 0) (σ.new (.cells zero)) rfl rfl (hk _ _ (hI.new _))
theorem st_box {x : Opnd} {v : AV} {cs : List AV} {bs : List (Nat × Blk)} {ow : List AV} (hI : Inv σ bs ow) (hx : x.ev tm = some v) (hc : v.cells = some cs) (hk : ∀ r σ', Inv σ' ((r, .cells cs) :: bs) ow → RunO E os ⟨(d, .blk r 0) :: tm, σ'⟩ K) : RunO E (⟨some d, .box x, none⟩ :: os) ⟨tm, σ⟩ K :=
  so (.blk σ.nid 0) (σ.new (.cells cs)) rfl (by simp only [evOp, hx, hc]) (hk _ _ (hI.new _))

theorem e_load {x : Opnd} {r : Nat} {cs : List AV} {bs : List (Nat × Blk)} {ow : List AV} (hI : Inv σ bs ow) (i j : Nat) {c : AV} (hb : bs[i]? = some (r, .cells cs)) (hx : x.ev tm = some (.blk r j)) (h : cs[j]? = some c) : evOp E tm σ (.load none x) = some (c, σ) := by
  have := (hI.get _ (List.mem_of_getElem? hb)).1
  simp only at this
  simp only [evOp, hx, loadA, cellsAt, this, cut, h]; rfl
theorem e_loads {x : Opnd} {r : Nat} {cs sub : List AV} {bs : List (Nat × Blk)} {ow : List AV} (hI : Inv σ bs ow) (i j n : Nat) (hb : bs[i]? = some (r, .cells cs)) (hx : x.ev tm = some (.blk r j)) (h : (cs.drop j).take n = sub) (hl : j + n ≤ cs.length) : evOp E tm σ (.load (some n) x) = some (.agg sub, σ) := by
  have := (hI.get _ (List.mem_of_getElem? hb)).1
  simp only at this
  simp only [evOp, hx, loadA, cellsAt, this, cut]
  rw [if_pos hl, h]; rfl
theorem e_loadg {x : Opnd} {g : Nat} {cs : List AV} (j : Nat) {c : AV} (hg : E.glob g = some cs) (hx : x.ev tm = some (.glob g j)) (h : cs[j]? = some c) : evOp E tm σ (.load none x) = some (c, σ) := by
  simp only [evOp, hx, loadA, cellsAt, hg, cut, h]; rfl
theorem e_loadgs {x : Opnd} {g : Nat} {cs sub : List AV} (j n : Nat) (hg : E.glob g = some cs) (hx : x.ev tm = some (.glob g j)) (h : (cs.drop j).take n = sub) (hl : j + n ≤ cs.length) : evOp E tm σ (.load (some n) x) = some (.agg sub, σ) := by
  simp only [evOp, hx, loadA, cellsAt, hg, cut]
  rw [if_pos hl, h]; rfl
theorem st_store {n : Nat} {a x : Opnd} {r : Nat} {cs vc cs' : List AV} {v : AV} {bs bs' : List (Nat × Blk)} {ow : List AV} (hI : Inv σ bs ow) (i j : Nat) (hb : bs[i]? = some (r, .cells cs)) (ha : a.ev tm = some (.blk r j)) (hx : x.ev tm = some v) (hc : v.cells = some vc)
    (hn : vc.length = n) (hl : j + n ≤ cs.length) (he : cs.take j ++ vc ++ cs.drop (j + n) = cs') (hs : bs.set i (r, .cells cs') = bs') (hk : ∀ σ', Inv σ' bs' ow → RunO E os ⟨tm, σ'⟩ K) : RunO E (⟨none, .store n a x, none⟩ :: os) ⟨tm, σ⟩ K := by
  have hg := hI.get _ (List.mem_of_getElem? hb)
  simp only at hg
  refine sn .undef (σ.put r (.cells cs')) rfl ?_ (hk _ (hs ▸ hI.put hb))
  simp only [evOp, ha, hx, storeA, hg.1, hc]
  rw [if_pos ⟨hg.2, hn, hl⟩, he]; rfl

/-- A call. -/
theorem st_call {f : FuncId} {args : List Opnd} {vs : List AV} {P : AV → St → Prop} (h : RunF E f vs σ P) (ha : evs tm args = some vs) (hk : ∀ v σ', P v σ' → RunO E os ⟨(d, v) :: tm, σ'⟩ K) : RunO E (⟨some d, .call f args, none⟩ :: os) ⟨tm, σ⟩ K := by
  rw [runO_cons, runOp_call]
  show ArgsQ (evs tm args) _
  rw [ha]
  exact h.mono hk
theorem st_calln {f : FuncId} {args : List Opnd} {vs : List AV} {P : AV → St → Prop} (h : RunF E f vs σ P) (ha : evs tm args = some vs) (hk : ∀ v σ', P v σ' → RunO E os ⟨tm, σ'⟩ K) : RunO E (⟨none, .call f args, none⟩ :: os) ⟨tm, σ⟩ K := by
  rw [runO_cons, runOp_call]
  show ArgsQ (evs tm args) _
  rw [ha]
  exact h.mono hk
/-- A call of a closed function. -/
theorem st_callc {f : FuncId} {args : List Opnd} {vs : List AV} {P : AV → Prop} (h : RunF E f vs σ (fun v σ' => σ' = σ ∧ P v)) (ha : evs tm args = some vs) (hk : ∀ v, P v → RunO E os ⟨(d, v) :: tm, σ⟩ K) : RunO E (⟨some d, .call f args, none⟩ :: os) ⟨tm, σ⟩ K :=
  st_call h ha fun v σ' ⟨e, hp⟩ => by rw [e]; exact hk v hp
theorem st_callcn {f : FuncId} {args : List Opnd} {vs : List AV} {P : AV → Prop} (h : RunF E f vs σ (fun v σ' => σ' = σ ∧ P v)) (ha : evs tm args = some vs) (hk : ∀ v, P v → RunO E os ⟨tm, σ⟩ K) : RunO E (⟨none, .call f args, none⟩ :: os) ⟨tm, σ⟩ K :=
  st_calln h ha fun v σ' ⟨e, hp⟩ => by rw [e]; exact hk v hp

/-! ### Code -/

variable {Q : Ex → M → Prop}
theorem c_seq {a b : IC} {e : M} (h : RunC E a e (Cont E b Q)) : RunC E (.seq a b) e Q := runC_seq.2 h
theorem c_reg {os : List IOper} {e : M} (h : RunO E os e (Q .normal)) : RunC E (.reg os) e Q := runC_reg.2 h
theorem c_skip {e : M} (h : Q .normal e) : RunC E .skip e Q := runC_skip.2 h
theorem c_ret {e : M} (h : Q .ret e) : RunC E .ret e Q := runC_ret.2 h
theorem c_exit {i : Nat} {e : M} (h : Q (.exit i) e) : RunC E (.exit i) e Q := runC_exit.2 h
theorem c_block {i : Nat} {b : IC} {e : M} (h : RunC E b e (BlkQ i Q)) : RunC E (.block i b) e Q := runC_block.2 h
theorem c_loop {b : IC} {e : M} (h : RunC E b e (Cont E (.loop b) Q)) : RunC E (.loop b) e Q := runC_loop.2 h
theorem c_keep {ts : List Nat} {b : IC} {tm' : List (Nat × AV)} (hk : keepT tm ts = tm') (h : RunC E b ⟨tm', σ⟩ Q) : RunC E (.keep ts b) ⟨tm, σ⟩ Q := by rw [runC_keep]; show RunC E b ⟨keepT tm ts, σ⟩ Q; rw [hk]; exact h
theorem keep_cons {t : Nat} {ts : List Nat} {v : AV} {l : List (Nat × AV)} (h : lk tm t = some v) (k : keepT tm ts = l) : keepT tm (t :: ts) = (t, v) :: l := by simp only [keepT, h, k]
theorem keep_nil : keepT tm [] = [] := rfl
theorem c_cond_t {c : Opnd} {a b : IC} (x : Bool) (hc : c.ev tm = some (.bool x)) (hx : x = true) (h : RunC E a ⟨tm, σ⟩ Q) : RunC E (.cond c a b) ⟨tm, σ⟩ Q := by
  rw [runC_cond]; show CondQ (c.ev tm) _ _; rw [hc, hx]; exact h
theorem c_cond_f {c : Opnd} {a b : IC} (x : Bool) (hc : c.ev tm = some (.bool x)) (hx : x = false) (h : RunC E b ⟨tm, σ⟩ Q) : RunC E (.cond c a b) ⟨tm, σ⟩ Q := by
  rw [runC_cond]; show CondQ (c.ev tm) _ _; rw [hc, hx]; exact h

theorem cn {b : IC} {e : M} (h : RunC E b e Q) : Cont E b Q .normal e := h
theorem cx {b : IC} {i : Nat} {e : M} (h : Q (.exit i) e) : Cont E b Q (.exit i) e := h
theorem cr {b : IC} {e : M} (h : Q .ret e) : Cont E b Q .ret e := h
theorem bn {i : Nat} {e : M} (h : Q .normal e) : BlkQ i Q .normal e := h
theorem br {i : Nat} {e : M} (h : Q .ret e) : BlkQ i Q .ret e := h
theorem bx {i : Nat} {e : M} (h : Q .normal e) : BlkQ i Q (.exit i) e := by show Q (if i = i then .normal else .exit i) e; rw [if_pos rfl]; exact h
theorem by_ {i j : Nat} {e : M} (hij : (i == j) = false) (h : Q (.exit i) e) : BlkQ j Q (.exit i) e := by show Q (if i = j then .normal else .exit i) e; rw [if_neg (by simpa using hij)]; exact h

/-! ### Results -/

/-- What a body hands back. -/
def ResP (res : List IRes) (P : AV → St → Prop) : Ex → M → Prop
  | .exit _, _ => False
  | _, e => ∃ vs, ressA E e res = some vs ∧ P (oneOr vs) e.st

theorem rn {res : List IRes} {P : AV → St → Prop} {vs : List AV} (h : ressA E ⟨tm, σ⟩ res = some vs) (hp : P (oneOr vs) σ) : ResP (E := E) res P .normal ⟨tm, σ⟩ := ⟨vs, h, hp⟩
theorem rr {res : List IRes} {P : AV → St → Prop} {vs : List AV} (h : ressA E ⟨tm, σ⟩ res = some vs) (hp : P (oneOr vs) σ) : ResP (E := E) res P .ret ⟨tm, σ⟩ := ⟨vs, h, hp⟩
theorem res_nil {e : M} : ressA E e [] = some [] := rfl
theorem res_c {e : M} {r : IRes} {rs : List IRes} {v : AV} {vs : List AV} (h : resA E e r = some v) (k : ressA E e rs = some vs) : ressA E e (r :: rs) = some (v :: vs) := by simp only [ressA, h, k]
theorem resp_t {t : Nat} {v : AV} (h : lk tm t = some v) : resA E ⟨tm, σ⟩ (.tmp t) = some v := h
theorem resp_cell {a r : Nat} {cs : List AV} {bs : List (Nat × Blk)} {ow : List AV} (hI : Inv σ bs ow) (i : Nat) {c : AV} (hb : bs[i]? = some (r, .cells cs)) (h : lk tm a = some (.blk r 0)) (hc : cs[0]? = some c) : resA E ⟨tm, σ⟩ (.cell a none) = some c := by
  have := (hI.get _ (List.mem_of_getElem? hb)).1
  simp only at this
  simp only [resA, h, loadA, cellsAt, this, cut, hc]
theorem resp_cells {a r n : Nat} {cs : List AV} {bs : List (Nat × Blk)} {ow : List AV} (hI : Inv σ bs ow) (i : Nat) (hb : bs[i]? = some (r, .cells cs)) (h : lk tm a = some (.blk r 0)) (hn : cs.length = n) : resA E ⟨tm, σ⟩ (.cell a (some n)) = some (.agg cs) := by
  have := (hI.get _ (List.mem_of_getElem? hb)).1
  simp only at this
  simp only [resA, h, loadA, cellsAt, this, cut]
  rw [if_pos (by omega), ← hn]; simp

theorem resP_q {res : List IRes} {P : AV → St → Prop} {ex : Ex} {e : M} (h : ResP (E := E) res P ex e) : ResQ E res P ex e := by
  cases ex with
  | exit => exact h.elim
  | normal => obtain ⟨vs, h1, h2⟩ := h; show match ressA E e res with | some vs => P (oneOr vs) e.st | none => False; rw [h1]; exact h2
  | ret => obtain ⟨vs, h1, h2⟩ := h; show match ressA E e res with | some vs => P (oneOr vs) e.st | none => False; rw [h1]; exact h2

theorem f_plain {f : FuncId} {fn : IFun} {vs : List AV} {P : AV → St → Prop} (hp : E.prim f = none) (hf : E.fn f = some fn) (hm : fn.mode = .plain) (hl : vs.length = fn.nargs) (h : RunC E fn.body ⟨argsT 0 vs, σ⟩ (ResP (E := E) fn.res P)) : RunF E f vs σ P := by
  rw [runF_plain hp hf hm, runB]
  exact ⟨hl, h.mono fun _ _ => resP_q⟩

theorem f_closed {f : FuncId} {fn : IFun} {vs vs' : List AV} {P : AV → Prop} (hp : E.prim f = none) (hf : E.fn f = some fn) (hm : fn.mode = .closed) (ha : closes vs = some vs') (hl : vs'.length = fn.nargs)
    (h : RunC E fn.body ⟨argsT 0 vs', .zero⟩ (ResP (E := E) fn.res (fun v _ => ∃ v', close v = some v' ∧ P v'))) : RunF E f vs σ (fun v σ' => σ' = σ ∧ P v) := by
  rw [runF_closed hp hf hm, ha]
  show RunB _ _ _ _ _
  rw [runB]
  refine ⟨hl, h.mono fun ex e hq => resP_q ?_⟩
  cases ex with
  | exit => exact hq.elim
  | normal => obtain ⟨vs, h1, v', h2, h3⟩ := hq; exact ⟨vs, h1, by show OptV (close (oneOr vs)) _; rw [h2]; exact ⟨rfl, h3⟩⟩
  | ret => obtain ⟨vs, h1, v', h2, h3⟩ := hq; exact ⟨vs, h1, by show OptV (close (oneOr vs)) _; rw [h2]; exact ⟨rfl, h3⟩⟩

theorem f_prim {f : FuncId} {vs : List AV} {v : AV} {P : AV → Prop} {g : List AV → Option AV} (hp : E.prim f = some g) (hv : g vs = some v) (h : P v) : RunF E f vs σ (fun v σ' => σ' = σ ∧ P v) := by
  rw [runF_prim hp, hv]; exact ⟨rfl, h⟩

theorem cl_nil : closes [] = some [] := rfl
theorem cl_cons {v v' : AV} {l l' : List AV} (h : close v = some v') (t : closes l = some l') : closes (v :: l) = some (v' :: l') := by simp only [closes, h, t]
theorem cl_tuple {l l' : List AV} (t : closes l = some l') : close (.tuple l) = some (.tuple l') := by simp only [close, t]
theorem cl_agg {l l' : List AV} (t : closes l = some l') : close (.agg l) = some (.agg l') := by simp only [close, t]
end

end Go.Pv
