/- What an abstract value is in a world, and what an abstract state is. -/
import Derived.Test.YtkookjaafgkfnaaDoorPvIr
import Derived.Below
import Derived.Laws.IdiomCopy
namespace Go.Pv
set_option linter.all false
open Go.RowKit

/-- What is known of the world: how it began; cells that are never written again; how many cells a block has at least; where an abstract block lies; where a token's room begins. -/
structure KW where
  w0 : World
  sealed : Nat → Nat → Option Value
  size : Nat → Option Nat
  blkOf : Nat → Option Nat
  tok : Nat → Option (Nat × Nat)

structure KW.Le (W W' : KW) : Prop where
  w0 : W'.w0 = W.w0
  sealed : ∀ b i u, W.sealed b i = some u → W'.sealed b i = some u
  size : ∀ b n, W.size b = some n → W'.size b = some n
  blkOf : ∀ i b, W.blkOf i = some b → W'.blkOf i = some b
  tok : ∀ t x, W.tok t = some x → W'.tok t = some x
  osealed : ∀ b i, b < W.w0.heap.size → W'.sealed b i = W.sealed b i
  osize : ∀ b, b < W.w0.heap.size → W'.size b = W.size b

theorem KW.Le.refl (W : KW) : W.Le W := ⟨rfl, fun _ _ _ h => h, fun _ _ h => h, fun _ _ h => h, fun _ _ h => h, fun _ _ _ => rfl, fun _ _ => rfl⟩
theorem KW.Le.trans {A B C : KW} (h : A.Le B) (k : B.Le C) : A.Le C :=
  ⟨k.w0.trans h.w0, fun _ _ _ x => k.sealed _ _ _ (h.sealed _ _ _ x), fun _ _ x => k.size _ _ (h.size _ _ x), fun _ _ x => k.blkOf _ _ (h.blkOf _ _ x), fun _ _ x => k.tok _ _ (h.tok _ _ x),
    fun b i hb => (k.osealed b i (by rw [h.w0]; exact hb)).trans (h.osealed b i hb), fun b hb => (k.osize b (by rw [h.w0]; exact hb)).trans (h.osize b hb)⟩

/-- The cells of a block from a place on are these, for ever. -/
def KW.Row (W : KW) (b o : Nat) (us : List Value) : Prop := ∀ i (h : i < us.length), W.sealed b (o + i) = some us[i]

def TokOk (W : KW) (tok : Tok) (b e len cap sz : Nat) : Prop :=
  match tok with
  | .no => True
  | .exact => cap = len
  | .own => cap = len ∧ W.w0.heap.size ≤ b ∧ ∃ n, W.size b = some n ∧ e ≤ n ∧ ∀ i, i < n → (W.sealed b i).isSome = true
  | .tk t => ∃ x, W.tok t = some x ∧ (cap = len ∨ (x = (b, e) ∧ ∃ n, W.size b = some n ∧ e + (cap - len) * sz ≤ n))

mutual
inductive VR (W : KW) : AV → Value → Prop
  | bool (b : Bool) : VR W (.bool b) (.bool b)
  | int (k : IntKind) (n : Int) : VR W (.int k n) (.int k n)
  | float (k : FloatKind) (n : Nat) : VR W (.float k n) (.float k n)
  | str (s : List UInt8) : VR W (.str s) (.string ⟨s.toArray⟩)
  | nilp : VR W .nilp (.pointer none)
  | blk {id b : Nat} (off : Nat) (h : W.blkOf id = some b) : VR W (.blk id off) (.pointer (some ⟨b, off, none⟩))
  | elem {cs : List AV} {us : List Value} {b o : Nat} (off : Nat) (h : VRs W cs us) (h1 : ∀ c ∈ cs, c.one = true) (hr : W.Row b o us) : VR W (.elem cs off) (.pointer (some ⟨b, o + off, none⟩))
  | glob (g off : Nat) : VR W (.glob g off) (.pointer (some ⟨g, off, none⟩))
  | nils : VR W .nils (.slice none 0 0)
  | list {tok : Tok} {sz : Nat} {cs : List AV} {us : List Value} {b o len cap : Nat} (h : VRs W cs us) (h1 : ∀ c ∈ cs, c.one = true) (hr : W.Row b o us)
      (hs : 1 ≤ sz) (hl : cs.length = len * sz) (hc : len ≤ cap) (ht : TokOk W tok b (o + cs.length) len cap sz) : VR W (.list tok sz cs) (.slice (some ⟨b, o, none⟩) len cap)
  | hs {id b : Nat} (off len : Nat) {cap : Option Nat} {cap' : Nat} (h : W.blkOf id = some b) (hc : len ≤ cap') (hc' : ∀ c, cap = some c → cap' = c) : VR W (.hs id off len cap) (.slice (some ⟨b, off, none⟩) len cap')
  | agg {cs : List AV} {us : List Value} (h : VRs W cs us) (h1 : ∀ c ∈ cs, c.one = true) : VR W (.agg cs) (.agg us.toArray)
  | tuple {cs : List AV} {us : List Value} (h : VRs W cs us) : VR W (.tuple cs) (.tuple us.toArray)
  | iface (t : TypeId) {v : AV} {u : Value} (h : VR W v u) : VR W (.iface t v) (.iface t u)
  | niliface : VR W .niliface .nilIface
  | func (fn : Fn) {a b : List AV} {us vs : List Value} (ha : VRs W a us) (hb : VRs W b vs) : VR W (.func fn a b) (.func fn us.toArray vs.toArray)
  | nilfunc : VR W .nilfunc .nilFunc
inductive VRs (W : KW) : List AV → List Value → Prop
  | nil : VRs W [] []
  | cons {a : AV} {u : Value} {l : List AV} {m : List Value} (h : VR W a u) (t : VRs W l m) : VRs W (a :: l) (u :: m)
end

theorem KW.Row.mono {W W' : KW} (h : W.Le W') {b o : Nat} {us : List Value} (hr : W.Row b o us) : W'.Row b o us := fun i hi => h.sealed _ _ _ (hr i hi)

theorem TokOk.mono {W W' : KW} (h : W.Le W') {tok : Tok} {b e len cap sz : Nat} (k : TokOk W tok b e len cap sz) : TokOk W' tok b e len cap sz := by
  cases tok with
  | no => trivial
  | exact => exact k
  | own =>
    obtain ⟨h1, h2, n, h3, h5, h4⟩ := k
    refine ⟨h1, by rw [h.w0]; exact h2, n, h.size _ _ h3, h5, fun i hi => ?_⟩
    obtain ⟨u, hu⟩ := Option.isSome_iff_exists.1 (h4 i hi)
    rw [h.sealed _ _ _ hu]; rfl
  | tk t =>
    obtain ⟨x, hx, k⟩ := k
    refine ⟨x, h.tok _ _ hx, ?_⟩
    rcases k with k | ⟨k, n, hn, hle⟩
    · exact .inl k
    · exact .inr ⟨k, n, h.size _ _ hn, hle⟩

mutual
theorem VR.mono {W W' : KW} (hw : W.Le W') {v : AV} {u : Value} : VR W v u → VR W' v u
  | .bool b => .bool b
  | .int k n => .int k n
  | .float k n => .float k n
  | .str s => .str s
  | .nilp => .nilp
  | .blk off h => .blk off (hw.blkOf _ _ h)
  | .elem off h h1 hr => .elem off (VRs.mono hw h) h1 (hr.mono hw)
  | .glob g off => .glob g off
  | .nils => .nils
  | .list h h1 hr hs hl hc ht => .list (VRs.mono hw h) h1 (hr.mono hw) hs hl hc (ht.mono hw)
  | .hs off len h hc hc' => .hs off len (hw.blkOf _ _ h) hc hc'
  | .agg h h1 => .agg (VRs.mono hw h) h1
  | .tuple h => .tuple (VRs.mono hw h)
  | .iface t h => .iface t (VR.mono hw h)
  | .niliface => .niliface
  | .func fn ha hb => .func fn (VRs.mono hw ha) (VRs.mono hw hb)
  | .nilfunc => .nilfunc
theorem VRs.mono {W W' : KW} (hw : W.Le W') {v : List AV} {u : List Value} : VRs W v u → VRs W' v u
  | .nil => .nil
  | .cons h t => .cons (VR.mono hw h) (VRs.mono hw t)
end

theorem VRs.length {W : KW} {l : List AV} {m : List Value} (h : VRs W l m) : l.length = m.length := by
  induction l generalizing m with
  | nil => cases h; rfl
  | cons a l ih => cases h with | cons h t => simp [ih t]

theorem VRs.get {W : KW} {l : List AV} {m : List Value} (h : VRs W l m) (i : Nat) {v : AV} (hv : l[i]? = some v) : ∃ u, m[i]? = some u ∧ VR W v u := by
  induction l generalizing m i with
  | nil => simp at hv
  | cons a l ih =>
    cases h with
    | cons h t =>
      cases i with
      | zero => simp at hv; subst hv; exact ⟨_, rfl, h⟩
      | succ i => simp at hv; simpa using ih t i hv

theorem VRs.get' {W : KW} {l : List AV} {m : List Value} (h : VRs W l m) (i : Nat) {u : Value} (hv : m[i]? = some u) : ∃ v, l[i]? = some v ∧ VR W v u := by
  induction l generalizing m i with
  | nil => cases h; simp at hv
  | cons a l ih =>
    cases h with
    | cons h t =>
      cases i with
      | zero => simp at hv; subst hv; exact ⟨_, rfl, h⟩
      | succ i => simp at hv; simpa using ih t i hv

theorem VRs.append {W : KW} {l l' : List AV} {m m' : List Value} (h : VRs W l m) (h' : VRs W l' m') : VRs W (l ++ l') (m ++ m') := by
  induction l generalizing m with
  | nil => cases h; exact h'
  | cons a l ih => cases h with | cons h t => exact .cons h (ih t)

theorem VRs.take {W : KW} {l : List AV} {m : List Value} (h : VRs W l m) (n : Nat) : VRs W (l.take n) (m.take n) := by
  induction l generalizing m n with
  | nil => cases h; simp; exact .nil
  | cons a l ih => cases h with
    | cons h t => cases n with
      | zero => exact .nil
      | succ n => exact .cons h (ih t n)

theorem VRs.drop {W : KW} {l : List AV} {m : List Value} (h : VRs W l m) (n : Nat) : VRs W (l.drop n) (m.drop n) := by
  induction l generalizing m n with
  | nil => cases h; simp; exact .nil
  | cons a l ih => cases h with
    | cons h t => cases n with
      | zero => exact .cons h t
      | succ n => exact ih t n

theorem VRs.replicate {W : KW} {v : AV} {u : Value} (h : VR W v u) (n : Nat) : VRs W (List.replicate n v) (List.replicate n u) := by
  induction n with
  | zero => exact .nil
  | succ n ih => exact .cons h ih

theorem VRs.split {W : KW} {l l' : List AV} {m : List Value} (h : VRs W (l ++ l') m) : ∃ a b, m = a ++ b ∧ VRs W l a ∧ VRs W l' b := by
  induction l generalizing m with
  | nil => exact ⟨[], m, rfl, .nil, h⟩
  | cons a l ih =>
    cases h with
    | cons h t => obtain ⟨x, y, rfl, h1, h2⟩ := ih t; exact ⟨_ :: x, y, rfl, .cons h h1, h2⟩

theorem VR.one {W : KW} {v : AV} {u : Value} (h : VR W v u) (h1 : v.one = true) : u.oneCell' = true := by
  cases h <;> first | rfl | (simp [AV.one] at h1)

theorem VR.cells {W : KW} {v : AV} {u : Value} (h : VR W v u) {cs : List AV} (hc : v.cells = some cs) : VRs W cs u.cells.toList ∧ ∀ c ∈ cs, c.one = true := by
  cases h
  case agg cs' us h h1 => simp [AV.cells] at hc; subst hc; exact ⟨by simpa [Value.cells] using h, h1⟩
  case tuple => simp [AV.cells] at hc
  all_goals
    simp [AV.cells] at hc; subst hc
    refine ⟨.cons (by constructor <;> assumption) .nil, by simp [AV.one]⟩

/-- The abstract state's world. -/
structure R (E : Env) (W : KW) (σ : St) (w : World) : Prop where
  below : Below W.w0.heap.size W.w0 w
  sealed : ∀ b i u, W.sealed b i = some u → w.cell? ⟨b, i, none⟩ = some u
  size : ∀ b n, W.size b = some n → ∀ i, i < n → (w.cell? ⟨b, i, none⟩).isSome = true
  sizelt : ∀ b n, W.size b = some n → b < w.heap.size
  there : ∀ id b, W.blkOf id = some b → W.w0.heap.size ≤ b ∧ b < w.heap.size ∧ id < σ.nid ∧ ∀ i, W.sealed b i = none
  cells : ∀ id cs, σ.get id = some (.cells cs) → ∃ b, W.blkOf id = some b ∧ (∀ c ∈ cs, c.one = true) ∧
    ∀ i v, cs[i]? = some v → w.frozen? ⟨b, i, none⟩ = false ∧ ∃ u, w.cell? ⟨b, i, none⟩ = some u ∧ VR W v u
  iter : ∀ id s pos, σ.get id = some (.iter s pos) → ∃ b, W.blkOf id = some b ∧ w.heap[b]? = some (.stringIter ⟨s.toArray⟩ pos)
  inj : ∀ i j b x y, W.blkOf i = some b → W.blkOf j = some b → σ.get i = some x → σ.get j = some y → i = j
  tok : ∀ t b o, W.tok t = some (b, o) → W.w0.heap.size ≤ b ∧ b < w.heap.size ∧ t < σ.nt ∧ (∀ id, W.blkOf id ≠ some b)
  live : ∀ t b o, t ∈ σ.live → W.tok t = some (b, o) → ∀ n, W.size b = some n → ∀ i, o ≤ i → i < n → W.sealed b i = none ∧ w.frozen? ⟨b, i, none⟩ = false
  tinj : ∀ t t' b o o', t ∈ σ.live → t' ∈ σ.live → W.tok t = some (b, o) → W.tok t' = some (b, o') → t = t'
  ltok : ∀ t, t ∈ σ.live → t < σ.nt
  lid : ∀ id x, σ.get id = some x → id < σ.nid
  glob : ∀ g cs, E.glob g = some cs → (∀ c ∈ cs, c.one = true) ∧ ∃ us, VRs W cs us ∧ W.Row g 0 us
  nodup : σ.live.Nodup

/-- The temporaries. -/
def TR (W : KW) (tm : List (Nat × AV)) (a : Array Value) : Prop := ∀ t v, lk tm t = some v → ∃ u, a[t]? = some u ∧ VR W v u

theorem TR.mono {W W' : KW} (h : W.Le W') {tm : List (Nat × AV)} {a : Array Value} (k : TR W tm a) : TR W' tm a :=
  fun t v hv => let ⟨u, hu, hr⟩ := k t v hv; ⟨u, hu, hr.mono h⟩

theorem TR.put {W : KW} {tm : List (Nat × AV)} {a : Array Value} (k : TR W tm a) {t : Nat} {v : AV} {u : Value} (ht : t < a.size) (h : VR W v u) :
    TR W ((t, v) :: tm) (a.setIfInBounds t u) := by
  intro t' v' hv'
  simp only [lk] at hv'
  by_cases e : t = t'
  · subst e
    rw [if_pos rfl] at hv'
    injection hv' with hv'; subst hv'
    exact ⟨u, by simp [Array.getElem?_setIfInBounds, ht], h⟩
  · rw [if_neg e] at hv'
    obtain ⟨u', hu', hr'⟩ := k t' v' hv'
    exact ⟨u', by rw [Array.getElem?_setIfInBounds_ne e]; exact hu', hr'⟩

theorem TR.keep {W : KW} {tm : List (Nat × AV)} {a : Array Value} (k : TR W tm a) (ts : List Nat) : TR W (keepT tm ts) a := by
  induction ts with
  | nil => intro t v h; simp [keepT, lk] at h
  | cons x ts ih =>
    intro t v h
    simp only [keepT] at h
    cases hx : lk tm x with
    | none => rw [hx] at h; exact ih t v h
    | some y =>
      rw [hx] at h
      simp only [lk] at h
      by_cases e : x = t
      · subst e; rw [if_pos rfl] at h; injection h with h; subst h; exact k _ _ hx
      · rw [if_neg e] at h; exact ih t v h

end Go.Pv
