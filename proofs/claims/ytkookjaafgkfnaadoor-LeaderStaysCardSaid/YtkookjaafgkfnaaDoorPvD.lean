/- Steps of abstract runs over values that have types: what printed functions lean on. -/
import Derived.Test.YtkookjaafgkfnaaDoorPvRun
namespace Go.Pv
set_option linter.all false

/-! ### Options -/

theorem bind_some {α β : Type} {x : Option α} {f : α → Option β} {r : β} (h : x.bind f = some r) : ∃ a, x = some a ∧ f a = some r := by
  cases x with
  | none => simp at h
  | some a => exact ⟨a, rfl, h⟩
theorem ite_t {α : Type} {b : Bool} {x y z : α} (h : (if b = true then x else y) = z) (hb : b = true) : x = z := by rw [if_pos hb] at h; exact h
theorem ite_f {α : Type} {b : Bool} {x y z : α} (h : (if b = true then x else y) = z) (hb : b = false) : y = z := by rw [if_neg (by rw [hb]; simp)] at h; exact h
theorem bool_tf (b : Bool) : b = true ∨ b = false := by cases b <;> simp
theorem some_eq {α : Type} {a b : α} (h : some a = some b) : a = b := by injection h
theorem none_eq {α : Type} {b : α} {p : Prop} (h : (none : Option α) = some b) : p := by simp at h

/-! ### What printed functions use -/

def lIdx {α : Type} (xs : List α) (i : Int) : Option α := if 0 ≤ i then xs[i.toNat]? else none
def lSub {α : Type} (xs : List α) (l h : Int) : Option (List α) := if 0 ≤ l ∧ l ≤ h ∧ h ≤ (xs.length : Int) then some ((xs.take h.toNat).drop l.toNat) else none
def lApp {α : Type} (bytes : Nat) (xs ys : List α) : Option (List α) := if (xs.length + ys.length) * bytes ≤ room ∧ xs.length + ys.length ≤ room then some (xs ++ ys) else none
def sAdd (xs ys : List UInt8) : Option (List UInt8) := if xs.length + ys.length ≤ strLim then some (xs ++ ys) else none
def iQuo (k : IntKind) (x y : Int) : Option Int := if y = 0 then none else some (k.wrap (x.tdiv y))
def iRem (x y : Int) : Option Int := if y = 0 then none else some (x.tmod y)
def iShl (k : IntKind) (x y : Int) : Option Int := if y < 0 then none else some (k.wrap (x * 2 ^ (min y.toNat k.bits)))
def iShr (k : IntKind) (x y : Int) : Option Int := if y < 0 then none else some (x.fdiv (2 ^ (min y.toNat k.bits)))
def iMax (a b : Int) : Int := if b > a then b else a
def iMin (a b : Int) : Int := if b < a then b else a
def iAnd (k : IntKind) (x y : Int) : Int := k.wrap (BitVec.ofInt k.bits x &&& BitVec.ofInt k.bits y).toNat
def iOr (k : IntKind) (x y : Int) : Int := k.wrap (BitVec.ofInt k.bits x ||| BitVec.ofInt k.bits y).toNat
def iXor (k : IntKind) (x y : Int) : Int := k.wrap (BitVec.ofInt k.bits x ^^^ BitVec.ofInt k.bits y).toNat
def iAndNot (k : IntKind) (x y : Int) : Int := k.wrap (BitVec.ofInt k.bits x &&& ~~~ BitVec.ofInt k.bits y).toNat
def iNot (k : IntKind) (x : Int) : Int := iXor k (if k.signed then -1 else k.max) x
/-- A byte of a number. -/
def toB (n : Int) : UInt8 := UInt8.ofNat (n % 256).toNat

theorem toB_nat (n : Int) : ((toB n).toNat : Int) = n % 256 := by
  unfold toB
  have h0 : 0 ≤ n % 256 := by omega
  rw [UInt8.toNat_ofNat']
  omega
theorem u8_wrap (n : Int) : (.int .u8 (IntKind.u8.wrap n) : AV) = u8 (toB n) := by
  show (AV.int .u8 _) = AV.int .u8 _
  rw [toB_nat]
  congr 1
theorem u8_int (c : UInt8) : IntKind.i64.wrap (c.toNat : Int) = (c.toNat : Int) := by
  have := c.toNat_lt
  exact (show IntKind.i64.wrap (c.toNat : Int) = (c.toNat : Int) by
    unfold IntKind.wrap; simp [IntKind.signed, IntKind.bits]; omega)
theorem u8_u8 (c : UInt8) : (.int .u8 (IntKind.u8.wrap (c.toNat : Int)) : AV) = u8 c := by
  rw [u8_wrap]
  show AV.int .u8 _ = AV.int .u8 _
  rw [toB_nat]
  have := c.toNat_lt
  congr 1; omega

def wide : IntKind → Bool
  | .u8 | .i8 => false
  | _ => true
theorem u8_to (k : IntKind) (c : UInt8) (hk : wide k = true) : (.int k (k.wrap (c.toNat : Int)) : AV) = .int k (c.toNat : Int) := by
  have := c.toNat_lt
  congr 1
  cases k <;> first | (simp [wide] at hk; done) | (unfold IntKind.wrap; simp [IntKind.signed, IntKind.bits]; omega)
theorem not_tf {b x : Bool} (h : (!b) = x) : b = !x := by cases b <;> cases x <;> simp_all

/-! ### Lists in values -/

/-- Elements of so many cells each. -/
def RL {α : Type} (R : α → List AV → Prop) (sz : Nat) : List α → List AV → Prop
  | [], cs => cs = []
  | x :: xs, cs => ∃ c r, cs = c ++ r ∧ c.length = sz ∧ R x c ∧ RL R sz xs r

def SL {α : Type} (R : α → List AV → Prop) (sz : Nat) (xs : List α) (v : AV) : Prop := (v = .nils ∧ xs = []) ∨ ∃ tok cs, v = .list tok sz cs ∧ RL R sz xs cs

abbrev RU8 (x : UInt8) (c : List AV) : Prop := c = [u8 x]
abbrev RI (k : IntKind) (x : Int) (c : List AV) : Prop := c = [.int k x]
abbrev RB (x : Bool) (c : List AV) : Prop := c = [.bool x]
abbrev RS (x : List UInt8) (c : List AV) : Prop := c = [.str x]
abbrev RF (k : FloatKind) (x : Nat) (c : List AV) : Prop := c = [.float k x]
def RLs {α : Type} (R : α → List AV → Prop) (sz : Nat) (x : List α) (c : List AV) : Prop := ∃ v, c = [v] ∧ SL R sz x v

def VAgg {α : Type} (R : α → List AV → Prop) (x : α) (v : AV) : Prop := ∃ c, v = .agg c ∧ R x c

section
variable {α : Type} {R : α → List AV → Prop} {sz : Nat}

theorem RL.nil : RL R sz [] [] := rfl
theorem RL.cons {x : α} {xs : List α} (c : List AV) {r : List AV} (h : R x c) (hl : c.length = sz) (t : RL R sz xs r) : RL R sz (x :: xs) (c ++ r) := ⟨c, r, rfl, hl, h, t⟩

theorem RL.length : ∀ {xs : List α} {cs : List AV}, RL R sz xs cs → cs.length = xs.length * sz
  | [], cs, h => by rw [show cs = [] from h]; simp
  | x :: xs, cs, ⟨c, r, e, hl, _, t⟩ => by rw [e, List.length_append, hl, RL.length t, List.length_cons, Nat.succ_mul, Nat.add_comm]

theorem RL.append : ∀ {xs ys : List α} {cs ds : List AV}, RL R sz xs cs → RL R sz ys ds → RL R sz (xs ++ ys) (cs ++ ds)
  | [], ys, cs, ds, h, k => by rw [show cs = [] from h]; exact k
  | x :: xs, ys, cs, ds, ⟨c, r, e, hl, hr, t⟩, k => by rw [e, List.append_assoc]; exact ⟨c, r ++ ds, rfl, hl, hr, t.append k⟩

theorem RL.take : ∀ {xs : List α} {cs : List AV} (n : Nat), RL R sz xs cs → RL R sz (xs.take n) (cs.take (n * sz))
  | [], cs, n, h => by rw [show cs = [] from h]; simp; exact RL.nil
  | x :: xs, cs, 0, h => by simp; exact RL.nil
  | x :: xs, cs, n + 1, ⟨c, r, e, hl, hr, t⟩ => by
    rw [e, List.take_succ_cons]
    refine ⟨c, r.take (n * sz), ?_, hl, hr, t.take n⟩
    rw [List.take_append, hl, List.take_of_length_le (l := c) (by rw [hl, Nat.succ_mul]; omega), show (n + 1) * sz - sz = n * sz by rw [Nat.succ_mul]; omega]

theorem RL.drop : ∀ {xs : List α} {cs : List AV} (n : Nat), RL R sz xs cs → RL R sz (xs.drop n) (cs.drop (n * sz))
  | [], cs, n, h => by rw [show cs = [] from h]; simp; exact RL.nil
  | x :: xs, cs, 0, h => by simpa using h
  | x :: xs, cs, n + 1, ⟨c, r, e, hl, hr, t⟩ => by
    rw [e, List.drop_succ_cons, List.drop_append, hl, show (n + 1) * sz - sz = n * sz by rw [Nat.succ_mul]; omega, List.drop_of_length_le (l := c) (by rw [hl, Nat.succ_mul]; omega)]
    simpa using t.drop n

/-- Cells of an element, within others. -/
def ElemAt (ce : List AV) (o : Nat) (cs : List AV) : Prop := ∀ j c, cs[j]? = some c → ce[o + j]? = some c

theorem RL.get : ∀ {xs : List α} {cs : List AV} {i : Nat} {x : α}, RL R sz xs cs → xs[i]? = some x → ∃ c, R x c ∧ c.length = sz ∧ ElemAt cs (i * sz) c
  | x :: xs, cs, 0, y, ⟨c, r, e, hl, hr, t⟩, h => by
    simp at h; subst h
    refine ⟨c, hr, hl, fun j d hd => ?_⟩
    have hj : j < c.length := (List.getElem?_eq_some_iff.1 hd).1
    rw [e]; simp only [Nat.zero_mul, Nat.zero_add]
    rw [List.getElem?_append_left hj]; exact hd
  | x :: xs, cs, i + 1, y, ⟨c, r, e, hl, hr, t⟩, h => by
    simp at h
    obtain ⟨c', h1, h2, h3⟩ := t.get h
    refine ⟨c', h1, h2, fun j d hd => ?_⟩
    rw [e, List.getElem?_append_right (by rw [hl, Nat.succ_mul]; omega), show (i + 1) * sz + j - c.length = i * sz + j by rw [hl, Nat.succ_mul]; omega]
    exact h3 j d hd
  | [], cs, i, x, _, h => by simp at h

theorem SL.nil : SL R sz [] .nils := .inl ⟨rfl, rfl⟩
theorem SL.mk {xs : List α} {tok : Tok} {cs : List AV} (h : RL R sz xs cs) : SL R sz xs (.list tok sz cs) := .inr ⟨tok, cs, rfl, h⟩

theorem RL.map {f : α → AV} : ∀ (xs : List α), RL (fun x c => c = [f x]) 1 xs (xs.map f)
  | [] => RL.nil
  | x :: xs => ⟨[f x], xs.map f, rfl, rfl, rfl, RL.map xs⟩
theorem RL.of_map {f : α → AV} : ∀ {xs : List α} {cs : List AV}, RL (fun x c => c = [f x]) 1 xs cs → cs = xs.map f
  | [], cs, h => h
  | x :: xs, cs, ⟨c, r, e, _, hr, t⟩ => by rw [e, hr, RL.of_map t]; rfl
theorem sl_bytes (s : List UInt8) (tok : Tok) : SL RU8 1 s (.list tok 1 (s.map u8)) := .mk (RL.map s)

theorem SL.cells {xs : List α} {v : AV} (σ : St) (h : SL R sz xs v) : ∃ cs, sliceCells σ sz v = some cs ∧ RL R sz xs cs := by
  rcases h with ⟨rfl, rfl⟩ | ⟨tok, cs, rfl, h⟩
  · exact ⟨[], rfl, RL.nil⟩
  · exact ⟨cs, by simp [sliceCells], h⟩

/-- What may go through the door of a closed function. -/
class ClR {α : Type} (R : α → List AV → Prop) : Prop where
  cl : ∀ {x c}, R x c → ∃ c', closes c = some c' ∧ R x c' ∧ c'.length = c.length

theorem closes_append : ∀ {a b a' b' : List AV}, closes a = some a' → closes b = some b' → closes (a ++ b) = some (a' ++ b')
  | [], b, a', b', h, k => by simp [closes] at h; subst h; exact k
  | v :: l, b, a', b', h, k => by
    simp only [closes] at h
    split at h
    · rename_i v1 l1 h1 h2
      injection h with h; subst h
      simp only [List.cons_append, closes, h1, closes_append h2 k]
    · simp at h

theorem RL.close [ClR R] : ∀ {xs : List α} {cs : List AV}, RL R sz xs cs → ∃ cs', closes cs = some cs' ∧ RL R sz xs cs'
  | [], cs, h => ⟨[], by rw [show cs = [] from h]; rfl, RL.nil⟩
  | x :: xs, cs, ⟨c, r, e, hl, hr, t⟩ => by
    obtain ⟨c', h1, h2, h3⟩ := ClR.cl hr
    obtain ⟨r', h4, h5⟩ := t.close
    exact ⟨c' ++ r', by rw [e]; exact closes_append h1 h4, c', r', rfl, by rw [h3, hl], h2, h5⟩

theorem SL.close [ClR R] {xs : List α} {v : AV} (h : SL R sz xs v) : ∃ v', close v = some v' ∧ SL R sz xs v' := by
  rcases h with ⟨rfl, rfl⟩ | ⟨tok, cs, rfl, h⟩
  · exact ⟨.nils, rfl, SL.nil⟩
  · obtain ⟨cs', h1, h2⟩ := h.close
    exact ⟨.list (closeTok tok) sz cs', by simp only [Go.Pv.close, h1], .mk h2⟩

instance : ClR RU8 := ⟨fun h => ⟨_, by rw [h]; rfl, rfl, by rw [h]⟩⟩
instance {k : IntKind} : ClR (RI k) := ⟨fun h => ⟨_, by rw [h]; rfl, rfl, by rw [h]⟩⟩
instance : ClR RB := ⟨fun h => ⟨_, by rw [h]; rfl, rfl, by rw [h]⟩⟩
instance : ClR RS := ⟨fun h => ⟨_, by rw [h]; rfl, rfl, by rw [h]⟩⟩
instance {k : FloatKind} : ClR (RF k) := ⟨fun h => ⟨_, by rw [h]; rfl, rfl, by rw [h]⟩⟩
instance [ClR R] : ClR (RLs R sz) := ⟨fun ⟨v, e, h⟩ => by
  obtain ⟨v', h1, h2⟩ := h.close
  exact ⟨[v'], by rw [e]; simp only [closes, h1], ⟨v', rfl, h2⟩, by rw [e]; rfl⟩⟩

end

/-! ### States -/

/-- The token of a value that may be appended to. -/
def tkOf : AV → Option Nat
  | .list (.tk t) _ _ => some t
  | _ => none

def OwnOk (σ : St) : AV → Prop
  | .nils => True
  | .list tok _ _ => match tok with
    | .no => False
    | .tk t => σ.ft ≤ t ∧ t ∈ σ.live
    | _ => True
  | _ => False

/-- What is known of a state: blocks; lists that may be appended to. -/
structure Inv (σ : St) (bs : List (Nat × Blk)) (os : List AV) : Prop where
  nodup : (bs.map (·.1)).Nodup
  get : ∀ p ∈ bs, σ.get p.1 = some p.2 ∧ σ.fid ≤ p.1
  lt : ∀ id b, σ.get id = some b → id < σ.nid
  own : ∀ v ∈ os, OwnOk σ v
  sep : (os.filterMap tkOf).Nodup
  lv : ∀ t ∈ σ.live, t < σ.nt
  lnd : σ.live.Nodup
  fl : σ.fid ≤ σ.nid ∧ σ.ft ≤ σ.nt

theorem Inv.zero : Inv .zero [] [] where
  nodup := by simp
  get := by simp
  lt := by intro id b h; simp [St.get, St.zero, Heap.get] at h
  own := by simp
  sep := by simp
  lv := by simp [St.zero]
  lnd := by simp [St.zero]
  fl := by simp [St.zero]

section
variable {σ : St} {bs : List (Nat × Blk)} {os : List AV}

theorem get_put {σ : St} {i j : Nat} {b : Blk} : (σ.put i b).get j = if i = j then some b else σ.get j := by
  unfold St.put St.get
  simp only
  generalize σ.heap = h
  induction h with
  | nil => simp only [Heap.set, Heap.get]
  | cons x h ih =>
    obtain ⟨k, v⟩ := x
    simp only [Heap.set]
    by_cases e : k = i
    · subst e
      rw [if_pos rfl]
      simp only [Heap.get]
      by_cases e2 : k = j
      · rw [if_pos e2, if_pos e2]
      · rw [if_neg e2, if_neg e2, if_neg e2]
    · rw [if_neg e]
      simp only [Heap.get]
      by_cases e2 : k = j
      · rw [if_pos e2, if_pos e2, if_neg (by omega)]
      · rw [if_neg e2, if_neg e2, ih]

theorem get_new {σ : St} {j : Nat} {b : Blk} : (σ.new b).get j = if σ.nid = j then some b else σ.get j := rfl

theorem OwnOk.up {σ σ' : St} {v : AV} (hf : σ'.ft = σ.ft) (hl : ∀ t, tkOf v = some t → t ∈ σ.live → t ∈ σ'.live) (h : OwnOk σ v) : OwnOk σ' v := by
  cases v <;> try exact h
  rename_i tok sz cs
  cases tok <;> try exact h
  rename_i t
  obtain ⟨h1, h2⟩ := h
  exact ⟨by rw [hf]; exact h1, hl t rfl h2⟩

theorem Inv.new (h : Inv σ bs os) (b : Blk) : Inv (σ.new b) ((σ.nid, b) :: bs) os where
  nodup := by
    rw [List.map_cons, List.nodup_cons]
    refine ⟨fun hm => ?_, h.nodup⟩
    obtain ⟨p, hp, e⟩ := List.mem_map.1 hm
    have := h.lt _ _ (h.get p hp).1
    omega
  get := by
    intro p hp
    rcases List.mem_cons.1 hp with rfl | hp
    · exact ⟨by rw [get_new, if_pos rfl], h.fl.1⟩
    · have := h.lt _ _ (h.get p hp).1
      exact ⟨by rw [get_new, if_neg (by omega)]; exact (h.get p hp).1, (h.get p hp).2⟩
  lt := by
    intro id c hc
    rw [get_new] at hc
    show id < σ.nid + 1
    split at hc
    · omega
    · have := h.lt _ _ hc; omega
  own := fun v hv => (h.own v hv).up rfl (fun _ _ h => h)
  sep := h.sep
  lv := h.lv
  lnd := h.lnd
  fl := ⟨Nat.le_succ_of_le h.fl.1, h.fl.2⟩

theorem set_get {α : Type} {l : List α} {i : Nat} {x y : α} (h : l[i]? = some x) (p : α) (hp : p ∈ l.set i y) : p = y ∨ ∃ j, j ≠ i ∧ l[j]? = some p := by
  rw [List.mem_iff_getElem?] at hp
  obtain ⟨j, hj⟩ := hp
  rw [List.getElem?_set] at hj
  by_cases e : i = j
  · rw [if_pos e] at hj
    split at hj
    · injection hj with hj; exact .inl hj.symm
    · simp at hj
  · rw [if_neg e] at hj; exact .inr ⟨j, fun e2 => e e2.symm, hj⟩

theorem Inv.put (h : Inv σ bs os) {i r : Nat} {b b' : Blk} (hi : bs[i]? = some (r, b)) : Inv (σ.put r b') (bs.set i (r, b')) os where
  nodup := by
    have : (bs.set i (r, b')).map (·.1) = bs.map (·.1) := by
      rw [List.map_set]
      apply List.ext_getElem? 
      intro j
      rw [List.getElem?_set]
      split
      · rename_i e; subst e
        rw [List.getElem?_map, hi]
        split <;> simp_all
      · rfl
    rw [this]; exact h.nodup
  get := by
    intro p hp
    rcases set_get hi p hp with rfl | ⟨j, hj, hp⟩
    · exact ⟨by rw [get_put, if_pos rfl], (h.get _ (List.mem_of_getElem? hi)).2⟩
    · have hm := h.get p (List.mem_of_getElem? hp)
      refine ⟨?_, hm.2⟩
      rw [get_put, if_neg ?_]
      · exact hm.1
      · intro e
        apply hj
        have h1 : (bs.map (·.1))[j]? = some p.1 := by rw [List.getElem?_map, hp]; rfl
        have h2 : (bs.map (·.1))[i]? = some p.1 := by rw [List.getElem?_map, hi, ← e]; rfl
        exact (List.getElem?_inj (List.getElem?_eq_some_iff.1 h1).1 h.nodup).1 (h1.trans h2.symm)
  lt := by
    intro id c hc
    rw [get_put] at hc
    show id < σ.nid
    split at hc
    · rename_i e; subst e; exact h.lt _ _ (h.get _ (List.mem_of_getElem? hi)).1
    · exact h.lt _ _ hc
  own := fun v hv => (h.own v hv).up rfl (fun _ _ h => h)
  sep := h.sep
  lv := h.lv
  lnd := h.lnd
  fl := h.fl

theorem erase_perm {α : Type} : ∀ {l : List α} {i : Nat} {x : α}, l[i]? = some x → (x :: l.eraseIdx i).Perm l
  | y :: l, 0, x, h => by simp at h; subst h; exact List.Perm.refl _
  | y :: l, i + 1, x, h => by
    simp at h
    exact (List.Perm.swap y x _).trans ((erase_perm h).cons y)

/-- Another block comes first. -/
theorem Inv.front (h : Inv σ bs os) (i : Nat) {p : Nat × Blk} (hi : bs[i]? = some p) : Inv σ (p :: bs.eraseIdx i) os := by
  have hp : (p :: bs.eraseIdx i).Perm bs := erase_perm hi
  exact { h with nodup := ((hp.map _).nodup_iff).2 h.nodup, get := fun q hq => h.get q (hp.mem_iff.1 hq) }

theorem Inv.drop {p : Nat × Blk} (h : Inv σ (p :: bs) os) : Inv σ bs os :=
  { h with nodup := (List.nodup_cons.1 (by have h2 := h.nodup; rwa [List.map_cons] at h2)).2, get := fun q hq => h.get q (List.mem_cons_of_mem _ hq) }

theorem Inv.ofront (h : Inv σ bs os) (i : Nat) {v : AV} (hi : os[i]? = some v) : Inv σ bs (v :: os.eraseIdx i) := by
  have hp : (v :: os.eraseIdx i).Perm os := erase_perm hi
  exact { h with own := fun q hq => h.own q (hp.mem_iff.1 hq), sep := ((hp.filterMap _).nodup_iff).2 h.sep }

theorem Inv.odrop {v : AV} (h : Inv σ bs (v :: os)) : Inv σ bs os :=
  { h with
    own := fun q hq => h.own q (List.mem_cons_of_mem _ hq)
    sep := by
      have h2 := h.sep
      rw [List.filterMap_cons] at h2
      split at h2
      · exact h2
      · rw [List.nodup_cons] at h2; exact h2.2 }

theorem Inv.onil (h : Inv σ bs os) : Inv σ bs (.nils :: os) :=
  { h with own := fun q hq => by rcases List.mem_cons.1 hq with rfl | hq; exact trivial; exact h.own q hq, sep := h.sep }

theorem Inv.oexact (h : Inv σ bs os) {sz : Nat} {cs : List AV} : Inv σ bs (.list .exact sz cs :: os) :=
  { h with own := fun q hq => by rcases List.mem_cons.1 hq with rfl | hq; exact trivial; exact h.own q hq, sep := h.sep }

theorem Inv.oown (h : Inv σ bs os) {sz : Nat} {cs : List AV} : Inv σ bs (.list .own sz cs :: os) :=
  { h with own := fun q hq => by rcases List.mem_cons.1 hq with rfl | hq; exact trivial; exact h.own q hq, sep := h.sep }

/-- A new token. -/
theorem Inv.tok (h : Inv σ bs os) {sz : Nat} {cs : List AV} : Inv σ.tok bs (.list (.tk σ.nt) sz cs :: os) where
  nodup := h.nodup
  get := h.get
  lt := h.lt
  own := by
    intro v hv
    rcases List.mem_cons.1 hv with rfl | hv
    · exact ⟨h.fl.2, List.mem_cons_self ..⟩
    · exact OwnOk.up (σ := σ) rfl (fun t _ hm => List.mem_cons_of_mem _ hm) (h.own v hv)
  sep := by
    rw [List.filterMap_cons]
    show (σ.nt :: os.filterMap tkOf).Nodup
    rw [List.nodup_cons]
    refine ⟨fun hm => ?_, h.sep⟩
    obtain ⟨v, hv, e⟩ := List.mem_filterMap.1 hm
    have := h.own v hv
    cases v <;> simp [tkOf] at e
    rename_i tok sz cs
    cases tok <;> simp at e
    subst e
    have := h.lv _ this.2; omega
  lv := by
    intro t ht
    show t < σ.nt + 1
    rcases List.mem_cons.1 ht with rfl | ht
    · omega
    · have := h.lv t ht; omega
  lnd := by
    show (σ.nt :: σ.live).Nodup
    rw [List.nodup_cons]
    exact ⟨fun hm => by have := h.lv _ hm; omega, h.lnd⟩
  fl := ⟨h.fl.1, Nat.le_succ_of_le h.fl.2⟩

/-- A token goes, a new one comes. -/
theorem Inv.use {t sz : Nat} {cs : List AV} (h : Inv σ bs (.list (.tk t) sz cs :: os)) {sz' : Nat} {cs' : List AV} : Inv (σ.use t) bs (.list (.tk σ.nt) sz' cs' :: os) where
  nodup := h.nodup
  get := h.get
  lt := h.lt
  own := by
    intro v hv
    rcases List.mem_cons.1 hv with rfl | hv
    · exact ⟨h.fl.2, List.mem_cons_self ..⟩
    · refine OwnOk.up (σ := σ) rfl (fun t' ht' hm => ?_) (h.own v (List.mem_cons_of_mem _ hv))
      show t' ∈ σ.nt :: σ.live.erase t
      refine List.mem_cons_of_mem _ ((List.mem_erase_of_ne ?_).2 hm)
      intro e; subst e
      have := h.sep
      rw [List.filterMap_cons] at this
      change (t' :: os.filterMap tkOf).Nodup at this
      rw [List.nodup_cons] at this
      exact this.1 (List.mem_filterMap.2 ⟨v, hv, ht'⟩)
  sep := by
    rw [List.filterMap_cons]
    show (σ.nt :: os.filterMap tkOf).Nodup
    rw [List.nodup_cons]
    refine ⟨fun hm => ?_, h.odrop.sep⟩
    obtain ⟨v, hv, e⟩ := List.mem_filterMap.1 hm
    have := h.own v (List.mem_cons_of_mem _ hv)
    cases v <;> simp [tkOf] at e
    rename_i tok sz cs
    cases tok <;> simp at e
    subst e
    have := h.lv _ this.2; omega
  lv := by
    intro t' ht
    show t' < σ.nt + 1
    rcases List.mem_cons.1 ht with rfl | ht
    · omega
    · have := h.lv t' (List.mem_of_mem_erase ht); omega
  lnd := by
    show (σ.nt :: σ.live.erase t).Nodup
    rw [List.nodup_cons]
    exact ⟨fun hm => by have := h.lv _ (List.mem_of_mem_erase hm); omega, h.lnd.erase _⟩
  fl := ⟨h.fl.1, Nat.le_succ_of_le h.fl.2⟩

end

/-! ### Appending -/

/-- What may be appended: elements of so many cells. -/
def MC {α : Type} (R : α → List AV → Prop) (sz : Nat) (ys : List α) (w : AV) : Prop := ∀ σ, ∃ cs, moreCells σ sz w = some cs ∧ RL R sz ys cs

theorem MC.list {α : Type} {R : α → List AV → Prop} {sz : Nat} {ys : List α} {w : AV} (h : SL R sz ys w) : MC R sz ys w := by
  intro σ
  obtain ⟨cs, h1, h2⟩ := h.cells σ
  refine ⟨cs, ?_, h2⟩
  rcases h with ⟨rfl, rfl⟩ | ⟨tok, cs, rfl, h⟩ <;> exact h1

theorem MC.str (s : List UInt8) : MC RU8 1 s (.str s) := fun _ => ⟨s.map u8, by simp [moreCells], RL.map s⟩

theorem app_ok {α : Type} {R : α → List AV → Prop} {sz : Nat} {xs ys zs : List α} {v w : AV} {σ : St} {bs : List (Nat × Blk)} {os : List AV} (bytes : Nat) (hI : Inv σ bs (v :: os)) (hs : SL R sz xs v) (hm : MC R sz ys w) (hz : 0 < sz)
    (h : lApp bytes xs ys = some zs) : ∃ v' σ', appendA σ false sz bytes v w = some (v', σ') ∧ SL R sz zs v' ∧ Inv σ' bs (v' :: os) := by
  unfold lApp at h
  split at h
  case isFalse => simp at h
  rename_i hb
  injection h with h; subst h
  obtain ⟨cs, h1, h2⟩ := hm σ
  have hlen := h2.length
  unfold appendA
  rw [h1]
  cases cs with
  | nil =>
    have hys : ys = [] := by
      cases ys with
      | nil => rfl
      | cons y ys => simp [Nat.succ_mul] at hlen; omega
    subst hys
    refine ⟨v, σ, ?_, by simpa using hs, hI⟩
    rcases hs with ⟨rfl, rfl⟩ | ⟨tok, cs, rfl, h⟩ <;> rfl
  | cons c cs =>
    generalize hnew : c :: cs = new at *
    have e2 : new.length % sz = 0 := by rw [hlen]; exact Nat.mul_mod_left _ _
    have e3 : new.length / sz = ys.length := by rw [hlen]; exact Nat.mul_div_cancel _ hz
    rcases hs with ⟨rfl, rfl⟩ | ⟨tok, cs0, rfl, h0⟩
    · refine ⟨.list (.tk σ.nt) sz new, σ.tok, ?_, by simpa using SL.mk h2, hI.odrop.tok⟩
      rw [← hnew]; simp only; rw [hnew]
      simp only [List.length_nil, Nat.zero_add] at hb
      rw [if_pos ⟨by omega, e2, by rw [e3]; exact hb.1, by rw [e3]; exact hb.2⟩]
      rfl
    · have hlen0 := h0.length
      have e4 : (cs0 ++ new).length / sz = xs.length + ys.length := by rw [List.length_append, hlen0, hlen, ← Nat.add_mul]; exact Nat.mul_div_cancel _ hz
      have hcond : sz = sz ∧ new.length % sz = 0 ∧ (cs0 ++ new).length / sz * bytes ≤ room ∧ (cs0 ++ new).length / sz ≤ room := ⟨rfl, e2, by rw [e4]; exact hb.1, by rw [e4]; exact hb.2⟩
      rw [← hnew]; dsimp only; rw [hnew, if_pos hcond]
      have hown := hI.own _ (List.mem_cons_self ..)
      cases tok with
      | no => exact hown.elim
      | exact => exact ⟨_, _, rfl, .mk (h0.append h2), hI.odrop.tok⟩
      | own => exact ⟨_, _, rfl, .mk (h0.append h2), hI.odrop.tok⟩
      | tk t => exact ⟨_, _, if_pos hown, .mk (h0.append h2), hI.use⟩

end Go.Pv
