/- How the state's relation to the world goes on: a new block, a new row for ever, a store, a row that grows in place. -/
import Derived.Test.YtkookjaafgkfnaaDoorPvRel
namespace Go.Pv
set_option linter.all false
open Go.RowKit

theorem Heap.get_set (h : Heap) (i : Nat) (b : Blk) (j : Nat) : (h.set i b).get j = if i = j then some b else h.get j := by
  induction h with
  | nil => simp [Heap.set, Heap.get]
  | cons x h ih =>
    obtain ⟨k, c⟩ := x
    simp only [Heap.set]
    by_cases e : k = i
    · subst e; rw [if_pos rfl]; simp only [Heap.get]; split <;> rfl
    · rw [if_neg e]; simp only [Heap.get, ih]
      by_cases e' : k = j
      · subst e'; rw [if_pos rfl, if_pos rfl, if_neg (fun h => e h.symm)]
      · rw [if_neg e', if_neg e']

theorem Heap.get_del (h : Heap) (i j : Nat) : (h.del i).get j = if i = j then none else h.get j := by
  induction h with
  | nil => simp [Heap.del, Heap.get]
  | cons x h ih =>
    obtain ⟨k, c⟩ := x
    simp only [Heap.del]
    by_cases e : k = i
    · subst e; rw [if_pos rfl, ih]; simp only [Heap.get]
      by_cases e' : k = j
      · subst e'; simp
      · rw [if_neg e', if_neg e', if_neg e']
    · rw [if_neg e]; simp only [Heap.get, ih]
      by_cases e' : k = j
      · subst e'; rw [if_pos rfl, if_pos rfl, if_neg (fun h => e h.symm)]
      · rw [if_neg e', if_neg e']

@[simp] theorem St.get_put (σ : St) (i : Nat) (b : Blk) (j : Nat) : (σ.put i b).get j = if i = j then some b else σ.get j := Heap.get_set _ _ _ _
@[simp] theorem St.get_new (σ : St) (b : Blk) (j : Nat) : (σ.new b).get j = if σ.nid = j then some b else σ.get j := rfl
@[simp] theorem St.get_del (σ : St) (i j : Nat) : (σ.del i).get j = if i = j then none else σ.get j := Heap.get_del _ _ _
@[simp] theorem St.get_tok (σ : St) (j : Nat) : σ.tok.get j = σ.get j := rfl
@[simp] theorem St.get_use (σ : St) (t j : Nat) : (σ.use t).get j = σ.get j := rfl

/-- The world's own cells: what a step may change is told cell by cell. -/
theorem setCells_below (b : Nat) : ∀ (vs : List Value) (o : Nat) (w : World) {B : Nat} {w0 : World}, Below B w0 w → B ≤ b → Below B w0 (w.setCells b o vs)
  | [], _, _, _, _, h, _ => h
  | v :: r, o, w, _, _, h, hb => setCells_below b r (o + 1) _ (h.setCell (p := ⟨b, o, none⟩) hb v) hb

theorem setCells_size (b : Nat) : ∀ (vs : List Value) (o : Nat) (w : World), (w.setCells b o vs).heap.size = w.heap.size
  | [], _, _ => rfl
  | _ :: r, o, _ => (setCells_size b r (o + 1) _).trans (by simp)

theorem setCells_heap (b : Nat) : ∀ (vs : List Value) (o : Nat) (w : World) (k : Nat), k ≠ b → (w.setCells b o vs).heap[k]? = w.heap[k]?
  | [], _, _, _, _ => rfl
  | v :: r, o, _, k, hk => (setCells_heap b r (o + 1) _ k hk).trans (by simp [World.setCell, Array.getElem?_modify]; intro e; exact absurd e.symm hk)

theorem cell?_setCells_isSome (b : Nat) : ∀ (vs : List Value) (o : Nat) (w : World) (x : Addr), (w.cell? x).isSome = true → ((w.setCells b o vs).cell? x).isSome = true
  | [], _, _, _, h => h
  | v :: r, o, w, x, h => cell?_setCells_isSome b r (o + 1) _ x (by
      by_cases e : (⟨b, o, none⟩ : Addr) = x
      · subst e; obtain ⟨u, hu⟩ := Option.isSome_iff_exists.1 h; rw [World.cell?_setCell_same _ _ _ hu]; rfl
      · rw [World.cell?_setCell_other _ _ _ _ e]; exact h)

variable {E : Env} {W : KW} {σ : St} {w : World}

/-- The tape's count moves on. -/
theorem R.drawn (h : R E W σ w) (n : Nat) : R E W σ { w with drawn := n } :=
  ⟨⟨h.below.os, h.below.tape, h.below.output, h.below.size, h.below.block⟩, h.sealed, h.size, h.sizelt, h.there, h.cells, h.iter, h.inj, h.tok, h.live, h.tinj, h.ltok, h.lid, h.glob, h.nodup⟩

theorem R.sealed_lt (h : R E W σ w) {b i : Nat} {u : Value} (hs : W.sealed b i = some u) : b < w.heap.size :=
  World.block_lt_of_cell? (w := w) (a := ⟨b, i, none⟩) (h.sealed _ _ _ hs)

theorem R.size_lt (h : R E W σ w) {b n : Nat} (hs : W.size b = some n) (hn : 0 < n) : b < w.heap.size := by
  obtain ⟨u, hu⟩ := Option.isSome_iff_exists.1 (h.size _ _ hs 0 hn)
  exact World.block_lt_of_cell? (w := w) (a := ⟨b, 0, none⟩) hu

def KW.addBlk (W : KW) (id b : Nat) : KW := { W with blkOf := fun i => if i = id then some b else W.blkOf i }

theorem R.addBlk_le (h : R E W σ w) (b : Nat) : W.Le (W.addBlk σ.nid b) :=
  ⟨rfl, fun _ _ _ h => h, fun _ _ h => h, fun i c hc => by
    show (if i = σ.nid then some b else W.blkOf i) = some c
    rw [if_neg (by have := (h.there _ _ hc).2.2.1; omega)]; exact hc, fun _ _ h => h, fun _ _ _ => rfl, fun _ _ => rfl⟩

/-- A new object at the heap's end: what was there stays. -/
theorem R.obj (h : R E W σ w) (o : Obj) : R E W σ (w.alloc o) where
  below := h.below.alloc h.below.size o
  sealed b i u hs := by rw [World.cell?_alloc_lt _ _ _ (h.sealed_lt hs)]; exact h.sealed _ _ _ hs
  size b n hs i hi := by rw [World.cell?_alloc_lt _ _ _ (h.size_lt hs (by omega))]; exact h.size _ _ hs i hi
  sizelt b n hs := by have := h.sizelt _ _ hs; simp; omega
  there id b hb := let ⟨h1, h2, h3, h4⟩ := h.there _ _ hb; ⟨h1, by simp; omega, h3, h4⟩
  cells id cs hg := by
    obtain ⟨b, hb, h1, hc⟩ := h.cells _ _ hg
    have hlt := (h.there _ _ hb).2.1
    refine ⟨b, hb, h1, fun i v hv => ?_⟩
    rw [World.cell?_alloc_lt _ _ _ hlt, World.frozen?_alloc_old _ _ _ (Nat.ne_of_lt hlt)]
    exact hc i v hv
  iter id s pos hg := by
    obtain ⟨b, hb, hi⟩ := h.iter _ _ _ hg
    have hlt := (h.there _ _ hb).2.1
    exact ⟨b, hb, by rw [Below.heap_alloc _ _ _ hlt]; exact hi⟩
  inj := h.inj
  tok t b o ht := let ⟨h1, h2, h3, h4⟩ := h.tok _ _ _ ht; ⟨h1, by simp; omega, h3, h4⟩
  live t b o hl ht n hn i hi hin := by
    have hlt := (h.tok _ _ _ ht).2.1
    rw [World.frozen?_alloc_old _ _ _ (Nat.ne_of_lt hlt)]
    exact h.live t b o hl ht n hn i hi hin
  tinj := h.tinj
  ltok := h.ltok
  lid := h.lid
  glob := h.glob
  nodup := h.nodup

theorem World.cell?_freeze (w : World) (b k n : Nat) (x : Addr) : (w.freeze ⟨b, k, none⟩ n).cell? x = w.cell? x := by
  unfold World.freeze
  by_cases hn : n = 0
  · rw [if_pos hn]
  · rw [if_neg hn]
    simp only [World.cell?, Array.getElem?_modify]
    by_cases e : b = x.block
    · rw [if_pos e]
      cases h : w.heap[x.block]? with
      | none => rfl
      | some o => cases o <;> simp
    · rw [if_neg e]

theorem World.heap_freeze (w : World) (b k n j : Nat) (hj : j ≠ b) : (w.freeze ⟨b, k, none⟩ n).heap[j]? = w.heap[j]? := by
  unfold World.freeze
  by_cases hn : n = 0
  · rw [if_pos hn]
  · rw [if_neg hn]
    simp only [Array.getElem?_modify]
    rw [if_neg (fun e => hj e.symm)]

theorem World.size_freeze (w : World) (b k n : Nat) : (w.freeze ⟨b, k, none⟩ n).heap.size = w.heap.size := by
  unfold World.freeze
  by_cases hn : n = 0
  · rw [if_pos hn]
  · rw [if_neg hn]; simp

theorem World.frozen?_freeze (w : World) (b k n : Nat) (x : Addr) (hx : x.block ≠ b) : (w.freeze ⟨b, k, none⟩ n).frozen? x = w.frozen? x := by
  unfold World.frozen?
  rw [World.heap_freeze _ _ _ _ _ hx]

/-- A mark behind a block that is there for ever changes nothing. -/
theorem R.freeze (h : R E W σ w) {b n k m : Nat} (h0 : W.w0.heap.size ≤ b) (hn : 0 < n) (hs : W.size b = some n) (hall : ∀ i, i < n → (W.sealed b i).isSome = true) : R E W σ (w.freeze ⟨b, k, none⟩ m) where
  below := by
    refine h.below.trans ⟨?_, ?_, ?_, ?_, ?_⟩
    · unfold World.freeze; split <;> rfl
    · unfold World.freeze; split <;> rfl
    · unfold World.freeze; split <;> rfl
    · rw [World.size_freeze]; exact Nat.le_refl _
    · intro j hj; exact World.heap_freeze _ _ _ _ _ (by omega)
  sealed c i u hu := by rw [World.cell?_freeze]; exact h.sealed _ _ _ hu
  size c i hc j hj := by rw [World.cell?_freeze]; exact h.size _ _ hc j hj
  sizelt c i hc := by rw [World.size_freeze]; exact h.sizelt _ _ hc
  there id c hc := by rw [World.size_freeze]; exact h.there _ _ hc
  cells id cs hg := by
    obtain ⟨c, hc, h1, h2⟩ := h.cells _ _ hg
    refine ⟨c, hc, h1, fun i v hv => ?_⟩
    have hne : c ≠ b := by
      rintro rfl
      have := (h.there _ _ hc).2.2.2 0
      have h3 := hall 0 hn
      rw [this] at h3; simp at h3
    rw [World.frozen?_freeze _ _ _ _ _ hne, World.cell?_freeze]
    exact h2 i v hv
  iter id s pos hg := by
    obtain ⟨c, hc, h1⟩ := h.iter _ _ _ hg
    have hne : c ≠ b := by
      rintro rfl
      have := (h.there _ _ hc).2.2.2 0
      have h3 := hall 0 hn
      rw [this] at h3; simp at h3
    exact ⟨c, hc, by rw [World.heap_freeze _ _ _ _ _ hne]; exact h1⟩
  inj := h.inj
  tok t c o ht := by rw [World.size_freeze]; exact h.tok _ _ _ ht
  live t c o hl ht n' hn' i hi hin := by
    obtain ⟨h1, h2⟩ := h.live t c o hl ht n' hn' i hi hin
    have hne : c ≠ b := by
      rintro rfl
      rw [hs] at hn'; injection hn' with hn'; subst hn'
      have h3 := hall i hin
      rw [h1] at h3; simp at h3
    exact ⟨h1, by rw [World.frozen?_freeze _ _ _ _ _ hne]; exact h2⟩
  tinj := h.tinj
  ltok := h.ltok
  lid := h.lid
  glob := h.glob
  nodup := h.nodup

theorem R.blkOf_ne (h : R E W σ w) (i : Nat) : W.blkOf i ≠ some w.heap.size := fun e => by have := (h.there _ _ e).2.1; omega
theorem R.tok_ne (h : R E W σ w) (t o : Nat) : W.tok t ≠ some (w.heap.size, o) := fun e => by have := (h.tok _ _ _ e).2.1; omega
theorem R.sealed_none (h : R E W σ w) (i : Nat) : W.sealed w.heap.size i = none := by
  cases e : W.sealed w.heap.size i with
  | none => rfl
  | some u => have := h.sealed_lt e; omega

/-- A new block of cells. -/
theorem R.newCells (h : R E W σ w) {cs : List AV} {ca : Array Value} {T : TypeId} (h1 : ∀ c ∈ cs, c.one = true)
    (hc : ∀ (i : Nat) (v : AV), cs[i]? = some v → ∃ u, ca[i]? = some u ∧ VR W v u) :
    R E (W.addBlk σ.nid w.heap.size) (σ.new (.cells cs)) (w.alloc (.cells ca T)) := by
  have hle := h.addBlk_le w.heap.size
  have h' := h.obj (.cells ca T)
  have hb : ∀ i b, (W.addBlk σ.nid w.heap.size).blkOf i = some b → (i = σ.nid ∧ b = w.heap.size) ∨ (i ≠ σ.nid ∧ W.blkOf i = some b) := by
    intro i b hi
    change (if i = σ.nid then some w.heap.size else W.blkOf i) = some b at hi
    by_cases e : i = σ.nid
    · rw [if_pos e] at hi; injection hi with hi; exact .inl ⟨e, hi.symm⟩
    · rw [if_neg e] at hi; exact .inr ⟨e, hi⟩
  have hnew : (W.addBlk σ.nid w.heap.size).blkOf σ.nid = some w.heap.size := by show (if σ.nid = σ.nid then _ else _) = _; rw [if_pos rfl]
  refine ⟨h'.below, h'.sealed, h'.size, h'.sizelt, ?_, ?_, ?_, ?_, ?_, h'.live, h'.tinj, h'.ltok, ?_, ?_, h'.nodup⟩
  · intro id b hi
    rcases hb id b hi with ⟨rfl, rfl⟩ | ⟨hne, hi⟩
    · exact ⟨h.below.size, by simp, by simp [St.new], h.sealed_none⟩
    · obtain ⟨k1, k2, k3, k4⟩ := h'.there _ _ hi
      exact ⟨k1, k2, by simp only [St.new]; omega, k4⟩
  · intro id cs' hg
    rw [St.get_new] at hg
    by_cases e : σ.nid = id
    · subst e
      rw [if_pos rfl] at hg; injection hg with hg; injection hg with hg; subst hg
      refine ⟨w.heap.size, hnew, h1, fun i v hv => ?_⟩
      obtain ⟨u, hu, hr⟩ := hc i v hv
      exact ⟨by simp, u, by simpa using hu, hr.mono hle⟩
    · rw [if_neg e] at hg
      obtain ⟨b, hb', k1, k2⟩ := h'.cells _ _ hg
      exact ⟨b, hle.blkOf _ _ hb', k1, fun i v hv => let ⟨f, u, hu, hr⟩ := k2 i v hv; ⟨f, u, hu, hr.mono hle⟩⟩
  · intro id s pos hg
    rw [St.get_new] at hg
    by_cases e : σ.nid = id
    · rw [if_pos e] at hg; simp at hg
    · rw [if_neg e] at hg
      obtain ⟨b, hb', k⟩ := h'.iter _ _ _ hg
      exact ⟨b, hle.blkOf _ _ hb', k⟩
  · intro i j b x y hi hj gi gj
    rw [St.get_new] at gi gj
    rcases hb i b hi with ⟨rfl, rfl⟩ | ⟨hne, hi⟩
    · rcases hb j _ hj with ⟨rfl, _⟩ | ⟨hne', hj⟩
      · rfl
      · exact absurd hj (h.blkOf_ne j)
    · rcases hb j b hj with ⟨rfl, rfl⟩ | ⟨hne', hj⟩
      · exact absurd hi (h.blkOf_ne i)
      · rw [if_neg (fun e => hne e.symm)] at gi
        rw [if_neg (fun e => hne' e.symm)] at gj
        exact h.inj i j b x y hi hj gi gj
  · intro t b o ht
    obtain ⟨k1, k2, k3, k4⟩ := h'.tok t b o ht
    refine ⟨k1, k2, k3, fun id hi => ?_⟩
    rcases hb id b hi with ⟨rfl, rfl⟩ | ⟨hne, hi⟩
    · exact h.tok_ne t o ht
    · exact k4 id hi
  · intro id x hg
    rw [St.get_new] at hg
    by_cases e : σ.nid = id
    · subst e; simp [St.new]
    · rw [if_neg e] at hg; have := h.lid _ _ hg; simp only [St.new]; omega
  · intro g cs' hg
    obtain ⟨k1, us, k2, k3⟩ := h.glob g cs' hg
    exact ⟨k1, us, k2.mono hle, k3.mono hle⟩

/-- A new string's iterator. -/
theorem R.newIter (h : R E W σ w) (s : List UInt8) (pos : Nat) :
    R E (W.addBlk σ.nid w.heap.size) (σ.new (.iter s pos)) (w.alloc (.stringIter ⟨s.toArray⟩ pos)) := by
  have hle := h.addBlk_le w.heap.size
  have h' := h.obj (.stringIter ⟨s.toArray⟩ pos)
  have hb : ∀ i b, (W.addBlk σ.nid w.heap.size).blkOf i = some b → (i = σ.nid ∧ b = w.heap.size) ∨ (i ≠ σ.nid ∧ W.blkOf i = some b) := by
    intro i b hi
    change (if i = σ.nid then some w.heap.size else W.blkOf i) = some b at hi
    by_cases e : i = σ.nid
    · rw [if_pos e] at hi; injection hi with hi; exact .inl ⟨e, hi.symm⟩
    · rw [if_neg e] at hi; exact .inr ⟨e, hi⟩
  have hnew : (W.addBlk σ.nid w.heap.size).blkOf σ.nid = some w.heap.size := by show (if σ.nid = σ.nid then _ else _) = _; rw [if_pos rfl]
  refine ⟨h'.below, h'.sealed, h'.size, h'.sizelt, ?_, ?_, ?_, ?_, ?_, h'.live, h'.tinj, h'.ltok, ?_, ?_, h'.nodup⟩
  · intro id b hi
    rcases hb id b hi with ⟨rfl, rfl⟩ | ⟨hne, hi⟩
    · exact ⟨h.below.size, by simp, by simp [St.new], h.sealed_none⟩
    · obtain ⟨k1, k2, k3, k4⟩ := h'.there _ _ hi
      exact ⟨k1, k2, by simp only [St.new]; omega, k4⟩
  · intro id cs' hg
    rw [St.get_new] at hg
    by_cases e : σ.nid = id
    · rw [if_pos e] at hg; simp at hg
    · rw [if_neg e] at hg
      obtain ⟨b, hb', k1, k2⟩ := h'.cells _ _ hg
      exact ⟨b, hle.blkOf _ _ hb', k1, fun i v hv => let ⟨f, u, hu, hr⟩ := k2 i v hv; ⟨f, u, hu, hr.mono hle⟩⟩
  · intro id s' pos' hg
    rw [St.get_new] at hg
    by_cases e : σ.nid = id
    · subst e
      rw [if_pos rfl] at hg; injection hg with hg; injection hg with hg hg'; subst hg; subst hg'
      exact ⟨w.heap.size, hnew, by show (w.heap.push _)[w.heap.size]? = _; simp⟩
    · rw [if_neg e] at hg
      obtain ⟨b, hb', k⟩ := h'.iter _ _ _ hg
      exact ⟨b, hle.blkOf _ _ hb', k⟩
  · intro i j b x y hi hj gi gj
    rw [St.get_new] at gi gj
    rcases hb i b hi with ⟨rfl, rfl⟩ | ⟨hne, hi⟩
    · rcases hb j _ hj with ⟨rfl, _⟩ | ⟨hne', hj⟩
      · rfl
      · exact absurd hj (h.blkOf_ne j)
    · rcases hb j b hj with ⟨rfl, rfl⟩ | ⟨hne', hj⟩
      · exact absurd hi (h.blkOf_ne i)
      · rw [if_neg (fun e => hne e.symm)] at gi
        rw [if_neg (fun e => hne' e.symm)] at gj
        exact h.inj i j b x y hi hj gi gj
  · intro t b o ht
    obtain ⟨k1, k2, k3, k4⟩ := h'.tok t b o ht
    refine ⟨k1, k2, k3, fun id hi => ?_⟩
    rcases hb id b hi with ⟨rfl, rfl⟩ | ⟨hne, hi⟩
    · exact h.tok_ne t o ht
    · exact k4 id hi
  · intro id x hg
    rw [St.get_new] at hg
    by_cases e : σ.nid = id
    · subst e; simp [St.new]
    · rw [if_neg e] at hg; have := h.lid _ _ hg; simp only [St.new]; omega
  · intro g cs' hg
    obtain ⟨k1, us, k2, k3⟩ := h.glob g cs' hg
    exact ⟨k1, us, k2.mono hle, k3.mono hle⟩

/-- A row that is never written again; and how long its block is. -/
def KW.addRow (W : KW) (b : Nat) (us : List Value) (n : Nat) : KW :=
  { W with sealed := fun c i => if c = b then us[i]? else W.sealed c i, size := fun c => if c = b then some n else W.size c }

def KW.addTok (W : KW) (t b o : Nat) : KW := { W with tok := fun i => if i = t then some (b, o) else W.tok i }

theorem R.addRow_le (h : R E W σ w) (us : List Value) (n : Nat) : W.Le (W.addRow w.heap.size us n) :=
  ⟨rfl, fun b i u hu => by
    show (if b = w.heap.size then us[i]? else W.sealed b i) = some u
    rw [if_neg (Nat.ne_of_lt (h.sealed_lt hu))]; exact hu, fun b k hk => by
    show (if b = w.heap.size then some n else W.size b) = some k
    rw [if_neg (Nat.ne_of_lt (h.sizelt _ _ hk))]; exact hk, fun _ _ h => h, fun _ _ h => h, fun b i hb => by
    show (if b = w.heap.size then us[i]? else W.sealed b i) = _
    rw [if_neg (Nat.ne_of_lt (Nat.lt_of_lt_of_le hb h.below.size))], fun b hb => by
    show (if b = w.heap.size then some n else W.size b) = _
    rw [if_neg (Nat.ne_of_lt (Nat.lt_of_lt_of_le hb h.below.size))]⟩

theorem cell?_alloc_cells (w : World) (ca : Array Value) (T : TypeId) (fr : Nat × Nat) (i : Nat) : (w.alloc (.cells ca T fr)).cell? ⟨w.heap.size, i, none⟩ = ca[i]? := by
  show (match (w.heap.push (Obj.cells ca T fr))[w.heap.size]? with | some (.cells c _ _) => if (none : Option Nat).isSome then none else c[i]? | _ => none) = _
  simp

theorem frozen?_alloc_cells (w : World) (ca : Array Value) (T : TypeId) (lo hi i : Nat) : (w.alloc (.cells ca T (lo, hi))).frozen? ⟨w.heap.size, i, none⟩ = (decide (lo ≤ i) && decide (i < hi)) := by
  show (match (w.heap.push (Obj.cells ca T (lo, hi)))[w.heap.size]? with | some (.cells _ _ (lo, hi)) => lo ≤ i && i < hi | _ => false) = _
  simp

theorem R.newRow (h : R E W σ w) {us : List Value} {ca : Array Value} {T : TypeId} {fr : Nat × Nat} (hus : ∀ (i : Nat) (u : Value), us[i]? = some u → ca[i]? = some u) :
    R E (W.addRow w.heap.size us ca.size) σ (w.alloc (.cells ca T fr)) := by
  have hle := h.addRow_le us ca.size
  have h' := h.obj (.cells ca T fr)
  refine ⟨h'.below, ?_, ?_, ?_, ?_, ?_, ?_, h'.inj, h'.tok, ?_, h'.tinj, h'.ltok, h'.lid, ?_, h'.nodup⟩
  · intro b i u hs
    change (if b = w.heap.size then us[i]? else W.sealed b i) = some u at hs
    by_cases e : b = w.heap.size
    · subst e; rw [if_pos rfl] at hs; rw [cell?_alloc_cells]; exact hus _ _ hs
    · rw [if_neg e] at hs; exact h'.sealed _ _ _ hs
  · intro b n hs i hi
    change (if b = w.heap.size then some ca.size else W.size b) = some n at hs
    by_cases e : b = w.heap.size
    · subst e; rw [if_pos rfl] at hs; injection hs with hs; subst hs; rw [cell?_alloc_cells]; simp [hi]
    · rw [if_neg e] at hs; exact h'.size _ _ hs i hi
  · intro b n hs
    change (if b = w.heap.size then some ca.size else W.size b) = some n at hs
    by_cases e : b = w.heap.size
    · subst e; simp
    · rw [if_neg e] at hs; exact h'.sizelt _ _ hs
  · intro id b hb
    obtain ⟨k1, k2, k3, k4⟩ := h'.there id b hb
    refine ⟨k1, k2, k3, fun i => ?_⟩
    show (if b = w.heap.size then us[i]? else W.sealed b i) = none
    rw [if_neg (fun e : b = w.heap.size => h.blkOf_ne id (e ▸ hb))]; exact k4 i
  · intro id cs hg
    obtain ⟨b, hb, k1, k2⟩ := h'.cells id cs hg
    exact ⟨b, hb, k1, fun i v hv => let ⟨f, u, hu, hr⟩ := k2 i v hv; ⟨f, u, hu, hr.mono hle⟩⟩
  · exact h'.iter
  · intro t b o hl ht n hn i hi hin
    have hne : b ≠ w.heap.size := fun e => h.tok_ne t o (e ▸ ht)
    change (if b = w.heap.size then some ca.size else W.size b) = some n at hn
    rw [if_neg hne] at hn
    obtain ⟨k1, k2⟩ := h'.live t b o hl ht n hn i hi hin
    refine ⟨?_, k2⟩
    show (if b = w.heap.size then us[i]? else W.sealed b i) = none
    rw [if_neg hne]; exact k1
  · intro g cs hg
    obtain ⟨k1, us', k2, k3⟩ := h.glob g cs hg
    exact ⟨k1, us', k2.mono hle, k3.mono hle⟩

/-- Fewer tokens hold room. -/
theorem R.fewer (h : R E W σ w) {l : List Nat} (hl : ∀ t ∈ l, t ∈ σ.live) (hn : l.Nodup) : R E W { σ with live := l } w :=
  ⟨h.below, h.sealed, h.size, h.sizelt, h.there, h.cells, h.iter, h.inj, h.tok, fun t b o ht => h.live t b o (hl t ht), fun t t' b o o' h1 h2 => h.tinj t t' b o o' (hl t h1) (hl t' h2), fun t ht => h.ltok t (hl t ht), h.lid, h.glob, hn⟩

theorem R.addTok_le (h : R E W σ w) (b o : Nat) : W.Le (W.addTok σ.nt b o) :=
  ⟨rfl, fun _ _ _ h => h, fun _ _ h => h, fun _ _ h => h, fun t x hx => by
    show (if t = σ.nt then some (b, o) else W.tok t) = some x
    obtain ⟨c, p⟩ := x
    rw [if_neg (by have := (h.tok t c p hx).2.2.1; omega)]; exact hx, fun _ _ _ => rfl, fun _ _ => rfl⟩

theorem R.newTok (h : R E W σ w) (b o : Nat) (h0 : W.w0.heap.size ≤ b) (hb : b < w.heap.size) (hid : ∀ id, W.blkOf id ≠ some b) (ht : ∀ t p, t ∈ σ.live → W.tok t ≠ some (b, p))
    (hf : ∀ n, W.size b = some n → ∀ i, o ≤ i → i < n → W.sealed b i = none ∧ w.frozen? ⟨b, i, none⟩ = false) :
    R E (W.addTok σ.nt b o) σ.tok w := by
  have hle := h.addTok_le b o
  have htk : ∀ t c p, (W.addTok σ.nt b o).tok t = some (c, p) → (t = σ.nt ∧ c = b ∧ p = o) ∨ (t ≠ σ.nt ∧ W.tok t = some (c, p)) := by
    intro t c p hx
    change (if t = σ.nt then some (b, o) else W.tok t) = some (c, p) at hx
    by_cases e : t = σ.nt
    · rw [if_pos e] at hx; injection hx with hx; injection hx with h1 h2; exact .inl ⟨e, h1.symm, h2.symm⟩
    · rw [if_neg e] at hx; exact .inr ⟨e, hx⟩
  have hmem : ∀ t, t ∈ σ.tok.live → t = σ.nt ∨ (t ∈ σ.live ∧ t ≠ σ.nt) := by
    intro t ht
    simp only [St.tok, List.mem_cons] at ht
    rcases ht with rfl | ht
    · exact .inl rfl
    · exact .inr ⟨ht, by have := h.ltok t ht; omega⟩
  refine ⟨h.below, h.sealed, h.size, h.sizelt, h.there, ?_, h.iter, h.inj, ?_, ?_, ?_, ?_, h.lid, ?_, ?_⟩
  · intro id cs hg
    obtain ⟨c, hc, k1, k2⟩ := h.cells id cs hg
    exact ⟨c, hc, k1, fun i v hv => let ⟨f, u, hu, hr⟩ := k2 i v hv; ⟨f, u, hu, hr.mono hle⟩⟩
  · intro t c p hx
    rcases htk t c p hx with ⟨rfl, rfl, rfl⟩ | ⟨hne, hx⟩
    · exact ⟨h0, hb, by simp [St.tok], hid⟩
    · obtain ⟨k1, k2, k3, k4⟩ := h.tok t c p hx
      exact ⟨k1, k2, by simp only [St.tok]; omega, k4⟩
  · intro t c p hl hx n hn i hi hin
    rcases htk t c p hx with ⟨rfl, rfl, rfl⟩ | ⟨hne, hx⟩
    · exact hf n hn i hi hin
    · rcases hmem t hl with rfl | ⟨hl, _⟩
      · exact absurd rfl hne
      · exact h.live t c p hl hx n hn i hi hin
  · intro t t' c p p' hl hl' hx hx'
    rcases htk t c p hx with ⟨rfl, rfl, rfl⟩ | ⟨hne, hx⟩
    · rcases htk t' _ p' hx' with ⟨rfl, _, _⟩ | ⟨hne', hx'⟩
      · rfl
      · rcases hmem t' hl' with rfl | ⟨hl', _⟩
        · exact absurd rfl hne'
        · exact absurd hx' (ht t' p' hl')
    · rcases hmem t hl with rfl | ⟨hl, _⟩
      · exact absurd rfl hne
      · rcases htk t' c p' hx' with ⟨rfl, rfl, rfl⟩ | ⟨hne', hx'⟩
        · rcases htk t c p (by assumption) with ⟨e, _, _⟩ | ⟨_, hx⟩
          · exact absurd e hne
          · exact absurd hx (ht t p hl)
        · rcases hmem t' hl' with rfl | ⟨hl', _⟩
          · exact absurd rfl hne'
          · exact h.tinj t t' c p p' hl hl' hx hx'
  · intro t ht'
    rcases hmem t ht' with rfl | ⟨ht', _⟩
    · simp [St.tok]
    · have := h.ltok t ht'; simp only [St.tok]; omega
  · intro g cs hg
    obtain ⟨k1, us', k2, k3⟩ := h.glob g cs hg
    exact ⟨k1, us', k2.mono hle, k3.mono hle⟩
  · show (σ.nt :: σ.live).Nodup
    exact List.nodup_cons.2 ⟨fun hm => by have := h.ltok _ hm; omega, h.nodup⟩

/-- Cells of a token's room are written: they stay so. -/
def KW.addSeal (W : KW) (b o : Nat) (us : List Value) : KW :=
  { W with sealed := fun c i => if c = b ∧ o ≤ i ∧ i < o + us.length then us[i - o]? else W.sealed c i }

theorem R.extend_le (h : R E W σ w) {t b o n : Nat} {us : List Value} (hl : t ∈ σ.live) (ht : W.tok t = some (b, o)) (hn : W.size b = some n) (hlen : o + us.length ≤ n) :
    W.Le (W.addSeal b o us) :=
  ⟨rfl, fun c i u hu => by
    show (if c = b ∧ o ≤ i ∧ i < o + us.length then us[i - o]? else W.sealed c i) = some u
    rw [if_neg ?_]; · exact hu
    rintro ⟨rfl, h1, h2⟩
    rw [(h.live t c o hl ht n hn i h1 (by omega)).1] at hu; simp at hu, fun _ _ h => h, fun _ _ h => h, fun _ _ h => h, fun c i hc => by
    show (if c = b ∧ o ≤ i ∧ i < o + us.length then us[i - o]? else W.sealed c i) = _
    rw [if_neg (by have := (h.tok t b o ht).1; omega)], fun _ _ => rfl⟩

theorem R.extend (h : R E W σ w) {t b o n : Nat} {us : List Value} (hl : t ∈ σ.live) (ht : W.tok t = some (b, o)) (hn : W.size b = some n) (hlen : o + us.length ≤ n) :
    R E (W.addSeal b o us) { σ with live := σ.live.erase t } (w.setCells b o us) := by
  have hle := h.extend_le hl ht hn hlen
  obtain ⟨t1, t2, t3, t4⟩ := h.tok t b o ht
  have hsome : ∀ j, j < us.length → (w.cell? ⟨b, o + j, none⟩).isSome = true := fun j hj => h.size b n hn (o + j) (by omega)
  have hne : ∀ t', t' ∈ σ.live.erase t → ∀ p, W.tok t' ≠ some (b, p) := by
    intro t' ht' p hp
    have hm := List.mem_of_mem_erase ht'
    have := h.tinj t t' b o p hl hm ht hp
    subst this
    exact (List.Nodup.mem_erase_iff h.nodup).1 ht' |>.1 rfl
  refine ⟨setCells_below b us o w h.below t1, ?_, ?_, ?_, ?_, ?_, ?_, h.inj, ?_, ?_, ?_, ?_, h.lid, ?_, h.nodup.erase t⟩
  · intro c i u hu
    change (if c = b ∧ o ≤ i ∧ i < o + us.length then us[i - o]? else W.sealed c i) = some u at hu
    by_cases e : c = b ∧ o ≤ i ∧ i < o + us.length
    · rw [if_pos e] at hu
      obtain ⟨rfl, h1, h2⟩ := e
      have hj : i - o < us.length := by omega
      have := World.cell?_setCells_in c us o w hsome (i - o) hj
      rw [show o + (i - o) = i by omega] at this
      rw [this]; rw [List.getElem?_eq_getElem hj] at hu; exact hu
    · rw [if_neg e] at hu
      rw [World.cell?_setCells_out]
      · exact h.sealed _ _ _ hu
      · intro hb _
        have : c = b := hb
        subst this
        show i < o ∨ o + us.length ≤ i
        rcases Nat.lt_or_ge i o with h1 | h1
        · exact .inl h1
        · rcases Nat.lt_or_ge i (o + us.length) with h2 | h2
          · exact absurd ⟨rfl, h1, h2⟩ e
          · exact .inr h2
  · intro c k hk i hi
    exact cell?_setCells_isSome _ _ _ _ _ (h.size c k hk i hi)
  · intro c k hk; rw [setCells_size]; exact h.sizelt _ _ hk
  · intro id c hc
    obtain ⟨k1, k2, k3, k4⟩ := h.there id c hc
    refine ⟨k1, by rw [setCells_size]; exact k2, k3, fun i => ?_⟩
    show (if c = b ∧ o ≤ i ∧ i < o + us.length then us[i - o]? else W.sealed c i) = none
    rw [if_neg]; · exact k4 i
    rintro ⟨rfl, _⟩; exact t4 id hc
  · intro id cs hg
    obtain ⟨c, hc, k1, k2⟩ := h.cells id cs hg
    refine ⟨c, hc, k1, fun i v hv => ?_⟩
    obtain ⟨f, u, hu, hr⟩ := k2 i v hv
    refine ⟨by rw [World.frozen?_setCells]; exact f, u, ?_, hr.mono hle⟩
    rw [World.cell?_setCells_out]; · exact hu
    intro hb _
    exact absurd (show W.blkOf id = some b from hb ▸ hc) (t4 id)
  · intro id s pos hg
    obtain ⟨c, hc, k⟩ := h.iter id s pos hg
    refine ⟨c, hc, ?_⟩
    rw [setCells_heap]; · exact k
    intro e; subst e; exact t4 id hc
  · intro t' c p hp
    obtain ⟨k1, k2, k3, k4⟩ := h.tok t' c p hp
    exact ⟨k1, by rw [setCells_size]; exact k2, k3, k4⟩
  · intro t' c p hl' hp m hm i hi him
    have hcb : c ≠ b := fun e => hne t' hl' p (e ▸ hp)
    obtain ⟨k1, k2⟩ := h.live t' c p (List.mem_of_mem_erase hl') hp m hm i hi him
    refine ⟨?_, by rw [World.frozen?_setCells]; exact k2⟩
    show (if c = b ∧ o ≤ i ∧ i < o + us.length then us[i - o]? else W.sealed c i) = none
    rw [if_neg (fun e => hcb e.1)]; exact k1
  · intro t' t'' c p p' h1 h2
    exact h.tinj t' t'' c p p' (List.mem_of_mem_erase h1) (List.mem_of_mem_erase h2)
  · intro t' ht'; exact h.ltok t' (List.mem_of_mem_erase ht')
  · intro g cs hg
    obtain ⟨k1, us', k2, k3⟩ := h.glob g cs hg
    exact ⟨k1, us', k2.mono hle, k3.mono hle⟩

/-- Cells of a block are written. -/
theorem R.write (h : R E W σ w) {id b off : Nat} {cs vc : List AV} {us : List Value} (hg : σ.get id = some (.cells cs)) (hb : W.blkOf id = some b) (hv : VRs W vc us)
    (h1 : ∀ c ∈ vc, c.one = true) (hfit : off + vc.length ≤ cs.length) :
    R E W (σ.put id (.cells (cs.take off ++ vc ++ cs.drop (off + vc.length)))) (w.setCells b off us) := by
  obtain ⟨t1, t2, t3, t4⟩ := h.there id b hb
  have hlen := hv.length
  obtain ⟨b', hb', k1, k2⟩ := h.cells id cs hg
  have : b' = b := by rw [hb] at hb'; injection hb' with e; exact e.symm
  subst this
  have hsome : ∀ j, j < us.length → (w.cell? ⟨b', off + j, none⟩).isSome = true := by
    intro j hj
    obtain ⟨_, u, hu, _⟩ := k2 (off + j) cs[off + j] (List.getElem?_eq_getElem (by omega))
    rw [hu]; rfl
  refine ⟨setCells_below b' us off w h.below t1, ?_, ?_, ?_, ?_, ?_, ?_, ?_, ?_, ?_, h.tinj, h.ltok, ?_, h.glob, h.nodup⟩
  · intro c i u hu
    rw [World.cell?_setCells_out]; · exact h.sealed _ _ _ hu
    intro e _
    have : c = b' := e
    subst this; rw [t4 i] at hu; simp at hu
  · intro c k hk i hi; exact cell?_setCells_isSome _ _ _ _ _ (h.size c k hk i hi)
  · intro c k hk; rw [setCells_size]; exact h.sizelt _ _ hk
  · intro id' c hc
    obtain ⟨m1, m2, m3, m4⟩ := h.there id' c hc
    exact ⟨m1, by rw [setCells_size]; exact m2, m3, m4⟩
  · intro id' cs' hg'
    rw [St.get_put] at hg'
    by_cases e : id = id'
    · subst e
      rw [if_pos rfl] at hg'; injection hg' with hg'; injection hg' with hg'; subst hg'
      refine ⟨b', hb, ?_, ?_⟩
      · intro c hc
        simp only [List.append_assoc, List.mem_append] at hc
        rcases hc with hc | hc | hc
        · exact k1 c (List.mem_of_mem_take hc)
        · exact h1 c hc
        · exact k1 c (List.mem_of_mem_drop hc)
      · intro i v hv'
        rw [World.frozen?_setCells]
        by_cases hi : i < off
        · rw [List.append_assoc, List.getElem?_append_left (by simp; omega), List.getElem?_take_of_lt hi] at hv'
          obtain ⟨f, u, hu, hr⟩ := k2 i v hv'
          exact ⟨f, u, by rw [World.cell?_setCells_out]; exact hu; intro _ _; exact .inl hi, hr⟩
        · rw [List.append_assoc, List.getElem?_append_right (by simp; omega)] at hv'
          have htl : (cs.take off).length = off := by simp; omega
          rw [htl] at hv'
          by_cases hi2 : i < off + vc.length
          · rw [List.getElem?_append_left (by omega)] at hv'
            obtain ⟨u, hu, hr⟩ := hv.get _ hv'
            have hj : i - off < us.length := by omega
            have hin := World.cell?_setCells_in b' us off w hsome (i - off) hj
            rw [show off + (i - off) = i by omega] at hin
            rw [List.getElem?_eq_getElem hj] at hu; injection hu with hu
            obtain ⟨f, _⟩ := k2 i cs[i] (List.getElem?_eq_getElem (by omega))
            exact ⟨f, u, by rw [hin, hu], hr⟩
          · rw [List.getElem?_append_right (by omega), List.getElem?_drop] at hv'
            rw [show off + vc.length + (i - off - vc.length) = i by omega] at hv'
            obtain ⟨f, u, hu, hr⟩ := k2 i v hv'
            exact ⟨f, u, by rw [World.cell?_setCells_out]; exact hu; intro _ _; exact .inr (by show off + us.length ≤ i; omega), hr⟩
    · rw [if_neg e] at hg'
      obtain ⟨c, hc, m1, m2⟩ := h.cells id' cs' hg'
      refine ⟨c, hc, m1, fun i v hv' => ?_⟩
      obtain ⟨f, u, hu, hr⟩ := m2 i v hv'
      refine ⟨by rw [World.frozen?_setCells]; exact f, u, ?_, hr⟩
      rw [World.cell?_setCells_out]; · exact hu
      intro eb _
      have : c = b' := eb
      subst this
      exact absurd (h.inj id id' c _ _ hb hc hg hg') e
  · intro id' s pos hg'
    rw [St.get_put] at hg'
    by_cases e : id = id'
    · subst e; rw [if_pos rfl] at hg'; simp at hg'
    · rw [if_neg e] at hg'
      obtain ⟨c, hc, k⟩ := h.iter id' s pos hg'
      refine ⟨c, hc, ?_⟩
      rw [setCells_heap]; · exact k
      intro e'; subst e'
      exact absurd (h.inj id id' c _ _ hb hc hg hg') e
  · intro i j c x y hi hj gi gj
    rw [St.get_put] at gi gj
    have hx : ∀ k z, (if id = k then some (Blk.cells (cs.take off ++ vc ++ cs.drop (off + vc.length))) else σ.get k) = some z → ∃ z', σ.get k = some z' := by
      intro k z hz
      by_cases e : id = k
      · subst e; exact ⟨_, hg⟩
      · rw [if_neg e] at hz; exact ⟨_, hz⟩
    obtain ⟨x', gi'⟩ := hx i x gi
    obtain ⟨y', gj'⟩ := hx j y gj
    exact h.inj i j c x' y' hi hj gi' gj'
  · intro t c p hp
    obtain ⟨m1, m2, m3, m4⟩ := h.tok t c p hp
    exact ⟨m1, by rw [setCells_size]; exact m2, m3, m4⟩
  · intro t c p hl hp m hm i hi him
    obtain ⟨m1, m2⟩ := h.live t c p hl hp m hm i hi him
    exact ⟨m1, by rw [World.frozen?_setCells]; exact m2⟩
  · intro id' x hg'
    rw [St.get_put] at hg'
    by_cases e : id = id'
    · subst e; exact h.lid _ _ hg
    · rw [if_neg e] at hg'; exact h.lid _ _ hg'

/-- A string's iterator goes on. -/
theorem R.iterOn (h : R E W σ w) {id b pos pos' : Nat} {s : List UInt8} (hg : σ.get id = some (.iter s pos)) (hb : W.blkOf id = some b) :
    R E W (σ.put id (.iter s pos')) { w with heap := w.heap.setIfInBounds b (.stringIter ⟨s.toArray⟩ pos') } := by
  obtain ⟨t1, t2, t3, t4⟩ := h.there id b hb
  obtain ⟨b', hb', hi0⟩ := h.iter id s pos hg
  have : b' = b := by rw [hb] at hb'; injection hb' with e; exact e.symm
  subst this
  have hno : ∀ i, w.cell? ⟨b', i, none⟩ = none := fun i => by simp [World.cell?, hi0]
  have hcell : ∀ x : Addr, World.cell? { w with heap := w.heap.setIfInBounds b' (.stringIter ⟨s.toArray⟩ pos') } x = w.cell? x := by
    intro x
    by_cases e : b' = x.block
    · subst e
      have h1 : w.cell? x = none := by unfold World.cell?; rw [hi0]
      rw [h1]; unfold World.cell?; simp [t2]
    · simp [World.cell?, Array.getElem?_setIfInBounds_ne e]
  have hfr : ∀ x : Addr, World.frozen? { w with heap := w.heap.setIfInBounds b' (.stringIter ⟨s.toArray⟩ pos') } x = w.frozen? x := by
    intro x
    by_cases e : b' = x.block
    · subst e
      have h1 : w.frozen? x = false := by unfold World.frozen?; rw [hi0]
      rw [h1]; unfold World.frozen?; simp [t2]
    · simp [World.frozen?, Array.getElem?_setIfInBounds_ne e]
  have hheap : ∀ k, k ≠ b' → (w.heap.setIfInBounds b' (Obj.stringIter ⟨s.toArray⟩ pos'))[k]? = w.heap[k]? := fun k hk => Array.getElem?_setIfInBounds_ne (fun e => hk e.symm)
  refine ⟨⟨h.below.os, h.below.tape, h.below.output, by simpa using h.below.size, fun k hk => ?_⟩, ?_, ?_, ?_, ?_, ?_, ?_, ?_, ?_, ?_, h.tinj, h.ltok, ?_, h.glob, h.nodup⟩
  · rw [hheap k (by omega)]; exact h.below.block k hk
  · intro c i u hu; rw [hcell]; exact h.sealed _ _ _ hu
  · intro c n hn i hi; rw [hcell]; exact h.size _ _ hn i hi
  · intro c n hn; simpa using h.sizelt _ _ hn
  · intro id' c hc; have := h.there id' c hc; simpa [St.put] using this
  · intro id' cs hg'
    rw [St.get_put] at hg'
    by_cases e : id = id'
    · rw [if_pos e] at hg'; simp at hg'
    · rw [if_neg e] at hg'
      obtain ⟨c, hc, k1, k2⟩ := h.cells id' cs hg'
      exact ⟨c, hc, k1, fun i v hv => by rw [hcell, hfr]; exact k2 i v hv⟩
  · intro id' s' p hg'
    rw [St.get_put] at hg'
    by_cases e : id = id'
    · subst e; rw [if_pos rfl] at hg'; injection hg' with hg'; injection hg' with e1 e2; subst e1; subst e2
      exact ⟨b', hb, by simp [t2]⟩
    · rw [if_neg e] at hg'
      obtain ⟨c, hc, k⟩ := h.iter id' s' p hg'
      refine ⟨c, hc, ?_⟩
      show (w.heap.setIfInBounds b' _)[c]? = _
      rw [hheap]; · exact k
      intro e'; subst e'; exact e (h.inj id id' c _ _ hb hc hg hg')
  · intro i j c x y hi hj gi gj
    rw [St.get_put] at gi gj
    have hx : ∀ k z, (if id = k then some (Blk.iter s pos') else σ.get k) = some z → ∃ z', σ.get k = some z' := by
      intro k z hz
      by_cases e : id = k
      · subst e; exact ⟨_, hg⟩
      · rw [if_neg e] at hz; exact ⟨_, hz⟩
    obtain ⟨x', gi'⟩ := hx i x gi
    obtain ⟨y', gj'⟩ := hx j y gj
    exact h.inj i j c x' y' hi hj gi' gj'
  · intro t c p hp; have := h.tok t c p hp; simpa [St.put] using this
  · intro t c p hl hp m hm i hi him; rw [hfr]; exact h.live t c p hl hp m hm i hi him
  · intro id' x hg'
    rw [St.get_put] at hg'
    by_cases e : id = id'
    · subst e; exact h.lid _ _ hg
    · rw [if_neg e] at hg'; exact h.lid _ _ hg'

end Go.Pv
