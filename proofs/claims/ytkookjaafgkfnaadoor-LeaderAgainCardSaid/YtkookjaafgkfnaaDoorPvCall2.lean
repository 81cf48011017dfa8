import Derived.Test.YtkookjaafgkfnaaDoorPvCall
namespace Go.Pv
set_option linter.all false
open Go.RowKit

/-! ### A value without what was made since -/

/-- What is known, less the blocks and tokens from these on. -/
def KW.upto (W : KW) (nid nt : Nat) : KW :=
  { W with blkOf := fun i => if i < nid then W.blkOf i else none, tok := fun t => if t < nt then W.tok t else none }

mutual
theorem strip_vr {W : KW} {nid nt : Nat} : ∀ {v v' : AV} {u : Value}, strip nid nt v = some v' → VR W v u → VR (W.upto nid nt) v' u ∧ v'.one = v.one
  | .bool b, v', u, h, hv => by simp [strip] at h; subst h; cases hv; exact ⟨.bool _, rfl⟩
  | .int k n, v', u, h, hv => by simp [strip] at h; subst h; cases hv; exact ⟨.int _ _, rfl⟩
  | .float k n, v', u, h, hv => by simp [strip] at h; subst h; cases hv; exact ⟨.float _ _, rfl⟩
  | .str s, v', u, h, hv => by simp [strip] at h; subst h; cases hv; exact ⟨.str _, rfl⟩
  | .nilp, v', u, h, hv => by simp [strip] at h; subst h; cases hv; exact ⟨.nilp, rfl⟩
  | .nils, v', u, h, hv => by simp [strip] at h; subst h; cases hv; exact ⟨.nils, rfl⟩
  | .niliface, v', u, h, hv => by simp [strip] at h; subst h; cases hv; exact ⟨.niliface, rfl⟩
  | .nilfunc, v', u, h, hv => by simp [strip] at h; subst h; cases hv; exact ⟨.nilfunc, rfl⟩
  | .glob g off, v', u, h, hv => by simp [strip] at h; subst h; cases hv; exact ⟨.glob _ _, rfl⟩
  | .blk id off, v', u, h, hv => by
    simp only [strip] at h
    by_cases hid : id < nid
    · rw [if_pos hid] at h; injection h with h; subst h
      cases hv
      rename_i b hb
      exact ⟨.blk _ (by show (if id < nid then W.blkOf id else none) = some b; rw [if_pos hid]; exact hb), rfl⟩
    · rw [if_neg hid] at h; simp at h
  | .hs id off len cap, v', u, h, hv => by
    simp only [strip] at h
    by_cases hid : id < nid
    · rw [if_pos hid] at h; injection h with h; subst h
      cases hv
      rename_i b cap' hb hc hc'
      exact ⟨.hs _ _ (b := b) (by show (if id < nid then W.blkOf id else none) = some b; rw [if_pos hid]; exact hb) hc hc', rfl⟩
    · rw [if_neg hid] at h; simp at h
  | .elem cs off, v', u, h, hv => by
    simp only [strip] at h
    cases hs : strips nid nt cs with
    | none => simp [hs] at h
    | some cs' =>
      simp [hs] at h; subst h
      cases hv
      rename_i us b o hr hus h1
      obtain ⟨k1, k2⟩ := strips_vr hs hus
      exact ⟨.elem _ k1 (k2 h1) hr, rfl⟩
  | .list tok sz cs, v', u, h, hv => by
    simp only [strip] at h
    cases hs : strips nid nt cs with
    | none => simp [hs] at h
    | some cs' =>
      simp [hs] at h; subst h
      cases hv
      rename_i us b o len cap hr hc hsz hus h1 hl htok
      obtain ⟨k1, k2⟩ := strips_vr hs hus
      have hlen : cs'.length = cs.length := by rw [k1.length, hus.length]
      refine ⟨.list k1 (k2 h1) hr hsz (by rw [hlen]; exact hl) hc ?_, rfl⟩
      rw [hlen]
      cases tok with
      | no => trivial
      | exact => exact htok
      | own => exact htok
      | tk t =>
        simp only [stripTok]
        by_cases ht : t < nt
        · rw [if_pos ht]
          obtain ⟨x, hx, k⟩ := htok
          exact ⟨x, by show (if t < nt then W.tok t else none) = some x; rw [if_pos ht]; exact hx, k⟩
        · rw [if_neg ht]; trivial
  | .agg cs, v', u, h, hv => by
    simp only [strip] at h
    cases hs : strips nid nt cs with
    | none => simp [hs] at h
    | some cs' =>
      simp [hs] at h; subst h
      cases hv
      rename_i us hus h1
      obtain ⟨k1, k2⟩ := strips_vr hs hus
      exact ⟨.agg k1 (k2 h1), rfl⟩
  | .tuple cs, v', u, h, hv => by
    simp only [strip] at h
    cases hs : strips nid nt cs with
    | none => simp [hs] at h
    | some cs' =>
      simp [hs] at h; subst h
      cases hv
      rename_i us hus
      exact ⟨.tuple (strips_vr hs hus).1, rfl⟩
  | .iface t v, v', u, h, hv => by
    simp only [strip] at h
    cases hs : strip nid nt v with
    | none => simp [hs] at h
    | some v2 =>
      simp [hs] at h; subst h
      cases hv
      rename_i u hu
      exact ⟨.iface t (strip_vr hs hu).1, rfl⟩
  | .func fn a b, v', u, h, hv => by
    simp only [strip] at h
    cases ha : strips nid nt a with
    | none => simp [ha] at h
    | some a' =>
      cases hb : strips nid nt b with
      | none => simp [ha, hb] at h
      | some b' =>
        simp [ha, hb] at h; subst h
        cases hv
        rename_i us vs hus hvs
        exact ⟨.func fn (strips_vr ha hus).1 (strips_vr hb hvs).1, rfl⟩
theorem strips_vr {W : KW} {nid nt : Nat} : ∀ {l l' : List AV} {m : List Value}, strips nid nt l = some l' → VRs W l m → VRs (W.upto nid nt) l' m ∧ ((∀ c ∈ l, c.one = true) → ∀ c ∈ l', c.one = true)
  | [], l', m, h, hv => by simp [strips] at h; subst h; cases hv; exact ⟨.nil, fun _ c hc => by simp at hc⟩
  | v :: l, l', m, h, hv => by
    simp only [strips] at h
    cases h1 : strip nid nt v with
    | none => simp [h1] at h
    | some v2 =>
      cases h2 : strips nid nt l with
      | none => simp [h1, h2] at h
      | some l2 =>
        simp [h1, h2] at h; subst h
        cases hv with
        | cons hx hxs =>
          obtain ⟨k1, k2⟩ := strip_vr h1 hx
          obtain ⟨k3, k4⟩ := strips_vr h2 hxs
          refine ⟨.cons k1 k3, fun hall c hc => ?_⟩
          rcases List.mem_cons.1 hc with rfl | hc
          · rw [k2]; exact hall v (by simp)
          · exact k4 (fun c hc => hall c (List.mem_cons_of_mem _ hc)) c hc
end

mutual
theorem strip_id {W : KW} {nid nt : Nat} (hb : ∀ i b, W.blkOf i = some b → i < nid) (ht : ∀ t x, W.tok t = some x → t < nt) : ∀ {v : AV} {u : Value}, VR W v u → strip nid nt v = some v
  | _, _, .bool b => rfl
  | _, _, .int k n => rfl
  | _, _, .float k n => rfl
  | _, _, .str s => rfl
  | _, _, .nilp => rfl
  | _, _, .nils => rfl
  | _, _, .niliface => rfl
  | _, _, .nilfunc => rfl
  | _, _, .glob g off => rfl
  | _, _, .blk off h => by simp only [strip]; rw [if_pos (hb _ _ h)]
  | _, _, .hs off len h hc hc' => by simp only [strip]; rw [if_pos (hb _ _ h)]
  | _, _, .elem off h h1 hr => by simp only [strip]; rw [strips_id hb ht h]
  | _, _, .list (tok := tok) h h1 hr hs hl hc htok => by
    simp only [strip]; rw [strips_id hb ht h]
    cases tok with
    | no => rfl
    | exact => rfl
    | own => rfl
    | tk t => obtain ⟨x, hx, _⟩ := htok; simp only [stripTok]; rw [if_pos (ht _ _ hx)]
  | _, _, .agg h h1 => by simp only [strip]; rw [strips_id hb ht h]
  | _, _, .tuple h => by simp only [strip]; rw [strips_id hb ht h]
  | _, _, .iface t h => by simp only [strip]; rw [strip_id hb ht h]
  | _, _, .func fn ha hb' => by simp only [strip]; rw [strips_id hb ht ha, strips_id hb ht hb']
theorem strips_id {W : KW} {nid nt : Nat} (hb : ∀ i b, W.blkOf i = some b → i < nid) (ht : ∀ t x, W.tok t = some x → t < nt) : ∀ {l : List AV} {m : List Value}, VRs W l m → strips nid nt l = some l
  | _, _, .nil => rfl
  | _, _, .cons h t => by simp only [strips]; rw [strip_id hb ht h, strips_id hb ht t]
end

mutual
/-- A value without blocks and tokens is what it was, whatever they are. -/
theorem close_vr {W W' : KW} (hs : ∀ b i u, W.sealed b i = some u → W'.sealed b i = some u) : ∀ {v v' : AV} {u : Value}, close v = some v' → VR W v u → VR W' v' u ∧ v'.one = v.one
  | .bool b, v', u, h, hv => by simp [close] at h; subst h; cases hv; exact ⟨.bool _, rfl⟩
  | .int k n, v', u, h, hv => by simp [close] at h; subst h; cases hv; exact ⟨.int _ _, rfl⟩
  | .float k n, v', u, h, hv => by simp [close] at h; subst h; cases hv; exact ⟨.float _ _, rfl⟩
  | .str s, v', u, h, hv => by simp [close] at h; subst h; cases hv; exact ⟨.str _, rfl⟩
  | .nilp, v', u, h, hv => by simp [close] at h; subst h; cases hv; exact ⟨.nilp, rfl⟩
  | .nils, v', u, h, hv => by simp [close] at h; subst h; cases hv; exact ⟨.nils, rfl⟩
  | .niliface, v', u, h, hv => by simp [close] at h; subst h; cases hv; exact ⟨.niliface, rfl⟩
  | .nilfunc, v', u, h, hv => by simp [close] at h; subst h; cases hv; exact ⟨.nilfunc, rfl⟩
  | .glob g off, v', u, h, hv => by simp [close] at h; subst h; cases hv; exact ⟨.glob _ _, rfl⟩
  | .blk id off, v', u, h, hv => by simp [close] at h
  | .hs id off len cap, v', u, h, hv => by simp [close] at h
  | .elem cs off, v', u, h, hv => by
    simp only [close] at h
    cases hc : closes cs with
    | none => simp [hc] at h
    | some cs' =>
      simp [hc] at h; subst h
      cases hv
      rename_i us b o hr hus h1
      obtain ⟨k1, k2⟩ := closes_vr hs hc hus
      exact ⟨.elem _ k1 (k2 h1) (fun i hi => hs _ _ _ (hr i hi)), rfl⟩
  | .list tok sz cs, v', u, h, hv => by
    simp only [close] at h
    cases hcs : closes cs with
    | none => simp [hcs] at h
    | some cs' =>
      simp [hcs] at h; subst h
      cases hv
      rename_i us b o len cap hr hc hsz hus h1 hl htok
      obtain ⟨k1, k2⟩ := closes_vr hs hcs hus
      have hlen : cs'.length = cs.length := by rw [k1.length, hus.length]
      refine ⟨.list k1 (k2 h1) (fun i hi => hs _ _ _ (hr i hi)) hsz (by rw [hlen]; exact hl) hc ?_, rfl⟩
      cases tok with
      | no => trivial
      | exact => exact htok
      | own => exact htok.1
      | tk t => trivial
  | .agg cs, v', u, h, hv => by
    simp only [close] at h
    cases hc : closes cs with
    | none => simp [hc] at h
    | some cs' =>
      simp [hc] at h; subst h
      cases hv
      rename_i us hus h1
      obtain ⟨k1, k2⟩ := closes_vr hs hc hus
      exact ⟨.agg k1 (k2 h1), rfl⟩
  | .tuple cs, v', u, h, hv => by
    simp only [close] at h
    cases hc : closes cs with
    | none => simp [hc] at h
    | some cs' =>
      simp [hc] at h; subst h
      cases hv
      rename_i us hus
      exact ⟨.tuple (closes_vr hs hc hus).1, rfl⟩
  | .iface t v, v', u, h, hv => by
    simp only [close] at h
    cases hc : close v with
    | none => simp [hc] at h
    | some x =>
      simp [hc] at h; subst h
      cases hv
      rename_i y hy
      exact ⟨.iface _ (close_vr hs hc hy).1, rfl⟩
  | .func fn a b, v', u, h, hv => by
    simp only [close] at h
    cases hca : closes a with
    | none => simp [hca] at h
    | some a' =>
      cases hcb : closes b with
      | none => simp [hca, hcb] at h
      | some b' =>
        simp [hca, hcb] at h; subst h
        cases hv
        rename_i us vs ha hb
        exact ⟨.func _ (closes_vr hs hca ha).1 (closes_vr hs hcb hb).1, rfl⟩
theorem closes_vr {W W' : KW} (hs : ∀ b i u, W.sealed b i = some u → W'.sealed b i = some u) : ∀ {l l' : List AV} {m : List Value}, closes l = some l' → VRs W l m → VRs W' l' m ∧ ((∀ c ∈ l, c.one = true) → ∀ c ∈ l', c.one = true)
  | [], l', m, h, hv => by simp [closes] at h; subst h; cases hv; exact ⟨.nil, fun h => h⟩
  | v :: l, l', m, h, hv => by
    simp only [closes] at h
    cases hc : close v with
    | none => simp [hc] at h
    | some x =>
      cases hcl : closes l with
      | none => simp [hc, hcl] at h
      | some y =>
        simp [hc, hcl] at h; subst h
        cases hv with
        | cons h1 h2 =>
          obtain ⟨k1, k2⟩ := close_vr hs hc h1
          obtain ⟨k3, k4⟩ := closes_vr hs hcl h2
          exact ⟨.cons k1 k3, fun hall c hm => by
            rcases List.mem_cons.1 hm with rfl | hm
            · rw [k2]; exact hall v (List.mem_cons_self ..)
            · exact k4 (fun c hc => hall c (List.mem_cons_of_mem _ hc)) c hm⟩
end

/-- What is known, less the blocks from this one on. -/
def KW.uptoB (W : KW) (k : Nat) : KW := { W with blkOf := fun i => if i < k then W.blkOf i else none }

mutual
theorem low_vr {W : KW} {k : Nat} : ∀ {v : AV} {u : Value}, low k v = true → VR W v u → VR (W.uptoB k) v u
  | .bool _, u, h, hv => by cases hv; exact .bool _
  | .int _ _, u, h, hv => by cases hv; exact .int _ _
  | .float _ _, u, h, hv => by cases hv; exact .float _ _
  | .str _, u, h, hv => by cases hv; exact .str _
  | .nilp, u, h, hv => by cases hv; exact .nilp
  | .nils, u, h, hv => by cases hv; exact .nils
  | .niliface, u, h, hv => by cases hv; exact .niliface
  | .nilfunc, u, h, hv => by cases hv; exact .nilfunc
  | .glob _ _, u, h, hv => by cases hv; exact .glob _ _
  | .blk id off, u, h, hv => by
      simp only [low, decide_eq_true_eq] at h
      cases hv
      rename_i b hb
      exact .blk _ (by show (if id < k then W.blkOf id else none) = some b; rw [if_pos h]; exact hb)
  | .hs id off len cap, u, h, hv => by
      simp only [low, decide_eq_true_eq] at h
      cases hv
      rename_i b cap' hb hc hc'
      exact .hs _ _ (b := b) (by show (if id < k then W.blkOf id else none) = some b; rw [if_pos h]; exact hb) hc hc'
  | .elem cs off, u, h, hv => by
      simp only [low] at h
      cases hv
      rename_i us b o hr hus h1
      exact .elem _ (lows_vr h hus) h1 hr
  | .list tok sz cs, u, h, hv => by
      simp only [low] at h
      cases hv
      rename_i us b o len cap hr hc hsz hus h1 hl htok
      exact .list (lows_vr h hus) h1 hr hsz hl hc htok
  | .agg cs, u, h, hv => by
      simp only [low] at h
      cases hv
      rename_i us hus h1
      exact .agg (lows_vr h hus) h1
  | .tuple cs, u, h, hv => by
      simp only [low] at h
      cases hv
      rename_i us hus
      exact .tuple (lows_vr h hus)
  | .iface t v, u, h, hv => by
      simp only [low] at h
      cases hv
      rename_i y hy
      exact .iface _ (low_vr h hy)
  | .func fn a b, u, h, hv => by
      simp only [low, Bool.and_eq_true] at h
      cases hv
      rename_i us vs ha hb
      exact .func _ (lows_vr h.1 ha) (lows_vr h.2 hb)
theorem lows_vr {W : KW} {k : Nat} : ∀ {l : List AV} {m : List Value}, lows k l = true → VRs W l m → VRs (W.uptoB k) l m
  | [], m, h, hv => by cases hv; exact .nil
  | v :: l, m, h, hv => by
    simp only [lows, Bool.and_eq_true] at h
    cases hv with
    | cons h1 h2 => exact .cons (low_vr h.1 h1) (lows_vr h.2 h2)
end

theorem lows_get {k : Nat} : ∀ {l : List AV} {i : Nat} {v : AV}, lows k l = true → l[i]? = some v → low k v = true
  | [], _, _, _, h => by simp at h
  | x :: l, 0, v, hl, h => by simp [lows] at hl; simp at h; subst h; exact hl.1
  | x :: l, i + 1, v, hl, h => by simp [lows] at hl; simp at h; exact lows_get hl.2 h

theorem tidy_low {k : Nat} : ∀ {h h' : Heap}, tidyHeap k h = some h' → ∀ id cs, h'.get id = some (.cells cs) → lows k cs = true
  | [], h', h, id, cs, hg => by simp [tidyHeap] at h; subst h; simp [Heap.get] at hg
  | (i, b) :: l, h', h, id, cs, hg => by
    simp only [tidyHeap] at h
    by_cases hi : i < k
    · rw [if_pos hi] at h
      cases b with
      | cells c0 =>
        simp only at h
        by_cases hl : lows k c0 = true
        · rw [if_pos hl] at h
          cases ht : tidyHeap k l with
          | none => simp [ht] at h
          | some l' =>
            simp [ht] at h; subst h
            simp only [Heap.get] at hg
            by_cases e : i = id
            · rw [if_pos e] at hg; injection hg with hg; injection hg with hg; subst hg; exact hl
            · rw [if_neg e] at hg; exact tidy_low ht id cs hg
        · rw [if_neg hl] at h; simp at h
      | iter s p =>
        simp only at h
        cases ht : tidyHeap k l with
        | none => simp [ht] at h
        | some l' =>
          simp [ht] at h; subst h
          simp only [Heap.get] at hg
          by_cases e : i = id
          · rw [if_pos e] at hg; simp at hg
          · rw [if_neg e] at hg; exact tidy_low ht id cs hg
    · rw [if_neg hi] at h; exact tidy_low h id cs hg

section
variable {E : Env} {P : Program} {cf : CallF}

/-- Behind a call that changes nothing the state is what it was. -/
theorem R.restore {W W' : KW} {σ σ' : St} {w w' : World} (h : R E W σ w) (h' : R E W' σ' w') (hle : W.Le W') (hget : ∀ id, id < σ.nid → σ'.get id = σ.get id) (hlive : ∀ t, t < σ.nt → t ∈ σ.live → t ∈ σ'.live) :
    W.Le (W'.upto σ.nid σ.nt) ∧ R E (W'.upto σ.nid σ.nt) σ w' := by
  have hbd : ∀ i b, W.blkOf i = some b → i < σ.nid := fun i b hb => (h.there i b hb).2.2.1
  have htd : ∀ t x, W.tok t = some x → t < σ.nt := fun t x hx => by obtain ⟨b, o⟩ := x; exact (h.tok t b o hx).2.2.1
  have hle2 : W.Le (W'.upto σ.nid σ.nt) := ⟨hle.w0, hle.sealed, hle.size, fun i b hb => by
      show (if i < σ.nid then W'.blkOf i else none) = some b
      rw [if_pos (hbd i b hb)]; exact hle.blkOf i b hb, fun t x hx => by
      show (if t < σ.nt then W'.tok t else none) = some x
      rw [if_pos (htd t x hx)]; exact hle.tok t x hx, hle.osealed, hle.osize⟩
  have hblk : ∀ {i b}, (W'.upto σ.nid σ.nt).blkOf i = some b → i < σ.nid ∧ W'.blkOf i = some b := by
    intro i b hb
    change (if i < σ.nid then W'.blkOf i else none) = some b at hb
    by_cases hi : i < σ.nid
    · rw [if_pos hi] at hb; exact ⟨hi, hb⟩
    · rw [if_neg hi] at hb; simp at hb
  have htok : ∀ {t x}, (W'.upto σ.nid σ.nt).tok t = some x → t < σ.nt ∧ W'.tok t = some x := by
    intro t x hb
    change (if t < σ.nt then W'.tok t else none) = some x at hb
    by_cases hi : t < σ.nt
    · rw [if_pos hi] at hb; exact ⟨hi, hb⟩
    · rw [if_neg hi] at hb; simp at hb
  refine ⟨hle2, h'.below, h'.sealed, h'.size, h'.sizelt, ?_, ?_, ?_, ?_, ?_, ?_, ?_, h.ltok, h.lid, ?_, h.nodup⟩
  · intro id b hb
    obtain ⟨hi, hb⟩ := hblk hb
    obtain ⟨k1, k2, _, k4⟩ := h'.there id b hb
    exact ⟨k1, k2, hi, k4⟩
  · intro id cs hg
    have hid := h.lid _ _ hg
    have hg' : σ'.get id = some (.cells cs) := by rw [hget id hid]; exact hg
    obtain ⟨b, hb, k1, k2⟩ := h'.cells id cs hg'
    obtain ⟨b0, hb0, _, k20⟩ := h.cells id cs hg
    refine ⟨b, by show (if id < σ.nid then W'.blkOf id else none) = some b; rw [if_pos hid]; exact hb, k1, fun i v hv => ?_⟩
    obtain ⟨f, u, hu, hr⟩ := k2 i v hv
    obtain ⟨_, u0, _, hr0⟩ := k20 i v hv
    exact ⟨f, u, hu, (strip_vr (strip_id hbd htd hr0) hr).1⟩
  · intro id s pos hg
    have hid := h.lid _ _ hg
    have hg' : σ'.get id = some (.iter s pos) := by rw [hget id hid]; exact hg
    obtain ⟨b, hb, k⟩ := h'.iter id s pos hg'
    exact ⟨b, by show (if id < σ.nid then W'.blkOf id else none) = some b; rw [if_pos hid]; exact hb, k⟩
  · intro i j b x y hi hj gi gj
    exact h'.inj i j b x y (hblk hi).2 (hblk hj).2 (by rw [hget i (h.lid _ _ gi)]; exact gi) (by rw [hget j (h.lid _ _ gj)]; exact gj)
  · intro t b o ht
    obtain ⟨hi, ht⟩ := htok ht
    obtain ⟨k1, k2, _, k4⟩ := h'.tok t b o ht
    exact ⟨k1, k2, hi, fun id hid => k4 id (hblk hid).2⟩
  · intro t b o hl ht
    obtain ⟨hi, ht⟩ := htok ht
    exact h'.live t b o (hlive t hi hl) ht
  · intro t t' b o o' hl hl' ht ht'
    obtain ⟨hi, ht⟩ := htok ht
    obtain ⟨hi', ht'⟩ := htok ht'
    exact h'.tinj t t' b o o' (hlive t hi hl) (hlive t' hi' hl') ht ht'
  · intro gl cs hg
    obtain ⟨k1, us, k2, k3⟩ := h.glob gl cs hg
    exact ⟨k1, us, k2.mono hle2, k3.mono hle2⟩

/-- Behind a call whose new blocks nobody knows they go. -/
theorem R.tidy {W W' : KW} {σ σ' : St} {w w' : World} (h : R E W σ w) (h' : R E W' σ' w') (hle : W.Le W') {hp : Heap} (hhp : tidyHeap σ.nid σ'.heap = some hp) :
    W.Le (W'.uptoB σ.nid) ∧ R E (W'.uptoB σ.nid) { σ' with heap := hp, nid := σ.nid } w' := by
  have hblk : ∀ {i b}, (W'.uptoB σ.nid).blkOf i = some b → i < σ.nid ∧ W'.blkOf i = some b := by
    intro i b hb
    change (if i < σ.nid then W'.blkOf i else none) = some b at hb
    by_cases hi : i < σ.nid
    · rw [if_pos hi] at hb; exact ⟨hi, hb⟩
    · rw [if_neg hi] at hb; simp at hb
  have hgt : ∀ {id x}, hp.get id = some x → id < σ.nid ∧ σ'.get id = some x := by
    intro id x hx
    rw [tidy_get hhp id] at hx
    by_cases hi : id < σ.nid
    · rw [if_pos hi] at hx; exact ⟨hi, hx⟩
    · rw [if_neg hi] at hx; simp at hx
  refine ⟨⟨hle.w0, hle.sealed, hle.size, fun i b hb => ?_, hle.tok, hle.osealed, hle.osize⟩, h'.below, h'.sealed, h'.size, h'.sizelt, ?_, ?_, ?_, ?_, ?_, h'.live, h'.tinj, h'.ltok, ?_, ?_, h'.nodup⟩
  · show (if i < σ.nid then W'.blkOf i else none) = some b
    rw [if_pos (h.there i b hb).2.2.1]; exact hle.blkOf i b hb
  · intro id b hb
    obtain ⟨hi, hb⟩ := hblk hb
    obtain ⟨k1, k2, _, k4⟩ := h'.there id b hb
    exact ⟨k1, k2, hi, k4⟩
  · intro id cs hg
    have hlo := tidy_low hhp id cs hg
    obtain ⟨hid, hg⟩ := hgt hg
    obtain ⟨b, hb, k1, k2⟩ := h'.cells id cs hg
    refine ⟨b, by show (if id < σ.nid then W'.blkOf id else none) = some b; rw [if_pos hid]; exact hb, k1, fun i v hv => ?_⟩
    obtain ⟨f, u, hu, hr⟩ := k2 i v hv
    exact ⟨f, u, hu, low_vr (lows_get hlo hv) hr⟩
  · intro id s pos hg
    obtain ⟨hid, hg⟩ := hgt hg
    obtain ⟨b, hb, k⟩ := h'.iter id s pos hg
    exact ⟨b, by show (if id < σ.nid then W'.blkOf id else none) = some b; rw [if_pos hid]; exact hb, k⟩
  · intro i j b x y hi hj gi gj
    exact h'.inj i j b x y (hblk hi).2 (hblk hj).2 (hgt gi).2 (hgt gj).2
  · intro t b o ht
    obtain ⟨k1, k2, k3, k4⟩ := h'.tok t b o ht
    exact ⟨k1, k2, k3, fun id hid => k4 id (hblk hid).2⟩
  · intro id x hg
    exact (hgt hg).1
  · intro gl cs hg
    obtain ⟨k1, us, k2, k3⟩ := h.glob gl cs hg
    have hle2 : W.Le (W'.uptoB σ.nid) := ⟨hle.w0, hle.sealed, hle.size, fun i b hb => by
      show (if i < σ.nid then W'.blkOf i else none) = some b
      rw [if_pos (h.there i b hb).2.2.1]; exact hle.blkOf i b hb, hle.tok, hle.osealed, hle.osize⟩
    exact ⟨k1, us, k2.mono hle2, k3.mono hle2⟩

/-- A world in which nothing is known but what is there for ever. -/
def KW.fresh (W : KW) (w : World) : KW := ⟨w, W.sealed, W.size, fun _ => none, fun _ => none⟩

theorem R.fresh {W : KW} {σ : St} {w : World} (h : R E W σ w) (hg : ∀ g cs, E.glob g = some cs → closes cs = some cs) : R E (W.fresh w) .zero w where
  below := .refl _ _
  sealed := h.sealed
  size := h.size
  sizelt := h.sizelt
  there id b hb := by simp [KW.fresh] at hb
  cells id cs hc := by simp [St.get, St.zero, Heap.get] at hc
  iter id s p hc := by simp [St.get, St.zero, Heap.get] at hc
  inj i j b x y hi := by simp [KW.fresh] at hi
  tok t b o ht := by simp [KW.fresh] at ht
  live t b o hl := by simp [St.zero] at hl
  tinj t t' b o o' hl := by simp [St.zero] at hl
  ltok t hl := by simp [St.zero] at hl
  lid id x hx := by simp [St.get, St.zero, Heap.get] at hx
  glob g cs hc := by
    obtain ⟨k1, us, k2, k3⟩ := h.glob g cs hc
    exact ⟨k1, us, (closes_vr (W := W) (W' := W.fresh w) (fun _ _ _ h => h) (hg g cs hc) k2).1, k3⟩
  nodup := List.nodup_nil

/-- Behind a call that began afresh. -/
theorem R.back {W W' : KW} {σ σ' : St} {w w' : World} (h : R E W σ w) (h' : R E W' σ' w') (hle : (W.fresh w).Le W') :
    W.Le ⟨W.w0, W'.sealed, W'.size, W.blkOf, W.tok⟩ ∧ R E ⟨W.w0, W'.sealed, W'.size, W.blkOf, W.tok⟩ σ w' := by
  have hw0 : W'.w0 = w := hle.w0
  have hb0 : W.w0.heap.size ≤ w.heap.size := h.below.size
  have hbel : Below w.heap.size w w' := by have := h'.below; rw [hw0] at this; exact this
  have hos : ∀ b i, b < w.heap.size → W'.sealed b i = W.sealed b i := hle.osealed
  have hoz : ∀ b, b < w.heap.size → W'.size b = W.size b := hle.osize
  have hle2 : W.Le ⟨W.w0, W'.sealed, W'.size, W.blkOf, W.tok⟩ := ⟨rfl, hle.sealed, hle.size, fun _ _ h => h, fun _ _ h => h, fun b i hb => hos b i (by omega), fun b hb => hoz b (by omega)⟩
  have hcell : ∀ b i, b < w.heap.size → w'.cell? ⟨b, i, none⟩ = w.cell? ⟨b, i, none⟩ := fun b i hb => by simp only [World.cell?, hbel.block b hb]
  have hfr : ∀ b i, b < w.heap.size → w'.frozen? ⟨b, i, none⟩ = w.frozen? ⟨b, i, none⟩ := fun b i hb => by simp only [World.frozen?, hbel.block b hb]
  refine ⟨hle2, ⟨hbel.os.trans h.below.os, hbel.tape.trans h.below.tape, hbel.output.trans h.below.output, Nat.le_trans h.below.size hbel.size, fun k hk => (hbel.block k (Nat.lt_of_lt_of_le hk hb0)).trans (h.below.block k hk)⟩, h'.sealed, h'.size, h'.sizelt, ?_, ?_, ?_, h.inj, ?_, ?_, h.tinj, h.ltok, h.lid, ?_, h.nodup⟩
  · intro id b hb
    obtain ⟨k1, k2, k3, k4⟩ := h.there id b hb
    exact ⟨k1, Nat.lt_of_lt_of_le k2 hbel.size, k3, fun i => (hos b i k2).trans (k4 i)⟩
  · intro id cs hg
    obtain ⟨b, hb, k1, k2⟩ := h.cells id cs hg
    have hlt := (h.there id b hb).2.1
    refine ⟨b, hb, k1, fun i v hv => ?_⟩
    obtain ⟨f, u, hu, hr⟩ := k2 i v hv
    exact ⟨by rw [hfr b i hlt]; exact f, u, by rw [hcell b i hlt]; exact hu, hr.mono hle2⟩
  · intro id s p hg
    obtain ⟨b, hb, k⟩ := h.iter id s p hg
    exact ⟨b, hb, by rw [hbel.block b (h.there id b hb).2.1]; exact k⟩
  · intro t b o ht
    obtain ⟨k1, k2, k3, k4⟩ := h.tok t b o ht
    exact ⟨k1, Nat.lt_of_lt_of_le k2 hbel.size, k3, k4⟩
  · intro t b o hl ht n hn i hi hin
    have hlt := (h.tok t b o ht).2.1
    change W'.size b = some n at hn
    rw [hoz b hlt] at hn
    obtain ⟨k1, k2⟩ := h.live t b o hl ht n hn i hi hin
    exact ⟨(hos b i hlt).trans k1, by rw [hfr b i hlt]; exact k2⟩
  · intro g cs hg
    obtain ⟨k1, us, k2, k3⟩ := h.glob g cs hg
    exact ⟨k1, us, k2.mono hle2, k3.mono hle2⟩

theorem R.floor {W : KW} {σ : St} {w : World} (h : R E W σ w) (a b : Nat) : R E W { σ with fid := a, ft := b } w :=
  ⟨h.below, h.sealed, h.size, h.sizelt, h.there, h.cells, h.iter, h.inj, h.tok, h.live, h.tinj, h.ltok, h.lid, h.glob, h.nodup⟩

theorem lk_args : ∀ (vs : List AV) (i t : Nat) (v : AV), lk (argsT i vs) t = some v → ∃ k, t = i + k ∧ vs[k]? = some v
  | [], _, _, _, h => by simp [argsT, lk] at h
  | x :: vs, i, t, v, h => by
    simp only [argsT, lk] at h
    by_cases e : i = t
    · rw [if_pos e] at h; injection h with h; subst h; exact ⟨0, by omega, rfl⟩
    · rw [if_neg e] at h
      obtain ⟨k, h1, h2⟩ := lk_args vs (i + 1) t v h
      exact ⟨k + 1, by omega, by simpa using h2⟩

/-- The program's functions are what the abstract ones say. -/
structure EnvOk (E : Env) (P : Program) : Prop where
  mix : P.follows .mixedOrders = true
  fn : ∀ f fn, E.fn f = some fn → ∃ fu, P.funcs[f]? = some fu ∧ okFun P E.pf fn fu = true
  glob : ∀ g cs, E.glob g = some cs → closes cs = some cs
  prim : ∀ f g, E.prim f = some g → ∀ vs v, g vs = some v → ∀ W σ w us, R E W σ w → VRs W vs us → InvOk P f us.toArray w (Ret E W σ v)

/-- What a result variable is. -/
def resSem (tmps : Array Value) : ResultVar → Sem Value
  | .tmp t => pure (tmps.getD t undef)
  | .cell x t => do loadVar t (← asAddr (tmps.getD x undef))

theorem results_eq (fu : Func) (tmps : Array Value) : results fu tmps = (do
    let vs ← fu.results.mapM (resSem tmps)
    pure (if h : vs.size = 1 then vs[0] else .tuple vs)) := by
  unfold results
  congr 1

theorem res_ok {N : Nat} {W : KW} {e : M} {a : Act} {w : World} (hM : MR E N W e a w) : ∀ {rs : List IRes} {ms : List ResultVar} {vs : List AV}, okRes P rs ms = true → ressA E e rs = some vs →
    ∃ us, VRs W vs us ∧ (ms.mapM (resSem a.tmps)).run P w = .ok us w
  | [], [], vs, _, h => by simp [ressA] at h; subst h; exact ⟨[], .nil, by simp⟩
  | r :: rs, m :: ms, vs, hok, h => by
    simp only [ressA] at h
    cases h1 : resA E e r with
    | none => simp [h1] at h
    | some v =>
      cases h2 : ressA E e rs with
      | none => simp [h1, h2] at h
      | some vs' =>
        simp [h1, h2] at h; subst h
        cases r with
        | tmp t =>
          cases m <;> simp only [okRes, Bool.false_eq_true, Bool.and_eq_true, beq_iff_eq] at hok
          obtain ⟨rfl, hok⟩ := hok
          obtain ⟨us, k1, k2⟩ := res_ok hM hok h2
          simp only [resA] at h1
          obtain ⟨u, hu, hr⟩ := hM.t _ _ h1
          refine ⟨u :: us, .cons hr k1, ?_⟩
          simp [k2, hu, resSem]
        | cell x n =>
          cases m <;> simp only [okRes, Bool.false_eq_true, Bool.and_eq_true, beq_iff_eq] at hok
          rename_i y t
          obtain ⟨⟨rfl, hag⟩, hok⟩ := hok
          obtain ⟨us, k1, k2⟩ := res_ok hM hok h2
          simp only [resA] at h1
          cases hx : lk e.tm x with
          | none => simp [hx] at h1
          | some p =>
            simp only [hx, loadA] at h1
            obtain ⟨pu, hpu, hpr⟩ := hM.t _ _ hx
            cases hc : cellsAt E e.st p with
            | none => simp [hc] at h1
            | some q =>
              obtain ⟨cs, off⟩ := q
              simp only [hc] at h1
              obtain ⟨b, o, hu, hone, hall⟩ := cells_at hM.r hpr hc
              obtain ⟨u, hrun, hvr⟩ := cut_vr (P := P) hone h1 hall hag
              refine ⟨u :: us, .cons hvr k1, ?_⟩
              subst hu
              simp [k2, hpu, asAddr, hrun, resSem]
  | [], _ :: _, _, hok, _ => by simp [okRes] at hok
  | r :: _, [], _, hok, _ => by cases r <;> simp [okRes] at hok

theorem body_ok (hE : EnvOk E P) (hcf : CfOk E P cf) (hp : CfPure E.pf cf) {n : Nat} {f : FuncId} {fn : IFun} {fu : Func} (hfu : P.funcs[f]? = some fu) (hok : okFun P E.pf fn fu = true)
    {vs : List AV} {σ σ' : St} {v : AV} (hev : evBody E cf n fn vs σ = some (v, σ')) {W : KW} {w : World} {us : List Value} (hR : R E W σ w) (hvs : VRs W vs us) :
    fu.name ≠ "runtime.NumGoroutine" ∧ fu.body.isNone = false ∧ Calls P f us.toArray w (Ret E W σ' v) := by
  simp only [okFun, Bool.and_eq_true] at hok
  obtain ⟨⟨⟨hname, hres⟩, hna⟩, hbody⟩ := hok
  cases hb : fu.body with
  | none => simp [hb] at hbody
  | some c =>
    simp only [hb] at hbody
    refine ⟨by simpa using hname, by simp, ?_⟩
    unfold evBody at hev
    by_cases hargs : vs.length = fn.nargs
    · rw [if_pos hargs] at hev
      have hul := hvs.length
      have hna' : fn.nargs ≤ fu.ntmps := by simpa using hna
      have hM : MR E fu.ntmps W ⟨argsT 0 vs, σ⟩ { tmps := us.toArray ++ Array.replicate (fu.ntmps - us.toArray.size) undef, defers := [] } w := by
        refine ⟨hR, ?_, by simp; omega, rfl⟩
        intro t x hx
        obtain ⟨k, rfl, hk⟩ := lk_args vs 0 t x hx
        obtain ⟨u, hu, hr⟩ := hvs.get k hk
        refine ⟨u, ?_, hr⟩
        have hlt : k < us.length := by
          rcases Nat.lt_or_ge k us.length with h | h
          · exact h
          · simp [List.getElem?_eq_none h] at hu
        rw [Nat.zero_add, Array.getElem?_append_left (by simpa using hlt)]
        simpa using hu
      have fin : ∀ (ex : Ex) (e' : M), (ex = .normal ∨ ex = .ret) → evCode E cf n fn.body ⟨argsT 0 vs, σ⟩ = some (ex, e') → (∃ rs, ressA E e' fn.res = some rs ∧ v = oneOr rs ∧ σ' = e'.st) → Calls P f us.toArray w (Ret E W σ' v) := by
        intro ex e' hex hcode ⟨rs, hrs, hv, hσ⟩
        refine calls_of_wp hfu hb (code_wp hE.mix hcf hp n fn.body c W _ e' ex _ w _ hbody hcode hM fun W' a' w' hle hM' => ?_)
        obtain ⟨us', k1, k2⟩ := res_ok (P := P) hM' hres hrs
        have hrun : ∃ u, (results fu a'.tmps).run P w' = .ok u w' ∧ VR W' v u := by
          refine ⟨if h : us'.toArray.size = 1 then us'.toArray[0] else .tuple us'.toArray, ?_, ?_⟩
          · rw [results_eq, Array.mapM_eq_mapM_toList]
            simp only [Sem.run_bind, Sem.run_map, k2, Result.andThen_ok]
            rfl
          · rw [hv]
            have hul' := k1.length
            cases k1 with
            | nil => simp [oneOr]; exact .tuple .nil
            | cons hx hxs =>
              cases hxs with
              | nil => simpa [oneOr] using hx
              | cons hy hys =>
                simp only [oneOr]
                rw [dif_neg (by simp)]
                exact .tuple (.cons hx (.cons hy hys))
        obtain ⟨u, hu1, hu2⟩ := hrun
        have hpost : bodyPost P fu (Ret E W σ' v) .normal a' w' := ⟨hM'.d, u, hu1, W', u, hle, hσ ▸ hM'.r, rfl, hu2⟩
        rcases hex with rfl | rfl
        · exact hpost
        · exact hpost
      split at hev
      · rename_i e' hcode
        split at hev
        · rename_i rs hrs
          injection hev with hev; injection hev with h1 h2
          exact fin .normal e' (.inl rfl) hcode ⟨rs, hrs, h1.symm, h2.symm⟩
        · simp at hev
      · rename_i e' hcode
        split at hev
        · rename_i rs hrs
          injection hev with hev; injection hev with h1 h2
          exact fin .ret e' (.inr rfl) hcode ⟨rs, hrs, h1.symm, h2.symm⟩
        · simp at hev
      · simp at hev
    · rw [if_neg hargs] at hev; simp at hev

theorem pure_call (n : Nat) : CfPure E.pf (evCall E n) := by
  intro f vs σ v σ' hpf h
  cases n with
  | zero => simp [evCall] at h
  | succ n =>
    simp only [evCall] at h
    cases hg : E.prim f with
    | some g => simp only [hg] at h; exact (mapS h).2.symm
    | none =>
      simp only [hg] at h
      cases hf : E.fn f with
      | none => simp [hf] at h
      | some fn =>
        simp [Env.pf, hf, hg] at hpf h
        unfold evFun at h
        unfold IFun.pure at hpf
        cases hm : fn.mode <;> simp only [hm, Bool.false_eq_true] at hpf h
        · split at h
          · exact (mapS h).2.symm
          · simp at h
        · split at h
          · split at h
            · exact (mapS h).2.symm
            · simp at h
          · simp at h

theorem inv_of_calls {f : FuncId} {fu : Func} (hfu : P.funcs[f]? = some fu) (hname : fu.name ≠ "runtime.NumGoroutine") (hbody : fu.body.isNone = false) {args : Array Value} {w : World} {Q : Ending → World → Prop} (h : Calls P f args w Q) :
    InvOk P f args w Q := by
  unfold InvOk
  have : (callFunc f args).run P w = .ok (.enter f args) w := by
    cases hb : fu.body with
    | none => simp [hb] at hbody
    | some c => simp [callFunc, hfu, hname, hb]
  rw [this]; exact h

/-- Every call that comes to something abstractly, comes to it. -/
theorem call_ok (hE : EnvOk E P) : ∀ n, CfOk E P (evCall E n)
  | 0 => by intro f vs σ v σ' h; simp [evCall] at h
  | n + 1 => by
    intro f vs σ v σ' h W w us hR hvs
    simp only [evCall] at h
    cases hg : E.prim f with
    | some g =>
      simp only [hg] at h
      obtain ⟨h1, rfl⟩ := mapS h
      exact hE.prim f g hg vs v h1 W _ w us hR hvs
    | none =>
    simp only [hg] at h
    cases hf : E.fn f with
    | none => simp [hf] at h
    | some fn =>
      simp only [hf] at h
      obtain ⟨fu, hfu, hok⟩ := hE.fn f fn hf
      unfold evFun at h
      split at h
      · obtain ⟨h1, h2, h3⟩ := body_ok hE (call_ok hE n) (pure_call n) hfu hok h hR hvs
        exact inv_of_calls hfu h1 h2 h3
      · split at h
        · rename_i v1 σ1 hb
          split at h
          · rename_i hp hhp
            split at h
            · rename_i hlo
              injection h with h; injection h with h1 h2; subst h1; subst h2
              obtain ⟨h1, h2, h3⟩ := body_ok hE (call_ok hE n) (pure_call n) hfu hok hb hR hvs
              refine inv_of_calls hfu h1 h2 (h3.mono fun e w' he => ?_)
              obtain ⟨W', u, hle, hR', rfl, hvr⟩ := he
              obtain ⟨k1, k2⟩ := hR.tidy hR' hle hhp
              exact ⟨_, u, k1, k2, rfl, low_vr hlo hvr⟩
            · simp at h
          · simp at h
        · simp at h
      · split at h
        · rename_i v1 σ1 hb
          obtain ⟨hs, rfl⟩ := mapS h
          obtain ⟨h1, h2, h3⟩ := body_ok hE (call_ok hE n) (pure_call n) hfu hok hb (hR.floor _ _) hvs
          refine inv_of_calls hfu h1 h2 (h3.mono fun e w' he => ?_)
          obtain ⟨W', u, hle, hR', rfl, hvr⟩ := he
          have hfl := fl_body (fl_call n) (σ := { σ with fid := σ.nid, ft := σ.nt }) ⟨Nat.le_refl _, Nat.le_refl _⟩ hb
          obtain ⟨k1, k2⟩ := hR.restore hR' hle (fun id hi => hfl.get id hi) (fun t ht hl => hfl.live t ht hl)
          exact ⟨_, u, k1, k2, rfl, (strip_vr hs hvr).1⟩
        · simp at h
      · split at h
        · rename_i args' hargs
          split at h
          · rename_i v1 σ1 hb
            obtain ⟨hs, rfl⟩ := mapS h
            have hvs' := (closes_vr (W := W) (W' := W.fresh w) (fun _ _ _ h => h) hargs hvs).1
            obtain ⟨h1, h2, h3⟩ := body_ok hE (call_ok hE n) (pure_call n) hfu hok hb (hR.fresh hE.glob) hvs'
            refine inv_of_calls hfu h1 h2 (h3.mono fun e w' he => ?_)
            obtain ⟨W', u, hle, hR', rfl, hvr⟩ := he
            obtain ⟨k1, k2⟩ := hR.back hR' hle
            exact ⟨_, u, k1, k2, rfl, (close_vr (W := W') (W' := ⟨W.w0, W'.sealed, W'.size, W.blkOf, W.tok⟩) (fun _ _ _ h => h) hs hvr).1⟩
          · simp at h
        · simp at h

/-- What the abstract call comes to, the model's does. -/
theorem calls_of_ev (hE : EnvOk E P) {n : Nat} {f : FuncId} {vs : List AV} {σ σ' : St} {v : AV} (hp : E.prim f = none) (h : evCall E n f vs σ = some (v, σ')) {W : KW} {w : World} {us : List Value} (hR : R E W σ w) (hvs : VRs W vs us) :
    Calls P f us.toArray w (Ret E W σ' v) := by
  have := call_ok hE n f vs σ v σ' h W w us hR hvs
  cases n with
  | zero => simp [evCall] at h
  | succ n =>
    simp only [evCall, hp] at h
    cases hf : E.fn f with
    | none => simp [hf] at h
    | some fn =>
      obtain ⟨fu, hfu, hok⟩ := hE.fn f fn hf
      simp only [okFun, Bool.and_eq_true] at hok
      obtain ⟨⟨⟨hname, _⟩, _⟩, hbody⟩ := hok
      cases hb : fu.body with
      | none => simp [hb] at hbody
      | some c =>
        unfold InvOk at this
        have hrun : (callFunc f us.toArray).run P w = .ok (.enter f us.toArray) w := by
          simp at hname
          simp [callFunc, hfu, hname, hb]
        rw [hrun] at this; exact this

end
end Go.Pv
