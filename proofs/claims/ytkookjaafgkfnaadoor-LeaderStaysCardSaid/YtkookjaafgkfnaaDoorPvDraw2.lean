import Derived.Test.YtkookjaafgkfnaaDoorPvDraw
namespace Go.Pv
set_option linter.all false
open Go.RowKit

/-! ### What is ahead of what -/

theorem fold_bit (acc : List Nat) (i : Nat) : ∀ (es : List Edge) (s : Nat), (es.foldl (fun s e => if Region.binds .any e then s ||| 2 ^ e.on ||| acc.getD e.on 0 else s) s).testBit i = true →
    s.testBit i = true ∨ ∃ e ∈ es, Region.binds .any e = true ∧ (e.on = i ∨ (acc.getD e.on 0).testBit i = true)
  | [], s, h => .inl h
  | e :: es, s, h => by
    simp only [List.foldl_cons] at h
    rcases fold_bit acc i es _ h with h | ⟨e', he, h1, h2⟩
    · by_cases hb : Region.binds .any e = true
      · rw [if_pos hb] at h
        simp only [Nat.testBit_or, Nat.testBit_two_pow, Bool.or_eq_true, decide_eq_true_eq] at h
        rcases h with (h | h) | h
        · exact .inl h
        · exact .inr ⟨e, by simp, hb, .inl h⟩
        · exact .inr ⟨e, by simp, hb, .inr h⟩
      · rw [if_neg hb] at h; exact .inl h
    · exact .inr ⟨e', List.mem_cons_of_mem _ he, h1, h2⟩

theorem befs_keep : ∀ (os : List Oper) (acc : List Nat) (k : Nat), k < acc.length → (befs os acc)[k]? = acc[k]?
  | [], _, _, _ => rfl
  | o :: os, acc, k, h => by
    simp only [befs]
    rw [befs_keep os _ k (by simp; omega), List.getElem?_append_left h]

theorem befs_len : ∀ (os : List Oper) (acc : List Nat), (befs os acc).length = acc.length + os.length
  | [], _ => rfl
  | o :: os, acc => by simp only [befs]; rw [befs_len os]; simp; omega

theorem befs_bit : ∀ (os : List Oper) (acc : List Nat) (j i : Nat) (o : Oper), os[j]? = some o → ((befs os acc).getD (acc.length + j) 0).testBit i = true →
    ∃ e ∈ o.after.toList, Region.binds .any e = true ∧ (e.on = i ∨ (e.on < acc.length + j ∧ ((befs os acc).getD e.on 0).testBit i = true))
  | [], _, _, _, _, h, _ => by simp at h
  | o0 :: os, acc, j, i, o, h, hb => by
    simp only [befs] at hb ⊢
    cases j with
    | zero =>
      simp at h; subst h
      have hk := befs_keep os (acc ++ [o0.after.toList.foldl (fun s e => if Region.binds .any e then s ||| 2 ^ e.on ||| acc.getD e.on 0 else s) 0]) acc.length (by simp)
      rw [List.getElem?_append_right (Nat.le_refl _)] at hk
      simp only [Nat.sub_self, List.getElem?_cons_zero] at hk
      rw [Nat.add_zero, List.getD_eq_getElem?_getD, hk, Option.getD_some] at hb
      rcases fold_bit acc i _ _ hb with h | ⟨e, he, h1, h2⟩
      · simp at h
      · refine ⟨e, he, h1, ?_⟩
        rcases h2 with h2 | h2
        · exact .inl h2
        · right
          have hlt : e.on < acc.length := by
            rcases Nat.lt_or_ge e.on acc.length with h | h
            · exact h
            · rw [List.getD_eq_getElem?_getD, List.getElem?_eq_none h] at h2; simp at h2
          refine ⟨by omega, ?_⟩
          rw [List.getD_eq_getElem?_getD, befs_keep os _ e.on (by simp; omega), List.getElem?_append_left hlt, ← List.getD_eq_getElem?_getD]
          exact h2
    | succ j =>
      simp at h
      have := befs_bit os (acc ++ [o0.after.toList.foldl (fun s e => if Region.binds .any e then s ||| 2 ^ e.on ||| acc.getD e.on 0 else s) 0]) j i o h (by
        rw [List.length_append]; simp only [List.length_cons, List.length_nil]
        rw [show acc.length + (0 + 1) + j = acc.length + (j + 1) by omega]; exact hb)
      obtain ⟨e, he, h1, h2⟩ := this
      refine ⟨e, he, h1, ?_⟩
      rcases h2 with h2 | ⟨h2, h3⟩
      · exact .inl h2
      · exact .inr ⟨by simp at h2; omega, h3⟩

/-- Operations that are carried out only behind those that they hang on. -/
def Closed (os : Array Oper) (S : Nat → Bool) : Prop := ∀ k o, S k = true → os[k]? = some o → ∀ e ∈ o.after, Region.binds .any e = true → S e.on = true

theorem bef_mem {os : Array Oper} {S : Nat → Bool} (hS : Closed os S) : ∀ (j : Nat) (o : Oper), os[j]? = some o → (∀ e ∈ o.after, Region.binds .any e = true → S e.on = true) →
    ∀ i, ((befs os.toList []).getD j 0).testBit i = true → S i = true := by
  intro j
  induction j using Nat.strongRecOn with
  | _ j ih =>
    intro o ho hall i hb
    have hb' : ((befs os.toList []).getD (([] : List Nat).length + j) 0).testBit i = true := by simpa using hb
    obtain ⟨e, he, h1, h2⟩ := befs_bit os.toList [] j i o (by simpa using ho) hb'
    have hSe := hall e (by simpa using he) h1
    rcases h2 with h2 | ⟨h2, h3⟩
    · rw [← h2]; exact hSe
    · simp at h2
      have hlt : e.on < os.size := by
        have := (Array.getElem?_eq_some_iff.1 ho).1
        omega
      exact ih e.on h2 os[e.on] (Array.getElem?_eq_getElem hlt) (hS e.on _ hSe (Array.getElem?_eq_getElem hlt)) i h3

section
variable {E : Env} {P : Program} {cf : CallF}

/-- What a temporary holds when the operations of S have been carried out. -/
structure DrawInv (E : Env) (N : Nat) (pf : FuncId → Bool) (ios : List IOper) (os : Array Oper) (e : M) (l : List Step) (e' : M) (W0 : KW) (S : Nat → Bool) (a : Act) (w : World) : Prop where
  closed : Closed os S
  st : ∃ W, W0.Le W ∧ (∃ m, m ≤ ios.length ∧ (∀ k io, ios[k]? = some io → cls pf io.op = .eff → (S k = true ↔ k < m)) ∧ R E W (mAt l e' m).st w) ∧
    (∀ k io t, ios[k]? = some io → io.dst = some t → S k = true → ∃ u, a.tmps[t]? = some u ∧ VR W (resOf l k) u) ∧
    (∀ t v, lk e.tm t = some v → (∀ k io, ios[k]? = some io → io.dst = some t → S k = false) → ∃ u, a.tmps[t]? = some u ∧ VR W v u)
  n : a.tmps.size = N
  d : a.defers = []

theorem okOpers_at {N : Nat} {os : Array Oper} : ∀ {ios : List IOper} {l : List Oper}, okOpers P N os ios l = true → ios.length = l.length ∧ ∀ (i : Nat) (io : IOper) (o : Oper), ios[i]? = some io → l[i]? = some o → okOper P N os io o = true
  | [], [], _ => ⟨rfl, fun i io o h => by simp at h⟩
  | x :: xs, y :: ys, h => by
    simp only [okOpers, Bool.and_eq_true] at h
    obtain ⟨h1, h2⟩ := okOpers_at h.2
    refine ⟨by simp [h1], fun i io o hi ho => ?_⟩
    cases i with
    | zero => simp at hi ho; subst hi; subst ho; exact h.1
    | succ i => simp at hi ho; exact h2 i io o hi ho
  | [], _ :: _, h => by simp [okOpers] at h
  | _ :: _, [], h => by simp [okOpers] at h

theorem lk_keep {tm : List (Nat × AV)} {t : Nat} : ∀ {ts : List Nat}, t ∈ ts → lk (keepT tm ts) t = lk tm t
  | [], h => by simp at h
  | x :: ts, h => by
    simp only [keepT]
    by_cases e : x = t
    · subst e
      cases hx : lk tm x with
      | some v => simp [lk]
      | none =>
        by_cases hm : x ∈ ts
        · simp only; rw [lk_keep hm, hx]
        · simp only
          have : ∀ (l : List Nat), x ∉ l → lk (keepT tm l) x = none := by
            intro l
            induction l with
            | nil => intro _; rfl
            | cons y l ih =>
              intro hn
              simp only [List.mem_cons, not_or] at hn
              simp only [keepT]
              cases lk tm y with
              | none => exact ih hn.2
              | some z => simp only [lk]; rw [if_neg (fun e => hn.1 e.symm)]; exact ih hn.2
          exact this ts hm
    · have hm : t ∈ ts := by
        rcases List.mem_cons.1 h with h | h
        · exact absurd h.symm e
        · exact h
      cases hx : lk tm x with
      | some v => simp only [lk]; rw [if_neg e]; exact lk_keep hm
      | none => exact lk_keep hm

theorem lk_keep_some {tm : List (Nat × AV)} {t : Nat} {v : AV} : ∀ {ts : List Nat}, lk (keepT tm ts) t = some v → t ∈ ts ∧ lk tm t = some v
  | [], h => by simp [keepT, lk] at h
  | x :: ts, h => by
    simp only [keepT] at h
    cases hx : lk tm x with
    | none => rw [hx] at h; obtain ⟨h1, h2⟩ := lk_keep_some h; exact ⟨List.mem_cons_of_mem _ h1, h2⟩
    | some y =>
      rw [hx] at h
      simp only [lk] at h
      by_cases e : x = t
      · subst e; rw [if_pos rfl] at h; exact ⟨by simp, by rw [hx]; exact h⟩
      · rw [if_neg e] at h; obtain ⟨h1, h2⟩ := lk_keep_some h; exact ⟨List.mem_cons_of_mem _ h1, h2⟩

mutual
theorem beq_sound : ∀ (v u : AV), AV.beq v u = true → v = u
  | .bool a, u, h => by cases u <;> simp [AV.beq] at h; rw [h]
  | .int k n, u, h => by cases u <;> simp [AV.beq] at h; rw [h.1, h.2]
  | .float k n, u, h => by cases u <;> simp [AV.beq] at h; rw [h.1, h.2]
  | .str l, u, h => by cases u <;> simp [AV.beq] at h; rw [h]
  | .nilp, u, h => by cases u <;> simp [AV.beq] at h; rfl
  | .blk _ _, u, h => by cases u <;> simp [AV.beq] at h; rw [h.1, h.2]
  | .elem cs _, u, h => by cases u <;> simp [AV.beq] at h; rw [beqs_sound _ _ h.1, h.2]
  | .glob _ _, u, h => by cases u <;> simp [AV.beq] at h; rw [h.1, h.2]
  | .nils, u, h => by cases u <;> simp [AV.beq] at h; rfl
  | .list _ _ cs, u, h => by cases u <;> simp [AV.beq] at h; rw [beqs_sound _ _ h.2, h.1.1, h.1.2]
  | .hs _ _ _ _, u, h => by cases u <;> simp [AV.beq] at h; rw [h.1.1.1, h.1.1.2, h.1.2, h.2]
  | .agg cs, u, h => by cases u <;> simp [AV.beq] at h; rw [beqs_sound _ _ h]
  | .tuple cs, u, h => by cases u <;> simp [AV.beq] at h; rw [beqs_sound _ _ h]
  | .iface _ v, u, h => by cases u <;> simp [AV.beq] at h; rw [beq_sound _ _ h.2, h.1]
  | .niliface, u, h => by cases u <;> simp [AV.beq] at h; rfl
  | .func _ a b, u, h => by cases u <;> simp [AV.beq] at h; rw [beqs_sound _ _ h.1.2, beqs_sound _ _ h.2, h.1.1]
  | .nilfunc, u, h => by cases u <;> simp [AV.beq] at h; rfl
theorem beqs_sound : ∀ (l m : List AV), AV.beqs l m = true → l = m
  | [], [], _ => rfl
  | a :: l, b :: m, h => by simp [AV.beqs] at h; rw [beq_sound _ _ h.1, beqs_sound _ _ h.2]
  | [], _ :: _, h => by simp [AV.beqs] at h
  | _ :: _, [], h => by simp [AV.beqs] at h
end

/-- The largest number below one that has a property. -/
theorem last_below (p : Nat → Prop) [DecidablePred p] : ∀ (m : Nat), (∃ k, k < m ∧ p k) → ∃ k, k < m ∧ p k ∧ ∀ i, k < i → i < m → ¬ p i
  | 0, h => by obtain ⟨k, hk, _⟩ := h; omega
  | m + 1, h => by
    by_cases hp : p m
    · exact ⟨m, by omega, hp, fun i h1 h2 => by omega⟩
    · obtain ⟨k, hk, hpk⟩ := h
      have : k < m := by
        rcases Nat.lt_or_ge k m with h | h
        · exact h
        · have : k = m := by omega
          subst this; exact absurd hpk hp
      obtain ⟨q, h1, h2, h3⟩ := last_below p m ⟨k, this, hpk⟩
      exact ⟨q, by omega, h2, fun i hi hi2 => by
        rcases Nat.lt_or_ge i m with h | h
        · exact h3 i hi h
        · have : i = m := by omega
          subst this; exact hp⟩

theorem first_from (p : Nat → Prop) [DecidablePred p] (m : Nat) : ∀ (d : Nat), (∃ k, m ≤ k ∧ k < m + d ∧ p k) → ∃ k, m ≤ k ∧ k < m + d ∧ p k ∧ ∀ i, m ≤ i → i < k → ¬ p i
  | 0, h => by obtain ⟨k, h1, h2, _⟩ := h; omega
  | d + 1, h => by
    by_cases hex : ∃ k, m ≤ k ∧ k < m + d ∧ p k
    · obtain ⟨k, h1, h2, h3, h4⟩ := first_from p m d hex
      exact ⟨k, h1, by omega, h3, h4⟩
    · obtain ⟨k, h1, h2, h3⟩ := h
      refine ⟨k, h1, h2, h3, fun i hi hik hpi => hex ⟨i, hi, ?_, hpi⟩⟩
      omega

theorem draw_step {pf : FuncId → Bool} (hcf : CfOk E P cf) (hp : CfPure pf cf) {N : Nat} {ios : List IOper} {os : Array Oper} {pairs : List (Nat × Nat)} {e e' : M} {l : List Step} {W0 : KW}
    (hok : okOpers P N os ios os.toList = true) (hord : okOrder pf pairs ios os = true) (htr : evTrace E cf ios e = some (l, e')) (hre : pairs.all (recheck E cf ios l e') = true)
    {S : Nat → Bool} {a : Act} {w : World} (hI : DrawInv E N pf ios os e l e' W0 S a w) {j : Nat} {o : Oper} (ho : os[j]? = some o) (hSj : S j = false)
    (hready : ∀ e ∈ o.after, Region.binds .any e = true → S e.on = true) {Q : Exit → Act → World → Prop} {K : Act → World → Prop}
    (hK : ∀ a' w', DrawInv E N pf ios os e l e' W0 (fun k => if k = j then true else S k) a' w' → K a' w') : wpOp P os Q j K a w := by
  obtain ⟨hlen, hat⟩ := okOpers_at hok
  simp only [Array.length_toList] at hlen
  simp only [okOrder, Bool.and_eq_true] at hord
  obtain ⟨⟨⟨honce, hedge⟩, hpairs⟩, hcls⟩ := hord
  have hj : j < os.size := (Array.getElem?_eq_some_iff.1 ho).1
  obtain ⟨io, hio⟩ : ∃ io, ios[j]? = some io := ⟨ios[j], List.getElem?_eq_getElem (by omega)⟩
  have hoo := hat j io o hio (by simpa using ho)
  simp only [okOper, Bool.and_eq_true] at hoo
  obtain ⟨⟨⟨hop, hdst⟩, hdn⟩, hg⟩ := hoo
  have hdst : io.dst = o.dst := by simpa using hdst
  -- pairs
  have hpair : ∀ i k x y, i < k → ios[i]? = some x → ios[k]? = some y → ((befs os.toList []).getD k 0).testBit i = true ∨ okPair pf pairs i k x y = true := by
    intro i k x y hik hi hk
    have h1 := List.all_eq_true.1 hpairs (y, k) (by rw [List.mem_zipIdx_iff_getElem?]; simpa using hk)
    have h2 := List.all_eq_true.1 h1 (x, i) (by rw [List.mem_zipIdx_iff_getElem?]; simpa using hi)
    simp only [Bool.or_eq_true, Bool.not_eq_true', decide_eq_false_iff_not] at h2
    rcases h2 with (h2 | h2) | h2
    · exact absurd hik h2
    · exact .inl h2
    · exact .inr h2
  have hbefore : ∀ i, ((befs os.toList []).getD j 0).testBit i = true → S i = true := bef_mem hI.closed j o ho hready
  have hafter : ∀ k, k < os.size → S k = true → ((befs os.toList []).getD k 0).testBit j = true → False := by
    intro k hk hSk hb
    have hok : os[k]? = some os[k] := Array.getElem?_eq_getElem hk
    have := bef_mem hI.closed k _ hok (fun e he hb => hI.closed k _ hSk hok e he hb) j hb
    rw [hSj] at this; simp at this
  obtain ⟨hl1, hl2, hl3⟩ := trace_at htr
  obtain ⟨s, b, hs1, hs2, hs3, hs4⟩ := hl3 j io hio
  have hm : mAt l e' j = s.e := by simp [mAt, hs1]
  obtain ⟨W, hle, ⟨m, hmn, hmS, hR⟩, hwr, hin⟩ := hI.st
  -- the temporaries that it looks at
  have hT : TR W (keepT s.e.tm io.reads) a.tmps := by
    intro t v hv
    obtain ⟨hmem, hv⟩ := lk_keep_some hv
    by_cases hw : ∃ k x, k < j ∧ ios[k]? = some x ∧ x.dst = some t
    · obtain ⟨k, x, hkj, hkx, hxt⟩ := hw
      have hres := lk_res htr honce hkx hxt j hkj (by omega)
      rw [hm, hv] at hres
      injection hres with hres
      have hSk : S k = true := by
        rcases hpair k j x io hkj hkx hio with h | h
        · exact hbefore k h
        · simp only [okPair, Bool.and_eq_true, hxt] at h
          have := h.1.2.1
          simp at this
          exact absurd hmem this
      rw [hres]
      exact hwr k x t hkx hxt hSk
    · have hinit := lk_init htr (t := t) j (by omega) (fun k x hk hkx hxt => hw ⟨k, x, hk, hkx, hxt⟩)
      rw [hm, hv] at hinit
      refine hin t v hinit.symm (fun k x hkx hxt => ?_)
      rcases Nat.lt_trichotomy k j with h | h | h
      · exact absurd ⟨k, x, h, hkx, hxt⟩ hw
      · subst h; exact hSj
      · cases hSk : S k with
        | false => rfl
        | true =>
          exfalso
          rcases hpair j k io x h hio hkx with h2 | h2
          · have hks : k < os.size := by
              have := (List.getElem?_eq_some_iff.1 hkx).1
              omega
            exact hafter k hks hSk h2
          · simp only [okPair, Bool.and_eq_true, hxt] at h2
            have := h2.2
            simp at this
            exact this hmem
  have hgk : guardA (keepT s.e.tm io.reads) io.guard = some b := by
    cases hgd : io.guard with
    | none => rw [hgd] at hs2; simpa [guardA] using hs2
    | some p =>
      obtain ⟨t, want⟩ := p
      rw [hgd] at hs2
      simp only [guardA] at hs2 ⊢
      rw [lk_keep (by simp [IOper.reads, hgd])]
      exact hs2
  have hM : MR E N W ⟨keepT s.e.tm io.reads, (mAt l e' m).st⟩ a w := ⟨hR, hT, hI.n, hI.d⟩
  have hwant := guard_ok hM hg hgk
  -- the operations that change the state
  have heff : cls pf io.op = .eff → (mAt l e' m).st = (mAt l e' j).st ∧ ∀ k x, ios[k]? = some x → cls pf x.op = .eff → (S k = true ↔ k < j) := by
    intro hc
    have hiff : ∀ k x, ios[k]? = some x → cls pf x.op = .eff → (S k = true ↔ k < j) := by
      intro k x hk hx
      rcases Nat.lt_trichotomy k j with h | h | h
      · refine ⟨fun _ => h, fun _ => ?_⟩
        rcases hpair k j x io h hk hio with h2 | h2
        · exact hbefore k h2
        · simp [okPair, hx, hc] at h2
      · subst h; rw [hSj]; simp
      · refine ⟨fun hSk => ?_, fun hlt => by omega⟩
        rcases hpair j k io x h hio hk with h2 | h2
        · exact (hafter k (by have := (List.getElem?_eq_some_iff.1 hk).1; omega) hSk h2).elim
        · simp [okPair, hx, hc] at h2
    refine ⟨?_, hiff⟩
    have hmj : ∀ k x, ios[k]? = some x → cls pf x.op = .eff → (k < m ↔ k < j) := fun k x hk hx => (hmS k x hk hx).symm.trans (hiff k x hk hx)
    rcases Nat.le_total m j with h | h
    · exact (st_same hp htr m j h (by omega) (fun k x h1 h2 hk hx => by have := (hmj k x hk hx).2 h2; omega)).symm
    · exact st_same hp htr j m h hmn (fun k x h1 h2 hk hx => by have := (hmj k x hk hx).1 h2; omega)
  -- the new relation
  have hnew : ∀ (W' : KW) (w' : World) (v : AV) (u : Value) (m' : Nat), W.Le W' → m' ≤ ios.length → (∀ k x, ios[k]? = some x → cls pf x.op = .eff → ((if k = j then true else S k) = true ↔ k < m')) →
      R E W' (mAt l e' m').st w' → resOf l j = v → VR W' v u → K (a.put o.dst u) w' := by
    intro W' w' v u m' hle' hm' hS' hR' hres hvr
    refine hK _ _ ⟨?_, ⟨W', hle.trans hle', ⟨m', hm', hS', hR'⟩, ?_, ?_⟩, ?_, ?_⟩
    · intro k o' hk ho' ed hed hbd
      replace hk : (if k = j then true else S k) = true := hk
      show (if ed.on = j then true else S ed.on) = true
      by_cases hkj : k = j
      · subst hkj
        rw [ho] at ho'; injection ho' with ho'; subst ho'
        rw [hready ed hed hbd]; split <;> rfl
      · rw [if_neg hkj] at hk
        rw [hI.closed k o' hk ho' ed hed hbd]; split <;> rfl
    · intro k x t hkx hxt hk
      replace hk : (if k = j then true else S k) = true := hk
      by_cases hkj : k = j
      · subst hkj
        rw [hio] at hkx; injection hkx with hkx; subst hkx
        have hd : o.dst = some t := by rw [← hdst]; exact hxt
        have hlt : t < N := dst_lt hdn t hd
        refine ⟨u, ?_, by rw [hres]; exact hvr⟩
        rw [hd]
        simp [Act.put, hI.n, hlt]
      · rw [if_neg hkj] at hk
        obtain ⟨u', hu', hr'⟩ := hwr k x t hkx hxt hk
        refine ⟨u', ?_, hr'.mono hle'⟩
        have hne : o.dst ≠ some t := fun hd => hkj (once_spec honce hkx hio hxt (by rw [hdst]; exact hd))
        cases hod : o.dst with
        | none => exact hu'
        | some d =>
          have : d ≠ t := fun e => hne (by rw [hod, e])
          simp only [Act.put]
          rw [Array.getElem?_setIfInBounds_ne this]; exact hu'
    · intro t v' hv' hno
      obtain ⟨u', hu', hr'⟩ := hin t v' hv' (fun k x hkx hxt => by
        have : (if k = j then true else S k) = false := hno k x hkx hxt
        by_cases hkj : k = j
        · subst hkj; simp at this
        · rwa [if_neg hkj] at this)
      refine ⟨u', ?_, hr'.mono hle'⟩
      have hne : o.dst ≠ some t := fun hd => by
        have : (if j = j then true else S j) = false := hno j io hio (by rw [hdst]; exact hd)
        simp at this
      cases hod : o.dst with
      | none => exact hu'
      | some d =>
        have : d ≠ t := fun e => hne (by rw [hod, e])
        simp only [Act.put]
        rw [Array.getElem?_setIfInBounds_ne this]; exact hu'
    · cases o.dst <;> simp [Act.put, hI.n]
    · cases o.dst <;> simp [Act.put, hI.d]
  have hstay : cls pf io.op ≠ .eff → ∀ k x, ios[k]? = some x → cls pf x.op = .eff → ((if k = j then true else S k) = true ↔ k < m) := by
    intro hc k x hk hx
    by_cases hkj : k = j
    · subst hkj; rw [hio] at hk; injection hk with hk; subst hk; exact absurd hx hc
    · rw [if_neg hkj]; exact hmS k x hk hx
  have hgo : cls pf io.op = .eff → ∀ k x, ios[k]? = some x → cls pf x.op = .eff → ((if k = j then true else S k) = true ↔ k < j + 1) := by
    intro hc k x hk hx
    by_cases hkj : k = j
    · subst hkj; simp
    · rw [if_neg hkj, (heff hc).2 k x hk hx]; omega
  unfold wpOp
  rw [ho]
  simp only [hwant]
  cases b with
  | false =>
    simp only [Bool.false_eq_true, if_false]
    obtain ⟨h5, h6⟩ := hs3 rfl
    have hres : resOf l j = .undef := by simp [resOf, hs1, h5]
    by_cases hc : cls pf io.op = .eff
    · refine hnew W w .undef undef (j + 1) (.refl W) (by omega) (hgo hc) ?_ hres (.tuple (us := []) .nil)
      rw [h6, M.put_st, ← hm, ← (heff hc).1]; exact hR
    · exact hnew W w .undef undef m (.refl W) hmn (hstay hc) hR hres (.tuple (us := []) .nil)
  | true =>
    simp only [if_true]
    left
    obtain ⟨v, σ1, h5, h6, h7⟩ := hs4 rfl
    have hres : resOf l j = v := by simp [resOf, hs1, h5]
    have hcong : ∀ τ, evOper E cf (keepT s.e.tm io.reads) τ io.op = evOper E cf s.e.tm τ io.op := fun τ => evOper_congr (fun t ht => lk_keep (by simp [IOper.reads, ht]))
    cases hc : cls pf io.op with
    | pure =>
      have hev := (pure_any hc h6).2 (mAt l e' m).st
      rw [← hcong] at hev
      refine oper_wp hcf hR hT hop hev fun W' w' u h1 h2 h3 => ?_
      exact hnew W' w' v u m h1 hmn (hstay (by simp [hc])) h2 hres h3
    | eff =>
      have hev := h6
      rw [← hcong] at hev
      rw [(heff hc).1, hm] at hR
      refine oper_wp hcf hR hT hop hev fun W' w' u h1 h2 h3 => ?_
      refine hnew W' w' v u (j + 1) h1 (by omega) (hgo hc) ?_ hres h3
      rw [h7, M.put_st]; exact h2
    | read =>
      have hev : evOper E cf s.e.tm (mAt l e' m).st io.op = some (v, (mAt l e' m).st) := by
        have hrc : ∀ k, pairs.contains (j, k) = true → ∃ σ2, evOper E cf s.e.tm (stAt l e' (if j < k then k + 1 else k)) io.op = some (v, σ2) := by
          intro k hk
          have := List.all_eq_true.1 hre (j, k) (by simpa using hk)
          simp only [recheck, hio, hs1, h5] at this
          cases hq : evOper E cf s.e.tm (stAt l e' (if j < k then k + 1 else k)) io.op with
          | none => simp [hq] at this
          | some q =>
            obtain ⟨v2, σ2⟩ := q
            simp only [hq] at this
            have := beq_sound _ _ this
            subst this
            exact ⟨σ2, rfl⟩
        have hat' : ∀ k σ2, (mAt l e' m).st = stAt l e' (if j < k then k + 1 else k) → evOper E cf s.e.tm (stAt l e' (if j < k then k + 1 else k)) io.op = some (v, σ2) →
            evOper E cf s.e.tm (mAt l e' m).st io.op = some (v, (mAt l e' m).st) := by
          intro k σ2 h1 h2
          rw [← h1] at h2
          have := read_same hp hc h2
          subst this; exact h2
        have heffAt : ∀ k : Nat, Decidable (∃ x : IOper, ios[k]? = some x ∧ cls pf x.op = .eff) := fun k => by
          cases hk : ios[k]? with
          | none => exact isFalse (by rintro ⟨x, hx, _⟩; simp at hx)
          | some x =>
            by_cases hx : cls pf x.op = .eff
            · exact isTrue ⟨x, rfl, hx⟩
            · exact isFalse (by rintro ⟨y, hy, hy2⟩; injection hy with hy; subst hy; exact hx hy2)
        rcases Nat.lt_or_ge j m with hjm | hjm
        · by_cases hex : ∃ k, k < m ∧ (j < k ∧ ∃ x : IOper, ios[k]? = some x ∧ cls pf x.op = .eff)
          · have hdec : DecidablePred (fun k => j < k ∧ ∃ x : IOper, ios[k]? = some x ∧ cls pf x.op = .eff) := fun k => by
              have := heffAt k
              exact inferInstance
            obtain ⟨k, hkm, ⟨hjk, x, hkx, hx⟩, hlast⟩ := last_below (fun k => j < k ∧ ∃ x : IOper, ios[k]? = some x ∧ cls pf x.op = .eff) m hex
            have hSk : S k = true := (hmS k x hkx hx).2 hkm
            have hcont : pairs.contains (j, k) = true := by
              rcases hpair j k io x hjk hio hkx with h2 | h2
              · exact (hafter k (by have := (List.getElem?_eq_some_iff.1 hkx).1; omega) hSk h2).elim
              · simp only [okPair, hc, hx, Bool.and_eq_true] at h2; exact h2.1.1
            obtain ⟨σ2, h2⟩ := hrc k hcont
            refine hat' k σ2 ?_ h2
            rw [if_pos hjk, stAt_mAt]
            exact st_same hp htr (k + 1) m (by omega) hmn (fun i y h3 h4 hi hy => hlast i (by omega) h4 ⟨by omega, y, hi, hy⟩)
          · have hst : (mAt l e' m).st = (mAt l e' j).st := st_same hp htr j m (by omega) hmn (fun i y h3 h4 hi hy => by
              rcases Nat.eq_or_lt_of_le h3 with h5 | h5
              · subst h5; rw [hio] at hi; injection hi with hi; subst hi; rw [hc] at hy; simp at hy
              · exact hex ⟨i, h4, h5, y, hi, hy⟩)
            rw [hst, hm]
            have := read_same hp hc h6
            subst this; exact h6
        · by_cases hex : ∃ k, m ≤ k ∧ k < m + (j - m) ∧ ∃ x : IOper, ios[k]? = some x ∧ cls pf x.op = .eff
          · have hdec : DecidablePred (fun k => ∃ x : IOper, ios[k]? = some x ∧ cls pf x.op = .eff) := heffAt
            obtain ⟨k, hmk, hkj, ⟨x, hkx, hx⟩, hfirst⟩ := first_from (fun k => ∃ x : IOper, ios[k]? = some x ∧ cls pf x.op = .eff) m (j - m) hex
            have hkj : k < j := by omega
            have hSk : S k = false := by
              cases hSk : S k with
              | false => rfl
              | true => have := (hmS k x hkx hx).1 hSk; omega
            have hcont : pairs.contains (j, k) = true := by
              rcases hpair k j x io hkj hkx hio with h2 | h2
              · rw [hbefore k h2] at hSk; simp at hSk
              · simp only [okPair, hc, hx, Bool.and_eq_true] at h2; exact h2.1.1
            obtain ⟨σ2, h2⟩ := hrc k hcont
            refine hat' k σ2 ?_ h2
            rw [if_neg (by omega), stAt_mAt]
            exact (st_same hp htr m k hmk (by omega) (fun i y h3 h4 hi hy => hfirst i h3 h4 ⟨y, hi, hy⟩)).symm
          · have hst : (mAt l e' j).st = (mAt l e' m).st := st_same hp htr m j hjm (by omega) (fun i y h3 h4 hi hy => hex ⟨i, h3, by omega, y, hi, hy⟩)
            rw [← hst, hm]
            have := read_same hp hc h6
            subst this; exact h6
      rw [← hcong] at hev
      refine oper_wp hcf hR hT hop hev fun W' w' u h1 h2 h3 => ?_
      exact hnew W' w' v u m h1 hmn (hstay (by simp [hc])) h2 hres h3

end
end Go.Pv
