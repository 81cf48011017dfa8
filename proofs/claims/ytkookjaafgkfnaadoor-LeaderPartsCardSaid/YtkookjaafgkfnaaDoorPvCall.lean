/- Functions, and calls of functions. -/
import Derived.Test.YtkookjaafgkfnaaDoorPvSound
namespace Go.Pv
set_option linter.all false
open Go.RowKit

/-! ### What a run leaves alone -/

/-- Blocks and tokens below the floor are as they were. -/
structure Fl (σ σ' : St) : Prop where
  fid : σ'.fid = σ.fid
  ft : σ'.ft = σ.ft
  nid : σ.nid ≤ σ'.nid
  nt : σ.nt ≤ σ'.nt
  get : ∀ id, id < σ.fid → σ'.get id = σ.get id
  live : ∀ t, t < σ.ft → t ∈ σ.live → t ∈ σ'.live

theorem Fl.refl (σ : St) : Fl σ σ := ⟨rfl, rfl, Nat.le_refl _, Nat.le_refl _, fun _ _ => rfl, fun _ _ h => h⟩
theorem Fl.trans {a b c : St} (h : Fl a b) (k : Fl b c) : Fl a c :=
  ⟨k.fid.trans h.fid, k.ft.trans h.ft, Nat.le_trans h.nid k.nid, Nat.le_trans h.nt k.nt, fun id hi => (k.get id (by rw [h.fid]; exact hi)).trans (h.get id hi), fun t ht hl => k.live t (by rw [h.ft]; exact ht) (h.live t ht hl)⟩

/-- The floor lies below what is new. -/
def Fok (σ : St) : Prop := σ.fid ≤ σ.nid ∧ σ.ft ≤ σ.nt

theorem Fok.mono {σ σ' : St} (h : Fok σ) (k : Fl σ σ') : Fok σ' := ⟨by rw [k.fid]; exact Nat.le_trans h.1 k.nid, by rw [k.ft]; exact Nat.le_trans h.2 k.nt⟩

theorem Fl.new {σ : St} (h : Fok σ) (b : Blk) : Fl σ (σ.new b) :=
  ⟨rfl, rfl, Nat.le_succ _, Nat.le_refl _, fun id hi => by rw [St.get_new, if_neg (by have := h.1; omega)], fun _ _ h => h⟩
theorem Fl.put {σ : St} {id : Nat} (h : σ.fid ≤ id) (b : Blk) : Fl σ (σ.put id b) :=
  ⟨rfl, rfl, Nat.le_refl _, Nat.le_refl _, fun id' hi => by rw [St.get_put, if_neg (by omega)], fun _ _ h => h⟩
theorem Fl.tok (σ : St) : Fl σ σ.tok := ⟨rfl, rfl, Nat.le_refl _, Nat.le_succ _, fun _ _ => rfl, fun _ _ h => List.mem_cons_of_mem _ h⟩
theorem Fl.use {σ : St} {t : Nat} (h : σ.ft ≤ t) : Fl σ (σ.use t) :=
  ⟨rfl, rfl, Nat.le_refl _, Nat.le_succ _, fun _ _ => rfl, fun t' ht' hl => List.mem_cons_of_mem _ ((List.mem_erase_of_ne (by omega)).2 hl)⟩

section
variable {E : Env} {cf : CallF} {tm : List (Nat × AV)} {σ σ' : St} {v : AV}

theorem fl_op (h : Fok σ) {io : IOp} (hev : evOp E tm σ io = some (v, σ')) : Fl σ σ' := by
  have hpure : ∀ {o : Option AV}, o.map (fun x => (x, σ)) = some (v, σ') → Fl σ σ' := fun h => by obtain ⟨_, rfl⟩ := mapS h; exact .refl _
  have hc : cls (fun _ => false) io = .pure → Fl σ σ' := fun hc => by
    have h1 : evOper E (fun _ _ _ => none) tm σ io = some (v, σ') := by cases io <;> first | exact hev | simp [evOp] at hev
    rw [(pure_any hc h1).1]; exact .refl _
  cases io <;> first | exact hc rfl | skip
  case alloc zero => simp [evOp] at hev; obtain ⟨_, rfl⟩ := hev; exact .new h _
  case box x =>
    simp only [evOp] at hev
    cases hx : x.ev tm with
    | none => simp [hx] at hev
    | some p =>
      cases hcs : p.cells with
      | none => simp [hx, hcs] at hev
      | some cs => simp [hx, hcs] at hev; obtain ⟨_, rfl⟩ := hev; exact .new h _
  case mklist row sz len zero parts =>
    cases row
    · exact hc rfl
    · simp only [evOp] at hev
      cases hps : evParts tm parts with
      | none => simp [hps] at hev
      | some ps =>
        cases hf : fillA (List.replicate len zero).flatten ps with
        | none => simp [hps, hf] at hev
        | some cs => simp [hps, hf] at hev; obtain ⟨_, rfl⟩ := hev; exact .new h _
  case load n x =>
    simp only [evOp] at hev
    cases hx : x.ev tm with
    | none => simp [hx] at hev
    | some p => simp only [hx] at hev; exact hpure hev
  case store n p x =>
    simp only [evOp] at hev
    cases hp : p.ev tm with
    | none => simp [hp] at hev
    | some pv =>
      cases hx : x.ev tm with
      | none => simp [hp, hx] at hev
      | some xv =>
        simp only [hp, hx] at hev
        cases hs : storeA σ n pv xv with
        | none => simp [hs] at hev
        | some σ2 =>
          simp [hs] at hev; obtain ⟨_, rfl⟩ := hev
          cases pv <;> simp only [storeA, reduceCtorEq] at hs
          split at hs
          · split at hs
            · rename_i hcond; injection hs with hs; subst hs; exact .put hcond.1 _
            · simp at hs
          · simp at hs
  case bytesstr x =>
    simp only [evOp] at hev
    cases hx : x.ev tm with
    | none => simp [hx] at hev
    | some p =>
      simp only [hx] at hev
      cases hs : sliceCells σ 1 p with
      | none => simp [hs] at hev
      | some cs =>
        cases hb : bytesOf cs with
        | none => simp [hs, hb] at hev
        | some bs => simp [hs, hb] at hev; obtain ⟨_, rfl⟩ := hev; exact .refl _
  case mkslice row bytes sz zero l c =>
    simp only [evOp] at hev
    cases hl : l.ev tm with
    | none => simp [hl] at hev
    | some lv =>
      cases hcv : c.ev tm with
      | none => simp [hl, hcv] at hev
      | some cv =>
        simp only [hl, hcv] at hev
        cases lv <;> cases cv <;> simp only [mksliceA, reduceCtorEq] at hev
        split at hev
        · split at hev
          · injection hev with hev; injection hev with _ hev; subst hev; exact .new h _
          · split at hev
            · injection hev with hev; injection hev with _ hev; subst hev; exact .refl _
            · injection hev with hev; injection hev with _ hev; subst hev; exact .tok _
        · simp at hev
  case append row sz bytes x y =>
    simp only [evOp] at hev
    cases hx : x.ev tm with
    | none => simp [hx] at hev
    | some xv =>
      cases hy : y.ev tm with
      | none => simp [hx, hy] at hev
      | some yv =>
        simp only [hx, hy, appendA] at hev
        split at hev
        · simp at hev
        · split at hev
          · injection hev with hev; injection hev with _ hev; subst hev; exact .refl _
          · injection hev with hev; injection hev with _ hev; subst hev; exact .refl _
          · injection hev with hev; injection hev with _ hev; subst hev; exact .refl _
          · simp at hev
        · split at hev
          · split at hev
            · split at hev
              · injection hev with hev; injection hev with _ hev; subst hev; exact .new h _
              · injection hev with hev; injection hev with _ hev; subst hev; exact .tok _
            · simp at hev
          · split at hev
            · split at hev
              · simp at hev
              · injection hev with hev; injection hev with _ hev; subst hev; exact .tok _
              · injection hev with hev; injection hev with _ hev; subst hev; exact .tok _
              · split at hev
                · rename_i hcond; injection hev with hev; injection hev with _ hev; subst hev; exact .use hcond.1
                · simp at hev
            · simp at hev
          · simp at hev
  case copy sz x y =>
    simp only [evOp] at hev
    cases hx : x.ev tm with
    | none => simp [hx] at hev
    | some xv =>
      cases hy : y.ev tm with
      | none => simp [hx, hy] at hev
      | some yv =>
        simp only [hx, hy, copyA] at hev
        split at hev
        · split at hev
          · split at hev
            · rename_i hcond; injection hev with hev; injection hev with _ hev; subst hev; exact .put hcond.1 _
            · simp at hev
          · simp at hev
        · injection hev with hev; injection hev with _ hev; subst hev; exact .refl _
        · split at hev
          · injection hev with hev; injection hev with _ hev; subst hev; exact .refl _
          · simp at hev
        · simp at hev
  case rng x =>
    simp only [evOp] at hev
    cases hx : x.ev tm with
    | none => simp [hx] at hev
    | some p => cases p <;> simp [hx] at hev; obtain ⟨_, rfl⟩ := hev; exact .new h _
  case nxt x =>
    simp only [evOp] at hev
    split at hev
    · split at hev
      · split at hev
        · rename_i hcond
          split at hev
          · injection hev with hev; injection hev with _ hev; subst hev; exact .put hcond _
          · injection hev with hev; injection hev with _ hev; subst hev; exact .refl _
        · simp at hev
      · simp at hev
    · simp at hev
  case call => simp [evOp] at hev
  case callv => simp [evOp] at hev

/-- Calls leave alone what is below the floor. -/
def CfFl (cf : CallF) : Prop := ∀ f vs σ v σ', Fok σ → cf f vs σ = some (v, σ') → Fl σ σ'

theorem fl_oper (hcf : CfFl cf) (h : Fok σ) {io : IOp} (hev : evOper E cf tm σ io = some (v, σ')) : Fl σ σ' := by
  cases io <;> simp only [evOper] at hev <;> first | exact fl_op h hev | skip
  case call f args =>
    cases hv : evs tm args with
    | none => simp [hv] at hev
    | some vs => simp only [hv] at hev; exact hcf _ _ _ _ _ h hev
  case callv x args =>
    split at hev
    · exact hcf _ _ _ _ _ h hev
    · simp at hev

theorem fl_trace (hcf : CfFl cf) : ∀ {ios : List IOper} {e : M} {l : List Step} {e' : M}, Fok e.st → evTrace E cf ios e = some (l, e') → Fl e.st e'.st
  | [], e, l, e', _, h => by simp [evTrace] at h; obtain ⟨_, rfl⟩ := h; exact .refl _
  | o :: os, e, l, e', hf, h => by
    simp only [evTrace] at h
    split at h
    · simp at h
    · split at h
      · rename_i l1 e1 ht
        injection h with h; injection h with h1 h2; subst h2
        have := fl_trace hcf (e := e.put o.dst .undef e.st) (by rw [M.put_st]; exact hf) ht
        rwa [M.put_st] at this
      · simp at h
    · split at h
      · rename_i v σ1 hv
        split at h
        · rename_i l1 e1 ht
          injection h with h; injection h with h1 h2; subst h2
          have h3 := fl_oper hcf hf hv
          have := fl_trace hcf (e := e.put o.dst v σ1) (by rw [M.put_st]; exact hf.mono h3) ht
          rw [M.put_st] at this
          exact h3.trans this
        · simp at h
      · simp at h

theorem fl_loop {body : M → Option (Ex × M)} (hb : ∀ e ex e', Fok e.st → body e = some (ex, e') → Fl e.st e'.st) : ∀ (n : Nat) (e e' : M) (ex : Ex), Fok e.st → evLoop body n e = some (ex, e') → Fl e.st e'.st
  | 0, _, _, _, _, h => by simp [evLoop] at h
  | n + 1, e, e', ex, hf, h => by
    simp only [evLoop] at h
    split at h
    · rename_i e1 h1
      have h2 := hb _ _ _ hf h1
      exact h2.trans (fl_loop hb n e1 e' ex (hf.mono h2) h)
    · rename_i r hr
      exact hb _ _ _ hf h

theorem fl_code (hcf : CfFl cf) (n : Nat) : ∀ (ic : IC) (e e' : M) (ex : Ex), Fok e.st → evCode E cf n ic e = some (ex, e') → Fl e.st e'.st := by
  intro ic
  induction ic with
  | skip => intro e e' ex hf h; simp [evCode] at h; obtain ⟨_, rfl⟩ := h; exact .refl _
  | reg ios =>
    intro e e' ex hf h
    simp only [evCode] at h
    cases ho : evOps E cf ios e with
    | none => simp [ho] at h
    | some e1 =>
      simp [ho] at h; obtain ⟨_, rfl⟩ := h
      obtain ⟨l, hl⟩ := evOps_trace ho
      exact fl_trace hcf hf hl
  | regd ios pairs =>
    intro e e' ex hf h
    simp only [evCode, evOpsD] at h
    cases ho : evTrace E cf ios e with
    | none => simp [ho] at h
    | some q =>
      obtain ⟨l, e1⟩ := q
      simp only [ho] at h
      split at h
      · simp at h; obtain ⟨_, rfl⟩ := h; exact fl_trace hcf hf ho
      · simp at h
  | seq x y ihx ihy =>
    intro e e' ex hf h
    simp only [evCode] at h
    split at h
    · rename_i e1 h1
      have h2 := ihx _ _ _ hf h1
      exact h2.trans (ihy _ _ _ (hf.mono h2) h)
    · exact ihx _ _ _ hf h
  | cond x y z ihy ihz =>
    intro e e' ex hf h
    simp only [evCode] at h
    split at h
    · exact ihy _ _ _ hf h
    · exact ihz _ _ _ hf h
    · simp at h
  | block id b ih =>
    intro e e' ex hf h
    simp only [evCode] at h
    split at h
    · rename_i h1; injection h with h; injection h with _ h; subst h; exact ih _ _ _ hf h1
    · exact ih _ _ _ hf h
  | loop b ih =>
    intro e e' ex hf h
    simp only [evCode] at h
    exact fl_loop (fun e ex e' hf h => ih e e' ex hf h) n e e' ex hf h
  | exit id => intro e e' ex hf h; simp [evCode] at h; obtain ⟨_, rfl⟩ := h; exact .refl _
  | ret => intro e e' ex hf h; simp [evCode] at h; obtain ⟨_, rfl⟩ := h; exact .refl _
  | keep ts b ih => intro e e' ex hf h; simp only [evCode] at h; exact ih ⟨keepT e.tm ts, e.st⟩ e' ex hf h

theorem fl_body (hcf : CfFl cf) {n : Nat} {fn : IFun} {args : List AV} (hf : Fok σ) (h : evBody E cf n fn args σ = some (v, σ')) : Fl σ σ' := by
  unfold evBody at h
  split at h
  · split at h
    · rename_i e h1
      split at h
      · injection h with h; injection h with _ h; subst h; exact fl_code hcf n _ _ _ _ hf h1
      · simp at h
    · rename_i e h1
      split at h
      · injection h with h; injection h with _ h; subst h; exact fl_code hcf n _ _ _ _ hf h1
      · simp at h
    · simp at h
  · simp at h

theorem tidy_get {k : Nat} : ∀ {h h' : Heap}, tidyHeap k h = some h' → ∀ id, h'.get id = if id < k then h.get id else none
  | [], h', h, id => by simp [tidyHeap] at h; subst h; simp [Heap.get]
  | (i, b) :: l, h', h, id => by
    simp only [tidyHeap] at h
    by_cases hi : i < k
    · rw [if_pos hi] at h
      have key : (tidyHeap k l).map ((i, b) :: ·) = some h' → h'.get id = if id < k then Heap.get ((i, b) :: l) id else none := by
        intro h
        cases ht : tidyHeap k l with
        | none => simp [ht] at h
        | some l' =>
          simp [ht] at h; subst h
          have := tidy_get ht id
          simp only [Heap.get, this]
          by_cases e : i = id
          · subst e; simp [hi]
          · simp [e]
      cases b with
      | cells cs =>
        simp only at h
        by_cases hl : lows k cs = true
        · rw [if_pos hl] at h; exact key h
        · rw [if_neg hl] at h; simp at h
      | iter s p => exact key h
    · rw [if_neg hi] at h
      rw [tidy_get h id]
      simp only [Heap.get]
      by_cases e : i = id
      · subst e; simp [hi]
      · simp [e]

theorem fl_fun (hcf : CfFl cf) {n : Nat} {fn : IFun} {args : List AV} (hf : Fok σ) (h : evFun E cf n fn args σ = some (v, σ')) : Fl σ σ' := by
  unfold evFun at h
  split at h
  · exact fl_body hcf hf h
  · split at h
    · rename_i v1 σ1 h1
      have hb := fl_body hcf hf h1
      split at h
      · rename_i hp hp'
        split at h
        · injection h with h; injection h with _ h; subst h
          refine ⟨hb.fid, hb.ft, Nat.le_refl _, hb.nt, fun id hi => ?_, hb.live⟩
          show hp.get id = _
          rw [tidy_get hp' id, if_pos (Nat.lt_of_lt_of_le hi hf.1)]
          exact hb.get id hi
        · simp at h
      · simp at h
    · simp at h
  · split at h
    · obtain ⟨_, rfl⟩ := mapS h; exact .refl _
    · simp at h
  · split at h
    · split at h
      · obtain ⟨_, rfl⟩ := mapS h; exact .refl _
      · simp at h
    · simp at h

theorem fl_call : ∀ n, CfFl (evCall E n)
  | 0 => by intro f vs σ v σ' _ h; simp [evCall] at h
  | n + 1 => by
    intro f vs σ v σ' hf h
    simp only [evCall] at h
    split at h
    · rw [(mapS h).2]; exact .refl _
    · split at h
      · exact fl_fun (fl_call n) hf h
      · simp at h

end
end Go.Pv
