/- What the abstract run comes to, the model's code comes to. -/
import Derived.Test.YtkookjaafgkfnaaDoorPvDraw2
import Derived.LoopN
namespace Go.Pv
set_option linter.all false
open Go.RowKit

section
variable {E : Env} {P : Program} {cf : CallF}

theorem draw_any {pf : FuncId → Bool} (hcf : CfOk E P cf) (hp : CfPure pf cf) {N : Nat} {ios : List IOper} {os : Array Oper} {pairs : List (Nat × Nat)} {e e' : M} {l : List Step} {W0 : KW}
    (hok : okOpers P N os ios os.toList = true) (hord : okOrder pf pairs ios os = true) (htr : evTrace E cf ios e = some (l, e')) (hre : pairs.all (recheck E cf ios l e') = true)
    {Q : Exit → Act → World → Prop} (hQ : ∀ W' a' w', W0.Le W' → MR E N W' e' a' w' → Q .normal a' w') :
    ∀ (fuel : Nat) (U : List Nat) (listed : Array Bool) (a : Act) (w : World), listed.size = os.size → U.length ≤ fuel → (∀ k, k < os.size → listed.getD k false = false → k ∈ U) →
      DrawInv E N pf ios os e l e' W0 (fun k => listed.getD k false) a w → wpAny P .any os Q fuel listed a w := by
  have hlen : ios.length = os.size := by have := (okOpers_at hok).1; simpa using this
  have hedge : ∀ k o, os[k]? = some o → ∀ ed ∈ o.after, Region.binds .any ed = true → ed.on < k := by
    simp only [okOrder, Bool.and_eq_true] at hord
    obtain ⟨⟨⟨_, hedge⟩, _⟩, _⟩ := hord
    intro k o ho ed hed hb
    have h1 := List.all_eq_true.1 hedge (o, k) (by rw [List.mem_zipIdx_iff_getElem?]; simpa using ho)
    have h2 := Array.all_eq_true_iff_forall_mem.1 h1 ed hed
    simpa [hb] using h2
  have honce : onceDst ios = true := by
    simp only [okOrder, Bool.and_eq_true] at hord
    exact hord.1.1.1
  have hdone : ∀ (listed : Array Bool) (a : Act) (w : World), Region.ready .any os listed = [] → listed.size = os.size → DrawInv E N pf ios os e l e' W0 (fun k => listed.getD k false) a w → Q .normal a w := by
    intro listed a w hr hsz hI
    have hall : ∀ k, k < os.size → listed.getD k false = true := by
      intro k
      induction k using Nat.strongRecOn with
      | _ k ih =>
        intro hk
        cases hl : listed.getD k false with
        | true => rfl
        | false =>
          exfalso
          have hmem : k ∈ Region.ready .any os listed := by
            rw [mem_ready]
            refine ⟨?_, os[k], Array.getElem?_eq_getElem hk, fun ed hed hb => ?_⟩
            · have hks : k < listed.size := by omega
              simp [hks] at hl ⊢; exact hl
            · have := hedge k _ (Array.getElem?_eq_getElem hk) ed hed hb
              exact ih ed.on this (by omega)
          rw [hr] at hmem; simp at hmem
    obtain ⟨W, hle, ⟨m, hmn, hmS, hR⟩, hwr, hin⟩ := hI.st
    obtain ⟨hl1, hl2, _⟩ := trace_at htr
    have hend : mAt l e' ios.length = e' := by
      unfold mAt; rw [List.getElem?_eq_none (by omega)]
    refine hQ W a w hle ⟨?_, ?_, hI.n, hI.d⟩
    · have := st_same hp htr m ios.length hmn (Nat.le_refl _) (fun k x h1 h2 hk hx => by
        have := (hmS k x hk hx).1 (hall k (by omega)); omega)
      rw [hend] at this; rw [this]; exact hR
    · intro t v hv
      by_cases hex : ∃ (k : Nat) (x : IOper), ios[k]? = some x ∧ x.dst = some t
      · obtain ⟨k, x, hkx, hxt⟩ := hex
        have hk : k < ios.length := (List.getElem?_eq_some_iff.1 hkx).1
        have hres := lk_res htr honce hkx hxt ios.length hk (Nat.le_refl _)
        rw [hend, hv] at hres
        injection hres with hres
        rw [hres]
        exact hwr k x t hkx hxt (hall k (by omega))
      · have hinit := lk_init htr (t := t) ios.length (Nat.le_refl _) (fun k x _ hkx hxt => hex ⟨k, x, hkx, hxt⟩)
        rw [hend, hv] at hinit
        exact hin t v hinit.symm (fun k x hkx hxt => absurd ⟨k, x, hkx, hxt⟩ hex)
  intro fuel
  induction fuel with
  | zero =>
    intro U listed a w hsz hU hun hI
    have hU0 : U = [] := List.eq_nil_of_length_eq_zero (by omega)
    subst hU0
    have hr : Region.ready .any os listed = [] := by
      cases hq : Region.ready .any os listed with
      | nil => rfl
      | cons j q =>
        exfalso
        have hj : j ∈ Region.ready .any os listed := by rw [hq]; simp
        rw [mem_ready] at hj
        obtain ⟨h1, o, ho, _⟩ := hj
        have hlt : j < os.size := (Array.getElem?_eq_some_iff.1 ho).1
        have := hun j hlt (by have hks : j < listed.size := by omega
                              simp [hks] at h1 ⊢; exact h1)
        simp at this
    exact ⟨hr, hdone listed a w hr hsz hI⟩
  | succ fuel ih =>
    intro U listed a w hsz hU hun hI
    refine ⟨fun hr => hdone listed a w hr hsz hI, fun j hj => ?_⟩
    rw [mem_ready] at hj
    obtain ⟨h1, o, ho, hall⟩ := hj
    have hlt : j < os.size := (Array.getElem?_eq_some_iff.1 ho).1
    have hls : j < listed.size := by omega
    have hSj : listed.getD j false = false := by simp [hls] at h1 ⊢; exact h1
    refine draw_step hcf hp hok hord htr hre hI ho hSj hall fun a' w' hI' => ?_
    refine ih (U.erase j) _ a' w' (by simp [hsz]) (by rw [List.length_erase_of_mem (hun j hlt hSj)]; omega) (fun k hk hkl => ?_) ?_
    · by_cases hkj : k = j
      · subst hkj; simp [hls] at hkl
      · rw [getD_set_ne false (fun e => hkj e.symm)] at hkl
        exact (List.mem_erase_of_ne hkj).2 (hun k hk hkl)
    · have : (fun k => (listed.setIfInBounds j true).getD k false) = fun k => if k = j then true else listed.getD k false := by
        funext k
        by_cases hkj : k = j
        · subst hkj; simp [hls]
        · rw [if_neg hkj, getD_set_ne false (fun e => hkj e.symm)]
      rw [this]; exact hI'

theorem draw_start {pf : FuncId → Bool} {N : Nat} {ios : List IOper} {os : Array Oper} {e e' : M} {l : List Step} (htr : evTrace E cf ios e = some (l, e')) {W : KW} {a : Act} {w : World} (hM : MR E N W e a w) :
    DrawInv E N pf ios os e l e' W (fun k => (Array.replicate os.size false).getD k false) a { w with drawn := w.drawn + 1 } := by
  have hno : ∀ k, (Array.replicate os.size false).getD k false = false := by
    intro k
    by_cases h : k < os.size <;> simp [h]
  refine ⟨fun k o hk => by rw [hno] at hk; simp at hk, ⟨W, .refl W, ⟨0, Nat.zero_le _, fun k io _ _ => by rw [hno]; simp, ?_⟩, fun k io t _ _ hk => by rw [hno] at hk; simp at hk, fun t v hv _ => hM.t t v hv⟩, hM.n, hM.d⟩
  rw [(trace_at htr).2.1]
  exact hM.r.drawn _

/-- A region, whether its order is open or not. -/
theorem region_wp {pf : FuncId → Bool} (hmix : P.follows .mixedOrders = true) (hcf : CfOk E P cf) (hp : CfPure pf cf) {N : Nat} {ios : List IOper} {os : Array Oper} {id : Nat} {e e' : M} {W : KW} {a : Act} {w : World}
    {Q : Exit → Act → World → Prop} (hM : MR E N W e a w) (hQ : ∀ W' a' w', W.Le W' → MR E N W' e' a' w' → Q .normal a' w') :
    (∀ dr, okCode P N pf (.reg ios) (.region id os dr) = true → evOps E cf ios e = some e' → (Code.region id os dr).wp P Q a w) ∧
    (∀ pairs dr, okCode P N pf (.regd ios pairs) (.region id os dr) = true → evOpsD E cf ios pairs e = some e' → (Code.region id os dr).wp P Q a w) := by
  have hdraw : ∀ pairs l, okOpers P N os ios os.toList = true → okOrder pf pairs ios os = true → evTrace E cf ios e = some (l, e') → pairs.all (recheck E cf ios l e') = true → (Code.region id os true).wp P Q a w := by
    intro pairs l hok hord htr hre
    exact wp_region_any hmix (draw_any hcf hp hok hord htr hre hQ os.size (List.range os.size) _ a _ (by simp) (by simp) (fun k hk _ => by simpa using hk) (draw_start htr hM))
  constructor
  · intro dr hok hev
    simp only [okCode, Bool.and_eq_true, Bool.or_eq_true, Bool.not_eq_true'] at hok
    obtain ⟨h1, h2⟩ := hok
    cases dr with
    | false =>
      refine wp_region ?_
      have := ops_text hcf (Q := Q) ios os.toList 0 W e e' a w h1 (fun i => by simp) hM hev hQ
      rw [List.range_eq_range']
      simpa using this
    | true =>
      obtain ⟨l, hl⟩ := evOps_trace hev
      exact hdraw [] l h1 (by simpa using h2) hl rfl
  · intro pairs dr hok hev
    simp only [okCode, Bool.and_eq_true] at hok
    obtain ⟨⟨h1, h2⟩, h3⟩ := hok
    subst h2
    unfold evOpsD at hev
    cases htr : evTrace E cf ios e with
    | none => simp [htr] at hev
    | some q =>
      obtain ⟨l, e1⟩ := q
      simp only [htr] at hev
      by_cases hre : pairs.all (recheck E cf ios l e1) = true
      · rw [if_pos hre] at hev; injection hev with hev; subst hev
        exact hdraw pairs l h1 h3 htr hre
      · rw [if_neg hre] at hev; simp at hev

/-- The model's exit. -/
def Ex.exit' : Ex → Exit
  | .normal => .normal
  | .exit id => .exit id
  | .ret => .ret

theorem code_wp {pf : FuncId → Bool} (hmix : P.follows .mixedOrders = true) (hcf : CfOk E P cf) (hp : CfPure pf cf) {N : Nat} (n : Nat) : ∀ (ic : IC) (c : Code) (W : KW) (e e' : M) (ex : Ex) (a : Act) (w : World)
    (Q : Exit → Act → World → Prop), okCode P N pf ic c = true → evCode E cf n ic e = some (ex, e') → MR E N W e a w →
    (∀ W' a' w', W.Le W' → MR E N W' e' a' w' → Q ex.exit' a' w') → c.wp P Q a w := by
  intro ic
  induction ic with
  | skip =>
    intro c W e e' ex a w Q hok hev hM hQ
    cases c <;> simp only [okCode, Bool.false_eq_true] at hok
    simp [evCode] at hev; obtain ⟨rfl, rfl⟩ := hev
    exact wp_skip (hQ W a w (.refl W) hM)
  | reg ios =>
    intro c W e e' ex a w Q hok hev hM hQ
    cases c <;> try (simp only [okCode, Bool.false_eq_true] at hok; done)
    simp only [evCode] at hev
    cases h : evOps E cf ios e with
    | none => simp [h] at hev
    | some e1 =>
      simp [h] at hev; obtain ⟨rfl, rfl⟩ := hev
      exact (region_wp hmix hcf hp hM hQ).1 _ hok h
  | regd ios pairs =>
    intro c W e e' ex a w Q hok hev hM hQ
    cases c <;> try (simp only [okCode, Bool.false_eq_true] at hok; done)
    simp only [evCode] at hev
    cases h : evOpsD E cf ios pairs e with
    | none => simp [h] at hev
    | some e1 =>
      simp [h] at hev; obtain ⟨rfl, rfl⟩ := hev
      exact (region_wp hmix hcf hp hM hQ).2 _ _ hok h
  | seq x y ihx ihy =>
    intro c W e e' ex a w Q hok hev hM hQ
    cases c <;> try (simp only [okCode, Bool.false_eq_true] at hok; done)
    simp only [okCode, Bool.and_eq_true] at hok
    simp only [evCode] at hev
    cases h : evCode E cf n x e with
    | none => simp [h] at hev
    | some q =>
      obtain ⟨x1, e1⟩ := q
      refine wp_seq (ihx _ W e e1 x1 a w _ hok.1 h hM fun W1 a1 w1 h1 h2 => ?_)
      cases x1 with
      | normal =>
        simp only [h] at hev
        exact ihy _ W1 e1 e' ex a1 w1 Q hok.2 hev h2 fun W2 a2 w2 h3 h4 => hQ W2 a2 w2 (h1.trans h3) h4
      | exit id => simp [h] at hev; obtain ⟨rfl, rfl⟩ := hev; exact hQ W1 a1 w1 h1 h2
      | ret => simp [h] at hev; obtain ⟨rfl, rfl⟩ := hev; exact hQ W1 a1 w1 h1 h2
  | cond x y z ihy ihz =>
    intro c W e e' ex a w Q hok hev hM hQ
    cases c <;> try (simp only [okCode, Bool.false_eq_true] at hok; done)
    simp only [okCode, Bool.and_eq_true] at hok
    obtain ⟨⟨hx, hy⟩, hz⟩ := hok
    simp only [evCode] at hev
    cases hxe : x.ev e.tm with
    | none => simp [hxe] at hev
    | some xv =>
      have hxr := opnd_vr hM.t hx hxe
      cases xv <;> try (simp [hxe] at hev; done)
      rename_i b
      generalize hc : a.eval _ = cu at hxr
      cases hxr
      cases b with
      | true => simp only [hxe] at hev; exact wp_cond_true hc (ihy _ W e e' ex a w Q hy hev hM hQ)
      | false => simp only [hxe] at hev; exact wp_cond_false hc (ihz _ W e e' ex a w Q hz hev hM hQ)
  | block id b ih =>
    intro c W e e' ex a w Q hok hev hM hQ
    cases c <;> try (simp only [okCode, Bool.false_eq_true] at hok; done)
    simp only [okCode, Bool.and_eq_true, beq_iff_eq] at hok
    obtain ⟨rfl, hb⟩ := hok
    simp only [evCode] at hev
    cases h : evCode E cf n b e with
    | none => simp [h] at hev
    | some q =>
      obtain ⟨x1, e1⟩ := q
      refine wp_block (ih _ W e e1 x1 a w _ hb h hM fun W1 a1 w1 h1 h2 => ?_)
      cases x1 with
      | normal => simp [h] at hev; obtain ⟨rfl, rfl⟩ := hev; exact hQ W1 a1 w1 h1 h2
      | ret => simp [h] at hev; obtain ⟨rfl, rfl⟩ := hev; exact hQ W1 a1 w1 h1 h2
      | exit id' =>
        simp [h] at hev; obtain ⟨rfl, rfl⟩ := hev
        simp only [Ex.exit', Exit.inBlock]
        by_cases hid : id' = id
        · rw [if_pos hid]
          rw [if_pos hid] at hQ
          exact hQ W1 a1 w1 h1 h2
        · rw [if_neg hid]
          rw [if_neg hid] at hQ
          exact hQ W1 a1 w1 h1 h2
  | loop b ih =>
    intro c W e e' ex a w Q hok hev hM hQ
    cases c <;> try (simp only [okCode, Bool.false_eq_true] at hok; done)
    rename_i c
    simp only [okCode] at hok
    simp only [evCode] at hev
    refine wp_loop_rounds n ?_
    have key : ∀ (k : Nat) (W1 : KW) (e1 : M) (a1 : Act) (w1 : World), W.Le W1 → MR E N W1 e1 a1 w1 → evLoop (evCode E cf n b) k e1 = some (ex, e') → Code.rounds P c Q k a1 w1 := by
      intro k
      induction k with
      | zero => intro W1 e1 a1 w1 _ _ h; simp [evLoop] at h
      | succ k ihk =>
        intro W1 e1 a1 w1 hle h1 h
        simp only [evLoop] at h
        rw [rounds_succ]
        cases hb : evCode E cf n b e1 with
        | none => simp [hb] at h
        | some q =>
          obtain ⟨x2, e2⟩ := q
          refine ih c W1 e1 e2 x2 a1 w1 _ hok hb h1 fun W2 a2 w2 h3 h4 => ?_
          cases x2 with
          | normal => simp only [hb] at h; exact ihk W2 e2 a2 w2 (hle.trans h3) h4 h
          | exit id => simp [hb] at h; obtain ⟨rfl, rfl⟩ := h; exact hQ W2 a2 w2 (hle.trans h3) h4
          | ret => simp [hb] at h; obtain ⟨rfl, rfl⟩ := h; exact hQ W2 a2 w2 (hle.trans h3) h4
    exact key n W e a w (.refl W) hM hev
  | exit id =>
    intro c W e e' ex a w Q hok hev hM hQ
    cases c <;> try (simp only [okCode, Bool.false_eq_true] at hok; done)
    simp only [okCode, beq_iff_eq] at hok
    subst hok
    simp [evCode] at hev; obtain ⟨rfl, rfl⟩ := hev
    exact wp_exit (hQ W a w (.refl W) hM)
  | ret =>
    intro c W e e' ex a w Q hok hev hM hQ
    cases c <;> try (simp only [okCode, Bool.false_eq_true] at hok; done)
    simp [evCode] at hev; obtain ⟨rfl, rfl⟩ := hev
    exact wp_ret (hQ W a w (.refl W) hM)
  | keep ts b ih =>
    intro c W e e' ex a w Q hok hev hM hQ
    simp only [okCode] at hok
    simp only [evCode] at hev
    exact ih c W _ e' ex a w Q hok hev ⟨hM.r, hM.t.keep ts, hM.n, hM.d⟩ hQ

end
end Go.Pv
