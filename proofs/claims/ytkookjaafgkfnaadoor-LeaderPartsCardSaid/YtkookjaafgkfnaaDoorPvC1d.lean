/- Functions over typed values, printed; and that the abstract runs come to them. -/
import Derived.Test.YtkookjaafgkfnaaDoorPvC1
import Derived.Test.YtkookjaafgkfnaaDoorPvD3
namespace Go.Pv
set_option linter.all false
set_option maxRecDepth 100000
variable {m : Int}
/- platen.glyph.Blank -/
def glyph_Blank (k : Nat) (x1 : UInt8) : Option Bool :=
  if decide ((x1.toNat : Int) = 32) then (some true) else (some (decide ((x1.toNat : Int) = 9)))
theorem glyph_Blank_ok (k : Nat) (x1 : UInt8) (r : Bool)   {σ : St}
    (h : glyph_Blank k x1 = some r) :
    RunF (cE m) 20 [u8 x1] σ (fun v σ' => σ' = σ ∧ v = .bool r) := by
  refine f_closed rfl rfl rfl (cl_cons rfl cl_nil) rfl ?_
  have I0 : Inv .zero [] [] := Inv.zero
  unfold glyph_Blank at h
  refine c_seq ?_
  refine c_reg ?_
  refine sp (.bool false) rfl rfl ?_
  refine sx ?_
  refine cn ?_
  refine c_keep (keep_cons rfl keep_nil) ?_
  refine c_seq ?_
  refine c_reg ?_
  refine sp (u8 x1) rfl rfl ?_
  refine sp (.bool (decide ((x1.toNat : Int) = 32))) rfl rfl ?_
  refine sp (.bool (decide ((x1.toNat : Int) = 32))) rfl rfl ?_
  rcases bool_tf (decide ((x1.toNat : Int) = 32)) with b2 | b2
  · have h := ite_t h b2
    refine sg_skip (decide ((x1.toNat : Int) = 32)) rfl b2 ?_
    refine sg_skip (decide ((x1.toNat : Int) = 32)) rfl b2 ?_
    refine sp (.bool true) rfl (e_pick_t rfl b2 rfl) ?_
    refine sp (.bool true) rfl rfl ?_
    refine sx ?_
    refine cn ?_
    refine c_ret ?_
    obtain rfl := some_eq h
    exact rr (vs := [.bool true]) (res_c (resp_t rfl) res_nil) ⟨_, rfl, rfl⟩
  · have h := ite_f h b2
    refine sg_run (decide ((x1.toNat : Int) = 32)) rfl b2 ?_
    refine sp (u8 x1) rfl rfl ?_
    refine sg_run (decide ((x1.toNat : Int) = 32)) rfl b2 ?_
    refine sp (.bool (decide ((x1.toNat : Int) = 9))) rfl rfl ?_
    refine sp (.bool (decide ((x1.toNat : Int) = 9))) rfl (e_pick_f rfl b2 rfl) ?_
    refine sp (.bool (decide ((x1.toNat : Int) = 9))) rfl rfl ?_
    refine sx ?_
    refine cn ?_
    refine c_ret ?_
    obtain rfl := some_eq h
    exact rr (vs := [.bool (decide ((x1.toNat : Int) = 9))]) (res_c (resp_t rfl) res_nil) ⟨_, rfl, rfl⟩
/- platen.lines.Indent -/
def lines_Indent_l6 (x1 : List UInt8) (x2 : Int) : Nat → Int → Option ((Int ⊕ Unit))
  | 0, _ => none
  | k + 1, x3 => if decide (x3 < x2) then ((lIdx x1 x3).bind fun a5 => (glyph_Blank k a5).bind fun a7 => if !a7 then (some (Sum.inl x3)) else (lines_Indent_l6 x1 x2 k (IntKind.i64.wrap (x3 + 1)))) else (some (Sum.inr ()))
def lines_Indent (k : Nat) (x1 : List UInt8) : Option Int :=
  (lines_Indent_l6 x1 (x1.length : Int) k 0).bind fun a13 => (match a13 with | .inl x12 => (some x12) | .inr () => (some (x1.length : Int)))
theorem lines_Indent_l6_ok (x1 : List UInt8) (x2 : Int) {out : (Int ⊕ Unit)}  {Q : Ex → M → Prop} {B : List (Nat × Blk)} {O : List AV}
    (hL0 : ∀ (x12 : Int) (tm : List (Nat × AV)) (σ : St), lk tm 2 = some (.int .i64 x12) → Inv σ (B) (O) → (Sum.inl x12) = out → Q .ret ⟨tm, σ⟩)
    (hL1 : ∀  (tm : List (Nat × AV)) (σ : St), lk tm 0 = some (.str x1) → Inv σ (B) (O) → (Sum.inr ()) = out → Q (.exit 0) ⟨tm, σ⟩) :
    ∀ (k : Nat) (x3 : Int)  (tm : List (Nat × AV)) (σ : St), lines_Indent_l6 x1 x2 k x3 = some out →
    lk tm 0 = some (.str x1) →
    lk tm 5 = some (.int .i64 x2) →
    lk tm 6 = some (.int .i64 x3) →
    Inv σ (B) (O) → RunC (cE m) (.loop c15l6) ⟨tm, σ⟩ Q := by
  intro k
  induction k with
  | zero => intros; exact none_eq ‹lines_Indent_l6 x1 x2 0 _ = some out›
  | succ k ih =>
    intro x3 tm σ h e0 e5 e6  I
    rw [lines_Indent_l6] at h
    refine c_loop ?_
    refine c_keep (keep_cons e0 (keep_cons e5 (keep_cons e6 keep_nil))) ?_
    refine c_seq ?_
    refine c_reg ?_
    refine sp (.bool (decide (x3 < x2))) rfl rfl ?_
    refine sx ?_
    refine cn ?_
    refine c_keep (keep_cons rfl (keep_cons rfl (keep_cons rfl (keep_cons rfl keep_nil)))) ?_
    refine c_seq ?_
    rcases bool_tf (decide (x3 < x2)) with b4 | b4
    · have h := ite_t h b4
      refine c_cond_t (decide (x3 < x2)) rfl b4 ?_
      refine c_skip ?_
      refine cn ?_
      refine c_keep (keep_cons rfl (keep_cons rfl (keep_cons rfl keep_nil))) ?_
      refine c_seq ?_
      refine c_block ?_
      refine c_seq ?_
      refine c_reg ?_
      refine sp (.int .i64 x3) rfl rfl ?_
      refine sp (.int .i64 x3) rfl rfl ?_
      refine sx ?_
      refine cn ?_
      refine c_keep (keep_cons rfl (keep_cons rfl (keep_cons rfl (keep_cons rfl keep_nil)))) ?_
      refine c_seq ?_
      refine c_reg ?_
      refine sp (.str x1) rfl rfl ?_
      refine sp (.int .i64 x3) rfl rfl ?_
      obtain ⟨a5, g6, h⟩ := bind_some h
      refine sp (u8 a5) rfl (e_idxs rfl rfl g6) ?_
      obtain ⟨a7, g8, h⟩ := bind_some h
      refine st_callc (glyph_Blank_ok k _ _ g8 ) rfl ?_
      intro v9 q10
      obtain rfl := q10
      refine sp (.bool (!a7)) rfl rfl ?_
      refine sx ?_
      refine cn ?_
      refine c_keep (keep_cons rfl (keep_cons rfl (keep_cons rfl (keep_cons rfl (keep_cons rfl keep_nil))))) ?_
      rcases bool_tf (!a7) with b11 | b11
      · have h := ite_t h b11
        refine c_cond_t (!a7) rfl b11 ?_
        refine c_seq ?_
        refine c_reg ?_
        refine sp (.int .i64 x3) rfl rfl ?_
        refine sp (.int .i64 x3) rfl rfl ?_
        refine sx ?_
        refine cn ?_
        refine c_ret ?_
        refine br ?_
        refine cr ?_
        refine cr ?_
        exact hL0 x3  _ _ rfl  I (some_eq h)
      · have h := ite_f h b11
        refine c_cond_f (!a7) rfl b11 ?_
        refine c_skip ?_
        refine bn ?_
        refine cn ?_
        refine c_keep (keep_cons rfl (keep_cons rfl (keep_cons rfl keep_nil))) ?_
        refine c_reg ?_
        refine sp (.int .i64 (IntKind.i64.wrap (x3 + 1))) rfl rfl ?_
        refine sp (.int .i64 (IntKind.i64.wrap (x3 + 1))) rfl rfl ?_
        refine sx ?_
        refine cn ?_
        exact ih (IntKind.i64.wrap (x3 + 1))  _ _ h rfl rfl rfl  I
    · have h := ite_f h b4
      refine c_cond_f (decide (x3 < x2)) rfl b4 ?_
      refine c_exit ?_
      refine cx ?_
      refine cx ?_
      exact hL1   _ _ rfl  I (some_eq h)
theorem lines_Indent_ok (k : Nat) (x1 : List UInt8) (r : Int)   {σ : St}
    (h : lines_Indent k x1 = some r) :
    RunF (cE m) 15 [.str x1] σ (fun v σ' => σ' = σ ∧ v = .int .i64 r) := by
  refine f_closed rfl rfl rfl (cl_cons rfl cl_nil) rfl ?_
  have I0 : Inv .zero [] [] := Inv.zero
  unfold lines_Indent at h
  refine c_seq ?_
  refine c_reg ?_
  refine sp (.int .i64 0) rfl rfl ?_
  refine sx ?_
  refine cn ?_
  refine c_keep (keep_cons rfl keep_nil) ?_
  refine c_seq ?_
  refine c_seq ?_
  refine c_reg ?_
  refine sp (.str x1) rfl rfl ?_
  refine sp (.int .i64 (x1.length : Int)) rfl rfl ?_
  refine sp (.int .i64 0) rfl rfl ?_
  refine sx ?_
  refine cn ?_
  refine c_keep (keep_cons rfl (keep_cons rfl (keep_cons rfl keep_nil))) ?_
  refine c_block ?_
  obtain ⟨a13, g14, h⟩ := bind_some h
  refine lines_Indent_l6_ok x1 (x1.length : Int)  ?_ ?_ k 0  _ _ g14 rfl rfl rfl  I0
  · intro x12 tm15 σ16 e19  I17 ho18
    subst ho18
    refine br ?_
    refine cr ?_
    obtain rfl := some_eq h
    exact rr (vs := [.int .i64 x12]) (res_c (resp_t e19) res_nil) ⟨_, rfl, rfl⟩
  · intro  tm20 σ21 e24  I22 ho23
    subst ho23
    refine bx ?_
    refine cn ?_
    refine c_keep (keep_cons e24 keep_nil) ?_
    refine c_seq ?_
    refine c_reg ?_
    refine sp (.str x1) rfl rfl ?_
    refine sp (.int .i64 (x1.length : Int)) rfl rfl ?_
    refine sp (.int .i64 (x1.length : Int)) rfl rfl ?_
    refine sx ?_
    refine cn ?_
    refine c_ret ?_
    obtain rfl := some_eq h
    exact rr (vs := [.int .i64 (x1.length : Int)]) (res_c (resp_t rfl) res_nil) ⟨_, rfl, rfl⟩
/- platen.leader.Mark -/
def leader_Mark_l6 (x1 : List UInt8) : Nat → Int → Option ((Bool ⊕ Unit))
  | 0, _ => none
  | k + 1, x2 => if decide (x2 < 8) then ((lIdx ([([47, 47] : List UInt8), ([45, 45] : List UInt8), ([59, 59] : List UInt8), ([35] : List UInt8), ([59] : List UInt8), ([42] : List UInt8), ([62] : List UInt8), ([37] : List UInt8)] : List (List UInt8)) x2).bind fun a4 => if decide (a4 = x1) then (some (Sum.inl true)) else (leader_Mark_l6 x1 k (IntKind.i64.wrap (x2 + 1)))) else (some (Sum.inr ()))
def leader_Mark (k : Nat) (x1 : List UInt8) : Option Bool :=
  (leader_Mark_l6 x1 k 0).bind fun a8 => (match a8 with | .inl x7 => (some x7) | .inr () => (some false))
theorem leader_Mark_l6_ok (x1 : List UInt8) {out : (Bool ⊕ Unit)}  {Q : Ex → M → Prop} {B : List (Nat × Blk)} {O : List AV}
    (hL0 : ∀ (x7 : Bool) (tm : List (Nat × AV)) (σ : St), lk tm 2 = some (.bool x7) → Inv σ (B) (O) → (Sum.inl x7) = out → Q .ret ⟨tm, σ⟩)
    (hL1 : ∀  (tm : List (Nat × AV)) (σ : St), Inv σ (B) (O) → (Sum.inr ()) = out → Q (.exit 0) ⟨tm, σ⟩) :
    ∀ (k : Nat) (x2 : Int)  (tm : List (Nat × AV)) (σ : St), leader_Mark_l6 x1 k x2 = some out →
    lk tm 0 = some (.str x1) →
    lk tm 5 = some (.agg [.str ([47, 47] : List UInt8), .str ([45, 45] : List UInt8), .str ([59, 59] : List UInt8), .str ([35] : List UInt8), .str ([59] : List UInt8), .str ([42] : List UInt8), .str ([62] : List UInt8), .str ([37] : List UInt8)]) →
    lk tm 6 = some (.int .i64 x2) →
    Inv σ (B) (O) → RunC (cE m) (.loop c9l6) ⟨tm, σ⟩ Q := by
  intro k
  induction k with
  | zero => intros; exact none_eq ‹leader_Mark_l6 x1 0 _ = some out›
  | succ k ih =>
    intro x2 tm σ h e0 e5 e6  I
    rw [leader_Mark_l6] at h
    refine c_loop ?_
    refine c_keep (keep_cons e0 (keep_cons e5 (keep_cons e6 keep_nil))) ?_
    refine c_seq ?_
    refine c_reg ?_
    refine sp (.bool (decide (x2 < 8))) rfl rfl ?_
    refine sx ?_
    refine cn ?_
    refine c_keep (keep_cons rfl (keep_cons rfl (keep_cons rfl (keep_cons rfl keep_nil)))) ?_
    refine c_seq ?_
    rcases bool_tf (decide (x2 < 8)) with b3 | b3
    · have h := ite_t h b3
      refine c_cond_t (decide (x2 < 8)) rfl b3 ?_
      refine c_skip ?_
      refine cn ?_
      refine c_keep (keep_cons rfl (keep_cons rfl (keep_cons rfl keep_nil))) ?_
      refine c_seq ?_
      refine c_block ?_
      refine c_seq ?_
      refine c_reg ?_
      obtain ⟨a4, g5, h⟩ := bind_some h
      refine sp (.str a4) rfl (e_idxv (f := fun x => .str x) (xs := ([([47, 47] : List UInt8), ([45, 45] : List UInt8), ([59, 59] : List UInt8), ([35] : List UInt8), ([59] : List UInt8), ([42] : List UInt8), ([62] : List UInt8), ([37] : List UInt8)] : List (List UInt8))) rfl rfl g5 rfl rfl) ?_
      refine sp (.str a4) rfl rfl ?_
      refine sx ?_
      refine cn ?_
      refine c_keep (keep_cons rfl (keep_cons rfl (keep_cons rfl (keep_cons rfl keep_nil)))) ?_
      refine c_seq ?_
      refine c_reg ?_
      refine sp (.str a4) rfl rfl ?_
      refine sp (.str x1) rfl rfl ?_
      refine sp (.bool (decide (a4 = x1))) rfl rfl ?_
      refine sx ?_
      refine cn ?_
      refine c_keep (keep_cons rfl (keep_cons rfl (keep_cons rfl (keep_cons rfl keep_nil)))) ?_
      rcases bool_tf (decide (a4 = x1)) with b6 | b6
      · have h := ite_t h b6
        refine c_cond_t (decide (a4 = x1)) rfl b6 ?_
        refine c_seq ?_
        refine c_reg ?_
        refine sp (.bool true) rfl rfl ?_
        refine sx ?_
        refine cn ?_
        refine c_ret ?_
        refine br ?_
        refine cr ?_
        refine cr ?_
        exact hL0 true  _ _ rfl  I (some_eq h)
      · have h := ite_f h b6
        refine c_cond_f (decide (a4 = x1)) rfl b6 ?_
        refine c_skip ?_
        refine bn ?_
        refine cn ?_
        refine c_keep (keep_cons rfl (keep_cons rfl (keep_cons rfl keep_nil))) ?_
        refine c_reg ?_
        refine sp (.int .i64 (IntKind.i64.wrap (x2 + 1))) rfl rfl ?_
        refine sp (.int .i64 (IntKind.i64.wrap (x2 + 1))) rfl rfl ?_
        refine sx ?_
        refine cn ?_
        exact ih (IntKind.i64.wrap (x2 + 1))  _ _ h rfl rfl rfl  I
    · have h := ite_f h b3
      refine c_cond_f (decide (x2 < 8)) rfl b3 ?_
      refine c_exit ?_
      refine cx ?_
      refine cx ?_
      exact hL1   _ _   I (some_eq h)
theorem leader_Mark_ok (k : Nat) (x1 : List UInt8) (r : Bool)   {σ : St}
    (h : leader_Mark k x1 = some r) :
    RunF (cE m) 9 [.str x1] σ (fun v σ' => σ' = σ ∧ v = .bool r) := by
  refine f_closed rfl rfl rfl (cl_cons rfl cl_nil) rfl ?_
  have I0 : Inv .zero [] [] := Inv.zero
  unfold leader_Mark at h
  refine c_seq ?_
  refine c_reg ?_
  refine sp (.bool false) rfl rfl ?_
  refine sx ?_
  refine cn ?_
  refine c_keep (keep_cons rfl keep_nil) ?_
  refine c_seq ?_
  refine c_seq ?_
  refine c_reg ?_
  refine sp (.agg [.str ([47, 47] : List UInt8), .str ([45, 45] : List UInt8), .str ([59, 59] : List UInt8), .str ([35] : List UInt8), .str ([59] : List UInt8), .str ([42] : List UInt8), .str ([62] : List UInt8), .str ([37] : List UInt8)]) rfl (e_loadgs 0 8 rfl rfl rfl (Nat.le_of_ble_eq_true rfl)) ?_
  refine sp (.int .i64 0) rfl rfl ?_
  refine sx ?_
  refine cn ?_
  refine c_keep (keep_cons rfl (keep_cons rfl (keep_cons rfl keep_nil))) ?_
  refine c_block ?_
  obtain ⟨a8, g9, h⟩ := bind_some h
  refine leader_Mark_l6_ok x1  ?_ ?_ k 0  _ _ g9 rfl rfl rfl  I0
  · intro x7 tm10 σ11 e14  I12 ho13
    subst ho13
    refine br ?_
    refine cr ?_
    obtain rfl := some_eq h
    exact rr (vs := [.bool x7]) (res_c (resp_t e14) res_nil) ⟨_, rfl, rfl⟩
  · intro  tm15 σ16   I17 ho18
    subst ho18
    refine bx ?_
    refine cn ?_
    refine c_keep keep_nil ?_
    refine c_seq ?_
    refine c_reg ?_
    refine sp (.bool false) rfl rfl ?_
    refine sx ?_
    refine cn ?_
    refine c_ret ?_
    obtain rfl := some_eq h
    exact rr (vs := [.bool false]) (res_c (resp_t rfl) res_nil) ⟨_, rfl, rfl⟩
/- platen.leader.Of -/
def leader_Of_j18 (k : Nat) (x35 : List UInt8) (x36 : List UInt8) (x37 : List UInt8) : Option (((List UInt8) × (List UInt8) × (List UInt8))) :=
  some (x35, x36, x37)
def leader_Of (k : Nat) (x1 : List UInt8) : Option (((List UInt8) × (List UInt8) × (List UInt8))) :=
  (lines_Indent k x1).bind fun a2 => (lSub x1 0 a2).bind fun a6 => (lSub x1 a2 (x1.length : Int)).bind fun a8 => (pRepl a8 ([9] : List UInt8) ([32] : List UInt8)).bind fun a10 => (pCut a10 ([32] : List UInt8)).bind fun a14 => (leader_Mark k a14.1).bind fun a18 => if a18 then ((lSub x1 0 (IntKind.i64.wrap (a2 + (a14.1.length : Int)))).bind fun a23 => (lSub x1 (IntKind.i64.wrap (a2 + (a14.1.length : Int))) (x1.length : Int)).bind fun a25 => (lines_Indent k a25).bind fun a27 => (lSub a25 0 a27).bind fun a31 => (lSub a25 a27 (a25.length : Int)).bind fun a33 => leader_Of_j18 k  a23 a31 a33) else (leader_Of_j18 k  a6 ([] : List UInt8) a8)
theorem leader_Of_j18_ok (k : Nat) (x35 : List UInt8) (x36 : List UInt8) (x37 : List UInt8) {r : ((List UInt8) × (List UInt8) × (List UInt8))}  {tm : List (Nat × AV)} {σ : St} {B : List (Nat × Blk)} {O : List AV}
    (h : leader_Of_j18 k x35 x36 x37 = some r)
    (e2 : lk tm 2 = some (.str x35))
    (e3 : lk tm 3 = some (.str x36))
    (e4 : lk tm 4 = some (.str x37))
    (I : Inv σ (B) (O)) :
    RunC (cE m) c11c18 ⟨tm, σ⟩ (ResP (E := (cE m)) c11.res (fun v σ' => ∃ v', close v = some v' ∧ (∃ w0 w1 w2, v' = .tuple [w0, w1, w2] ∧ w0 = .str r.1 ∧ w1 = .str r.2.1 ∧ w2 = .str r.2.2))) := by
  unfold leader_Of_j18 at h
  refine c_keep (keep_cons e2 (keep_cons e3 (keep_cons e4 keep_nil))) ?_
  refine c_seq ?_
  refine c_reg ?_
  refine sp (.str x35) rfl rfl ?_
  refine sp (.str x36) rfl rfl ?_
  refine sp (.str x37) rfl rfl ?_
  refine sp (.str x35) rfl rfl ?_
  refine sp (.str x36) rfl rfl ?_
  refine sp (.str x37) rfl rfl ?_
  refine sx ?_
  refine cn ?_
  refine c_ret ?_
  obtain rfl := some_eq h
  exact rr (vs := [.str x35, .str x36, .str x37]) (res_c (resp_t rfl) (res_c (resp_t rfl) (res_c (resp_t rfl) res_nil))) ⟨_, cl_tuple (cl_cons rfl (cl_cons rfl (cl_cons rfl cl_nil))), _, _, _, rfl, rfl, rfl, rfl⟩
theorem leader_Of_ok (k : Nat) (x1 : List UInt8) (r : ((List UInt8) × (List UInt8) × (List UInt8)))   {σ : St}
    (h : leader_Of k x1 = some r) :
    RunF (cE m) 11 [.str x1] σ (fun v σ' => σ' = σ ∧ (∃ w0 w1 w2, v = .tuple [w0, w1, w2] ∧ w0 = .str r.1 ∧ w1 = .str r.2.1 ∧ w2 = .str r.2.2)) := by
  refine f_closed rfl rfl rfl (cl_cons rfl cl_nil) rfl ?_
  have I0 : Inv .zero [] [] := Inv.zero
  unfold leader_Of at h
  refine c_seq ?_
  refine c_reg ?_
  refine sp (.str ([] : List UInt8)) rfl rfl ?_
  refine sp (.str ([] : List UInt8)) rfl rfl ?_
  refine sp (.str ([] : List UInt8)) rfl rfl ?_
  refine sx ?_
  refine cn ?_
  refine c_keep (keep_cons rfl (keep_cons rfl keep_nil)) ?_
  refine c_seq ?_
  refine c_reg ?_
  refine sp (.str x1) rfl rfl ?_
  obtain ⟨a2, g3, h⟩ := bind_some h
  refine st_callc (lines_Indent_ok k _ _ g3 ) rfl ?_
  intro v4 q5
  obtain rfl := q5
  refine sp (.int .i64 a2) rfl rfl ?_
  refine sx ?_
  refine cn ?_
  refine c_keep (keep_cons rfl (keep_cons rfl (keep_cons rfl keep_nil))) ?_
  refine c_seq ?_
  refine c_reg ?_
  refine sp (.str x1) rfl rfl ?_
  refine sp (.int .i64 a2) rfl rfl ?_
  obtain ⟨a6, g7, h⟩ := bind_some h
  refine sp (.str a6) rfl (e_slstr 0 a2 rfl rfl rfl rfl rfl g7) ?_
  refine sp (.str x1) rfl rfl ?_
  refine sp (.int .i64 a2) rfl rfl ?_
  obtain ⟨a8, g9, h⟩ := bind_some h
  refine sp (.str a8) rfl (e_slstr a2 (x1.length : Int) rfl rfl rfl rfl rfl g9) ?_
  refine sp (.str a6) rfl rfl ?_
  refine sp (.str a8) rfl rfl ?_
  refine sx ?_
  refine cn ?_
  refine c_keep (keep_cons rfl (keep_cons rfl (keep_cons rfl (keep_cons rfl (keep_cons rfl keep_nil))))) ?_
  refine c_seq ?_
  refine c_reg ?_
  refine sp (.str a8) rfl rfl ?_
  obtain ⟨a10, g11, h⟩ := bind_some h
  refine st_callc (P := fun v => v = .str a10) (f_prim rfl (gRepl_ok g11) rfl) rfl ?_
  intro v12 q13
  obtain rfl := q13
  obtain ⟨a14, g15, h⟩ := bind_some h
  refine st_callc (P := fun v => v = .tuple [.str a14.1, .str a14.2.1, .bool a14.2.2]) (f_prim rfl (gCut_ok g15) rfl) rfl ?_
  intro v16 q17
  obtain rfl := q17
  refine sp (.tuple [.str a14.1, .str a14.2.1, .bool a14.2.2]) rfl rfl ?_
  refine sp (.str a14.1) rfl rfl ?_
  refine sp (.str a14.2.1) rfl rfl ?_
  refine sp (.bool a14.2.2) rfl rfl ?_
  refine sp (.str a14.1) rfl rfl ?_
  refine sp (.str a14.2.1) rfl rfl ?_
  refine sp (.bool a14.2.2) rfl rfl ?_
  refine sx ?_
  refine cn ?_
  refine c_keep (keep_cons rfl (keep_cons rfl (keep_cons rfl (keep_cons rfl (keep_cons rfl (keep_cons rfl keep_nil)))))) ?_
  refine c_seq ?_
  refine c_seq ?_
  refine c_reg ?_
  refine sp (.str a14.1) rfl rfl ?_
  obtain ⟨a18, g19, h⟩ := bind_some h
  refine st_callc (leader_Mark_ok k _ _ g19 ) rfl ?_
  intro v20 q21
  obtain rfl := q21
  refine sx ?_
  refine cn ?_
  refine c_keep (keep_cons rfl (keep_cons rfl (keep_cons rfl (keep_cons rfl (keep_cons rfl (keep_cons rfl (keep_cons rfl keep_nil))))))) ?_
  rcases bool_tf a18 with b22 | b22
  · have h := ite_t h b22
    refine c_cond_t a18 rfl b22 ?_
    refine c_seq ?_
    refine c_reg ?_
    refine sp (.str x1) rfl rfl ?_
    refine sp (.int .i64 a2) rfl rfl ?_
    refine sp (.str a14.1) rfl rfl ?_
    refine sp (.int .i64 (a14.1.length : Int)) rfl rfl ?_
    refine sp (.int .i64 (IntKind.i64.wrap (a2 + (a14.1.length : Int)))) rfl rfl ?_
    obtain ⟨a23, g24, h⟩ := bind_some h
    refine sp (.str a23) rfl (e_slstr 0 (IntKind.i64.wrap (a2 + (a14.1.length : Int))) rfl rfl rfl rfl rfl g24) ?_
    refine sp (.str x1) rfl rfl ?_
    refine sp (.int .i64 a2) rfl rfl ?_
    refine sp (.str a14.1) rfl rfl ?_
    refine sp (.int .i64 (a14.1.length : Int)) rfl rfl ?_
    refine sp (.int .i64 (IntKind.i64.wrap (a2 + (a14.1.length : Int)))) rfl rfl ?_
    obtain ⟨a25, g26, h⟩ := bind_some h
    refine sp (.str a25) rfl (e_slstr (IntKind.i64.wrap (a2 + (a14.1.length : Int))) (x1.length : Int) rfl rfl rfl rfl rfl g26) ?_
    refine sp (.str a23) rfl rfl ?_
    refine sp (.str a25) rfl rfl ?_
    refine sx ?_
    refine cn ?_
    refine c_keep (keep_cons rfl (keep_cons rfl keep_nil)) ?_
    refine c_seq ?_
    refine c_reg ?_
    refine sp (.str a25) rfl rfl ?_
    obtain ⟨a27, g28, h⟩ := bind_some h
    refine st_callc (lines_Indent_ok k _ _ g28 ) rfl ?_
    intro v29 q30
    obtain rfl := q30
    refine sp (.int .i64 a27) rfl rfl ?_
    refine sx ?_
    refine cn ?_
    refine c_keep (keep_cons rfl (keep_cons rfl (keep_cons rfl keep_nil))) ?_
    refine c_reg ?_
    refine sp (.str a25) rfl rfl ?_
    refine sp (.int .i64 a27) rfl rfl ?_
    obtain ⟨a31, g32, h⟩ := bind_some h
    refine sp (.str a31) rfl (e_slstr 0 a27 rfl rfl rfl rfl rfl g32) ?_
    refine sp (.str a25) rfl rfl ?_
    refine sp (.int .i64 a27) rfl rfl ?_
    obtain ⟨a33, g34, h⟩ := bind_some h
    refine sp (.str a33) rfl (e_slstr a27 (a25.length : Int) rfl rfl rfl rfl rfl g34) ?_
    refine sp (.str a31) rfl rfl ?_
    refine sp (.str a33) rfl rfl ?_
    refine sx ?_
    refine cn ?_
    exact leader_Of_j18_ok k  a23 a31 a33 h rfl rfl rfl   I0
  · have h := ite_f h b22
    refine c_cond_f a18 rfl b22 ?_
    refine c_skip ?_
    refine cn ?_
    exact leader_Of_j18_ok k  a6 ([] : List UInt8) a8 h rfl rfl rfl   I0
/- platen.leader.Marked -/
def leader_Marked (k : Nat) (x1 : List UInt8) : Option Bool :=
  (lines_Indent k x1).bind fun a2 => some (decide (a2 < (x1.length : Int)))
theorem leader_Marked_ok (k : Nat) (x1 : List UInt8) (r : Bool)   {σ : St}
    (h : leader_Marked k x1 = some r) :
    RunF (cE m) 13 [.str x1] σ (fun v σ' => σ' = σ ∧ v = .bool r) := by
  refine f_closed rfl rfl rfl (cl_cons rfl cl_nil) rfl ?_
  have I0 : Inv .zero [] [] := Inv.zero
  unfold leader_Marked at h
  refine c_seq ?_
  refine c_reg ?_
  refine sp (.bool false) rfl rfl ?_
  refine sx ?_
  refine cn ?_
  refine c_keep (keep_cons rfl keep_nil) ?_
  refine c_seq ?_
  refine c_reg ?_
  refine sp (.str x1) rfl rfl ?_
  obtain ⟨a2, g3, h⟩ := bind_some h
  refine st_callc (lines_Indent_ok k _ _ g3 ) rfl ?_
  intro v4 q5
  obtain rfl := q5
  refine sp (.str x1) rfl rfl ?_
  refine sp (.int .i64 (x1.length : Int)) rfl rfl ?_
  refine sp (.bool (decide (a2 < (x1.length : Int)))) rfl rfl ?_
  refine sp (.bool (decide (a2 < (x1.length : Int)))) rfl rfl ?_
  refine sx ?_
  refine cn ?_
  refine c_ret ?_
  obtain rfl := some_eq h
  exact rr (vs := [.bool (decide (a2 < (x1.length : Int)))]) (res_c (resp_t rfl) res_nil) ⟨_, rfl, rfl⟩
/- platen.platenlaw06.marked -/
def platenlaw06_marked (k : Nat)  : Option Bool :=
  (leader_Of k ([32, 32, 47, 47, 32, 97, 32, 98] : List UInt8)).bind fun a1 => if decide (a1.1 = ([32, 32, 47, 47] : List UInt8)) then (if decide (a1.2.1 = ([32] : List UInt8)) then (if decide (a1.2.2 = ([97, 32, 98] : List UInt8)) then ((leader_Marked k a1.1).bind fun a14 => if a14 then ((leader_Mark k ([35] : List UInt8)).bind fun a19 => some a19) else (some false)) else (some false)) else (some false)) else (some false)
theorem platenlaw06_marked_ok (k : Nat)  (r : Bool)   {σ : St}
    (h : platenlaw06_marked k  = some r) :
    RunF (cE m) 8 [] σ (fun v σ' => σ' = σ ∧ v = .bool r) := by
  refine f_closed rfl rfl rfl cl_nil rfl ?_
  have I0 : Inv .zero [] [] := Inv.zero
  unfold platenlaw06_marked at h
  refine c_seq ?_
  refine c_reg ?_
  refine sp (.bool false) rfl rfl ?_
  refine sx ?_
  refine cn ?_
  refine c_keep keep_nil ?_
  refine c_seq ?_
  refine c_reg ?_
  obtain ⟨a1, g2, h⟩ := bind_some h
  refine st_callc (leader_Of_ok k _ _ g2 ) rfl ?_
  intro v3 q4
  obtain ⟨v5, v7, v9, rfl, q6, q8, q10⟩ := q4
  obtain rfl := q6
  obtain rfl := q8
  obtain rfl := q10
  refine sp (.tuple [.str a1.1, .str a1.2.1, .str a1.2.2]) rfl rfl ?_
  refine sp (.str a1.1) rfl rfl ?_
  refine sp (.str a1.2.1) rfl rfl ?_
  refine sp (.str a1.2.2) rfl rfl ?_
  refine sp (.str a1.1) rfl rfl ?_
  refine sp (.str a1.2.1) rfl rfl ?_
  refine sp (.str a1.2.2) rfl rfl ?_
  refine sx ?_
  refine cn ?_
  refine c_keep (keep_cons rfl (keep_cons rfl (keep_cons rfl keep_nil))) ?_
  refine c_seq ?_
  refine c_reg ?_
  refine sp (.str a1.1) rfl rfl ?_
  refine sp (.bool (decide (a1.1 = ([32, 32, 47, 47] : List UInt8)))) rfl rfl ?_
  refine sp (.bool (decide (a1.1 = ([32, 32, 47, 47] : List UInt8)))) rfl rfl ?_
  rcases bool_tf (decide (a1.1 = ([32, 32, 47, 47] : List UInt8))) with b11 | b11
  · have h := ite_t h b11
    refine sg_run (decide (a1.1 = ([32, 32, 47, 47] : List UInt8))) rfl b11 ?_
    refine sp (.str a1.2.1) rfl rfl ?_
    refine sg_run (decide (a1.1 = ([32, 32, 47, 47] : List UInt8))) rfl b11 ?_
    refine sp (.bool (decide (a1.2.1 = ([32] : List UInt8)))) rfl rfl ?_
    refine sp (.bool (decide (a1.2.1 = ([32] : List UInt8)))) rfl (e_pick_t rfl b11 rfl) ?_
    refine sp (.bool (decide (a1.2.1 = ([32] : List UInt8)))) rfl rfl ?_
    rcases bool_tf (decide (a1.2.1 = ([32] : List UInt8))) with b12 | b12
    · have h := ite_t h b12
      refine sg_run (decide (a1.2.1 = ([32] : List UInt8))) rfl b12 ?_
      refine sp (.str a1.2.2) rfl rfl ?_
      refine sg_run (decide (a1.2.1 = ([32] : List UInt8))) rfl b12 ?_
      refine sp (.bool (decide (a1.2.2 = ([97, 32, 98] : List UInt8)))) rfl rfl ?_
      refine sp (.bool (decide (a1.2.2 = ([97, 32, 98] : List UInt8)))) rfl (e_pick_t rfl b12 rfl) ?_
      refine sp (.bool (decide (a1.2.2 = ([97, 32, 98] : List UInt8)))) rfl rfl ?_
      rcases bool_tf (decide (a1.2.2 = ([97, 32, 98] : List UInt8))) with b13 | b13
      · have h := ite_t h b13
        refine sg_run (decide (a1.2.2 = ([97, 32, 98] : List UInt8))) rfl b13 ?_
        refine sp (.str a1.1) rfl rfl ?_
        refine sg_run (decide (a1.2.2 = ([97, 32, 98] : List UInt8))) rfl b13 ?_
        obtain ⟨a14, g15, h⟩ := bind_some h
        refine st_callc (leader_Marked_ok k _ _ g15 ) rfl ?_
        intro v16 q17
        obtain rfl := q17
        refine sp (.bool a14) rfl (e_pick_t rfl b13 rfl) ?_
        refine sp (.bool a14) rfl rfl ?_
        rcases bool_tf a14 with b18 | b18
        · have h := ite_t h b18
          refine sg_run a14 rfl b18 ?_
          obtain ⟨a19, g20, h⟩ := bind_some h
          refine st_callc (leader_Mark_ok k _ _ g20 ) rfl ?_
          intro v21 q22
          obtain rfl := q22
          refine sp (.bool a19) rfl (e_pick_t rfl b18 rfl) ?_
          refine sp (.bool a19) rfl rfl ?_
          refine sx ?_
          refine cn ?_
          refine c_ret ?_
          obtain rfl := some_eq h
          exact rr (vs := [.bool a19]) (res_c (resp_t rfl) res_nil) ⟨_, rfl, rfl⟩
        · have h := ite_f h b18
          refine sg_skip a14 rfl b18 ?_
          refine sp (.bool false) rfl (e_pick_f rfl b18 rfl) ?_
          refine sp (.bool false) rfl rfl ?_
          refine sx ?_
          refine cn ?_
          refine c_ret ?_
          obtain rfl := some_eq h
          exact rr (vs := [.bool false]) (res_c (resp_t rfl) res_nil) ⟨_, rfl, rfl⟩
      · have h := ite_f h b13
        refine sg_skip (decide (a1.2.2 = ([97, 32, 98] : List UInt8))) rfl b13 ?_
        refine sg_skip (decide (a1.2.2 = ([97, 32, 98] : List UInt8))) rfl b13 ?_
        refine sp (.bool false) rfl (e_pick_f rfl b13 rfl) ?_
        refine sp (.bool false) rfl rfl ?_
        refine sg_skip false rfl rfl ?_
        refine sp (.bool false) rfl (e_pick_f rfl rfl rfl) ?_
        refine sp (.bool false) rfl rfl ?_
        refine sx ?_
        refine cn ?_
        refine c_ret ?_
        obtain rfl := some_eq h
        exact rr (vs := [.bool false]) (res_c (resp_t rfl) res_nil) ⟨_, rfl, rfl⟩
    · have h := ite_f h b12
      refine sg_skip (decide (a1.2.1 = ([32] : List UInt8))) rfl b12 ?_
      refine sg_skip (decide (a1.2.1 = ([32] : List UInt8))) rfl b12 ?_
      refine sp (.bool false) rfl (e_pick_f rfl b12 rfl) ?_
      refine sp (.bool false) rfl rfl ?_
      refine sg_skip false rfl rfl ?_
      refine sg_skip false rfl rfl ?_
      refine sp (.bool false) rfl (e_pick_f rfl rfl rfl) ?_
      refine sp (.bool false) rfl rfl ?_
      refine sg_skip false rfl rfl ?_
      refine sp (.bool false) rfl (e_pick_f rfl rfl rfl) ?_
      refine sp (.bool false) rfl rfl ?_
      refine sx ?_
      refine cn ?_
      refine c_ret ?_
      obtain rfl := some_eq h
      exact rr (vs := [.bool false]) (res_c (resp_t rfl) res_nil) ⟨_, rfl, rfl⟩
  · have h := ite_f h b11
    refine sg_skip (decide (a1.1 = ([32, 32, 47, 47] : List UInt8))) rfl b11 ?_
    refine sg_skip (decide (a1.1 = ([32, 32, 47, 47] : List UInt8))) rfl b11 ?_
    refine sp (.bool false) rfl (e_pick_f rfl b11 rfl) ?_
    refine sp (.bool false) rfl rfl ?_
    refine sg_skip false rfl rfl ?_
    refine sg_skip false rfl rfl ?_
    refine sp (.bool false) rfl (e_pick_f rfl rfl rfl) ?_
    refine sp (.bool false) rfl rfl ?_
    refine sg_skip false rfl rfl ?_
    refine sg_skip false rfl rfl ?_
    refine sp (.bool false) rfl (e_pick_f rfl rfl rfl) ?_
    refine sp (.bool false) rfl rfl ?_
    refine sg_skip false rfl rfl ?_
    refine sp (.bool false) rfl (e_pick_f rfl rfl rfl) ?_
    refine sp (.bool false) rfl rfl ?_
    refine sx ?_
    refine cn ?_
    refine c_ret ?_
    obtain rfl := some_eq h
    exact rr (vs := [.bool false]) (res_c (resp_t rfl) res_nil) ⟨_, rfl, rfl⟩
/- platen.platenref06.Mark -/
def platenref06_Mark (k : Nat) (x1 : List UInt8) : Option Bool :=
  if decide (x1 = ([47, 47] : List UInt8)) then (some true) else (if decide (x1 = ([45, 45] : List UInt8)) then (some true) else (if decide (x1 = ([59, 59] : List UInt8)) then (some true) else (if decide (x1 = ([35] : List UInt8)) then (some true) else (if decide (x1 = ([59] : List UInt8)) then (some true) else (if decide (x1 = ([42] : List UInt8)) then (some true) else (if decide (x1 = ([62] : List UInt8)) then (some true) else (some (decide (x1 = ([37] : List UInt8))))))))))
theorem platenref06_Mark_ok (k : Nat) (x1 : List UInt8) (r : Bool)   {σ : St}
    (h : platenref06_Mark k x1 = some r) :
    RunF (cE m) 10 [.str x1] σ (fun v σ' => σ' = σ ∧ v = .bool r) := by
  refine f_closed rfl rfl rfl (cl_cons rfl cl_nil) rfl ?_
  have I0 : Inv .zero [] [] := Inv.zero
  unfold platenref06_Mark at h
  refine c_seq ?_
  refine c_reg ?_
  refine sp (.bool false) rfl rfl ?_
  refine sx ?_
  refine cn ?_
  refine c_keep (keep_cons rfl keep_nil) ?_
  refine c_seq ?_
  refine c_reg ?_
  refine sp (.str x1) rfl rfl ?_
  refine sp (.bool (decide (x1 = ([47, 47] : List UInt8)))) rfl rfl ?_
  refine sp (.bool (decide (x1 = ([47, 47] : List UInt8)))) rfl rfl ?_
  rcases bool_tf (decide (x1 = ([47, 47] : List UInt8))) with b2 | b2
  · have h := ite_t h b2
    refine sg_skip (decide (x1 = ([47, 47] : List UInt8))) rfl b2 ?_
    refine sg_skip (decide (x1 = ([47, 47] : List UInt8))) rfl b2 ?_
    refine sp (.bool true) rfl (e_pick_t rfl b2 rfl) ?_
    refine sp (.bool true) rfl rfl ?_
    refine sg_skip true rfl rfl ?_
    refine sg_skip true rfl rfl ?_
    refine sp (.bool true) rfl (e_pick_t rfl rfl rfl) ?_
    refine sp (.bool true) rfl rfl ?_
    refine sg_skip true rfl rfl ?_
    refine sg_skip true rfl rfl ?_
    refine sp (.bool true) rfl (e_pick_t rfl rfl rfl) ?_
    refine sp (.bool true) rfl rfl ?_
    refine sg_skip true rfl rfl ?_
    refine sg_skip true rfl rfl ?_
    refine sp (.bool true) rfl (e_pick_t rfl rfl rfl) ?_
    refine sp (.bool true) rfl rfl ?_
    refine sg_skip true rfl rfl ?_
    refine sg_skip true rfl rfl ?_
    refine sp (.bool true) rfl (e_pick_t rfl rfl rfl) ?_
    refine sp (.bool true) rfl rfl ?_
    refine sg_skip true rfl rfl ?_
    refine sg_skip true rfl rfl ?_
    refine sp (.bool true) rfl (e_pick_t rfl rfl rfl) ?_
    refine sp (.bool true) rfl rfl ?_
    refine sg_skip true rfl rfl ?_
    refine sg_skip true rfl rfl ?_
    refine sp (.bool true) rfl (e_pick_t rfl rfl rfl) ?_
    refine sp (.bool true) rfl rfl ?_
    refine sx ?_
    refine cn ?_
    refine c_ret ?_
    obtain rfl := some_eq h
    exact rr (vs := [.bool true]) (res_c (resp_t rfl) res_nil) ⟨_, rfl, rfl⟩
  · have h := ite_f h b2
    refine sg_run (decide (x1 = ([47, 47] : List UInt8))) rfl b2 ?_
    refine sp (.str x1) rfl rfl ?_
    refine sg_run (decide (x1 = ([47, 47] : List UInt8))) rfl b2 ?_
    refine sp (.bool (decide (x1 = ([45, 45] : List UInt8)))) rfl rfl ?_
    refine sp (.bool (decide (x1 = ([45, 45] : List UInt8)))) rfl (e_pick_f rfl b2 rfl) ?_
    refine sp (.bool (decide (x1 = ([45, 45] : List UInt8)))) rfl rfl ?_
    rcases bool_tf (decide (x1 = ([45, 45] : List UInt8))) with b3 | b3
    · have h := ite_t h b3
      refine sg_skip (decide (x1 = ([45, 45] : List UInt8))) rfl b3 ?_
      refine sg_skip (decide (x1 = ([45, 45] : List UInt8))) rfl b3 ?_
      refine sp (.bool true) rfl (e_pick_t rfl b3 rfl) ?_
      refine sp (.bool true) rfl rfl ?_
      refine sg_skip true rfl rfl ?_
      refine sg_skip true rfl rfl ?_
      refine sp (.bool true) rfl (e_pick_t rfl rfl rfl) ?_
      refine sp (.bool true) rfl rfl ?_
      refine sg_skip true rfl rfl ?_
      refine sg_skip true rfl rfl ?_
      refine sp (.bool true) rfl (e_pick_t rfl rfl rfl) ?_
      refine sp (.bool true) rfl rfl ?_
      refine sg_skip true rfl rfl ?_
      refine sg_skip true rfl rfl ?_
      refine sp (.bool true) rfl (e_pick_t rfl rfl rfl) ?_
      refine sp (.bool true) rfl rfl ?_
      refine sg_skip true rfl rfl ?_
      refine sg_skip true rfl rfl ?_
      refine sp (.bool true) rfl (e_pick_t rfl rfl rfl) ?_
      refine sp (.bool true) rfl rfl ?_
      refine sg_skip true rfl rfl ?_
      refine sg_skip true rfl rfl ?_
      refine sp (.bool true) rfl (e_pick_t rfl rfl rfl) ?_
      refine sp (.bool true) rfl rfl ?_
      refine sx ?_
      refine cn ?_
      refine c_ret ?_
      obtain rfl := some_eq h
      exact rr (vs := [.bool true]) (res_c (resp_t rfl) res_nil) ⟨_, rfl, rfl⟩
    · have h := ite_f h b3
      refine sg_run (decide (x1 = ([45, 45] : List UInt8))) rfl b3 ?_
      refine sp (.str x1) rfl rfl ?_
      refine sg_run (decide (x1 = ([45, 45] : List UInt8))) rfl b3 ?_
      refine sp (.bool (decide (x1 = ([59, 59] : List UInt8)))) rfl rfl ?_
      refine sp (.bool (decide (x1 = ([59, 59] : List UInt8)))) rfl (e_pick_f rfl b3 rfl) ?_
      refine sp (.bool (decide (x1 = ([59, 59] : List UInt8)))) rfl rfl ?_
      rcases bool_tf (decide (x1 = ([59, 59] : List UInt8))) with b4 | b4
      · have h := ite_t h b4
        refine sg_skip (decide (x1 = ([59, 59] : List UInt8))) rfl b4 ?_
        refine sg_skip (decide (x1 = ([59, 59] : List UInt8))) rfl b4 ?_
        refine sp (.bool true) rfl (e_pick_t rfl b4 rfl) ?_
        refine sp (.bool true) rfl rfl ?_
        refine sg_skip true rfl rfl ?_
        refine sg_skip true rfl rfl ?_
        refine sp (.bool true) rfl (e_pick_t rfl rfl rfl) ?_
        refine sp (.bool true) rfl rfl ?_
        refine sg_skip true rfl rfl ?_
        refine sg_skip true rfl rfl ?_
        refine sp (.bool true) rfl (e_pick_t rfl rfl rfl) ?_
        refine sp (.bool true) rfl rfl ?_
        refine sg_skip true rfl rfl ?_
        refine sg_skip true rfl rfl ?_
        refine sp (.bool true) rfl (e_pick_t rfl rfl rfl) ?_
        refine sp (.bool true) rfl rfl ?_
        refine sg_skip true rfl rfl ?_
        refine sg_skip true rfl rfl ?_
        refine sp (.bool true) rfl (e_pick_t rfl rfl rfl) ?_
        refine sp (.bool true) rfl rfl ?_
        refine sx ?_
        refine cn ?_
        refine c_ret ?_
        obtain rfl := some_eq h
        exact rr (vs := [.bool true]) (res_c (resp_t rfl) res_nil) ⟨_, rfl, rfl⟩
      · have h := ite_f h b4
        refine sg_run (decide (x1 = ([59, 59] : List UInt8))) rfl b4 ?_
        refine sp (.str x1) rfl rfl ?_
        refine sg_run (decide (x1 = ([59, 59] : List UInt8))) rfl b4 ?_
        refine sp (.bool (decide (x1 = ([35] : List UInt8)))) rfl rfl ?_
        refine sp (.bool (decide (x1 = ([35] : List UInt8)))) rfl (e_pick_f rfl b4 rfl) ?_
        refine sp (.bool (decide (x1 = ([35] : List UInt8)))) rfl rfl ?_
        rcases bool_tf (decide (x1 = ([35] : List UInt8))) with b5 | b5
        · have h := ite_t h b5
          refine sg_skip (decide (x1 = ([35] : List UInt8))) rfl b5 ?_
          refine sg_skip (decide (x1 = ([35] : List UInt8))) rfl b5 ?_
          refine sp (.bool true) rfl (e_pick_t rfl b5 rfl) ?_
          refine sp (.bool true) rfl rfl ?_
          refine sg_skip true rfl rfl ?_
          refine sg_skip true rfl rfl ?_
          refine sp (.bool true) rfl (e_pick_t rfl rfl rfl) ?_
          refine sp (.bool true) rfl rfl ?_
          refine sg_skip true rfl rfl ?_
          refine sg_skip true rfl rfl ?_
          refine sp (.bool true) rfl (e_pick_t rfl rfl rfl) ?_
          refine sp (.bool true) rfl rfl ?_
          refine sg_skip true rfl rfl ?_
          refine sg_skip true rfl rfl ?_
          refine sp (.bool true) rfl (e_pick_t rfl rfl rfl) ?_
          refine sp (.bool true) rfl rfl ?_
          refine sx ?_
          refine cn ?_
          refine c_ret ?_
          obtain rfl := some_eq h
          exact rr (vs := [.bool true]) (res_c (resp_t rfl) res_nil) ⟨_, rfl, rfl⟩
        · have h := ite_f h b5
          refine sg_run (decide (x1 = ([35] : List UInt8))) rfl b5 ?_
          refine sp (.str x1) rfl rfl ?_
          refine sg_run (decide (x1 = ([35] : List UInt8))) rfl b5 ?_
          refine sp (.bool (decide (x1 = ([59] : List UInt8)))) rfl rfl ?_
          refine sp (.bool (decide (x1 = ([59] : List UInt8)))) rfl (e_pick_f rfl b5 rfl) ?_
          refine sp (.bool (decide (x1 = ([59] : List UInt8)))) rfl rfl ?_
          rcases bool_tf (decide (x1 = ([59] : List UInt8))) with b6 | b6
          · have h := ite_t h b6
            refine sg_skip (decide (x1 = ([59] : List UInt8))) rfl b6 ?_
            refine sg_skip (decide (x1 = ([59] : List UInt8))) rfl b6 ?_
            refine sp (.bool true) rfl (e_pick_t rfl b6 rfl) ?_
            refine sp (.bool true) rfl rfl ?_
            refine sg_skip true rfl rfl ?_
            refine sg_skip true rfl rfl ?_
            refine sp (.bool true) rfl (e_pick_t rfl rfl rfl) ?_
            refine sp (.bool true) rfl rfl ?_
            refine sg_skip true rfl rfl ?_
            refine sg_skip true rfl rfl ?_
            refine sp (.bool true) rfl (e_pick_t rfl rfl rfl) ?_
            refine sp (.bool true) rfl rfl ?_
            refine sx ?_
            refine cn ?_
            refine c_ret ?_
            obtain rfl := some_eq h
            exact rr (vs := [.bool true]) (res_c (resp_t rfl) res_nil) ⟨_, rfl, rfl⟩
          · have h := ite_f h b6
            refine sg_run (decide (x1 = ([59] : List UInt8))) rfl b6 ?_
            refine sp (.str x1) rfl rfl ?_
            refine sg_run (decide (x1 = ([59] : List UInt8))) rfl b6 ?_
            refine sp (.bool (decide (x1 = ([42] : List UInt8)))) rfl rfl ?_
            refine sp (.bool (decide (x1 = ([42] : List UInt8)))) rfl (e_pick_f rfl b6 rfl) ?_
            refine sp (.bool (decide (x1 = ([42] : List UInt8)))) rfl rfl ?_
            rcases bool_tf (decide (x1 = ([42] : List UInt8))) with b7 | b7
            · have h := ite_t h b7
              refine sg_skip (decide (x1 = ([42] : List UInt8))) rfl b7 ?_
              refine sg_skip (decide (x1 = ([42] : List UInt8))) rfl b7 ?_
              refine sp (.bool true) rfl (e_pick_t rfl b7 rfl) ?_
              refine sp (.bool true) rfl rfl ?_
              refine sg_skip true rfl rfl ?_
              refine sg_skip true rfl rfl ?_
              refine sp (.bool true) rfl (e_pick_t rfl rfl rfl) ?_
              refine sp (.bool true) rfl rfl ?_
              refine sx ?_
              refine cn ?_
              refine c_ret ?_
              obtain rfl := some_eq h
              exact rr (vs := [.bool true]) (res_c (resp_t rfl) res_nil) ⟨_, rfl, rfl⟩
            · have h := ite_f h b7
              refine sg_run (decide (x1 = ([42] : List UInt8))) rfl b7 ?_
              refine sp (.str x1) rfl rfl ?_
              refine sg_run (decide (x1 = ([42] : List UInt8))) rfl b7 ?_
              refine sp (.bool (decide (x1 = ([62] : List UInt8)))) rfl rfl ?_
              refine sp (.bool (decide (x1 = ([62] : List UInt8)))) rfl (e_pick_f rfl b7 rfl) ?_
              refine sp (.bool (decide (x1 = ([62] : List UInt8)))) rfl rfl ?_
              rcases bool_tf (decide (x1 = ([62] : List UInt8))) with b8 | b8
              · have h := ite_t h b8
                refine sg_skip (decide (x1 = ([62] : List UInt8))) rfl b8 ?_
                refine sg_skip (decide (x1 = ([62] : List UInt8))) rfl b8 ?_
                refine sp (.bool true) rfl (e_pick_t rfl b8 rfl) ?_
                refine sp (.bool true) rfl rfl ?_
                refine sx ?_
                refine cn ?_
                refine c_ret ?_
                obtain rfl := some_eq h
                exact rr (vs := [.bool true]) (res_c (resp_t rfl) res_nil) ⟨_, rfl, rfl⟩
              · have h := ite_f h b8
                refine sg_run (decide (x1 = ([62] : List UInt8))) rfl b8 ?_
                refine sp (.str x1) rfl rfl ?_
                refine sg_run (decide (x1 = ([62] : List UInt8))) rfl b8 ?_
                refine sp (.bool (decide (x1 = ([37] : List UInt8)))) rfl rfl ?_
                refine sp (.bool (decide (x1 = ([37] : List UInt8)))) rfl (e_pick_f rfl b8 rfl) ?_
                refine sp (.bool (decide (x1 = ([37] : List UInt8)))) rfl rfl ?_
                refine sx ?_
                refine cn ?_
                refine c_ret ?_
                obtain rfl := some_eq h
                exact rr (vs := [.bool (decide (x1 = ([37] : List UInt8)))]) (res_c (resp_t rfl) res_nil) ⟨_, rfl, rfl⟩
/- platen.platenlaw06.LeaderMarks -/
def platenlaw06_LeaderMarks_j5 (k : Nat) (x1 : List UInt8) (x7 : Bool) : Option Bool :=
  if x7 then ((platenlaw06_marked k).bind fun a9 => some a9) else ((leader_Mark k x1).bind fun a13 => (platenref06_Mark k x1).bind fun a17 => if (a13 == a17) then ((leader_Mark k ([59, 59] : List UInt8)).bind fun a22 => if a22 then ((leader_Mark k ([] : List UInt8)).bind fun a27 => some (!a27)) else (some false)) else (some false))
def platenlaw06_LeaderMarks (k : Nat) (x1 : List UInt8) : Option Bool :=
  (platenlaw06_marked k).bind fun a2 => if !a2 then (platenlaw06_LeaderMarks_j5 k x1 true) else (platenlaw06_LeaderMarks_j5 k x1 (decide (300 < (x1.length : Int))))
theorem platenlaw06_LeaderMarks_j5_ok (k : Nat) (x1 : List UInt8) (x7 : Bool) {r : Bool}  {tm : List (Nat × AV)} {σ : St} {B : List (Nat × Blk)} {O : List AV}
    (h : platenlaw06_LeaderMarks_j5 k x1 x7 = some r)
    (e0 : lk tm 0 = some (.str x1))
    (e9 : lk tm 9 = some (.bool x7))
    (I : Inv σ (B) (O)) :
    RunC (cE m) c3c5 ⟨tm, σ⟩ (Cont (cE m) c3c10 (ResP (E := (cE m)) c3.res (fun v σ' => ∃ v', close v = some v' ∧ v' = .bool r))) := by
  unfold platenlaw06_LeaderMarks_j5 at h
  refine c_keep (keep_cons e0 (keep_cons e9 keep_nil)) ?_
  rcases bool_tf x7 with b8 | b8
  · have h := ite_t h b8
    refine c_cond_t x7 rfl b8 ?_
    refine c_seq ?_
    refine c_reg ?_
    obtain ⟨a9, g10, h⟩ := bind_some h
    refine st_callc (platenlaw06_marked_ok k  _ g10 ) rfl ?_
    intro v11 q12
    obtain rfl := q12
    refine sp (.bool a9) rfl rfl ?_
    refine sx ?_
    refine cn ?_
    refine c_ret ?_
    refine cr ?_
    obtain rfl := some_eq h
    exact rr (vs := [.bool a9]) (res_c (resp_t rfl) res_nil) ⟨_, rfl, rfl⟩
  · have h := ite_f h b8
    refine c_cond_f x7 rfl b8 ?_
    refine c_skip ?_
    refine cn ?_
    refine c_keep (keep_cons rfl keep_nil) ?_
    refine c_seq ?_
    refine c_reg ?_
    refine sp (.str x1) rfl rfl ?_
    obtain ⟨a13, g14, h⟩ := bind_some h
    refine st_callc (leader_Mark_ok k _ _ g14 ) rfl ?_
    intro v15 q16
    obtain rfl := q16
    refine sp (.str x1) rfl rfl ?_
    obtain ⟨a17, g18, h⟩ := bind_some h
    refine st_callc (platenref06_Mark_ok k _ _ g18 ) rfl ?_
    intro v19 q20
    obtain rfl := q20
    refine sp (.bool (a13 == a17)) rfl rfl ?_
    refine sp (.bool (a13 == a17)) rfl rfl ?_
    rcases bool_tf (a13 == a17) with b21 | b21
    · have h := ite_t h b21
      refine sg_run (a13 == a17) rfl b21 ?_
      obtain ⟨a22, g23, h⟩ := bind_some h
      refine st_callc (leader_Mark_ok k _ _ g23 ) rfl ?_
      intro v24 q25
      obtain rfl := q25
      refine sp (.bool a22) rfl (e_pick_t rfl b21 rfl) ?_
      refine sp (.bool a22) rfl rfl ?_
      rcases bool_tf a22 with b26 | b26
      · have h := ite_t h b26
        refine sg_run a22 rfl b26 ?_
        obtain ⟨a27, g28, h⟩ := bind_some h
        refine st_callc (leader_Mark_ok k _ _ g28 ) rfl ?_
        intro v29 q30
        obtain rfl := q30
        refine sg_run a22 rfl b26 ?_
        refine sp (.bool (!a27)) rfl rfl ?_
        refine sp (.bool (!a27)) rfl (e_pick_t rfl b26 rfl) ?_
        refine sp (.bool (!a27)) rfl rfl ?_
        refine sx ?_
        refine cn ?_
        refine c_ret ?_
        obtain rfl := some_eq h
        exact rr (vs := [.bool (!a27)]) (res_c (resp_t rfl) res_nil) ⟨_, rfl, rfl⟩
      · have h := ite_f h b26
        refine sg_skip a22 rfl b26 ?_
        refine sg_skip a22 rfl b26 ?_
        refine sp (.bool false) rfl (e_pick_f rfl b26 rfl) ?_
        refine sp (.bool false) rfl rfl ?_
        refine sx ?_
        refine cn ?_
        refine c_ret ?_
        obtain rfl := some_eq h
        exact rr (vs := [.bool false]) (res_c (resp_t rfl) res_nil) ⟨_, rfl, rfl⟩
    · have h := ite_f h b21
      refine sg_skip (a13 == a17) rfl b21 ?_
      refine sp (.bool false) rfl (e_pick_f rfl b21 rfl) ?_
      refine sp (.bool false) rfl rfl ?_
      refine sg_skip false rfl rfl ?_
      refine sg_skip false rfl rfl ?_
      refine sp (.bool false) rfl (e_pick_f rfl rfl rfl) ?_
      refine sp (.bool false) rfl rfl ?_
      refine sx ?_
      refine cn ?_
      refine c_ret ?_
      obtain rfl := some_eq h
      exact rr (vs := [.bool false]) (res_c (resp_t rfl) res_nil) ⟨_, rfl, rfl⟩
theorem platenlaw06_LeaderMarks_ok (k : Nat) (x1 : List UInt8) (r : Bool)   {σ : St}
    (h : platenlaw06_LeaderMarks k x1 = some r) :
    RunF (cE m) 3 [.str x1] σ (fun v σ' => σ' = σ ∧ v = .bool r) := by
  refine f_closed rfl rfl rfl (cl_cons rfl cl_nil) rfl ?_
  have I0 : Inv .zero [] [] := Inv.zero
  unfold platenlaw06_LeaderMarks at h
  refine c_seq ?_
  refine c_reg ?_
  refine sp (.bool false) rfl rfl ?_
  refine sx ?_
  refine cn ?_
  refine c_keep (keep_cons rfl keep_nil) ?_
  refine c_seq ?_
  refine c_seq ?_
  refine c_reg ?_
  obtain ⟨a2, g3, h⟩ := bind_some h
  refine st_callc (platenlaw06_marked_ok k  _ g3 ) rfl ?_
  intro v4 q5
  obtain rfl := q5
  refine sp (.bool (!a2)) rfl rfl ?_
  refine sp (.bool (!a2)) rfl rfl ?_
  rcases bool_tf (!a2) with b6 | b6
  · have h := ite_t h b6
    refine sg_skip (!a2) rfl b6 ?_
    refine sg_skip (!a2) rfl b6 ?_
    refine sg_skip (!a2) rfl b6 ?_
    refine sp (.bool true) rfl (e_pick_t rfl b6 rfl) ?_
    refine sx ?_
    refine cn ?_
    exact platenlaw06_LeaderMarks_j5_ok k x1 true h rfl rfl   I0
  · have h := ite_f h b6
    refine sg_run (!a2) rfl b6 ?_
    refine sp (.str x1) rfl rfl ?_
    refine sg_run (!a2) rfl b6 ?_
    refine sp (.int .i64 (x1.length : Int)) rfl rfl ?_
    refine sg_run (!a2) rfl b6 ?_
    refine sp (.bool (decide (300 < (x1.length : Int)))) rfl rfl ?_
    refine sp (.bool (decide (300 < (x1.length : Int)))) rfl (e_pick_f rfl b6 rfl) ?_
    refine sx ?_
    refine cn ?_
    exact platenlaw06_LeaderMarks_j5_ok k x1 (decide (300 < (x1.length : Int))) h rfl rfl   I0
/- platen.platenref01.Blank -/
def platenref01_Blank (k : Nat) (x1 : UInt8) : Option Bool :=
  if decide ((x1.toNat : Int) = 32) then (some true) else (some (decide ((x1.toNat : Int) = 9)))
theorem platenref01_Blank_ok (k : Nat) (x1 : UInt8) (r : Bool)   {σ : St}
    (h : platenref01_Blank k x1 = some r) :
    RunF (cE m) 23 [u8 x1] σ (fun v σ' => σ' = σ ∧ v = .bool r) := by
  refine f_closed rfl rfl rfl (cl_cons rfl cl_nil) rfl ?_
  have I0 : Inv .zero [] [] := Inv.zero
  unfold platenref01_Blank at h
  refine c_seq ?_
  refine c_reg ?_
  refine sp (.bool false) rfl rfl ?_
  refine sx ?_
  refine cn ?_
  refine c_keep (keep_cons rfl keep_nil) ?_
  refine c_seq ?_
  refine c_reg ?_
  refine sp (u8 x1) rfl rfl ?_
  refine sp (.bool (decide ((x1.toNat : Int) = 32))) rfl rfl ?_
  refine sp (.bool (decide ((x1.toNat : Int) = 32))) rfl rfl ?_
  rcases bool_tf (decide ((x1.toNat : Int) = 32)) with b2 | b2
  · have h := ite_t h b2
    refine sg_skip (decide ((x1.toNat : Int) = 32)) rfl b2 ?_
    refine sg_skip (decide ((x1.toNat : Int) = 32)) rfl b2 ?_
    refine sp (.bool true) rfl (e_pick_t rfl b2 rfl) ?_
    refine sp (.bool true) rfl rfl ?_
    refine sx ?_
    refine cn ?_
    refine c_ret ?_
    obtain rfl := some_eq h
    exact rr (vs := [.bool true]) (res_c (resp_t rfl) res_nil) ⟨_, rfl, rfl⟩
  · have h := ite_f h b2
    refine sg_run (decide ((x1.toNat : Int) = 32)) rfl b2 ?_
    refine sp (u8 x1) rfl rfl ?_
    refine sg_run (decide ((x1.toNat : Int) = 32)) rfl b2 ?_
    refine sp (.bool (decide ((x1.toNat : Int) = 9))) rfl rfl ?_
    refine sp (.bool (decide ((x1.toNat : Int) = 9))) rfl (e_pick_f rfl b2 rfl) ?_
    refine sp (.bool (decide ((x1.toNat : Int) = 9))) rfl rfl ?_
    refine sx ?_
    refine cn ?_
    refine c_ret ?_
    obtain rfl := some_eq h
    exact rr (vs := [.bool (decide ((x1.toNat : Int) = 9))]) (res_c (resp_t rfl) res_nil) ⟨_, rfl, rfl⟩
/- platen.platenref03.Indent -/
def platenref03_Indent_l6 (x1 : List UInt8) : Nat → Int → Option Int
  | 0, _ => none
  | k + 1, x4 => if decide (x4 < (x1.length : Int)) then ((lIdx x1 x4).bind fun a6 => (platenref01_Blank k a6).bind fun a14 => if a14 then (platenref03_Indent_l6 x1 k (IntKind.i64.wrap (x4 + 1))) else (some x4)) else (some x4)
def platenref03_Indent (k : Nat) (x1 : List UInt8) : Option Int :=
  (platenref03_Indent_l6 x1 k 0).bind fun x19 => some x19
theorem platenref03_Indent_l6_ok (x1 : List UInt8) {out : Int} {v2 : AV} {Q : Ex → M → Prop} {B : List (Nat × Blk)} {O : List AV}
    (s3 : SL RU8 1 x1 v2)
    (hL0 : ∀ (x19 : Int) (tm : List (Nat × AV)) (σ : St), lk tm 3 = some (.int .i64 x19) → Inv σ (B) (O) → x19 = out → Q (.exit 0) ⟨tm, σ⟩) :
    ∀ (k : Nat) (x4 : Int)  (tm : List (Nat × AV)) (σ : St), platenref03_Indent_l6 x1 k x4 = some out →
    lk tm 0 = some (v2) →
    lk tm 3 = some (.int .i64 x4) →
    Inv σ (B) (O) → RunC (cE m) (.loop c18l6) ⟨tm, σ⟩ Q := by
  intro k
  induction k with
  | zero => intros; exact none_eq ‹platenref03_Indent_l6 x1 0 _ = some out›
  | succ k ih =>
    intro x4 tm σ h e0 e3  I
    rw [platenref03_Indent_l6] at h
    refine c_loop ?_
    refine c_keep (keep_cons e0 (keep_cons e3 keep_nil)) ?_
    refine c_seq ?_
    refine c_seq ?_
    refine c_reg ?_
    refine sp (.int .i64 x4) rfl rfl ?_
    refine sp (v2) rfl rfl ?_
    refine sp (.int .i64 (x1.length : Int)) rfl (e_len rfl s3 (Nat.le_of_ble_eq_true rfl)) ?_
    refine sp (.bool (decide (x4 < (x1.length : Int)))) rfl rfl ?_
    refine sp (.bool (decide (x4 < (x1.length : Int)))) rfl rfl ?_
    rcases bool_tf (decide (x4 < (x1.length : Int))) with b5 | b5
    · have h := ite_t h b5
      refine sg_run (decide (x4 < (x1.length : Int))) rfl b5 ?_
      refine sp (v2) rfl rfl ?_
      refine sg_run (decide (x4 < (x1.length : Int))) rfl b5 ?_
      refine sp (.int .i64 x4) rfl rfl ?_
      refine sg_run (decide (x4 < (x1.length : Int))) rfl b5 ?_
      obtain ⟨a6, g7, h⟩ := bind_some h
      refine st_idxa rfl s3 rfl (Nat.le_of_ble_eq_true rfl) g7 ?_
      intro c8 o9 d10 q11 z12 l13
      obtain rfl := q11
      clear z12
      refine sg_run (decide (x4 < (x1.length : Int))) rfl b5 ?_
      refine sp (u8 a6) rfl (e_load_elem 0 rfl l13 rfl) ?_
      refine sg_run (decide (x4 < (x1.length : Int))) rfl b5 ?_
      obtain ⟨a14, g15, h⟩ := bind_some h
      refine st_callc (platenref01_Blank_ok k _ _ g15 ) rfl ?_
      intro v16 q17
      obtain rfl := q17
      refine sp (.bool a14) rfl (e_pick_t rfl b5 rfl) ?_
      refine sx ?_
      refine cn ?_
      refine c_keep (keep_cons rfl (keep_cons rfl (keep_cons rfl keep_nil))) ?_
      rcases bool_tf a14 with b18 | b18
      · have h := ite_t h b18
        refine c_cond_t a14 rfl b18 ?_
        refine c_skip ?_
        refine cn ?_
        refine c_keep (keep_cons rfl (keep_cons rfl keep_nil)) ?_
        refine c_block ?_
        refine c_reg ?_
        refine sp (.int .i64 x4) rfl rfl ?_
        refine sp (.int .i64 (IntKind.i64.wrap (x4 + 1))) rfl rfl ?_
        refine sp (.int .i64 (IntKind.i64.wrap (x4 + 1))) rfl rfl ?_
        refine sx ?_
        refine bn ?_
        refine cn ?_
        exact ih (IntKind.i64.wrap (x4 + 1))  _ _ h rfl rfl  I
      · have h := ite_f h b18
        refine c_cond_f a14 rfl b18 ?_
        refine c_exit ?_
        refine cx ?_
        refine cx ?_
        exact hL0 x4  _ _ rfl  I (some_eq h)
    · have h := ite_f h b5
      refine sg_skip (decide (x4 < (x1.length : Int))) rfl b5 ?_
      refine sg_skip (decide (x4 < (x1.length : Int))) rfl b5 ?_
      refine sg_skip (decide (x4 < (x1.length : Int))) rfl b5 ?_
      refine sg_skip (decide (x4 < (x1.length : Int))) rfl b5 ?_
      refine sg_skip (decide (x4 < (x1.length : Int))) rfl b5 ?_
      refine sp (.bool false) rfl (e_pick_f rfl b5 rfl) ?_
      refine sx ?_
      refine cn ?_
      refine c_keep (keep_cons rfl (keep_cons rfl (keep_cons rfl keep_nil))) ?_
      refine c_cond_f false rfl rfl ?_
      refine c_exit ?_
      refine cx ?_
      refine cx ?_
      exact hL0 x4  _ _ rfl  I (some_eq h)
theorem platenref03_Indent_ok (k : Nat) (x1 : List UInt8) (r : Int) {v2 : AV}  {σ : St}
    (h : platenref03_Indent k x1 = some r)
    (s3 : SL RU8 1 x1 v2) :
    RunF (cE m) 18 [v2] σ (fun v σ' => σ' = σ ∧ v = .int .i64 r) := by
  obtain ⟨v2, k0, s3⟩ := s3.close
  refine f_closed rfl rfl rfl (cl_cons k0 cl_nil) rfl ?_
  have I0 : Inv .zero [] [] := Inv.zero
  unfold platenref03_Indent at h
  refine c_seq ?_
  refine c_reg ?_
  refine sp (.int .i64 0) rfl rfl ?_
  refine sx ?_
  refine cn ?_
  refine c_keep (keep_cons rfl keep_nil) ?_
  refine c_seq ?_
  refine c_reg ?_
  refine sp (.int .i64 0) rfl rfl ?_
  refine sx ?_
  refine cn ?_
  refine c_keep (keep_cons rfl (keep_cons rfl keep_nil)) ?_
  refine c_seq ?_
  refine c_block ?_
  obtain ⟨a20, g21, h⟩ := bind_some h
  refine platenref03_Indent_l6_ok x1 s3 ?_ k 0  _ _ g21 rfl rfl  I0
  · intro x19 tm22 σ23 e26  I24 ho25
    subst ho25
    refine bx ?_
    refine cn ?_
    refine c_keep (keep_cons e26 keep_nil) ?_
    refine c_seq ?_
    refine c_reg ?_
    refine sp (.int .i64 x19) rfl rfl ?_
    refine sp (.int .i64 x19) rfl rfl ?_
    refine sx ?_
    refine cn ?_
    refine c_ret ?_
    obtain rfl := some_eq h
    exact rr (vs := [.int .i64 x19]) (res_c (resp_t rfl) res_nil) ⟨_, rfl, rfl⟩
/- platen.platenref06.Of -/
def platenref06_Of_l8 (x1 : List UInt8) (x7 : Int) : Nat → Int → Option Int
  | 0, _ => none
  | k + 1, x8 => if decide (x8 < (x1.length : Int)) then ((lIdx x1 x8).bind fun a10 => if !decide ((a10.toNat : Int) = 32) then ((lIdx x1 x8).bind fun a13 => if !decide ((a13.toNat : Int) = 9) then (platenref06_Of_l8 x1 x7 k (IntKind.i64.wrap (x8 + 1))) else (some x8)) else (some x8)) else (some x8)
def platenref06_Of (k : Nat) (x1 : List UInt8) : Option (((List UInt8) × (List UInt8) × (List UInt8))) :=
  (platenref03_Indent k x1).bind fun a3 => (platenref06_Of_l8 x1 a3 k a3).bind fun x16 => (lSub x1 a3 x16).bind fun a26 => (platenref06_Mark k a26).bind fun a28 => if !a28 then ((lSub x1 0 a3).bind fun a33 => (lSub x1 a3 (x1.length : Int)).bind fun a35 => some (a33, ([] : List UInt8), a35)) else ((lSub x1 x16 (x1.length : Int)).bind fun a37 => (platenref03_Indent k a37).bind fun a40 => (lSub x1 0 x16).bind fun a44 => (lSub x1 x16 (IntKind.i64.wrap (x16 + a40))).bind fun a46 => (lSub x1 (IntKind.i64.wrap (x16 + a40)) (x1.length : Int)).bind fun a48 => some (a44, a46, a48))
theorem platenref06_Of_l8_ok (x1 : List UInt8) (x7 : Int) {out : Int}  {Q : Ex → M → Prop} {B : List (Nat × Blk)} {O : List AV}
    (hL0 : ∀ (x16 : Int) (tm : List (Nat × AV)) (σ : St), lk tm 0 = some (.str x1) → lk tm 5 = some (.int .i64 x7) → lk tm 6 = some (.int .i64 x16) → Inv σ (B) (O) → x16 = out → Q (.exit 0) ⟨tm, σ⟩) :
    ∀ (k : Nat) (x8 : Int)  (tm : List (Nat × AV)) (σ : St), platenref06_Of_l8 x1 x7 k x8 = some out →
    lk tm 0 = some (.str x1) →
    lk tm 5 = some (.int .i64 x7) →
    lk tm 6 = some (.int .i64 x8) →
    Inv σ (B) (O) → RunC (cE m) (.loop c12l8) ⟨tm, σ⟩ Q := by
  intro k
  induction k with
  | zero => intros; exact none_eq ‹platenref06_Of_l8 x1 x7 0 _ = some out›
  | succ k ih =>
    intro x8 tm σ h e0 e5 e6  I
    rw [platenref06_Of_l8] at h
    refine c_loop ?_
    refine c_keep (keep_cons e0 (keep_cons e5 (keep_cons e6 keep_nil))) ?_
    refine c_seq ?_
    refine c_seq ?_
    refine c_reg ?_
    refine sp (.int .i64 x8) rfl rfl ?_
    refine sp (.str x1) rfl rfl ?_
    refine sp (.int .i64 (x1.length : Int)) rfl rfl ?_
    refine sp (.bool (decide (x8 < (x1.length : Int)))) rfl rfl ?_
    refine sp (.bool (decide (x8 < (x1.length : Int)))) rfl rfl ?_
    rcases bool_tf (decide (x8 < (x1.length : Int))) with b9 | b9
    · have h := ite_t h b9
      refine sg_run (decide (x8 < (x1.length : Int))) rfl b9 ?_
      refine sp (.str x1) rfl rfl ?_
      refine sg_run (decide (x8 < (x1.length : Int))) rfl b9 ?_
      refine sp (.int .i64 x8) rfl rfl ?_
      refine sg_run (decide (x8 < (x1.length : Int))) rfl b9 ?_
      obtain ⟨a10, g11, h⟩ := bind_some h
      refine sp (u8 a10) rfl (e_idxs rfl rfl g11) ?_
      refine sg_run (decide (x8 < (x1.length : Int))) rfl b9 ?_
      refine sp (.bool (!decide ((a10.toNat : Int) = 32))) rfl rfl ?_
      refine sp (.bool (!decide ((a10.toNat : Int) = 32))) rfl (e_pick_t rfl b9 rfl) ?_
      refine sp (.bool (!decide ((a10.toNat : Int) = 32))) rfl rfl ?_
      rcases bool_tf (!decide ((a10.toNat : Int) = 32)) with b12 | b12
      · have h := ite_t h b12
        refine sg_run (!decide ((a10.toNat : Int) = 32)) rfl b12 ?_
        refine sp (.str x1) rfl rfl ?_
        refine sg_run (!decide ((a10.toNat : Int) = 32)) rfl b12 ?_
        refine sp (.int .i64 x8) rfl rfl ?_
        refine sg_run (!decide ((a10.toNat : Int) = 32)) rfl b12 ?_
        obtain ⟨a13, g14, h⟩ := bind_some h
        refine sp (u8 a13) rfl (e_idxs rfl rfl g14) ?_
        refine sg_run (!decide ((a10.toNat : Int) = 32)) rfl b12 ?_
        refine sp (.bool (!decide ((a13.toNat : Int) = 9))) rfl rfl ?_
        refine sp (.bool (!decide ((a13.toNat : Int) = 9))) rfl (e_pick_t rfl b12 rfl) ?_
        refine sx ?_
        refine cn ?_
        refine c_keep (keep_cons rfl (keep_cons rfl (keep_cons rfl (keep_cons rfl keep_nil)))) ?_
        rcases bool_tf (!decide ((a13.toNat : Int) = 9)) with b15 | b15
        · have h := ite_t h b15
          refine c_cond_t (!decide ((a13.toNat : Int) = 9)) rfl b15 ?_
          refine c_skip ?_
          refine cn ?_
          refine c_keep (keep_cons rfl (keep_cons rfl (keep_cons rfl keep_nil))) ?_
          refine c_block ?_
          refine c_reg ?_
          refine sp (.int .i64 x8) rfl rfl ?_
          refine sp (.int .i64 (IntKind.i64.wrap (x8 + 1))) rfl rfl ?_
          refine sp (.int .i64 (IntKind.i64.wrap (x8 + 1))) rfl rfl ?_
          refine sx ?_
          refine bn ?_
          refine cn ?_
          exact ih (IntKind.i64.wrap (x8 + 1))  _ _ h rfl rfl rfl  I
        · have h := ite_f h b15
          refine c_cond_f (!decide ((a13.toNat : Int) = 9)) rfl b15 ?_
          refine c_exit ?_
          refine cx ?_
          refine cx ?_
          exact hL0 x8  _ _ rfl rfl rfl  I (some_eq h)
      · have h := ite_f h b12
        refine sg_skip (!decide ((a10.toNat : Int) = 32)) rfl b12 ?_
        refine sg_skip (!decide ((a10.toNat : Int) = 32)) rfl b12 ?_
        refine sg_skip (!decide ((a10.toNat : Int) = 32)) rfl b12 ?_
        refine sg_skip (!decide ((a10.toNat : Int) = 32)) rfl b12 ?_
        refine sp (.bool false) rfl (e_pick_f rfl b12 rfl) ?_
        refine sx ?_
        refine cn ?_
        refine c_keep (keep_cons rfl (keep_cons rfl (keep_cons rfl (keep_cons rfl keep_nil)))) ?_
        refine c_cond_f false rfl rfl ?_
        refine c_exit ?_
        refine cx ?_
        refine cx ?_
        exact hL0 x8  _ _ rfl rfl rfl  I (some_eq h)
    · have h := ite_f h b9
      refine sg_skip (decide (x8 < (x1.length : Int))) rfl b9 ?_
      refine sg_skip (decide (x8 < (x1.length : Int))) rfl b9 ?_
      refine sg_skip (decide (x8 < (x1.length : Int))) rfl b9 ?_
      refine sg_skip (decide (x8 < (x1.length : Int))) rfl b9 ?_
      refine sp (.bool false) rfl (e_pick_f rfl b9 rfl) ?_
      refine sp (.bool false) rfl rfl ?_
      refine sg_skip false rfl rfl ?_
      refine sg_skip false rfl rfl ?_
      refine sg_skip false rfl rfl ?_
      refine sg_skip false rfl rfl ?_
      refine sp (.bool false) rfl (e_pick_f rfl rfl rfl) ?_
      refine sx ?_
      refine cn ?_
      refine c_keep (keep_cons rfl (keep_cons rfl (keep_cons rfl (keep_cons rfl keep_nil)))) ?_
      refine c_cond_f false rfl rfl ?_
      refine c_exit ?_
      refine cx ?_
      refine cx ?_
      exact hL0 x8  _ _ rfl rfl rfl  I (some_eq h)
theorem platenref06_Of_ok (k : Nat) (x1 : List UInt8) (r : ((List UInt8) × (List UInt8) × (List UInt8)))   {σ : St}
    (h : platenref06_Of k x1 = some r) :
    RunF (cE m) 12 [.str x1] σ (fun v σ' => σ' = σ ∧ (∃ w0 w1 w2, v = .tuple [w0, w1, w2] ∧ w0 = .str r.1 ∧ w1 = .str r.2.1 ∧ w2 = .str r.2.2)) := by
  refine f_closed rfl rfl rfl (cl_cons rfl cl_nil) rfl ?_
  have I0 : Inv .zero [] [] := Inv.zero
  unfold platenref06_Of at h
  refine c_seq ?_
  refine c_reg ?_
  refine sp (.str ([] : List UInt8)) rfl rfl ?_
  refine sp (.str ([] : List UInt8)) rfl rfl ?_
  refine sp (.str ([] : List UInt8)) rfl rfl ?_
  refine sx ?_
  refine cn ?_
  refine c_keep (keep_cons rfl keep_nil) ?_
  refine c_seq ?_
  refine c_reg ?_
  refine sp (.str x1) rfl rfl ?_
  refine sp (.list .no 1 (x1.map u8)) rfl rfl ?_
  have s2 : SL RU8 1 x1 (.list .no 1 (x1.map u8)) := sl_bytes _ _
  obtain ⟨a3, g4, h⟩ := bind_some h
  refine st_callc (platenref03_Indent_ok k _ _ g4 s2) rfl ?_
  intro v5 q6
  obtain rfl := q6
  refine sp (.int .i64 a3) rfl rfl ?_
  refine sx ?_
  refine cn ?_
  refine c_keep (keep_cons rfl (keep_cons rfl keep_nil)) ?_
  refine c_seq ?_
  refine c_reg ?_
  refine sp (.int .i64 a3) rfl rfl ?_
  refine sp (.int .i64 a3) rfl rfl ?_
  refine sx ?_
  refine cn ?_
  refine c_keep (keep_cons rfl (keep_cons rfl (keep_cons rfl keep_nil))) ?_
  refine c_seq ?_
  refine c_block ?_
  obtain ⟨a17, g18, h⟩ := bind_some h
  refine platenref06_Of_l8_ok x1 a3  ?_ k a3  _ _ g18 rfl rfl rfl  I0
  · intro x16 tm19 σ20 e23 e24 e25  I21 ho22
    subst ho22
    refine bx ?_
    refine cn ?_
    refine c_keep (keep_cons e23 (keep_cons e24 (keep_cons e25 keep_nil))) ?_
    refine c_seq ?_
    refine c_seq ?_
    refine c_reg ?_
    refine sp (.str x1) rfl rfl ?_
    refine sp (.int .i64 a3) rfl rfl ?_
    refine sp (.int .i64 x16) rfl rfl ?_
    obtain ⟨a26, g27, h⟩ := bind_some h
    refine sp (.str a26) rfl (e_slstr a3 x16 rfl rfl rfl rfl rfl g27) ?_
    obtain ⟨a28, g29, h⟩ := bind_some h
    refine st_callc (platenref06_Mark_ok k _ _ g29 ) rfl ?_
    intro v30 q31
    obtain rfl := q31
    refine sp (.bool (!a28)) rfl rfl ?_
    refine sx ?_
    refine cn ?_
    refine c_keep (keep_cons rfl (keep_cons rfl (keep_cons rfl (keep_cons rfl keep_nil)))) ?_
    rcases bool_tf (!a28) with b32 | b32
    · have h := ite_t h b32
      refine c_cond_t (!a28) rfl b32 ?_
      refine c_seq ?_
      refine c_reg ?_
      refine sp (.str x1) rfl rfl ?_
      refine sp (.int .i64 a3) rfl rfl ?_
      obtain ⟨a33, g34, h⟩ := bind_some h
      refine sp (.str a33) rfl (e_slstr 0 a3 rfl rfl rfl rfl rfl g34) ?_
      refine sp (.str x1) rfl rfl ?_
      refine sp (.int .i64 a3) rfl rfl ?_
      obtain ⟨a35, g36, h⟩ := bind_some h
      refine sp (.str a35) rfl (e_slstr a3 (x1.length : Int) rfl rfl rfl rfl rfl g36) ?_
      refine sp (.str a33) rfl rfl ?_
      refine sp (.str ([] : List UInt8)) rfl rfl ?_
      refine sp (.str a35) rfl rfl ?_
      refine sx ?_
      refine cn ?_
      refine c_ret ?_
      refine cr ?_
      obtain rfl := some_eq h
      exact rr (vs := [.str a33, .str ([] : List UInt8), .str a35]) (res_c (resp_t rfl) (res_c (resp_t rfl) (res_c (resp_t rfl) res_nil))) ⟨_, cl_tuple (cl_cons rfl (cl_cons rfl (cl_cons rfl cl_nil))), _, _, _, rfl, rfl, rfl, rfl⟩
    · have h := ite_f h b32
      refine c_cond_f (!a28) rfl b32 ?_
      refine c_skip ?_
      refine cn ?_
      refine c_keep (keep_cons rfl (keep_cons rfl keep_nil)) ?_
      refine c_seq ?_
      refine c_reg ?_
      refine sp (.int .i64 x16) rfl rfl ?_
      refine sp (.str x1) rfl rfl ?_
      refine sp (.int .i64 x16) rfl rfl ?_
      obtain ⟨a37, g38, h⟩ := bind_some h
      refine sp (.str a37) rfl (e_slstr x16 (x1.length : Int) rfl rfl rfl rfl rfl g38) ?_
      refine sp (.list .no 1 (a37.map u8)) rfl rfl ?_
      have s39 : SL RU8 1 a37 (.list .no 1 (a37.map u8)) := sl_bytes _ _
      obtain ⟨a40, g41, h⟩ := bind_some h
      refine st_callc (platenref03_Indent_ok k _ _ g41 s39) rfl ?_
      intro v42 q43
      obtain rfl := q43
      refine sp (.int .i64 (IntKind.i64.wrap (x16 + a40))) rfl rfl ?_
      refine sp (.int .i64 (IntKind.i64.wrap (x16 + a40))) rfl rfl ?_
      refine sx ?_
      refine cn ?_
      refine c_keep (keep_cons rfl (keep_cons rfl (keep_cons rfl keep_nil))) ?_
      refine c_seq ?_
      refine c_reg ?_
      refine sp (.str x1) rfl rfl ?_
      refine sp (.int .i64 x16) rfl rfl ?_
      obtain ⟨a44, g45, h⟩ := bind_some h
      refine sp (.str a44) rfl (e_slstr 0 x16 rfl rfl rfl rfl rfl g45) ?_
      refine sp (.str x1) rfl rfl ?_
      refine sp (.int .i64 x16) rfl rfl ?_
      refine sp (.int .i64 (IntKind.i64.wrap (x16 + a40))) rfl rfl ?_
      obtain ⟨a46, g47, h⟩ := bind_some h
      refine sp (.str a46) rfl (e_slstr x16 (IntKind.i64.wrap (x16 + a40)) rfl rfl rfl rfl rfl g47) ?_
      refine sp (.str x1) rfl rfl ?_
      refine sp (.int .i64 (IntKind.i64.wrap (x16 + a40))) rfl rfl ?_
      obtain ⟨a48, g49, h⟩ := bind_some h
      refine sp (.str a48) rfl (e_slstr (IntKind.i64.wrap (x16 + a40)) (x1.length : Int) rfl rfl rfl rfl rfl g49) ?_
      refine sp (.str a44) rfl rfl ?_
      refine sp (.str a46) rfl rfl ?_
      refine sp (.str a48) rfl rfl ?_
      refine sx ?_
      refine cn ?_
      refine c_ret ?_
      obtain rfl := some_eq h
      exact rr (vs := [.str a44, .str a46, .str a48]) (res_c (resp_t rfl) (res_c (resp_t rfl) (res_c (resp_t rfl) res_nil))) ⟨_, cl_tuple (cl_cons rfl (cl_cons rfl (cl_cons rfl cl_nil))), _, _, _, rfl, rfl, rfl, rfl⟩
/- platen.platenlaw06.LeaderParts -/
def platenlaw06_LeaderParts_j5 (k : Nat) (x1 : List UInt8) (x7 : Bool) : Option Bool :=
  if x7 then ((platenlaw06_marked k).bind fun a9 => some a9) else ((leader_Of k x1).bind fun a13 => (platenref06_Of k x1).bind fun a23 => if decide (a13.1 = a23.1) then (if decide (a13.2.1 = a23.2.1) then (if decide (a13.2.2 = a23.2.2) then ((sAdd a13.1 a13.2.1).bind fun a36 => (sAdd a36 a13.2.2).bind fun a38 => some (decide (a38 = x1))) else (some false)) else (some false)) else (some false))
def platenlaw06_LeaderParts (k : Nat) (x1 : List UInt8) : Option Bool :=
  (platenlaw06_marked k).bind fun a2 => if !a2 then (platenlaw06_LeaderParts_j5 k x1 true) else (platenlaw06_LeaderParts_j5 k x1 (decide (300 < (x1.length : Int))))
theorem platenlaw06_LeaderParts_j5_ok (k : Nat) (x1 : List UInt8) (x7 : Bool) {r : Bool}  {tm : List (Nat × AV)} {σ : St} {B : List (Nat × Blk)} {O : List AV}
    (h : platenlaw06_LeaderParts_j5 k x1 x7 = some r)
    (e0 : lk tm 0 = some (.str x1))
    (e15 : lk tm 15 = some (.bool x7))
    (I : Inv σ (B) (O)) :
    RunC (cE m) c4c5 ⟨tm, σ⟩ (Cont (cE m) c4c10 (ResP (E := (cE m)) c4.res (fun v σ' => ∃ v', close v = some v' ∧ v' = .bool r))) := by
  unfold platenlaw06_LeaderParts_j5 at h
  refine c_keep (keep_cons e0 (keep_cons e15 keep_nil)) ?_
  rcases bool_tf x7 with b8 | b8
  · have h := ite_t h b8
    refine c_cond_t x7 rfl b8 ?_
    refine c_seq ?_
    refine c_reg ?_
    obtain ⟨a9, g10, h⟩ := bind_some h
    refine st_callc (platenlaw06_marked_ok k  _ g10 ) rfl ?_
    intro v11 q12
    obtain rfl := q12
    refine sp (.bool a9) rfl rfl ?_
    refine sx ?_
    refine cn ?_
    refine c_ret ?_
    refine cr ?_
    obtain rfl := some_eq h
    exact rr (vs := [.bool a9]) (res_c (resp_t rfl) res_nil) ⟨_, rfl, rfl⟩
  · have h := ite_f h b8
    refine c_cond_f x7 rfl b8 ?_
    refine c_skip ?_
    refine cn ?_
    refine c_keep (keep_cons rfl keep_nil) ?_
    refine c_seq ?_
    refine c_reg ?_
    refine sp (.str x1) rfl rfl ?_
    obtain ⟨a13, g14, h⟩ := bind_some h
    refine st_callc (leader_Of_ok k _ _ g14 ) rfl ?_
    intro v15 q16
    obtain ⟨v17, v19, v21, rfl, q18, q20, q22⟩ := q16
    obtain rfl := q18
    obtain rfl := q20
    obtain rfl := q22
    refine sp (.tuple [.str a13.1, .str a13.2.1, .str a13.2.2]) rfl rfl ?_
    refine sp (.str a13.1) rfl rfl ?_
    refine sp (.str a13.2.1) rfl rfl ?_
    refine sp (.str a13.2.2) rfl rfl ?_
    refine sp (.str a13.1) rfl rfl ?_
    refine sp (.str a13.2.1) rfl rfl ?_
    refine sp (.str a13.2.2) rfl rfl ?_
    refine sx ?_
    refine cn ?_
    refine c_keep (keep_cons rfl (keep_cons rfl (keep_cons rfl (keep_cons rfl keep_nil)))) ?_
    refine c_seq ?_
    refine c_reg ?_
    refine sp (.str x1) rfl rfl ?_
    obtain ⟨a23, g24, h⟩ := bind_some h
    refine st_callc (platenref06_Of_ok k _ _ g24 ) rfl ?_
    intro v25 q26
    obtain ⟨v27, v29, v31, rfl, q28, q30, q32⟩ := q26
    obtain rfl := q28
    obtain rfl := q30
    obtain rfl := q32
    refine sp (.tuple [.str a23.1, .str a23.2.1, .str a23.2.2]) rfl rfl ?_
    refine sp (.str a23.1) rfl rfl ?_
    refine sp (.str a23.2.1) rfl rfl ?_
    refine sp (.str a23.2.2) rfl rfl ?_
    refine sp (.str a23.1) rfl rfl ?_
    refine sp (.str a23.2.1) rfl rfl ?_
    refine sp (.str a23.2.2) rfl rfl ?_
    refine sx ?_
    refine cn ?_
    refine c_keep (keep_cons rfl (keep_cons rfl (keep_cons rfl (keep_cons rfl (keep_cons rfl (keep_cons rfl (keep_cons rfl keep_nil))))))) ?_
    refine c_seq ?_
    refine c_reg ?_
    refine sp (.str a13.1) rfl rfl ?_
    refine sp (.str a23.1) rfl rfl ?_
    refine sp (.bool (decide (a13.1 = a23.1))) rfl rfl ?_
    refine sp (.bool (decide (a13.1 = a23.1))) rfl rfl ?_
    rcases bool_tf (decide (a13.1 = a23.1)) with b33 | b33
    · have h := ite_t h b33
      refine sg_run (decide (a13.1 = a23.1)) rfl b33 ?_
      refine sp (.str a13.2.1) rfl rfl ?_
      refine sg_run (decide (a13.1 = a23.1)) rfl b33 ?_
      refine sp (.str a23.2.1) rfl rfl ?_
      refine sg_run (decide (a13.1 = a23.1)) rfl b33 ?_
      refine sp (.bool (decide (a13.2.1 = a23.2.1))) rfl rfl ?_
      refine sp (.bool (decide (a13.2.1 = a23.2.1))) rfl (e_pick_t rfl b33 rfl) ?_
      refine sp (.bool (decide (a13.2.1 = a23.2.1))) rfl rfl ?_
      rcases bool_tf (decide (a13.2.1 = a23.2.1)) with b34 | b34
      · have h := ite_t h b34
        refine sg_run (decide (a13.2.1 = a23.2.1)) rfl b34 ?_
        refine sp (.str a13.2.2) rfl rfl ?_
        refine sg_run (decide (a13.2.1 = a23.2.1)) rfl b34 ?_
        refine sp (.str a23.2.2) rfl rfl ?_
        refine sg_run (decide (a13.2.1 = a23.2.1)) rfl b34 ?_
        refine sp (.bool (decide (a13.2.2 = a23.2.2))) rfl rfl ?_
        refine sp (.bool (decide (a13.2.2 = a23.2.2))) rfl (e_pick_t rfl b34 rfl) ?_
        refine sp (.bool (decide (a13.2.2 = a23.2.2))) rfl rfl ?_
        rcases bool_tf (decide (a13.2.2 = a23.2.2)) with b35 | b35
        · have h := ite_t h b35
          refine sg_run (decide (a13.2.2 = a23.2.2)) rfl b35 ?_
          refine sp (.str a13.1) rfl rfl ?_
          refine sg_run (decide (a13.2.2 = a23.2.2)) rfl b35 ?_
          refine sp (.str a13.2.1) rfl rfl ?_
          refine sg_run (decide (a13.2.2 = a23.2.2)) rfl b35 ?_
          obtain ⟨a36, g37, h⟩ := bind_some h
          refine sp (.str a36) rfl (e_sadd rfl rfl g37) ?_
          refine sg_run (decide (a13.2.2 = a23.2.2)) rfl b35 ?_
          refine sp (.str a13.2.2) rfl rfl ?_
          refine sg_run (decide (a13.2.2 = a23.2.2)) rfl b35 ?_
          obtain ⟨a38, g39, h⟩ := bind_some h
          refine sp (.str a38) rfl (e_sadd rfl rfl g39) ?_
          refine sg_run (decide (a13.2.2 = a23.2.2)) rfl b35 ?_
          refine sp (.str x1) rfl rfl ?_
          refine sg_run (decide (a13.2.2 = a23.2.2)) rfl b35 ?_
          refine sp (.bool (decide (a38 = x1))) rfl rfl ?_
          refine sp (.bool (decide (a38 = x1))) rfl (e_pick_t rfl b35 rfl) ?_
          refine sp (.bool (decide (a38 = x1))) rfl rfl ?_
          refine sx ?_
          refine cn ?_
          refine c_ret ?_
          obtain rfl := some_eq h
          exact rr (vs := [.bool (decide (a38 = x1))]) (res_c (resp_t rfl) res_nil) ⟨_, rfl, rfl⟩
        · have h := ite_f h b35
          refine sg_skip (decide (a13.2.2 = a23.2.2)) rfl b35 ?_
          refine sg_skip (decide (a13.2.2 = a23.2.2)) rfl b35 ?_
          refine sg_skip (decide (a13.2.2 = a23.2.2)) rfl b35 ?_
          refine sg_skip (decide (a13.2.2 = a23.2.2)) rfl b35 ?_
          refine sg_skip (decide (a13.2.2 = a23.2.2)) rfl b35 ?_
          refine sg_skip (decide (a13.2.2 = a23.2.2)) rfl b35 ?_
          refine sg_skip (decide (a13.2.2 = a23.2.2)) rfl b35 ?_
          refine sp (.bool false) rfl (e_pick_f rfl b35 rfl) ?_
          refine sp (.bool false) rfl rfl ?_
          refine sx ?_
          refine cn ?_
          refine c_ret ?_
          obtain rfl := some_eq h
          exact rr (vs := [.bool false]) (res_c (resp_t rfl) res_nil) ⟨_, rfl, rfl⟩
      · have h := ite_f h b34
        refine sg_skip (decide (a13.2.1 = a23.2.1)) rfl b34 ?_
        refine sg_skip (decide (a13.2.1 = a23.2.1)) rfl b34 ?_
        refine sg_skip (decide (a13.2.1 = a23.2.1)) rfl b34 ?_
        refine sp (.bool false) rfl (e_pick_f rfl b34 rfl) ?_
        refine sp (.bool false) rfl rfl ?_
        refine sg_skip false rfl rfl ?_
        refine sg_skip false rfl rfl ?_
        refine sg_skip false rfl rfl ?_
        refine sg_skip false rfl rfl ?_
        refine sg_skip false rfl rfl ?_
        refine sg_skip false rfl rfl ?_
        refine sg_skip false rfl rfl ?_
        refine sp (.bool false) rfl (e_pick_f rfl rfl rfl) ?_
        refine sp (.bool false) rfl rfl ?_
        refine sx ?_
        refine cn ?_
        refine c_ret ?_
        obtain rfl := some_eq h
        exact rr (vs := [.bool false]) (res_c (resp_t rfl) res_nil) ⟨_, rfl, rfl⟩
    · have h := ite_f h b33
      refine sg_skip (decide (a13.1 = a23.1)) rfl b33 ?_
      refine sg_skip (decide (a13.1 = a23.1)) rfl b33 ?_
      refine sg_skip (decide (a13.1 = a23.1)) rfl b33 ?_
      refine sp (.bool false) rfl (e_pick_f rfl b33 rfl) ?_
      refine sp (.bool false) rfl rfl ?_
      refine sg_skip false rfl rfl ?_
      refine sg_skip false rfl rfl ?_
      refine sg_skip false rfl rfl ?_
      refine sp (.bool false) rfl (e_pick_f rfl rfl rfl) ?_
      refine sp (.bool false) rfl rfl ?_
      refine sg_skip false rfl rfl ?_
      refine sg_skip false rfl rfl ?_
      refine sg_skip false rfl rfl ?_
      refine sg_skip false rfl rfl ?_
      refine sg_skip false rfl rfl ?_
      refine sg_skip false rfl rfl ?_
      refine sg_skip false rfl rfl ?_
      refine sp (.bool false) rfl (e_pick_f rfl rfl rfl) ?_
      refine sp (.bool false) rfl rfl ?_
      refine sx ?_
      refine cn ?_
      refine c_ret ?_
      obtain rfl := some_eq h
      exact rr (vs := [.bool false]) (res_c (resp_t rfl) res_nil) ⟨_, rfl, rfl⟩
theorem platenlaw06_LeaderParts_ok (k : Nat) (x1 : List UInt8) (r : Bool)   {σ : St}
    (h : platenlaw06_LeaderParts k x1 = some r) :
    RunF (cE m) 4 [.str x1] σ (fun v σ' => σ' = σ ∧ v = .bool r) := by
  refine f_closed rfl rfl rfl (cl_cons rfl cl_nil) rfl ?_
  have I0 : Inv .zero [] [] := Inv.zero
  unfold platenlaw06_LeaderParts at h
  refine c_seq ?_
  refine c_reg ?_
  refine sp (.bool false) rfl rfl ?_
  refine sx ?_
  refine cn ?_
  refine c_keep (keep_cons rfl keep_nil) ?_
  refine c_seq ?_
  refine c_seq ?_
  refine c_reg ?_
  obtain ⟨a2, g3, h⟩ := bind_some h
  refine st_callc (platenlaw06_marked_ok k  _ g3 ) rfl ?_
  intro v4 q5
  obtain rfl := q5
  refine sp (.bool (!a2)) rfl rfl ?_
  refine sp (.bool (!a2)) rfl rfl ?_
  rcases bool_tf (!a2) with b6 | b6
  · have h := ite_t h b6
    refine sg_skip (!a2) rfl b6 ?_
    refine sg_skip (!a2) rfl b6 ?_
    refine sg_skip (!a2) rfl b6 ?_
    refine sp (.bool true) rfl (e_pick_t rfl b6 rfl) ?_
    refine sx ?_
    refine cn ?_
    exact platenlaw06_LeaderParts_j5_ok k x1 true h rfl rfl   I0
  · have h := ite_f h b6
    refine sg_run (!a2) rfl b6 ?_
    refine sp (.str x1) rfl rfl ?_
    refine sg_run (!a2) rfl b6 ?_
    refine sp (.int .i64 (x1.length : Int)) rfl rfl ?_
    refine sg_run (!a2) rfl b6 ?_
    refine sp (.bool (decide (300 < (x1.length : Int)))) rfl rfl ?_
    refine sp (.bool (decide (300 < (x1.length : Int)))) rfl (e_pick_f rfl b6 rfl) ?_
    refine sx ?_
    refine cn ?_
    exact platenlaw06_LeaderParts_j5_ok k x1 (decide (300 < (x1.length : Int))) h rfl rfl   I0
/- platen.platenref03.Bare -/
def platenref03_Bare (k : Nat) (x1 : List UInt8) : Option Bool :=
  (platenref03_Indent k x1).bind fun a4 => some (decide (a4 = (x1.length : Int)))
theorem platenref03_Bare_ok (k : Nat) (x1 : List UInt8) (r : Bool) {v2 : AV}  {σ : St}
    (h : platenref03_Bare k x1 = some r)
    (s3 : SL RU8 1 x1 v2) :
    RunF (cE m) 19 [v2] σ (fun v σ' => σ' = σ ∧ v = .bool r) := by
  obtain ⟨v2, k0, s3⟩ := s3.close
  refine f_closed rfl rfl rfl (cl_cons k0 cl_nil) rfl ?_
  have I0 : Inv .zero [] [] := Inv.zero
  unfold platenref03_Bare at h
  refine c_seq ?_
  refine c_reg ?_
  refine sp (.bool false) rfl rfl ?_
  refine sx ?_
  refine cn ?_
  refine c_keep (keep_cons rfl keep_nil) ?_
  refine c_seq ?_
  refine c_reg ?_
  refine sp (v2) rfl rfl ?_
  obtain ⟨a4, g5, h⟩ := bind_some h
  refine st_callc (platenref03_Indent_ok k _ _ g5 s3) rfl ?_
  intro v6 q7
  obtain rfl := q7
  refine sp (v2) rfl rfl ?_
  refine sp (.int .i64 (x1.length : Int)) rfl (e_len rfl s3 (Nat.le_of_ble_eq_true rfl)) ?_
  refine sp (.bool (decide (a4 = (x1.length : Int)))) rfl rfl ?_
  refine sp (.bool (decide (a4 = (x1.length : Int)))) rfl rfl ?_
  refine sx ?_
  refine cn ?_
  refine c_ret ?_
  obtain rfl := some_eq h
  exact rr (vs := [.bool (decide (a4 = (x1.length : Int)))]) (res_c (resp_t rfl) res_nil) ⟨_, rfl, rfl⟩
/- platen.platenref06.Marked -/
def platenref06_Marked (k : Nat) (x1 : List UInt8) : Option Bool :=
  (platenref03_Bare k x1).bind fun a3 => some (!a3)
theorem platenref06_Marked_ok (k : Nat) (x1 : List UInt8) (r : Bool)   {σ : St}
    (h : platenref06_Marked k x1 = some r) :
    RunF (cE m) 14 [.str x1] σ (fun v σ' => σ' = σ ∧ v = .bool r) := by
  refine f_closed rfl rfl rfl (cl_cons rfl cl_nil) rfl ?_
  have I0 : Inv .zero [] [] := Inv.zero
  unfold platenref06_Marked at h
  refine c_seq ?_
  refine c_reg ?_
  refine sp (.bool false) rfl rfl ?_
  refine sx ?_
  refine cn ?_
  refine c_keep (keep_cons rfl keep_nil) ?_
  refine c_seq ?_
  refine c_reg ?_
  refine sp (.str x1) rfl rfl ?_
  refine sp (.list .no 1 (x1.map u8)) rfl rfl ?_
  have s2 : SL RU8 1 x1 (.list .no 1 (x1.map u8)) := sl_bytes _ _
  obtain ⟨a3, g4, h⟩ := bind_some h
  refine st_callc (platenref03_Bare_ok k _ _ g4 s2) rfl ?_
  intro v5 q6
  obtain rfl := q6
  refine sp (.bool (!a3)) rfl rfl ?_
  refine sp (.bool (!a3)) rfl rfl ?_
  refine sx ?_
  refine cn ?_
  refine c_ret ?_
  obtain rfl := some_eq h
  exact rr (vs := [.bool (!a3)]) (res_c (resp_t rfl) res_nil) ⟨_, rfl, rfl⟩
/- platen.platenlaw06.LeaderMarked -/
def platenlaw06_LeaderMarked_j5 (k : Nat) (x1 : List UInt8) (x7 : Bool) : Option Bool :=
  if x7 then ((platenlaw06_marked k).bind fun a9 => some a9) else ((leader_Of k x1).bind fun a13 => (leader_Marked k x1).bind fun a23 => (platenref06_Marked k x1).bind fun a27 => if (a23 == a27) then ((leader_Marked k a13.1).bind fun a32 => (platenref06_Marked k a13.1).bind fun a36 => if (a32 == a36) then ((leader_Marked k a13.1).bind fun a41 => if a41 then (some true) else (some (decide (a13.2.1 = ([] : List UInt8))))) else (some false)) else (some false))
def platenlaw06_LeaderMarked (k : Nat) (x1 : List UInt8) : Option Bool :=
  (platenlaw06_marked k).bind fun a2 => if !a2 then (platenlaw06_LeaderMarked_j5 k x1 true) else (platenlaw06_LeaderMarked_j5 k x1 (decide (300 < (x1.length : Int))))
theorem platenlaw06_LeaderMarked_j5_ok (k : Nat) (x1 : List UInt8) (x7 : Bool) {r : Bool}  {tm : List (Nat × AV)} {σ : St} {B : List (Nat × Blk)} {O : List AV}
    (h : platenlaw06_LeaderMarked_j5 k x1 x7 = some r)
    (e0 : lk tm 0 = some (.str x1))
    (e12 : lk tm 12 = some (.bool x7))
    (I : Inv σ (B) (O)) :
    RunC (cE m) c5c5 ⟨tm, σ⟩ (Cont (cE m) c5c10 (ResP (E := (cE m)) c5.res (fun v σ' => ∃ v', close v = some v' ∧ v' = .bool r))) := by
  unfold platenlaw06_LeaderMarked_j5 at h
  refine c_keep (keep_cons e0 (keep_cons e12 keep_nil)) ?_
  rcases bool_tf x7 with b8 | b8
  · have h := ite_t h b8
    refine c_cond_t x7 rfl b8 ?_
    refine c_seq ?_
    refine c_reg ?_
    obtain ⟨a9, g10, h⟩ := bind_some h
    refine st_callc (platenlaw06_marked_ok k  _ g10 ) rfl ?_
    intro v11 q12
    obtain rfl := q12
    refine sp (.bool a9) rfl rfl ?_
    refine sx ?_
    refine cn ?_
    refine c_ret ?_
    refine cr ?_
    obtain rfl := some_eq h
    exact rr (vs := [.bool a9]) (res_c (resp_t rfl) res_nil) ⟨_, rfl, rfl⟩
  · have h := ite_f h b8
    refine c_cond_f x7 rfl b8 ?_
    refine c_skip ?_
    refine cn ?_
    refine c_keep (keep_cons rfl keep_nil) ?_
    refine c_seq ?_
    refine c_reg ?_
    refine sp (.str x1) rfl rfl ?_
    obtain ⟨a13, g14, h⟩ := bind_some h
    refine st_callc (leader_Of_ok k _ _ g14 ) rfl ?_
    intro v15 q16
    obtain ⟨v17, v19, v21, rfl, q18, q20, q22⟩ := q16
    obtain rfl := q18
    obtain rfl := q20
    obtain rfl := q22
    refine sp (.tuple [.str a13.1, .str a13.2.1, .str a13.2.2]) rfl rfl ?_
    refine sp (.str a13.1) rfl rfl ?_
    refine sp (.str a13.2.1) rfl rfl ?_
    refine sp (.str a13.2.2) rfl rfl ?_
    refine sp (.str a13.1) rfl rfl ?_
    refine sp (.str a13.2.1) rfl rfl ?_
    refine sp (.str a13.2.2) rfl rfl ?_
    refine sx ?_
    refine cn ?_
    refine c_keep (keep_cons rfl (keep_cons rfl (keep_cons rfl keep_nil))) ?_
    refine c_seq ?_
    refine c_reg ?_
    refine sp (.str x1) rfl rfl ?_
    obtain ⟨a23, g24, h⟩ := bind_some h
    refine st_callc (leader_Marked_ok k _ _ g24 ) rfl ?_
    intro v25 q26
    obtain rfl := q26
    refine sp (.str x1) rfl rfl ?_
    obtain ⟨a27, g28, h⟩ := bind_some h
    refine st_callc (platenref06_Marked_ok k _ _ g28 ) rfl ?_
    intro v29 q30
    obtain rfl := q30
    refine sp (.bool (a23 == a27)) rfl rfl ?_
    refine sp (.bool (a23 == a27)) rfl rfl ?_
    rcases bool_tf (a23 == a27) with b31 | b31
    · have h := ite_t h b31
      refine sg_run (a23 == a27) rfl b31 ?_
      refine sp (.str a13.1) rfl rfl ?_
      refine sg_run (a23 == a27) rfl b31 ?_
      obtain ⟨a32, g33, h⟩ := bind_some h
      refine st_callc (leader_Marked_ok k _ _ g33 ) rfl ?_
      intro v34 q35
      obtain rfl := q35
      refine sg_run (a23 == a27) rfl b31 ?_
      refine sp (.str a13.1) rfl rfl ?_
      refine sg_run (a23 == a27) rfl b31 ?_
      obtain ⟨a36, g37, h⟩ := bind_some h
      refine st_callc (platenref06_Marked_ok k _ _ g37 ) rfl ?_
      intro v38 q39
      obtain rfl := q39
      refine sg_run (a23 == a27) rfl b31 ?_
      refine sp (.bool (a32 == a36)) rfl rfl ?_
      refine sp (.bool (a32 == a36)) rfl (e_pick_t rfl b31 rfl) ?_
      refine sp (.bool (a32 == a36)) rfl rfl ?_
      rcases bool_tf (a32 == a36) with b40 | b40
      · have h := ite_t h b40
        refine sg_run (a32 == a36) rfl b40 ?_
        refine sp (.str a13.1) rfl rfl ?_
        refine sg_run (a32 == a36) rfl b40 ?_
        obtain ⟨a41, g42, h⟩ := bind_some h
        refine st_callc (leader_Marked_ok k _ _ g42 ) rfl ?_
        intro v43 q44
        obtain rfl := q44
        refine sg_run (a32 == a36) rfl b40 ?_
        refine sp (.bool a41) rfl rfl ?_
        rcases bool_tf a41 with b45 | b45
        · have h := ite_t h b45
          refine sg_skip a41 rfl b45 ?_
          refine sg_skip a41 rfl b45 ?_
          refine sg_run (a32 == a36) rfl b40 ?_
          refine sp (.bool true) rfl (e_pick_t rfl b45 rfl) ?_
          refine sp (.bool true) rfl (e_pick_t rfl b40 rfl) ?_
          refine sp (.bool true) rfl rfl ?_
          refine sx ?_
          refine cn ?_
          refine c_ret ?_
          obtain rfl := some_eq h
          exact rr (vs := [.bool true]) (res_c (resp_t rfl) res_nil) ⟨_, rfl, rfl⟩
        · have h := ite_f h b45
          refine sg_run a41 rfl b45 ?_
          refine sp (.str a13.2.1) rfl rfl ?_
          refine sg_run a41 rfl b45 ?_
          refine sp (.bool (decide (a13.2.1 = ([] : List UInt8)))) rfl rfl ?_
          refine sg_run (a32 == a36) rfl b40 ?_
          refine sp (.bool (decide (a13.2.1 = ([] : List UInt8)))) rfl (e_pick_f rfl b45 rfl) ?_
          refine sp (.bool (decide (a13.2.1 = ([] : List UInt8)))) rfl (e_pick_t rfl b40 rfl) ?_
          refine sp (.bool (decide (a13.2.1 = ([] : List UInt8)))) rfl rfl ?_
          refine sx ?_
          refine cn ?_
          refine c_ret ?_
          obtain rfl := some_eq h
          exact rr (vs := [.bool (decide (a13.2.1 = ([] : List UInt8)))]) (res_c (resp_t rfl) res_nil) ⟨_, rfl, rfl⟩
      · have h := ite_f h b40
        refine sg_skip (a32 == a36) rfl b40 ?_
        refine sg_skip (a32 == a36) rfl b40 ?_
        refine sg_skip (a32 == a36) rfl b40 ?_
        refine sg_undef rfl ?_
        refine sg_undef rfl ?_
        refine sg_skip (a32 == a36) rfl b40 ?_
        refine sp (.bool false) rfl (e_pick_f rfl b40 rfl) ?_
        refine sp (.bool false) rfl rfl ?_
        refine sx ?_
        refine cn ?_
        refine c_ret ?_
        obtain rfl := some_eq h
        exact rr (vs := [.bool false]) (res_c (resp_t rfl) res_nil) ⟨_, rfl, rfl⟩
    · have h := ite_f h b31
      refine sg_skip (a23 == a27) rfl b31 ?_
      refine sg_skip (a23 == a27) rfl b31 ?_
      refine sg_skip (a23 == a27) rfl b31 ?_
      refine sg_skip (a23 == a27) rfl b31 ?_
      refine sg_skip (a23 == a27) rfl b31 ?_
      refine sp (.bool false) rfl (e_pick_f rfl b31 rfl) ?_
      refine sp (.bool false) rfl rfl ?_
      refine sg_skip false rfl rfl ?_
      refine sg_skip false rfl rfl ?_
      refine sg_skip false rfl rfl ?_
      refine sg_undef rfl ?_
      refine sg_undef rfl ?_
      refine sg_skip false rfl rfl ?_
      refine sp (.bool false) rfl (e_pick_f rfl rfl rfl) ?_
      refine sp (.bool false) rfl rfl ?_
      refine sx ?_
      refine cn ?_
      refine c_ret ?_
      obtain rfl := some_eq h
      exact rr (vs := [.bool false]) (res_c (resp_t rfl) res_nil) ⟨_, rfl, rfl⟩
theorem platenlaw06_LeaderMarked_ok (k : Nat) (x1 : List UInt8) (r : Bool)   {σ : St}
    (h : platenlaw06_LeaderMarked k x1 = some r) :
    RunF (cE m) 5 [.str x1] σ (fun v σ' => σ' = σ ∧ v = .bool r) := by
  refine f_closed rfl rfl rfl (cl_cons rfl cl_nil) rfl ?_
  have I0 : Inv .zero [] [] := Inv.zero
  unfold platenlaw06_LeaderMarked at h
  refine c_seq ?_
  refine c_reg ?_
  refine sp (.bool false) rfl rfl ?_
  refine sx ?_
  refine cn ?_
  refine c_keep (keep_cons rfl keep_nil) ?_
  refine c_seq ?_
  refine c_seq ?_
  refine c_reg ?_
  obtain ⟨a2, g3, h⟩ := bind_some h
  refine st_callc (platenlaw06_marked_ok k  _ g3 ) rfl ?_
  intro v4 q5
  obtain rfl := q5
  refine sp (.bool (!a2)) rfl rfl ?_
  refine sp (.bool (!a2)) rfl rfl ?_
  rcases bool_tf (!a2) with b6 | b6
  · have h := ite_t h b6
    refine sg_skip (!a2) rfl b6 ?_
    refine sg_skip (!a2) rfl b6 ?_
    refine sg_skip (!a2) rfl b6 ?_
    refine sp (.bool true) rfl (e_pick_t rfl b6 rfl) ?_
    refine sx ?_
    refine cn ?_
    exact platenlaw06_LeaderMarked_j5_ok k x1 true h rfl rfl   I0
  · have h := ite_f h b6
    refine sg_run (!a2) rfl b6 ?_
    refine sp (.str x1) rfl rfl ?_
    refine sg_run (!a2) rfl b6 ?_
    refine sp (.int .i64 (x1.length : Int)) rfl rfl ?_
    refine sg_run (!a2) rfl b6 ?_
    refine sp (.bool (decide (300 < (x1.length : Int)))) rfl rfl ?_
    refine sp (.bool (decide (300 < (x1.length : Int)))) rfl (e_pick_f rfl b6 rfl) ?_
    refine sx ?_
    refine cn ?_
    exact platenlaw06_LeaderMarked_j5_ok k x1 (decide (300 < (x1.length : Int))) h rfl rfl   I0
/- platen.platenlaw06.LeaderStays -/
def platenlaw06_LeaderStays_j22 (k : Nat) (x32 : List UInt8) (x33 : List UInt8) (x34 : List UInt8) : Option Bool :=
  (sAdd x32 x33).bind fun a35 => (sAdd a35 x34).bind fun a37 => (leader_Of k a37).bind fun a39 => if decide (a39.1 = x32) then (if decide (a39.2.1 = x33) then (some (decide (a39.2.2 = x34))) else (some false)) else (some false)
def platenlaw06_LeaderStays_j5 (k : Nat) (x1 : List UInt8) (x2 : List UInt8) (x8 : Bool) : Option Bool :=
  if x8 then ((platenlaw06_marked k).bind fun a10 => some a10) else ((leader_Of k x1).bind fun a14 => (sAdd ([120] : List UInt8) x2).bind fun a24 => (platenref06_Marked k a14.1).bind fun a26 => if a26 then (if decide (a14.2.1 = ([] : List UInt8)) then (some true) else (platenlaw06_LeaderStays_j22 k  a14.1 a14.2.1 a24)) else (platenlaw06_LeaderStays_j22 k  a14.1 a14.2.1 a24))
def platenlaw06_LeaderStays (k : Nat) (x1 : List UInt8) (x2 : List UInt8) : Option Bool :=
  (platenlaw06_marked k).bind fun a3 => if !a3 then (platenlaw06_LeaderStays_j5 k x1 x2 true) else (if decide (200 < (x1.length : Int)) then (platenlaw06_LeaderStays_j5 k x1 x2 true) else (platenlaw06_LeaderStays_j5 k x1 x2 (decide (200 < (x2.length : Int)))))
theorem platenlaw06_LeaderStays_j22_ok (k : Nat) (x32 : List UInt8) (x33 : List UInt8) (x34 : List UInt8) {r : Bool}  {tm : List (Nat × AV)} {σ : St} {B : List (Nat × Blk)} {O : List AV}
    (h : platenlaw06_LeaderStays_j22 k x32 x33 x34 = some r)
    (e5 : lk tm 5 = some (.str x32))
    (e6 : lk tm 6 = some (.str x33))
    (e8 : lk tm 8 = some (.str x34))
    (I : Inv σ (B) (O)) :
    RunC (cE m) c6c22 ⟨tm, σ⟩ (ResP (E := (cE m)) c6.res (fun v σ' => ∃ v', close v = some v' ∧ v' = .bool r)) := by
  unfold platenlaw06_LeaderStays_j22 at h
  refine c_keep (keep_cons e5 (keep_cons e6 (keep_cons e8 keep_nil))) ?_
  refine c_seq ?_
  refine c_reg ?_
  refine sp (.str x32) rfl rfl ?_
  refine sp (.str x33) rfl rfl ?_
  obtain ⟨a35, g36, h⟩ := bind_some h
  refine sp (.str a35) rfl (e_sadd rfl rfl g36) ?_
  refine sp (.str x34) rfl rfl ?_
  obtain ⟨a37, g38, h⟩ := bind_some h
  refine sp (.str a37) rfl (e_sadd rfl rfl g38) ?_
  obtain ⟨a39, g40, h⟩ := bind_some h
  refine st_callc (leader_Of_ok k _ _ g40 ) rfl ?_
  intro v41 q42
  obtain ⟨v43, v45, v47, rfl, q44, q46, q48⟩ := q42
  obtain rfl := q44
  obtain rfl := q46
  obtain rfl := q48
  refine sp (.tuple [.str a39.1, .str a39.2.1, .str a39.2.2]) rfl rfl ?_
  refine sp (.str a39.1) rfl rfl ?_
  refine sp (.str a39.2.1) rfl rfl ?_
  refine sp (.str a39.2.2) rfl rfl ?_
  refine sp (.str a39.1) rfl rfl ?_
  refine sp (.str a39.2.1) rfl rfl ?_
  refine sp (.str a39.2.2) rfl rfl ?_
  refine sx ?_
  refine cn ?_
  refine c_keep (keep_cons rfl (keep_cons rfl (keep_cons rfl (keep_cons rfl (keep_cons rfl (keep_cons rfl keep_nil)))))) ?_
  refine c_seq ?_
  refine c_reg ?_
  refine sp (.str a39.1) rfl rfl ?_
  refine sp (.str x32) rfl rfl ?_
  refine sp (.bool (decide (a39.1 = x32))) rfl rfl ?_
  refine sp (.bool (decide (a39.1 = x32))) rfl rfl ?_
  rcases bool_tf (decide (a39.1 = x32)) with b49 | b49
  · have h := ite_t h b49
    refine sg_run (decide (a39.1 = x32)) rfl b49 ?_
    refine sp (.str a39.2.1) rfl rfl ?_
    refine sg_run (decide (a39.1 = x32)) rfl b49 ?_
    refine sp (.str x33) rfl rfl ?_
    refine sg_run (decide (a39.1 = x32)) rfl b49 ?_
    refine sp (.bool (decide (a39.2.1 = x33))) rfl rfl ?_
    refine sp (.bool (decide (a39.2.1 = x33))) rfl (e_pick_t rfl b49 rfl) ?_
    refine sp (.bool (decide (a39.2.1 = x33))) rfl rfl ?_
    rcases bool_tf (decide (a39.2.1 = x33)) with b50 | b50
    · have h := ite_t h b50
      refine sg_run (decide (a39.2.1 = x33)) rfl b50 ?_
      refine sp (.str a39.2.2) rfl rfl ?_
      refine sg_run (decide (a39.2.1 = x33)) rfl b50 ?_
      refine sp (.str x34) rfl rfl ?_
      refine sg_run (decide (a39.2.1 = x33)) rfl b50 ?_
      refine sp (.bool (decide (a39.2.2 = x34))) rfl rfl ?_
      refine sp (.bool (decide (a39.2.2 = x34))) rfl (e_pick_t rfl b50 rfl) ?_
      refine sp (.bool (decide (a39.2.2 = x34))) rfl rfl ?_
      refine sx ?_
      refine cn ?_
      refine c_ret ?_
      obtain rfl := some_eq h
      exact rr (vs := [.bool (decide (a39.2.2 = x34))]) (res_c (resp_t rfl) res_nil) ⟨_, rfl, rfl⟩
    · have h := ite_f h b50
      refine sg_skip (decide (a39.2.1 = x33)) rfl b50 ?_
      refine sg_skip (decide (a39.2.1 = x33)) rfl b50 ?_
      refine sg_skip (decide (a39.2.1 = x33)) rfl b50 ?_
      refine sp (.bool false) rfl (e_pick_f rfl b50 rfl) ?_
      refine sp (.bool false) rfl rfl ?_
      refine sx ?_
      refine cn ?_
      refine c_ret ?_
      obtain rfl := some_eq h
      exact rr (vs := [.bool false]) (res_c (resp_t rfl) res_nil) ⟨_, rfl, rfl⟩
  · have h := ite_f h b49
    refine sg_skip (decide (a39.1 = x32)) rfl b49 ?_
    refine sg_skip (decide (a39.1 = x32)) rfl b49 ?_
    refine sg_skip (decide (a39.1 = x32)) rfl b49 ?_
    refine sp (.bool false) rfl (e_pick_f rfl b49 rfl) ?_
    refine sp (.bool false) rfl rfl ?_
    refine sg_skip false rfl rfl ?_
    refine sg_skip false rfl rfl ?_
    refine sg_skip false rfl rfl ?_
    refine sp (.bool false) rfl (e_pick_f rfl rfl rfl) ?_
    refine sp (.bool false) rfl rfl ?_
    refine sx ?_
    refine cn ?_
    refine c_ret ?_
    obtain rfl := some_eq h
    exact rr (vs := [.bool false]) (res_c (resp_t rfl) res_nil) ⟨_, rfl, rfl⟩
theorem platenlaw06_LeaderStays_j5_ok (k : Nat) (x1 : List UInt8) (x2 : List UInt8) (x8 : Bool) {r : Bool}  {tm : List (Nat × AV)} {σ : St} {B : List (Nat × Blk)} {O : List AV}
    (h : platenlaw06_LeaderStays_j5 k x1 x2 x8 = some r)
    (e0 : lk tm 0 = some (.str x1))
    (e1 : lk tm 1 = some (.str x2))
    (e23 : lk tm 23 = some (.bool x8))
    (I : Inv σ (B) (O)) :
    RunC (cE m) c6c5 ⟨tm, σ⟩ (Cont (cE m) c6c10 (ResP (E := (cE m)) c6.res (fun v σ' => ∃ v', close v = some v' ∧ v' = .bool r))) := by
  unfold platenlaw06_LeaderStays_j5 at h
  refine c_keep (keep_cons e0 (keep_cons e1 (keep_cons e23 keep_nil))) ?_
  rcases bool_tf x8 with b9 | b9
  · have h := ite_t h b9
    refine c_cond_t x8 rfl b9 ?_
    refine c_seq ?_
    refine c_reg ?_
    obtain ⟨a10, g11, h⟩ := bind_some h
    refine st_callc (platenlaw06_marked_ok k  _ g11 ) rfl ?_
    intro v12 q13
    obtain rfl := q13
    refine sp (.bool a10) rfl rfl ?_
    refine sx ?_
    refine cn ?_
    refine c_ret ?_
    refine cr ?_
    obtain rfl := some_eq h
    exact rr (vs := [.bool a10]) (res_c (resp_t rfl) res_nil) ⟨_, rfl, rfl⟩
  · have h := ite_f h b9
    refine c_cond_f x8 rfl b9 ?_
    refine c_skip ?_
    refine cn ?_
    refine c_keep (keep_cons rfl (keep_cons rfl keep_nil)) ?_
    refine c_seq ?_
    refine c_reg ?_
    refine sp (.str x1) rfl rfl ?_
    obtain ⟨a14, g15, h⟩ := bind_some h
    refine st_callc (leader_Of_ok k _ _ g15 ) rfl ?_
    intro v16 q17
    obtain ⟨v18, v20, v22, rfl, q19, q21, q23⟩ := q17
    obtain rfl := q19
    obtain rfl := q21
    obtain rfl := q23
    refine sp (.tuple [.str a14.1, .str a14.2.1, .str a14.2.2]) rfl rfl ?_
    refine sp (.str a14.1) rfl rfl ?_
    refine sp (.str a14.2.1) rfl rfl ?_
    refine sp (.str a14.2.2) rfl rfl ?_
    refine sp (.str a14.1) rfl rfl ?_
    refine sp (.str a14.2.1) rfl rfl ?_
    refine sp (.str a14.2.2) rfl rfl ?_
    refine sx ?_
    refine cn ?_
    refine c_keep (keep_cons rfl (keep_cons rfl (keep_cons rfl keep_nil))) ?_
    refine c_seq ?_
    refine c_reg ?_
    refine sp (.str x2) rfl rfl ?_
    obtain ⟨a24, g25, h⟩ := bind_some h
    refine sp (.str a24) rfl (e_sadd rfl rfl g25) ?_
    refine sp (.str a24) rfl rfl ?_
    refine sx ?_
    refine cn ?_
    refine c_keep (keep_cons rfl (keep_cons rfl (keep_cons rfl keep_nil))) ?_
    refine c_seq ?_
    refine c_seq ?_
    refine c_reg ?_
    refine sp (.str a14.1) rfl rfl ?_
    obtain ⟨a26, g27, h⟩ := bind_some h
    refine st_callc (platenref06_Marked_ok k _ _ g27 ) rfl ?_
    intro v28 q29
    obtain rfl := q29
    refine sp (.bool a26) rfl rfl ?_
    rcases bool_tf a26 with b30 | b30
    · have h := ite_t h b30
      refine sg_run a26 rfl b30 ?_
      refine sp (.str a14.2.1) rfl rfl ?_
      refine sg_run a26 rfl b30 ?_
      refine sp (.bool (decide (a14.2.1 = ([] : List UInt8)))) rfl rfl ?_
      refine sp (.bool (decide (a14.2.1 = ([] : List UInt8)))) rfl (e_pick_t rfl b30 rfl) ?_
      refine sx ?_
      refine cn ?_
      refine c_keep (keep_cons rfl (keep_cons rfl (keep_cons rfl (keep_cons rfl keep_nil)))) ?_
      rcases bool_tf (decide (a14.2.1 = ([] : List UInt8))) with b31 | b31
      · have h := ite_t h b31
        refine c_cond_t (decide (a14.2.1 = ([] : List UInt8))) rfl b31 ?_
        refine c_seq ?_
        refine c_reg ?_
        refine sp (.bool true) rfl rfl ?_
        refine sx ?_
        refine cn ?_
        refine c_ret ?_
        refine cr ?_
        obtain rfl := some_eq h
        exact rr (vs := [.bool true]) (res_c (resp_t rfl) res_nil) ⟨_, rfl, rfl⟩
      · have h := ite_f h b31
        refine c_cond_f (decide (a14.2.1 = ([] : List UInt8))) rfl b31 ?_
        refine c_skip ?_
        refine cn ?_
        exact platenlaw06_LeaderStays_j22_ok k  a14.1 a14.2.1 a24 h rfl rfl rfl   I
    · have h := ite_f h b30
      refine sg_skip a26 rfl b30 ?_
      refine sg_skip a26 rfl b30 ?_
      refine sp (.bool false) rfl (e_pick_f rfl b30 rfl) ?_
      refine sx ?_
      refine cn ?_
      refine c_keep (keep_cons rfl (keep_cons rfl (keep_cons rfl (keep_cons rfl keep_nil)))) ?_
      refine c_cond_f false rfl rfl ?_
      refine c_skip ?_
      refine cn ?_
      exact platenlaw06_LeaderStays_j22_ok k  a14.1 a14.2.1 a24 h rfl rfl rfl   I
theorem platenlaw06_LeaderStays_ok (k : Nat) (x1 : List UInt8) (x2 : List UInt8) (r : Bool)   {σ : St}
    (h : platenlaw06_LeaderStays k x1 x2 = some r) :
    RunF (cE m) 6 [.str x1, .str x2] σ (fun v σ' => σ' = σ ∧ v = .bool r) := by
  refine f_closed rfl rfl rfl (cl_cons rfl (cl_cons rfl cl_nil)) rfl ?_
  have I0 : Inv .zero [] [] := Inv.zero
  unfold platenlaw06_LeaderStays at h
  refine c_seq ?_
  refine c_reg ?_
  refine sp (.bool false) rfl rfl ?_
  refine sx ?_
  refine cn ?_
  refine c_keep (keep_cons rfl (keep_cons rfl keep_nil)) ?_
  refine c_seq ?_
  refine c_seq ?_
  refine c_reg ?_
  obtain ⟨a3, g4, h⟩ := bind_some h
  refine st_callc (platenlaw06_marked_ok k  _ g4 ) rfl ?_
  intro v5 q6
  obtain rfl := q6
  refine sp (.bool (!a3)) rfl rfl ?_
  refine sp (.bool (!a3)) rfl rfl ?_
  rcases bool_tf (!a3) with b7 | b7
  · have h := ite_t h b7
    refine sg_skip (!a3) rfl b7 ?_
    refine sg_skip (!a3) rfl b7 ?_
    refine sg_skip (!a3) rfl b7 ?_
    refine sp (.bool true) rfl (e_pick_t rfl b7 rfl) ?_
    refine sp (.bool true) rfl rfl ?_
    refine sg_skip true rfl rfl ?_
    refine sg_skip true rfl rfl ?_
    refine sg_skip true rfl rfl ?_
    refine sp (.bool true) rfl (e_pick_t rfl rfl rfl) ?_
    refine sx ?_
    refine cn ?_
    exact platenlaw06_LeaderStays_j5_ok k x1 x2 true h rfl rfl rfl   I0
  · have h := ite_f h b7
    refine sg_run (!a3) rfl b7 ?_
    refine sp (.str x1) rfl rfl ?_
    refine sg_run (!a3) rfl b7 ?_
    refine sp (.int .i64 (x1.length : Int)) rfl rfl ?_
    refine sg_run (!a3) rfl b7 ?_
    refine sp (.bool (decide (200 < (x1.length : Int)))) rfl rfl ?_
    refine sp (.bool (decide (200 < (x1.length : Int)))) rfl (e_pick_f rfl b7 rfl) ?_
    refine sp (.bool (decide (200 < (x1.length : Int)))) rfl rfl ?_
    rcases bool_tf (decide (200 < (x1.length : Int))) with b51 | b51
    · have h := ite_t h b51
      refine sg_skip (decide (200 < (x1.length : Int))) rfl b51 ?_
      refine sg_skip (decide (200 < (x1.length : Int))) rfl b51 ?_
      refine sg_skip (decide (200 < (x1.length : Int))) rfl b51 ?_
      refine sp (.bool true) rfl (e_pick_t rfl b51 rfl) ?_
      refine sx ?_
      refine cn ?_
      exact platenlaw06_LeaderStays_j5_ok k x1 x2 true h rfl rfl rfl   I0
    · have h := ite_f h b51
      refine sg_run (decide (200 < (x1.length : Int))) rfl b51 ?_
      refine sp (.str x2) rfl rfl ?_
      refine sg_run (decide (200 < (x1.length : Int))) rfl b51 ?_
      refine sp (.int .i64 (x2.length : Int)) rfl rfl ?_
      refine sg_run (decide (200 < (x1.length : Int))) rfl b51 ?_
      refine sp (.bool (decide (200 < (x2.length : Int)))) rfl rfl ?_
      refine sp (.bool (decide (200 < (x2.length : Int)))) rfl (e_pick_f rfl b51 rfl) ?_
      refine sx ?_
      refine cn ?_
      exact platenlaw06_LeaderStays_j5_ok k x1 x2 (decide (200 < (x2.length : Int))) h rfl rfl rfl   I0
/- platen.platenlaw06.LeaderAgain -/
def platenlaw06_LeaderAgain_j5 (k : Nat) (x1 : List UInt8) (x7 : Bool) : Option Bool :=
  if x7 then ((platenlaw06_marked k).bind fun a9 => some a9) else ((leader_Of k x1).bind fun a13 => (leader_Of k a13.1).bind fun a23 => if decide (a23.1 = a13.1) then (if decide (a23.2.1 = ([] : List UInt8)) then (some (decide (a23.2.2 = ([] : List UInt8)))) else (some false)) else (some false))
def platenlaw06_LeaderAgain (k : Nat) (x1 : List UInt8) : Option Bool :=
  (platenlaw06_marked k).bind fun a2 => if !a2 then (platenlaw06_LeaderAgain_j5 k x1 true) else (platenlaw06_LeaderAgain_j5 k x1 (decide (300 < (x1.length : Int))))
theorem platenlaw06_LeaderAgain_j5_ok (k : Nat) (x1 : List UInt8) (x7 : Bool) {r : Bool}  {tm : List (Nat × AV)} {σ : St} {B : List (Nat × Blk)} {O : List AV}
    (h : platenlaw06_LeaderAgain_j5 k x1 x7 = some r)
    (e0 : lk tm 0 = some (.str x1))
    (e15 : lk tm 15 = some (.bool x7))
    (I : Inv σ (B) (O)) :
    RunC (cE m) c7c5 ⟨tm, σ⟩ (Cont (cE m) c7c10 (ResP (E := (cE m)) c7.res (fun v σ' => ∃ v', close v = some v' ∧ v' = .bool r))) := by
  unfold platenlaw06_LeaderAgain_j5 at h
  refine c_keep (keep_cons e0 (keep_cons e15 keep_nil)) ?_
  rcases bool_tf x7 with b8 | b8
  · have h := ite_t h b8
    refine c_cond_t x7 rfl b8 ?_
    refine c_seq ?_
    refine c_reg ?_
    obtain ⟨a9, g10, h⟩ := bind_some h
    refine st_callc (platenlaw06_marked_ok k  _ g10 ) rfl ?_
    intro v11 q12
    obtain rfl := q12
    refine sp (.bool a9) rfl rfl ?_
    refine sx ?_
    refine cn ?_
    refine c_ret ?_
    refine cr ?_
    obtain rfl := some_eq h
    exact rr (vs := [.bool a9]) (res_c (resp_t rfl) res_nil) ⟨_, rfl, rfl⟩
  · have h := ite_f h b8
    refine c_cond_f x7 rfl b8 ?_
    refine c_skip ?_
    refine cn ?_
    refine c_keep (keep_cons rfl keep_nil) ?_
    refine c_seq ?_
    refine c_reg ?_
    refine sp (.str x1) rfl rfl ?_
    obtain ⟨a13, g14, h⟩ := bind_some h
    refine st_callc (leader_Of_ok k _ _ g14 ) rfl ?_
    intro v15 q16
    obtain ⟨v17, v19, v21, rfl, q18, q20, q22⟩ := q16
    obtain rfl := q18
    obtain rfl := q20
    obtain rfl := q22
    refine sp (.tuple [.str a13.1, .str a13.2.1, .str a13.2.2]) rfl rfl ?_
    refine sp (.str a13.1) rfl rfl ?_
    refine sp (.str a13.2.1) rfl rfl ?_
    refine sp (.str a13.2.2) rfl rfl ?_
    refine sp (.str a13.1) rfl rfl ?_
    refine sp (.str a13.2.1) rfl rfl ?_
    refine sp (.str a13.2.2) rfl rfl ?_
    refine sx ?_
    refine cn ?_
    refine c_keep (keep_cons rfl keep_nil) ?_
    refine c_seq ?_
    refine c_reg ?_
    refine sp (.str a13.1) rfl rfl ?_
    obtain ⟨a23, g24, h⟩ := bind_some h
    refine st_callc (leader_Of_ok k _ _ g24 ) rfl ?_
    intro v25 q26
    obtain ⟨v27, v29, v31, rfl, q28, q30, q32⟩ := q26
    obtain rfl := q28
    obtain rfl := q30
    obtain rfl := q32
    refine sp (.tuple [.str a23.1, .str a23.2.1, .str a23.2.2]) rfl rfl ?_
    refine sp (.str a23.1) rfl rfl ?_
    refine sp (.str a23.2.1) rfl rfl ?_
    refine sp (.str a23.2.2) rfl rfl ?_
    refine sp (.str a23.1) rfl rfl ?_
    refine sp (.str a23.2.1) rfl rfl ?_
    refine sp (.str a23.2.2) rfl rfl ?_
    refine sx ?_
    refine cn ?_
    refine c_keep (keep_cons rfl (keep_cons rfl (keep_cons rfl (keep_cons rfl keep_nil)))) ?_
    refine c_seq ?_
    refine c_reg ?_
    refine sp (.str a23.1) rfl rfl ?_
    refine sp (.str a13.1) rfl rfl ?_
    refine sp (.bool (decide (a23.1 = a13.1))) rfl rfl ?_
    refine sp (.bool (decide (a23.1 = a13.1))) rfl rfl ?_
    rcases bool_tf (decide (a23.1 = a13.1)) with b33 | b33
    · have h := ite_t h b33
      refine sg_run (decide (a23.1 = a13.1)) rfl b33 ?_
      refine sp (.str a23.2.1) rfl rfl ?_
      refine sg_run (decide (a23.1 = a13.1)) rfl b33 ?_
      refine sp (.bool (decide (a23.2.1 = ([] : List UInt8)))) rfl rfl ?_
      refine sp (.bool (decide (a23.2.1 = ([] : List UInt8)))) rfl (e_pick_t rfl b33 rfl) ?_
      refine sp (.bool (decide (a23.2.1 = ([] : List UInt8)))) rfl rfl ?_
      rcases bool_tf (decide (a23.2.1 = ([] : List UInt8))) with b34 | b34
      · have h := ite_t h b34
        refine sg_run (decide (a23.2.1 = ([] : List UInt8))) rfl b34 ?_
        refine sp (.str a23.2.2) rfl rfl ?_
        refine sg_run (decide (a23.2.1 = ([] : List UInt8))) rfl b34 ?_
        refine sp (.bool (decide (a23.2.2 = ([] : List UInt8)))) rfl rfl ?_
        refine sp (.bool (decide (a23.2.2 = ([] : List UInt8)))) rfl (e_pick_t rfl b34 rfl) ?_
        refine sp (.bool (decide (a23.2.2 = ([] : List UInt8)))) rfl rfl ?_
        refine sx ?_
        refine cn ?_
        refine c_ret ?_
        obtain rfl := some_eq h
        exact rr (vs := [.bool (decide (a23.2.2 = ([] : List UInt8)))]) (res_c (resp_t rfl) res_nil) ⟨_, rfl, rfl⟩
      · have h := ite_f h b34
        refine sg_skip (decide (a23.2.1 = ([] : List UInt8))) rfl b34 ?_
        refine sg_skip (decide (a23.2.1 = ([] : List UInt8))) rfl b34 ?_
        refine sp (.bool false) rfl (e_pick_f rfl b34 rfl) ?_
        refine sp (.bool false) rfl rfl ?_
        refine sx ?_
        refine cn ?_
        refine c_ret ?_
        obtain rfl := some_eq h
        exact rr (vs := [.bool false]) (res_c (resp_t rfl) res_nil) ⟨_, rfl, rfl⟩
    · have h := ite_f h b33
      refine sg_skip (decide (a23.1 = a13.1)) rfl b33 ?_
      refine sg_skip (decide (a23.1 = a13.1)) rfl b33 ?_
      refine sp (.bool false) rfl (e_pick_f rfl b33 rfl) ?_
      refine sp (.bool false) rfl rfl ?_
      refine sg_skip false rfl rfl ?_
      refine sg_skip false rfl rfl ?_
      refine sp (.bool false) rfl (e_pick_f rfl rfl rfl) ?_
      refine sp (.bool false) rfl rfl ?_
      refine sx ?_
      refine cn ?_
      refine c_ret ?_
      obtain rfl := some_eq h
      exact rr (vs := [.bool false]) (res_c (resp_t rfl) res_nil) ⟨_, rfl, rfl⟩
theorem platenlaw06_LeaderAgain_ok (k : Nat) (x1 : List UInt8) (r : Bool)   {σ : St}
    (h : platenlaw06_LeaderAgain k x1 = some r) :
    RunF (cE m) 7 [.str x1] σ (fun v σ' => σ' = σ ∧ v = .bool r) := by
  refine f_closed rfl rfl rfl (cl_cons rfl cl_nil) rfl ?_
  have I0 : Inv .zero [] [] := Inv.zero
  unfold platenlaw06_LeaderAgain at h
  refine c_seq ?_
  refine c_reg ?_
  refine sp (.bool false) rfl rfl ?_
  refine sx ?_
  refine cn ?_
  refine c_keep (keep_cons rfl keep_nil) ?_
  refine c_seq ?_
  refine c_seq ?_
  refine c_reg ?_
  obtain ⟨a2, g3, h⟩ := bind_some h
  refine st_callc (platenlaw06_marked_ok k  _ g3 ) rfl ?_
  intro v4 q5
  obtain rfl := q5
  refine sp (.bool (!a2)) rfl rfl ?_
  refine sp (.bool (!a2)) rfl rfl ?_
  rcases bool_tf (!a2) with b6 | b6
  · have h := ite_t h b6
    refine sg_skip (!a2) rfl b6 ?_
    refine sg_skip (!a2) rfl b6 ?_
    refine sg_skip (!a2) rfl b6 ?_
    refine sp (.bool true) rfl (e_pick_t rfl b6 rfl) ?_
    refine sx ?_
    refine cn ?_
    exact platenlaw06_LeaderAgain_j5_ok k x1 true h rfl rfl   I0
  · have h := ite_f h b6
    refine sg_run (!a2) rfl b6 ?_
    refine sp (.str x1) rfl rfl ?_
    refine sg_run (!a2) rfl b6 ?_
    refine sp (.int .i64 (x1.length : Int)) rfl rfl ?_
    refine sg_run (!a2) rfl b6 ?_
    refine sp (.bool (decide (300 < (x1.length : Int)))) rfl rfl ?_
    refine sp (.bool (decide (300 < (x1.length : Int)))) rfl (e_pick_f rfl b6 rfl) ?_
    refine sx ?_
    refine cn ?_
    exact platenlaw06_LeaderAgain_j5_ok k x1 (decide (300 < (x1.length : Int))) h rfl rfl   I0
end Go.Pv
