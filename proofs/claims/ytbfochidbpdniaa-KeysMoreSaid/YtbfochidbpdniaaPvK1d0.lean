/- Functions over typed values, printed; and that the abstract runs come to them. -/
import Derived.Test.YtbfochidbpdniaaPvK1
import Derived.Test.YtbfochidbpdniaaPvD3
namespace Go.Pv
set_option linter.all false
set_option maxRecDepth 100000
structure S_keys_reader where
  p : List UInt8
  at_ : Int
abbrev S_keys_reader.R (x : S_keys_reader) (c : List AV) : Prop := ∃ v0, c = [v0, .int .i64 x.at_] ∧ SL RU8 1 x.p v0
instance : ClR S_keys_reader.R := ⟨by
  rintro x c ⟨v0, rfl, s0⟩
  obtain ⟨w0, k0, s0⟩ := s0.close
  exact ⟨_, (cl_cons k0 (cl_cons rfl cl_nil)), ⟨w0, rfl, s0⟩, rfl⟩⟩
structure S_api_Motion where
  Key : UInt8
  Sign : UInt8
  N : Int
abbrev S_api_Motion.R (x : S_api_Motion) (c : List AV) : Prop := c = [u8 x.Key, u8 x.Sign, .int .i64 x.N]
instance : ClR S_api_Motion.R := ⟨fun h => ⟨_, by rw [h]; rfl, rfl, by rw [h]⟩⟩
structure S_keys_Cmd where
  Kind : UInt8
  Reg : UInt8
  N : Int
  Op : UInt8
  M : S_api_Motion
  Key : UInt8
  Sign : UInt8
abbrev S_keys_Cmd.R (x : S_keys_Cmd) (c : List AV) : Prop := c = [u8 x.Kind, u8 x.Reg, .int .i64 x.N, u8 x.Op, u8 x.M.Key, u8 x.M.Sign, .int .i64 x.M.N, u8 x.Key, u8 x.Sign]
instance : ClR S_keys_Cmd.R := ⟨fun h => ⟨_, by rw [h]; rfl, rfl, by rw [h]⟩⟩
structure S_platenref21_machine where
  state : UInt8
  chosen : Bool
  c : S_keys_Cmd
  n : Int
  k : Int
abbrev S_platenref21_machine.R (x : S_platenref21_machine) (c : List AV) : Prop := c = [u8 x.state, .bool x.chosen, u8 x.c.Kind, u8 x.c.Reg, .int .i64 x.c.N, u8 x.c.Op, u8 x.c.M.Key, u8 x.c.M.Sign, .int .i64 x.c.M.N, u8 x.c.Key, u8 x.c.Sign, .int .i64 x.n, .int .i64 x.k]
instance : ClR S_platenref21_machine.R := ⟨fun h => ⟨_, by rw [h]; rfl, rfl, by rw [h]⟩⟩
/- (*platen.keys.reader).more -/
def keys_reader_more (k : Nat) (x1 : S_keys_reader) : Option Bool :=
  some (decide (x1.at_ < (x1.p.length : Int)))
theorem keys_reader_more_ok (k : Nat) (x1 : S_keys_reader) (r : Bool) {v2 : AV} {r0 : Nat} {σ : St} {B : List (Nat × Blk)} {O : List AV}
    (h : keys_reader_more k x1 = some r)
    (s3 : SL RU8 1 x1.p v2)
    (I : Inv σ ((r0, .cells [v2, .int .i64 x1.at_]) :: B) (O)) :
    RunF kE 16 [.blk r0 0] σ (fun v σ' => v = .bool r ∧ Inv σ' ((r0, .cells [v2, .int .i64 x1.at_]) :: B) (O)) := by
  refine f_plain rfl rfl rfl rfl ?_
  unfold keys_reader_more at h
  refine c_seq ?_
  refine c_reg ?_
  refine sp (.bool false) rfl rfl ?_
  refine sx ?_
  refine cn ?_
  refine c_keep (keep_cons rfl keep_nil) ?_
  refine c_seq ?_
  refine c_reg ?_
  refine sp (.blk r0 0) rfl rfl ?_
  refine sp (.blk r0 0) rfl rfl ?_
  refine sp (.blk r0 1) rfl rfl ?_
  refine sp (.int .i64 x1.at_) rfl (e_load I 0 1 rfl rfl rfl) ?_
  refine sp (.blk r0 0) rfl rfl ?_
  refine sp (.blk r0 0) rfl rfl ?_
  refine sp (.blk r0 0) rfl rfl ?_
  refine sp (v2) rfl (e_load I 0 0 rfl rfl rfl) ?_
  refine sp (.int .i64 (x1.p.length : Int)) rfl (e_len rfl s3 (Nat.le_of_ble_eq_true rfl)) ?_
  refine sp (.bool (decide (x1.at_ < (x1.p.length : Int)))) rfl rfl ?_
  refine sp (.bool (decide (x1.at_ < (x1.p.length : Int)))) rfl rfl ?_
  refine sx ?_
  refine cn ?_
  refine c_ret ?_
  obtain rfl := some_eq h
  exact rr (vs := [.bool (decide (x1.at_ < (x1.p.length : Int)))]) (res_c (resp_t rfl) res_nil) ⟨rfl, I⟩
/- (*platen.keys.reader).next -/
def keys_reader_next (k : Nat) (x1 : S_keys_reader) : Option ((UInt8 × Bool × S_keys_reader)) :=
  (keys_reader_more k x1).bind fun a4 => if !a4 then (some ((0 : UInt8), false, x1)) else ((lIdx x1.p (IntKind.i64.wrap ((IntKind.i64.wrap (x1.at_ + 1)) - 1))).bind fun a14 => some (a14, true, (⟨x1.p, (IntKind.i64.wrap (x1.at_ + 1))⟩ : S_keys_reader)))
theorem keys_reader_next_ok (k : Nat) (x1 : S_keys_reader) (r : (UInt8 × Bool × S_keys_reader)) {v2 : AV} {r0 : Nat} {σ : St} {B : List (Nat × Blk)} {O : List AV}
    (h : keys_reader_next k x1 = some r)
    (s3 : SL RU8 1 x1.p v2)
    (I : Inv σ ((r0, .cells [v2, .int .i64 x1.at_]) :: B) (O)) :
    RunF kE 18 [.blk r0 0] σ (fun v σ' => ∃ w0 w1 q0v0, v = .tuple [w0, w1] ∧ w0 = u8 r.1 ∧ w1 = .bool r.2.1 ∧ SL RU8 1 r.2.2.p q0v0 ∧ Inv σ' ((r0, .cells [q0v0, .int .i64 r.2.2.at_]) :: B) (O)) := by
  refine f_plain rfl rfl rfl rfl ?_
  unfold keys_reader_next at h
  refine c_seq ?_
  refine c_reg ?_
  refine sp (u8 (0 : UInt8)) rfl rfl ?_
  refine sp (.bool false) rfl rfl ?_
  refine sx ?_
  refine cn ?_
  refine c_keep (keep_cons rfl keep_nil) ?_
  refine c_seq ?_
  refine c_seq ?_
  refine c_reg ?_
  refine sp (.blk r0 0) rfl rfl ?_
  obtain ⟨a4, g5, h⟩ := bind_some h
  refine st_call (keys_reader_more_ok k _ _ g5 s3 I) rfl ?_
  intro v6 σ8 q7
  obtain ⟨q10, I9⟩ := q7
  obtain rfl := q10
  refine sp (.bool (!a4)) rfl rfl ?_
  refine sx ?_
  refine cn ?_
  refine c_keep (keep_cons rfl (keep_cons rfl keep_nil)) ?_
  rcases bool_tf (!a4) with b11 | b11
  · have h := ite_t h b11
    refine c_cond_t (!a4) rfl b11 ?_
    refine c_seq ?_
    refine c_reg ?_
    refine sp (u8 (0 : UInt8)) rfl rfl ?_
    refine sp (.bool false) rfl rfl ?_
    refine sx ?_
    refine cn ?_
    refine c_ret ?_
    refine cr ?_
    obtain rfl := some_eq h
    exact rr (vs := [u8 (0 : UInt8), .bool false]) (res_c (resp_t rfl) (res_c (resp_t rfl) res_nil)) ⟨_, _, _, rfl, rfl, rfl, s3, I9⟩
  · have h := ite_f h b11
    refine c_cond_f (!a4) rfl b11 ?_
    refine c_skip ?_
    refine cn ?_
    refine c_keep (keep_cons rfl keep_nil) ?_
    refine c_seq ?_
    refine c_reg ?_
    refine sp (.blk r0 0) rfl rfl ?_
    refine sp (.blk r0 0) rfl rfl ?_
    refine sp (.blk r0 1) rfl rfl ?_
    refine sp (.int .i64 x1.at_) rfl (e_load I9 0 1 rfl rfl rfl) ?_
    refine sp (.int .i64 (IntKind.i64.wrap (x1.at_ + 1))) rfl rfl ?_
    refine sp (.blk r0 0) rfl rfl ?_
    refine sp (.blk r0 1) rfl rfl ?_
    refine st_store I9 0 1 (cs' := [v2, .int .i64 (IntKind.i64.wrap (x1.at_ + 1))]) (bs' := (r0, .cells [v2, .int .i64 (IntKind.i64.wrap (x1.at_ + 1))]) :: B) rfl rfl rfl rfl rfl (Nat.le_of_ble_eq_true rfl) rfl rfl ?_
    intro σ13 I12
    refine sx ?_
    refine cn ?_
    refine c_keep (keep_cons rfl keep_nil) ?_
    refine c_seq ?_
    refine c_reg ?_
    refine sp (.blk r0 0) rfl rfl ?_
    refine sp (.blk r0 0) rfl rfl ?_
    refine sp (.blk r0 0) rfl rfl ?_
    refine sp (v2) rfl (e_load I12 0 0 rfl rfl rfl) ?_
    refine sp (.blk r0 0) rfl rfl ?_
    refine sp (.blk r0 0) rfl rfl ?_
    refine sp (.blk r0 1) rfl rfl ?_
    refine sp (.int .i64 (IntKind.i64.wrap (x1.at_ + 1))) rfl (e_load I12 0 1 rfl rfl rfl) ?_
    refine sp (.int .i64 (IntKind.i64.wrap ((IntKind.i64.wrap (x1.at_ + 1)) - 1))) rfl rfl ?_
    obtain ⟨a14, g15, h⟩ := bind_some h
    refine st_idxa rfl s3 rfl (Nat.le_of_ble_eq_true rfl) g15 ?_
    intro c16 o17 d18 q19 z20 l21
    obtain rfl := q19
    clear z20
    refine sp (u8 a14) rfl (e_load_elem 0 rfl l21 rfl) ?_
    refine sp (u8 a14) rfl rfl ?_
    refine sp (.bool true) rfl rfl ?_
    refine sx ?_
    refine cn ?_
    refine c_ret ?_
    obtain rfl := some_eq h
    exact rr (vs := [u8 a14, .bool true]) (res_c (resp_t rfl) (res_c (resp_t rfl) res_nil)) ⟨_, _, _, rfl, rfl, rfl, s3, I12⟩
/- platen.keys.letter -/
def keys_letter (k : Nat) (x1 : UInt8) : Option Bool :=
  if decide (97 ≤ (x1.toNat : Int)) then (some (decide ((x1.toNat : Int) ≤ 122))) else (some false)
theorem keys_letter_ok (k : Nat) (x1 : UInt8) (r : Bool)   {σ : St}
    (h : keys_letter k x1 = some r) :
    RunF kE 19 [u8 x1] σ (fun v σ' => σ' = σ ∧ v = .bool r) := by
  refine f_closed rfl rfl rfl (cl_cons rfl cl_nil) rfl ?_
  have I0 : Inv .zero [] [] := Inv.zero
  unfold keys_letter at h
  refine c_seq ?_
  refine c_reg ?_
  refine sp (.bool false) rfl rfl ?_
  refine sx ?_
  refine cn ?_
  refine c_keep (keep_cons rfl keep_nil) ?_
  refine c_seq ?_
  refine c_reg ?_
  refine sp (u8 x1) rfl rfl ?_
  refine sp (.bool (decide (97 ≤ (x1.toNat : Int)))) rfl rfl ?_
  refine sp (.bool (decide (97 ≤ (x1.toNat : Int)))) rfl rfl ?_
  rcases bool_tf (decide (97 ≤ (x1.toNat : Int))) with b2 | b2
  · have h := ite_t h b2
    refine sg_run (decide (97 ≤ (x1.toNat : Int))) rfl b2 ?_
    refine sp (u8 x1) rfl rfl ?_
    refine sg_run (decide (97 ≤ (x1.toNat : Int))) rfl b2 ?_
    refine sp (.bool (decide ((x1.toNat : Int) ≤ 122))) rfl rfl ?_
    refine sp (.bool (decide ((x1.toNat : Int) ≤ 122))) rfl (e_pick_t rfl b2 rfl) ?_
    refine sp (.bool (decide ((x1.toNat : Int) ≤ 122))) rfl rfl ?_
    refine sx ?_
    refine cn ?_
    refine c_ret ?_
    obtain rfl := some_eq h
    exact rr (vs := [.bool (decide ((x1.toNat : Int) ≤ 122))]) (res_c (resp_t rfl) res_nil) ⟨_, rfl, rfl⟩
  · have h := ite_f h b2
    refine sg_skip (decide (97 ≤ (x1.toNat : Int))) rfl b2 ?_
    refine sg_skip (decide (97 ≤ (x1.toNat : Int))) rfl b2 ?_
    refine sp (.bool false) rfl (e_pick_f rfl b2 rfl) ?_
    refine sp (.bool false) rfl rfl ?_
    refine sx ?_
    refine cn ?_
    refine c_ret ?_
    obtain rfl := some_eq h
    exact rr (vs := [.bool false]) (res_c (resp_t rfl) res_nil) ⟨_, rfl, rfl⟩
/- (*platen.keys.reader).count -/
def keys_reader_count_j13 (rec : Int → S_keys_reader → Option (((Int × Bool × S_keys_reader) ⊕ (Int × S_keys_reader)))) (k : Nat) (x34 : Int) (x35 : S_keys_reader) : Option ((Int × Bool × S_keys_reader) ⊕ (Int × S_keys_reader)) :=
  (lIdx x35.p x35.at_).bind fun a38 => if decide (9999 < (IntKind.i64.wrap ((IntKind.i64.wrap (10 * x34)) + (((toB ((a38.toNat : Int) - 48))).toNat : Int)))) then (some (Sum.inl (0, false, x35))) else (rec (IntKind.i64.wrap ((IntKind.i64.wrap (10 * x34)) + (((toB ((a38.toNat : Int) - 48))).toNat : Int))) (⟨x35.p, (IntKind.i64.wrap (x35.at_ + 1))⟩ : S_keys_reader))
def keys_reader_count_l6  : Nat → Int → S_keys_reader → Option (((Int × Bool × S_keys_reader) ⊕ (Int × S_keys_reader)))
  | 0, _, _ => none
  | k + 1, x4, x5 => (keys_reader_more k x5).bind fun a8 => if a8 then ((lIdx x5.p x5.at_).bind fun a16 => if decide (48 < (a16.toNat : Int)) then ((lIdx x5.p x5.at_).bind fun a25 => if decide ((a25.toNat : Int) ≤ 57) then (keys_reader_count_j13 (keys_reader_count_l6  k) k  x4 x5) else (some (Sum.inr (x4, x5)))) else (if decide (0 < x4) then ((lIdx x5.p x5.at_).bind fun a59 => if decide ((a59.toNat : Int) = 48) then ((lIdx x5.p x5.at_).bind fun a68 => if decide ((a68.toNat : Int) ≤ 57) then (keys_reader_count_j13 (keys_reader_count_l6  k) k  x4 x5) else (some (Sum.inr (x4, x5)))) else (some (Sum.inr (x4, x5)))) else (some (Sum.inr (x4, x5))))) else (some (Sum.inr (x4, x5)))
def keys_reader_count (k : Nat) (x1 : S_keys_reader) : Option ((Int × Bool × S_keys_reader)) :=
  (keys_reader_count_l6  k 0 x1).bind fun a77 => (match a77 with | .inl (x47, x48, x49) => (some (x47, x48, x49)) | .inr (x54, x55) => (some (x54, true, x55)))
theorem keys_reader_count_j13_ok (rec : Int → S_keys_reader → Option (((Int × Bool × S_keys_reader) ⊕ (Int × S_keys_reader)))) (k : Nat) (x34 : Int) (x35 : S_keys_reader) (out : ((Int × Bool × S_keys_reader) ⊕ (Int × S_keys_reader))) {v36 : AV} {r0 : Nat} {Q : Ex → M → Prop} {tm : List (Nat × AV)} {σ : St} {B : List (Nat × Blk)} {O : List AV}
    (h : keys_reader_count_j13 rec k x34 x35 = some out)
    (e0 : lk tm 0 = some (.blk r0 0))
    (e4 : lk tm 4 = some (.int .i64 x34))
    (s37 : SL RU8 1 x35.p v36)
    (I : Inv σ ((r0, .cells [v36, .int .i64 x35.at_]) :: B) (O))
    (hrec : ∀ (x4 : Int) (x5 : S_keys_reader) (v6 : AV) (tm : List (Nat × AV)) (σ : St), rec x4 x5 = some out → lk tm 0 = some (.blk r0 0) → lk tm 4 = some (.int .i64 x4) → SL RU8 1 x5.p v6 → Inv σ ((r0, .cells [v6, .int .i64 x5.at_]) :: B) (O) → RunC kE (.loop k20l6) ⟨tm, σ⟩ Q)
    (hL0 : ∀ (x47 : Int) (x48 : Bool) (x49 : S_keys_reader) (v50 : AV) (tm : List (Nat × AV)) (σ : St), lk tm 2 = some (.int .i64 x47) → lk tm 3 = some (.bool x48) → SL RU8 1 x49.p v50 → Inv σ ((r0, .cells [v50, .int .i64 x49.at_]) :: B) (O) → (Sum.inl (x47, x48, x49)) = out → Q .ret ⟨tm, σ⟩)
    (hL1 : ∀ (x54 : Int) (x55 : S_keys_reader) (v56 : AV) (tm : List (Nat × AV)) (σ : St), lk tm 4 = some (.int .i64 x54) → SL RU8 1 x55.p v56 → Inv σ ((r0, .cells [v56, .int .i64 x55.at_]) :: B) (O) → (Sum.inr (x54, x55)) = out → Q (.exit 0) ⟨tm, σ⟩) :
    RunC kE k20c13 ⟨tm, σ⟩ (Cont kE (.loop k20l6) Q) := by
  unfold keys_reader_count_j13 at h
  refine c_keep (keep_cons e0 (keep_cons e4 keep_nil)) ?_
  refine c_block ?_
  refine c_seq ?_
  refine c_seq ?_
  refine c_reg ?_
  refine sp (.int .i64 x34) rfl rfl ?_
  refine sp (.int .i64 (IntKind.i64.wrap (10 * x34))) rfl rfl ?_
  refine sp (.blk r0 0) rfl rfl ?_
  refine sp (.blk r0 0) rfl rfl ?_
  refine sp (.blk r0 0) rfl rfl ?_
  refine sp (v36) rfl (e_load I 0 0 rfl rfl rfl) ?_
  refine sp (.blk r0 0) rfl rfl ?_
  refine sp (.blk r0 0) rfl rfl ?_
  refine sp (.blk r0 1) rfl rfl ?_
  refine sp (.int .i64 x35.at_) rfl (e_load I 0 1 rfl rfl rfl) ?_
  obtain ⟨a38, g39, h⟩ := bind_some h
  refine st_idxa rfl s37 rfl (Nat.le_of_ble_eq_true rfl) g39 ?_
  intro c40 o41 d42 q43 z44 l45
  obtain rfl := q43
  clear z44
  refine sp (u8 a38) rfl (e_load_elem 0 rfl l45 rfl) ?_
  refine spe (u8 (toB ((a38.toNat : Int) - 48))) rfl rfl (u8_wrap _) ?_
  refine spe (.int .i64 (((toB ((a38.toNat : Int) - 48))).toNat : Int)) rfl rfl (u8_to .i64 _ rfl) ?_
  refine sp (.int .i64 (IntKind.i64.wrap ((IntKind.i64.wrap (10 * x34)) + (((toB ((a38.toNat : Int) - 48))).toNat : Int)))) rfl rfl ?_
  refine sp (.int .i64 (IntKind.i64.wrap ((IntKind.i64.wrap (10 * x34)) + (((toB ((a38.toNat : Int) - 48))).toNat : Int)))) rfl rfl ?_
  refine sx ?_
  refine cn ?_
  refine c_keep (keep_cons rfl (keep_cons rfl keep_nil)) ?_
  refine c_seq ?_
  refine c_reg ?_
  refine sp (.int .i64 (IntKind.i64.wrap ((IntKind.i64.wrap (10 * x34)) + (((toB ((a38.toNat : Int) - 48))).toNat : Int)))) rfl rfl ?_
  refine sp (.bool (decide (9999 < (IntKind.i64.wrap ((IntKind.i64.wrap (10 * x34)) + (((toB ((a38.toNat : Int) - 48))).toNat : Int)))))) rfl rfl ?_
  refine sx ?_
  refine cn ?_
  refine c_keep (keep_cons rfl (keep_cons rfl (keep_cons rfl keep_nil))) ?_
  rcases bool_tf (decide (9999 < (IntKind.i64.wrap ((IntKind.i64.wrap (10 * x34)) + (((toB ((a38.toNat : Int) - 48))).toNat : Int))))) with b46 | b46
  · have h := ite_t h b46
    refine c_cond_t (decide (9999 < (IntKind.i64.wrap ((IntKind.i64.wrap (10 * x34)) + (((toB ((a38.toNat : Int) - 48))).toNat : Int))))) rfl b46 ?_
    refine c_seq ?_
    refine c_reg ?_
    refine sp (.int .i64 0) rfl rfl ?_
    refine sp (.bool false) rfl rfl ?_
    refine sx ?_
    refine cn ?_
    refine c_ret ?_
    refine cr ?_
    refine br ?_
    refine cr ?_
    exact hL0 0 false x35 _ _ _ rfl rfl s37 I (some_eq h)
  · have h := ite_f h b46
    refine c_cond_f (decide (9999 < (IntKind.i64.wrap ((IntKind.i64.wrap (10 * x34)) + (((toB ((a38.toNat : Int) - 48))).toNat : Int))))) rfl b46 ?_
    refine c_skip ?_
    refine cn ?_
    refine c_keep (keep_cons rfl (keep_cons rfl keep_nil)) ?_
    refine c_reg ?_
    refine sp (.blk r0 0) rfl rfl ?_
    refine sp (.blk r0 0) rfl rfl ?_
    refine sp (.blk r0 1) rfl rfl ?_
    refine sp (.int .i64 x35.at_) rfl (e_load I 0 1 rfl rfl rfl) ?_
    refine sp (.int .i64 (IntKind.i64.wrap (x35.at_ + 1))) rfl rfl ?_
    refine sp (.blk r0 0) rfl rfl ?_
    refine sp (.blk r0 1) rfl rfl ?_
    refine st_store I 0 1 (cs' := [v36, .int .i64 (IntKind.i64.wrap (x35.at_ + 1))]) (bs' := (r0, .cells [v36, .int .i64 (IntKind.i64.wrap (x35.at_ + 1))]) :: B) rfl rfl rfl rfl rfl (Nat.le_of_ble_eq_true rfl) rfl rfl ?_
    intro σ53 I52
    refine sx ?_
    refine bn ?_
    refine cn ?_
    exact hrec (IntKind.i64.wrap ((IntKind.i64.wrap (10 * x34)) + (((toB ((a38.toNat : Int) - 48))).toNat : Int))) (⟨x35.p, (IntKind.i64.wrap (x35.at_ + 1))⟩ : S_keys_reader) _ _ _ h rfl rfl s37 I52
theorem keys_reader_count_l6_ok  {out : ((Int × Bool × S_keys_reader) ⊕ (Int × S_keys_reader))}  {r0 : Nat} {Q : Ex → M → Prop} {B : List (Nat × Blk)} {O : List AV}
    (hL0 : ∀ (x47 : Int) (x48 : Bool) (x49 : S_keys_reader) (v50 : AV) (tm : List (Nat × AV)) (σ : St), lk tm 2 = some (.int .i64 x47) → lk tm 3 = some (.bool x48) → SL RU8 1 x49.p v50 → Inv σ ((r0, .cells [v50, .int .i64 x49.at_]) :: B) (O) → (Sum.inl (x47, x48, x49)) = out → Q .ret ⟨tm, σ⟩)
    (hL1 : ∀ (x54 : Int) (x55 : S_keys_reader) (v56 : AV) (tm : List (Nat × AV)) (σ : St), lk tm 4 = some (.int .i64 x54) → SL RU8 1 x55.p v56 → Inv σ ((r0, .cells [v56, .int .i64 x55.at_]) :: B) (O) → (Sum.inr (x54, x55)) = out → Q (.exit 0) ⟨tm, σ⟩) :
    ∀ (k : Nat) (x4 : Int) (x5 : S_keys_reader) (v6 : AV) (tm : List (Nat × AV)) (σ : St), keys_reader_count_l6  k x4 x5 = some out →
    lk tm 0 = some (.blk r0 0) →
    lk tm 4 = some (.int .i64 x4) →
    SL RU8 1 x5.p v6 →
    Inv σ ((r0, .cells [v6, .int .i64 x5.at_]) :: B) (O) → RunC kE (.loop k20l6) ⟨tm, σ⟩ Q := by
  intro k
  induction k with
  | zero => intros; exact none_eq ‹keys_reader_count_l6  0 _ _ = some out›
  | succ k ih =>
    intro x4 x5 v6 tm σ h e0 e4 s7 I
    rw [keys_reader_count_l6] at h
    refine c_loop ?_
    refine c_keep (keep_cons e0 (keep_cons e4 keep_nil)) ?_
    refine c_seq ?_
    refine c_seq ?_
    refine c_reg ?_
    refine sp (.blk r0 0) rfl rfl ?_
    obtain ⟨a8, g9, h⟩ := bind_some h
    refine st_call (keys_reader_more_ok k _ _ g9 s7 I) rfl ?_
    intro v10 σ12 q11
    obtain ⟨q14, I13⟩ := q11
    obtain rfl := q14
    refine sp (.bool a8) rfl rfl ?_
    rcases bool_tf a8 with b15 | b15
    · have h := ite_t h b15
      refine sg_run a8 rfl b15 ?_
      refine sp (.blk r0 0) rfl rfl ?_
      refine sg_run a8 rfl b15 ?_
      refine sp (.blk r0 0) rfl rfl ?_
      refine sg_run a8 rfl b15 ?_
      refine sp (.blk r0 0) rfl rfl ?_
      refine sg_run a8 rfl b15 ?_
      refine sp (v6) rfl (e_load I13 0 0 rfl rfl rfl) ?_
      refine sg_run a8 rfl b15 ?_
      refine sp (.blk r0 0) rfl rfl ?_
      refine sg_run a8 rfl b15 ?_
      refine sp (.blk r0 0) rfl rfl ?_
      refine sg_run a8 rfl b15 ?_
      refine sp (.blk r0 1) rfl rfl ?_
      refine sg_run a8 rfl b15 ?_
      refine sp (.int .i64 x5.at_) rfl (e_load I13 0 1 rfl rfl rfl) ?_
      refine sg_run a8 rfl b15 ?_
      obtain ⟨a16, g17, h⟩ := bind_some h
      refine st_idxa rfl s7 rfl (Nat.le_of_ble_eq_true rfl) g17 ?_
      intro c18 o19 d20 q21 z22 l23
      obtain rfl := q21
      clear z22
      refine sg_run a8 rfl b15 ?_
      refine sp (u8 a16) rfl (e_load_elem 0 rfl l23 rfl) ?_
      refine sg_run a8 rfl b15 ?_
      refine sp (.bool (decide (48 < (a16.toNat : Int)))) rfl rfl ?_
      refine sg_run a8 rfl b15 ?_
      refine sp (.bool (decide (48 < (a16.toNat : Int)))) rfl rfl ?_
      rcases bool_tf (decide (48 < (a16.toNat : Int))) with b24 | b24
      · have h := ite_t h b24
        refine sg_skip (decide (48 < (a16.toNat : Int))) rfl b24 ?_
        refine sg_skip (decide (48 < (a16.toNat : Int))) rfl b24 ?_
        refine sg_skip (decide (48 < (a16.toNat : Int))) rfl b24 ?_
        refine sg_undef rfl ?_
        refine sg_undef rfl ?_
        refine sg_undef rfl ?_
        refine sg_undef rfl ?_
        refine sg_undef rfl ?_
        refine sg_undef rfl ?_
        refine sg_undef rfl ?_
        refine sg_undef rfl ?_
        refine sg_undef rfl ?_
        refine sg_undef rfl ?_
        refine sg_undef rfl ?_
        refine sg_skip (decide (48 < (a16.toNat : Int))) rfl b24 ?_
        refine sg_run a8 rfl b15 ?_
        refine sp (.bool true) rfl (e_pick_t rfl b24 rfl) ?_
        refine sp (.bool true) rfl (e_pick_t rfl b15 rfl) ?_
        refine sp (.bool true) rfl rfl ?_
        refine sg_run true rfl rfl ?_
        refine sp (.blk r0 0) rfl rfl ?_
        refine sg_run true rfl rfl ?_
        refine sp (.blk r0 0) rfl rfl ?_
        refine sg_run true rfl rfl ?_
        refine sp (.blk r0 0) rfl rfl ?_
        refine sg_run true rfl rfl ?_
        refine sp (v6) rfl (e_load I13 0 0 rfl rfl rfl) ?_
        refine sg_run true rfl rfl ?_
        refine sp (.blk r0 0) rfl rfl ?_
        refine sg_run true rfl rfl ?_
        refine sp (.blk r0 0) rfl rfl ?_
        refine sg_run true rfl rfl ?_
        refine sp (.blk r0 1) rfl rfl ?_
        refine sg_run true rfl rfl ?_
        refine sp (.int .i64 x5.at_) rfl (e_load I13 0 1 rfl rfl rfl) ?_
        refine sg_run true rfl rfl ?_
        obtain ⟨a25, g26, h⟩ := bind_some h
        refine st_idxa rfl s7 rfl (Nat.le_of_ble_eq_true rfl) g26 ?_
        intro c27 o28 d29 q30 z31 l32
        obtain rfl := q30
        clear z31
        refine sg_run true rfl rfl ?_
        refine sp (u8 a25) rfl (e_load_elem 0 rfl l32 rfl) ?_
        refine sg_run true rfl rfl ?_
        refine sp (.bool (decide ((a25.toNat : Int) ≤ 57))) rfl rfl ?_
        refine sp (.bool (decide ((a25.toNat : Int) ≤ 57))) rfl (e_pick_t rfl rfl rfl) ?_
        refine sx ?_
        refine cn ?_
        refine c_keep (keep_cons rfl (keep_cons rfl (keep_cons rfl keep_nil))) ?_
        rcases bool_tf (decide ((a25.toNat : Int) ≤ 57)) with b33 | b33
        · have h := ite_t h b33
          refine c_cond_t (decide ((a25.toNat : Int) ≤ 57)) rfl b33 ?_
          refine c_skip ?_
          refine cn ?_
          exact keys_reader_count_j13_ok (keys_reader_count_l6  k) k  x4 x5 _ h rfl rfl  s7 I13 ih hL0 hL1
        · have h := ite_f h b33
          refine c_cond_f (decide ((a25.toNat : Int) ≤ 57)) rfl b33 ?_
          refine c_exit ?_
          refine cx ?_
          refine cx ?_
          exact hL1 x4 x5 _ _ _ rfl s7 I13 (some_eq h)
      · have h := ite_f h b24
        refine sg_run (decide (48 < (a16.toNat : Int))) rfl b24 ?_
        refine sp (.int .i64 x4) rfl rfl ?_
        refine sg_run (decide (48 < (a16.toNat : Int))) rfl b24 ?_
        refine sp (.bool (decide (0 < x4))) rfl rfl ?_
        refine sg_run (decide (48 < (a16.toNat : Int))) rfl b24 ?_
        refine sp (.bool (decide (0 < x4))) rfl rfl ?_
        rcases bool_tf (decide (0 < x4)) with b58 | b58
        · have h := ite_t h b58
          refine sg_run (decide (0 < x4)) rfl b58 ?_
          refine sp (.blk r0 0) rfl rfl ?_
          refine sg_run (decide (0 < x4)) rfl b58 ?_
          refine sp (.blk r0 0) rfl rfl ?_
          refine sg_run (decide (0 < x4)) rfl b58 ?_
          refine sp (.blk r0 0) rfl rfl ?_
          refine sg_run (decide (0 < x4)) rfl b58 ?_
          refine sp (v6) rfl (e_load I13 0 0 rfl rfl rfl) ?_
          refine sg_run (decide (0 < x4)) rfl b58 ?_
          refine sp (.blk r0 0) rfl rfl ?_
          refine sg_run (decide (0 < x4)) rfl b58 ?_
          refine sp (.blk r0 0) rfl rfl ?_
          refine sg_run (decide (0 < x4)) rfl b58 ?_
          refine sp (.blk r0 1) rfl rfl ?_
          refine sg_run (decide (0 < x4)) rfl b58 ?_
          refine sp (.int .i64 x5.at_) rfl (e_load I13 0 1 rfl rfl rfl) ?_
          refine sg_run (decide (0 < x4)) rfl b58 ?_
          obtain ⟨a59, g60, h⟩ := bind_some h
          refine st_idxa rfl s7 rfl (Nat.le_of_ble_eq_true rfl) g60 ?_
          intro c61 o62 d63 q64 z65 l66
          obtain rfl := q64
          clear z65
          refine sg_run (decide (0 < x4)) rfl b58 ?_
          refine sp (u8 a59) rfl (e_load_elem 0 rfl l66 rfl) ?_
          refine sg_run (decide (0 < x4)) rfl b58 ?_
          refine sp (.bool (decide ((a59.toNat : Int) = 48))) rfl rfl ?_
          refine sg_run (decide (48 < (a16.toNat : Int))) rfl b24 ?_
          refine sp (.bool (decide ((a59.toNat : Int) = 48))) rfl (e_pick_t rfl b58 rfl) ?_
          refine sg_run a8 rfl b15 ?_
          refine sp (.bool (decide ((a59.toNat : Int) = 48))) rfl (e_pick_f rfl b24 rfl) ?_
          refine sp (.bool (decide ((a59.toNat : Int) = 48))) rfl (e_pick_t rfl b15 rfl) ?_
          refine sp (.bool (decide ((a59.toNat : Int) = 48))) rfl rfl ?_
          rcases bool_tf (decide ((a59.toNat : Int) = 48)) with b67 | b67
          · have h := ite_t h b67
            refine sg_run (decide ((a59.toNat : Int) = 48)) rfl b67 ?_
            refine sp (.blk r0 0) rfl rfl ?_
            refine sg_run (decide ((a59.toNat : Int) = 48)) rfl b67 ?_
            refine sp (.blk r0 0) rfl rfl ?_
            refine sg_run (decide ((a59.toNat : Int) = 48)) rfl b67 ?_
            refine sp (.blk r0 0) rfl rfl ?_
            refine sg_run (decide ((a59.toNat : Int) = 48)) rfl b67 ?_
            refine sp (v6) rfl (e_load I13 0 0 rfl rfl rfl) ?_
            refine sg_run (decide ((a59.toNat : Int) = 48)) rfl b67 ?_
            refine sp (.blk r0 0) rfl rfl ?_
            refine sg_run (decide ((a59.toNat : Int) = 48)) rfl b67 ?_
            refine sp (.blk r0 0) rfl rfl ?_
            refine sg_run (decide ((a59.toNat : Int) = 48)) rfl b67 ?_
            refine sp (.blk r0 1) rfl rfl ?_
            refine sg_run (decide ((a59.toNat : Int) = 48)) rfl b67 ?_
            refine sp (.int .i64 x5.at_) rfl (e_load I13 0 1 rfl rfl rfl) ?_
            refine sg_run (decide ((a59.toNat : Int) = 48)) rfl b67 ?_
            obtain ⟨a68, g69, h⟩ := bind_some h
            refine st_idxa rfl s7 rfl (Nat.le_of_ble_eq_true rfl) g69 ?_
            intro c70 o71 d72 q73 z74 l75
            obtain rfl := q73
            clear z74
            refine sg_run (decide ((a59.toNat : Int) = 48)) rfl b67 ?_
            refine sp (u8 a68) rfl (e_load_elem 0 rfl l75 rfl) ?_
            refine sg_run (decide ((a59.toNat : Int) = 48)) rfl b67 ?_
            refine sp (.bool (decide ((a68.toNat : Int) ≤ 57))) rfl rfl ?_
            refine sp (.bool (decide ((a68.toNat : Int) ≤ 57))) rfl (e_pick_t rfl b67 rfl) ?_
            refine sx ?_
            refine cn ?_
            refine c_keep (keep_cons rfl (keep_cons rfl (keep_cons rfl keep_nil))) ?_
            rcases bool_tf (decide ((a68.toNat : Int) ≤ 57)) with b76 | b76
            · have h := ite_t h b76
              refine c_cond_t (decide ((a68.toNat : Int) ≤ 57)) rfl b76 ?_
              refine c_skip ?_
              refine cn ?_
              exact keys_reader_count_j13_ok (keys_reader_count_l6  k) k  x4 x5 _ h rfl rfl  s7 I13 ih hL0 hL1
            · have h := ite_f h b76
              refine c_cond_f (decide ((a68.toNat : Int) ≤ 57)) rfl b76 ?_
              refine c_exit ?_
              refine cx ?_
              refine cx ?_
              exact hL1 x4 x5 _ _ _ rfl s7 I13 (some_eq h)
          · have h := ite_f h b67
            refine sg_skip (decide ((a59.toNat : Int) = 48)) rfl b67 ?_
            refine sg_skip (decide ((a59.toNat : Int) = 48)) rfl b67 ?_
            refine sg_skip (decide ((a59.toNat : Int) = 48)) rfl b67 ?_
            refine sg_skip (decide ((a59.toNat : Int) = 48)) rfl b67 ?_
            refine sg_skip (decide ((a59.toNat : Int) = 48)) rfl b67 ?_
            refine sg_skip (decide ((a59.toNat : Int) = 48)) rfl b67 ?_
            refine sg_skip (decide ((a59.toNat : Int) = 48)) rfl b67 ?_
            refine sg_skip (decide ((a59.toNat : Int) = 48)) rfl b67 ?_
            refine sg_skip (decide ((a59.toNat : Int) = 48)) rfl b67 ?_
            refine sg_skip (decide ((a59.toNat : Int) = 48)) rfl b67 ?_
            refine sg_skip (decide ((a59.toNat : Int) = 48)) rfl b67 ?_
            refine sp (.bool false) rfl (e_pick_f rfl b67 rfl) ?_
            refine sx ?_
            refine cn ?_
            refine c_keep (keep_cons rfl (keep_cons rfl (keep_cons rfl keep_nil))) ?_
            refine c_cond_f false rfl rfl ?_
            refine c_exit ?_
            refine cx ?_
            refine cx ?_
            exact hL1 x4 x5 _ _ _ rfl s7 I13 (some_eq h)
        · have h := ite_f h b58
          refine sg_skip (decide (0 < x4)) rfl b58 ?_
          refine sg_skip (decide (0 < x4)) rfl b58 ?_
          refine sg_skip (decide (0 < x4)) rfl b58 ?_
          refine sg_skip (decide (0 < x4)) rfl b58 ?_
          refine sg_skip (decide (0 < x4)) rfl b58 ?_
          refine sg_skip (decide (0 < x4)) rfl b58 ?_
          refine sg_skip (decide (0 < x4)) rfl b58 ?_
          refine sg_skip (decide (0 < x4)) rfl b58 ?_
          refine sg_skip (decide (0 < x4)) rfl b58 ?_
          refine sg_skip (decide (0 < x4)) rfl b58 ?_
          refine sg_skip (decide (0 < x4)) rfl b58 ?_
          refine sg_run (decide (48 < (a16.toNat : Int))) rfl b24 ?_
          refine sp (.bool false) rfl (e_pick_f rfl b58 rfl) ?_
          refine sg_run a8 rfl b15 ?_
          refine sp (.bool false) rfl (e_pick_f rfl b24 rfl) ?_
          refine sp (.bool false) rfl (e_pick_t rfl b15 rfl) ?_
          refine sp (.bool false) rfl rfl ?_
          refine sg_skip false rfl rfl ?_
          refine sg_skip false rfl rfl ?_
          refine sg_skip false rfl rfl ?_
          refine sg_skip false rfl rfl ?_
          refine sg_skip false rfl rfl ?_
          refine sg_skip false rfl rfl ?_
          refine sg_skip false rfl rfl ?_
          refine sg_skip false rfl rfl ?_
          refine sg_skip false rfl rfl ?_
          refine sg_skip false rfl rfl ?_
          refine sg_skip false rfl rfl ?_
          refine sp (.bool false) rfl (e_pick_f rfl rfl rfl) ?_
          refine sx ?_
          refine cn ?_
          refine c_keep (keep_cons rfl (keep_cons rfl (keep_cons rfl keep_nil))) ?_
          refine c_cond_f false rfl rfl ?_
          refine c_exit ?_
          refine cx ?_
          refine cx ?_
          exact hL1 x4 x5 _ _ _ rfl s7 I13 (some_eq h)
    · have h := ite_f h b15
      refine sg_skip a8 rfl b15 ?_
      refine sg_skip a8 rfl b15 ?_
      refine sg_skip a8 rfl b15 ?_
      refine sg_skip a8 rfl b15 ?_
      refine sg_skip a8 rfl b15 ?_
      refine sg_skip a8 rfl b15 ?_
      refine sg_skip a8 rfl b15 ?_
      refine sg_skip a8 rfl b15 ?_
      refine sg_skip a8 rfl b15 ?_
      refine sg_skip a8 rfl b15 ?_
      refine sg_skip a8 rfl b15 ?_
      refine sg_skip a8 rfl b15 ?_
      refine sg_undef rfl ?_
      refine sg_undef rfl ?_
      refine sg_undef rfl ?_
      refine sg_undef rfl ?_
      refine sg_undef rfl ?_
      refine sg_undef rfl ?_
      refine sg_undef rfl ?_
      refine sg_undef rfl ?_
      refine sg_undef rfl ?_
      refine sg_undef rfl ?_
      refine sg_undef rfl ?_
      refine sg_undef rfl ?_
      refine sg_undef rfl ?_
      refine sg_undef rfl ?_
      refine sg_undef rfl ?_
      refine sg_skip a8 rfl b15 ?_
      refine sp (.bool false) rfl (e_pick_f rfl b15 rfl) ?_
      refine sp (.bool false) rfl rfl ?_
      refine sg_skip false rfl rfl ?_
      refine sg_skip false rfl rfl ?_
      refine sg_skip false rfl rfl ?_
      refine sg_skip false rfl rfl ?_
      refine sg_skip false rfl rfl ?_
      refine sg_skip false rfl rfl ?_
      refine sg_skip false rfl rfl ?_
      refine sg_skip false rfl rfl ?_
      refine sg_skip false rfl rfl ?_
      refine sg_skip false rfl rfl ?_
      refine sg_skip false rfl rfl ?_
      refine sp (.bool false) rfl (e_pick_f rfl rfl rfl) ?_
      refine sx ?_
      refine cn ?_
      refine c_keep (keep_cons rfl (keep_cons rfl (keep_cons rfl keep_nil))) ?_
      refine c_cond_f false rfl rfl ?_
      refine c_exit ?_
      refine cx ?_
      refine cx ?_
      exact hL1 x4 x5 _ _ _ rfl s7 I13 (some_eq h)
theorem keys_reader_count_ok (k : Nat) (x1 : S_keys_reader) (r : (Int × Bool × S_keys_reader)) {v2 : AV} {r0 : Nat} {σ : St} {B : List (Nat × Blk)} {O : List AV}
    (h : keys_reader_count k x1 = some r)
    (s3 : SL RU8 1 x1.p v2)
    (I : Inv σ ((r0, .cells [v2, .int .i64 x1.at_]) :: B) (O)) :
    RunF kE 20 [.blk r0 0] σ (fun v σ' => ∃ w0 w1 q0v0, v = .tuple [w0, w1] ∧ w0 = .int .i64 r.1 ∧ w1 = .bool r.2.1 ∧ SL RU8 1 r.2.2.p q0v0 ∧ Inv σ' ((r0, .cells [q0v0, .int .i64 r.2.2.at_]) :: B) (O)) := by
  refine f_plain rfl rfl rfl rfl ?_
  unfold keys_reader_count at h
  refine c_seq ?_
  refine c_reg ?_
  refine sp (.int .i64 0) rfl rfl ?_
  refine sp (.bool false) rfl rfl ?_
  refine sx ?_
  refine cn ?_
  refine c_keep (keep_cons rfl keep_nil) ?_
  refine c_seq ?_
  refine c_reg ?_
  refine sp (.int .i64 0) rfl rfl ?_
  refine sx ?_
  refine cn ?_
  refine c_keep (keep_cons rfl (keep_cons rfl keep_nil)) ?_
  refine c_seq ?_
  refine c_block ?_
  obtain ⟨a77, g78, h⟩ := bind_some h
  refine keys_reader_count_l6_ok   ?_ ?_ k 0 x1 _ _ _ g78 rfl rfl s3 I
  · intro x47 x48 x49 v50 tm79 σ80 e83 e84 s51 I81 ho82
    subst ho82
    refine br ?_
    refine cr ?_
    obtain rfl := some_eq h
    exact rr (vs := [.int .i64 x47, .bool x48]) (res_c (resp_t e83) (res_c (resp_t e84) res_nil)) ⟨_, _, _, rfl, rfl, rfl, s51, I81⟩
  · intro x54 x55 v56 tm85 σ86 e89 s57 I87 ho88
    subst ho88
    refine bx ?_
    refine cn ?_
    refine c_keep (keep_cons e89 keep_nil) ?_
    refine c_seq ?_
    refine c_reg ?_
    refine sp (.int .i64 x54) rfl rfl ?_
    refine sp (.int .i64 x54) rfl rfl ?_
    refine sp (.bool true) rfl rfl ?_
    refine sx ?_
    refine cn ?_
    refine c_ret ?_
    obtain rfl := some_eq h
    exact rr (vs := [.int .i64 x54, .bool true]) (res_c (resp_t rfl) (res_c (resp_t rfl) res_nil)) ⟨_, _, _, rfl, rfl, rfl, s57, I87⟩
/- internal.stringslite.IndexByte -/
def stringslite_IndexByte (k : Nat) (x1 : List UInt8) (x2 : UInt8) : Option Int :=
  some (Lib.indexByte x1 x2)
theorem stringslite_IndexByte_ok (k : Nat) (x1 : List UInt8) (x2 : UInt8) (r : Int)   {σ : St}
    (h : stringslite_IndexByte k x1 x2 = some r) :
    RunF kE 35 [.str x1, u8 x2] σ (fun v σ' => σ' = σ ∧ v = .int .i64 r) := by
  refine f_closed rfl rfl rfl (cl_cons rfl (cl_cons rfl cl_nil)) rfl ?_
  have I0 : Inv .zero [] [] := Inv.zero
  unfold stringslite_IndexByte at h
  refine c_seq ?_
  refine c_reg ?_
  refine sp (.int .i64 0) rfl rfl ?_
  refine sx ?_
  refine cn ?_
  refine c_keep (keep_cons rfl (keep_cons rfl keep_nil)) ?_
  refine c_seq ?_
  refine c_reg ?_
  refine sp (.str x1) rfl rfl ?_
  refine sp (u8 x2) rfl rfl ?_
  refine st_callc (P := fun v => v = .int .i64 (Lib.indexByte x1 x2)) (f_prim rfl (idxStr_u8 x1 x2) rfl) rfl ?_
  intro v3 q4
  obtain rfl := q4
  refine sp (.int .i64 (Lib.indexByte x1 x2)) rfl rfl ?_
  refine sx ?_
  refine cn ?_
  refine c_ret ?_
  obtain rfl := some_eq h
  exact rr (vs := [.int .i64 (Lib.indexByte x1 x2)]) (res_c (resp_t rfl) res_nil) ⟨_, rfl, rfl⟩
/- strings.IndexByte -/
def strings_IndexByte (k : Nat) (x1 : List UInt8) (x2 : UInt8) : Option Int :=
  (stringslite_IndexByte k x1 x2).bind fun a3 => some a3
theorem strings_IndexByte_ok (k : Nat) (x1 : List UInt8) (x2 : UInt8) (r : Int)   {σ : St}
    (h : strings_IndexByte k x1 x2 = some r) :
    RunF kE 28 [.str x1, u8 x2] σ (fun v σ' => σ' = σ ∧ v = .int .i64 r) := by
  refine f_closed rfl rfl rfl (cl_cons rfl (cl_cons rfl cl_nil)) rfl ?_
  have I0 : Inv .zero [] [] := Inv.zero
  unfold strings_IndexByte at h
  refine c_seq ?_
  refine c_reg ?_
  refine sp (.int .i64 0) rfl rfl ?_
  refine sx ?_
  refine cn ?_
  refine c_keep (keep_cons rfl (keep_cons rfl keep_nil)) ?_
  refine c_seq ?_
  refine c_reg ?_
  refine sp (.str x1) rfl rfl ?_
  refine sp (u8 x2) rfl rfl ?_
  obtain ⟨a3, g4, h⟩ := bind_some h
  refine st_callc (stringslite_IndexByte_ok k _ _ _ g4 ) rfl ?_
  intro v5 q6
  obtain rfl := q6
  refine sp (.int .i64 a3) rfl rfl ?_
  refine sx ?_
  refine cn ?_
  refine c_ret ?_
  obtain rfl := some_eq h
  exact rr (vs := [.int .i64 a3]) (res_c (resp_t rfl) res_nil) ⟨_, rfl, rfl⟩
/- (*platen.keys.reader).motion -/
def keys_reader_motion_j20 (k : Nat) (x4 : UInt8) (x5 : Int) (x34 : UInt8) (x35 : Bool) (x36 : S_api_Motion) (x37 : S_keys_reader) : Option ((S_api_Motion × Int × S_keys_reader)) :=
  if x35 then (some ((⟨(0 : UInt8), (0 : UInt8), 0⟩ : S_api_Motion), 2, x37)) else (some ((⟨x4, x34, x5⟩ : S_api_Motion), 0, x37))
def keys_reader_motion_j6 (k : Nat) (x4 : UInt8) (x5 : Int) (x11 : Bool) (x12 : S_keys_reader) (x15 : S_api_Motion) : Option ((S_api_Motion × Int × S_keys_reader)) :=
  if x11 then ((keys_reader_next k x12).bind fun a17 => if !a17.2.1 then (some ((⟨(0 : UInt8), (0 : UInt8), 0⟩ : S_api_Motion), 1, a17.2.2)) else (if decide ((a17.1.toNat : Int) < 32) then (keys_reader_motion_j20 k x4 x5 a17.1 true x15 a17.2.2) else (if decide ((x4.toNat : Int) = 96) then ((keys_letter k a17.1).bind fun a49 => keys_reader_motion_j20 k x4 x5 a17.1 (!a49) x15 a17.2.2) else (keys_reader_motion_j20 k x4 x5 a17.1 false x15 a17.2.2)))) else (if decide ((x4.toNat : Int) = 103) then ((keys_reader_next k x12).bind fun a56 => if !a56.2.1 then (some ((⟨(0 : UInt8), (0 : UInt8), 0⟩ : S_api_Motion), 1, a56.2.2)) else (if !decide ((a56.1.toNat : Int) = 103) then (some ((⟨(0 : UInt8), (0 : UInt8), 0⟩ : S_api_Motion), 2, a56.2.2)) else (some ((⟨(103 : UInt8), (0 : UInt8), x5⟩ : S_api_Motion), 0, a56.2.2)))) else ((strings_IndexByte k ([104, 108, 106, 107, 48, 94, 36, 119, 98, 101, 71, 123, 125] : List UInt8) x4).bind fun a79 => if decide (0 ≤ a79) then (some ((⟨x4, (0 : UInt8), x5⟩ : S_api_Motion), 0, x12)) else (some ((⟨(0 : UInt8), (0 : UInt8), 0⟩ : S_api_Motion), 2, x12))))
def keys_reader_motion (k : Nat) (x1 : S_keys_reader) (x4 : UInt8) (x5 : Int) : Option ((S_api_Motion × Int × S_keys_reader)) :=
  if decide ((x4.toNat : Int) = 102) then (keys_reader_motion_j6 k x4 x5 true x1 (⟨(0 : UInt8), (0 : UInt8), 0⟩ : S_api_Motion)) else (if decide ((x4.toNat : Int) = 116) then (keys_reader_motion_j6 k x4 x5 true x1 (⟨(0 : UInt8), (0 : UInt8), 0⟩ : S_api_Motion)) else (keys_reader_motion_j6 k x4 x5 (decide ((x4.toNat : Int) = 96)) x1 (⟨(0 : UInt8), (0 : UInt8), 0⟩ : S_api_Motion)))
theorem keys_reader_motion_j20_ok (k : Nat) (x4 : UInt8) (x5 : Int) (x34 : UInt8) (x35 : Bool) (x36 : S_api_Motion) (x37 : S_keys_reader) {r : (S_api_Motion × Int × S_keys_reader)} {v38 : AV} {r0 : Nat} {r6 : Nat} {tm : List (Nat × AV)} {σ : St} {B : List (Nat × Blk)} {O : List AV}
    (h : keys_reader_motion_j20 k x4 x5 x34 x35 x36 x37 = some r)
    (e1 : lk tm 1 = some (u8 x4))
    (e2 : lk tm 2 = some (.int .i64 x5))
    (e6 : lk tm 6 = some (.blk r6 0))
    (e8 : lk tm 8 = some (u8 x34))
    (e41 : lk tm 41 = some (.bool x35))
    (s39 : SL RU8 1 x37.p v38)
    (I : Inv σ ((r6, .cells [u8 x36.Key, u8 x36.Sign, .int .i64 x36.N]) :: (r0, .cells [v38, .int .i64 x37.at_]) :: B) (O)) :
    RunC kE k30c20 ⟨tm, σ⟩ (Cont kE k30c25 (BlkQ 0 (Cont kE k30c59 (ResP (E := kE) k30.res (fun v σ' => ∃ w0 w1 q0v0, v = .tuple [w0, w1] ∧ VAgg S_api_Motion.R r.1 w0 ∧ w1 = .int .i64 r.2.1 ∧ SL RU8 1 r.2.2.p q0v0 ∧ Inv σ' ((r0, .cells [q0v0, .int .i64 r.2.2.at_]) :: B) (O)))))) := by
  unfold keys_reader_motion_j20 at h
  refine c_keep (keep_cons e1 (keep_cons e2 (keep_cons e6 (keep_cons e8 (keep_cons e41 keep_nil))))) ?_
  rcases bool_tf x35 with b40 | b40
  · have h := ite_t h b40
    refine c_cond_t x35 rfl b40 ?_
    refine c_seq ?_
    refine c_reg ?_
    refine sp (.agg [u8 (0 : UInt8), u8 (0 : UInt8), .int .i64 0]) rfl rfl ?_
    refine st_store I 0 0 (cs' := [u8 (0 : UInt8), u8 (0 : UInt8), .int .i64 0]) (bs' := (r6, .cells [u8 (0 : UInt8), u8 (0 : UInt8), .int .i64 0]) :: (r0, .cells [v38, .int .i64 x37.at_]) :: B) rfl rfl rfl rfl rfl (Nat.le_of_ble_eq_true rfl) rfl rfl ?_
    intro σ42 I41
    refine sp (.int .i64 2) rfl rfl ?_
    refine sx ?_
    refine cn ?_
    refine c_ret ?_
    refine cr ?_
    refine br ?_
    refine cr ?_
    have I43 : Inv _ ((r0, .cells [v38, .int .i64 x37.at_]) :: B) (O) := (I41.front 0 rfl).drop
    obtain rfl := some_eq h
    exact rr (vs := [.agg [u8 (0 : UInt8), u8 (0 : UInt8), .int .i64 0], .int .i64 2]) (res_c (resp_cells I41 0 rfl rfl rfl) (res_c (resp_t rfl) res_nil)) ⟨_, _, _, rfl, ⟨_, rfl, rfl⟩, rfl, s39, I43⟩
  · have h := ite_f h b40
    refine c_cond_f x35 rfl b40 ?_
    refine c_skip ?_
    refine cn ?_
    refine c_keep (keep_cons rfl (keep_cons rfl (keep_cons rfl (keep_cons rfl keep_nil)))) ?_
    refine c_seq ?_
    refine c_reg ?_
    refine sp (u8 x4) rfl rfl ?_
    refine sp (u8 x34) rfl rfl ?_
    refine sp (.int .i64 x5) rfl rfl ?_
    refine sp (.agg [u8 x4, u8 x34, .int .i64 x5]) rfl rfl ?_
    refine st_store I 0 0 (cs' := [u8 x4, u8 x34, .int .i64 x5]) (bs' := (r6, .cells [u8 x4, u8 x34, .int .i64 x5]) :: (r0, .cells [v38, .int .i64 x37.at_]) :: B) rfl rfl rfl rfl rfl (Nat.le_of_ble_eq_true rfl) rfl rfl ?_
    intro σ45 I44
    refine sp (.int .i64 0) rfl rfl ?_
    refine sx ?_
    refine cn ?_
    refine c_ret ?_
    refine br ?_
    refine cr ?_
    have I46 : Inv _ ((r0, .cells [v38, .int .i64 x37.at_]) :: B) (O) := (I44.front 0 rfl).drop
    obtain rfl := some_eq h
    exact rr (vs := [.agg [u8 x4, u8 x34, .int .i64 x5], .int .i64 0]) (res_c (resp_cells I44 0 rfl rfl rfl) (res_c (resp_t rfl) res_nil)) ⟨_, _, _, rfl, ⟨_, rfl, rfl⟩, rfl, s39, I46⟩
theorem keys_reader_motion_j6_ok (k : Nat) (x4 : UInt8) (x5 : Int) (x11 : Bool) (x12 : S_keys_reader) (x15 : S_api_Motion) {r : (S_api_Motion × Int × S_keys_reader)} {v13 : AV} {r0 : Nat} {r6 : Nat} {tm : List (Nat × AV)} {σ : St} {B : List (Nat × Blk)} {O : List AV}
    (h : keys_reader_motion_j6 k x4 x5 x11 x12 x15 = some r)
    (e0 : lk tm 0 = some (.blk r0 0))
    (e1 : lk tm 1 = some (u8 x4))
    (e2 : lk tm 2 = some (.int .i64 x5))
    (e6 : lk tm 6 = some (.blk r6 0))
    (e12 : lk tm 12 = some (.bool x11))
    (s14 : SL RU8 1 x12.p v13)
    (I : Inv σ ((r0, .cells [v13, .int .i64 x12.at_]) :: (r6, .cells [u8 x15.Key, u8 x15.Sign, .int .i64 x15.N]) :: B) (O)) :
    RunC kE k30c6 ⟨tm, σ⟩ (BlkQ 0 (Cont kE k30c59 (ResP (E := kE) k30.res (fun v σ' => ∃ w0 w1 q0v0, v = .tuple [w0, w1] ∧ VAgg S_api_Motion.R r.1 w0 ∧ w1 = .int .i64 r.2.1 ∧ SL RU8 1 r.2.2.p q0v0 ∧ Inv σ' ((r0, .cells [q0v0, .int .i64 r.2.2.at_]) :: B) (O))))) := by
  unfold keys_reader_motion_j6 at h
  refine c_keep (keep_cons e0 (keep_cons e1 (keep_cons e2 (keep_cons e6 (keep_cons e12 keep_nil))))) ?_
  rcases bool_tf x11 with b16 | b16
  · have h := ite_t h b16
    refine c_cond_t x11 rfl b16 ?_
    refine c_seq ?_
    refine c_reg ?_
    refine sp (.blk r0 0) rfl rfl ?_
    obtain ⟨a17, g18, h⟩ := bind_some h
    refine st_call (keys_reader_next_ok k _ _ g18 s14 I) rfl ?_
    intro v19 σ21 q20
    obtain ⟨v23, v25, v27, rfl, q24, q26, s28, I22⟩ := q20
    obtain rfl := q24
    obtain rfl := q26
    refine sp (.tuple [u8 a17.1, .bool a17.2.1]) rfl rfl ?_
    refine sp (u8 a17.1) rfl rfl ?_
    refine sp (.bool a17.2.1) rfl rfl ?_
    refine sp (u8 a17.1) rfl rfl ?_
    refine sp (.bool a17.2.1) rfl rfl ?_
    refine sx ?_
    refine cn ?_
    refine c_keep (keep_cons rfl (keep_cons rfl (keep_cons rfl (keep_cons rfl (keep_cons rfl keep_nil))))) ?_
    refine c_seq ?_
    refine c_seq ?_
    refine c_reg ?_
    refine sp (.bool a17.2.1) rfl rfl ?_
    refine sp (.bool (!a17.2.1)) rfl rfl ?_
    refine sx ?_
    refine cn ?_
    refine c_keep (keep_cons rfl (keep_cons rfl (keep_cons rfl (keep_cons rfl (keep_cons rfl keep_nil))))) ?_
    rcases bool_tf (!a17.2.1) with b29 | b29
    · have h := ite_t h b29
      refine c_cond_t (!a17.2.1) rfl b29 ?_
      refine c_seq ?_
      refine c_reg ?_
      refine sp (.agg [u8 (0 : UInt8), u8 (0 : UInt8), .int .i64 0]) rfl rfl ?_
      refine st_store I22 1 0 (cs' := [u8 (0 : UInt8), u8 (0 : UInt8), .int .i64 0]) (bs' := (r0, .cells [v27, .int .i64 a17.2.2.at_]) :: (r6, .cells [u8 (0 : UInt8), u8 (0 : UInt8), .int .i64 0]) :: B) rfl rfl rfl rfl rfl (Nat.le_of_ble_eq_true rfl) rfl rfl ?_
      intro σ31 I30
      refine sp (.int .i64 1) rfl rfl ?_
      refine sx ?_
      refine cn ?_
      refine c_ret ?_
      refine cr ?_
      refine br ?_
      refine cr ?_
      have I32 : Inv _ ((r0, .cells [v27, .int .i64 a17.2.2.at_]) :: B) (O) := (I30.front 1 rfl).drop
      obtain rfl := some_eq h
      exact rr (vs := [.agg [u8 (0 : UInt8), u8 (0 : UInt8), .int .i64 0], .int .i64 1]) (res_c (resp_cells I30 1 rfl rfl rfl) (res_c (resp_t rfl) res_nil)) ⟨_, _, _, rfl, ⟨_, rfl, rfl⟩, rfl, s28, I32⟩
    · have h := ite_f h b29
      refine c_cond_f (!a17.2.1) rfl b29 ?_
      refine c_skip ?_
      refine cn ?_
      refine c_keep (keep_cons rfl (keep_cons rfl (keep_cons rfl (keep_cons rfl keep_nil)))) ?_
      refine c_seq ?_
      refine c_seq ?_
      refine c_reg ?_
      refine sp (u8 a17.1) rfl rfl ?_
      refine sp (.bool (decide ((a17.1.toNat : Int) < 32))) rfl rfl ?_
      refine sp (.bool (decide ((a17.1.toNat : Int) < 32))) rfl rfl ?_
      rcases bool_tf (decide ((a17.1.toNat : Int) < 32)) with b33 | b33
      · have h := ite_t h b33
        refine sg_skip (decide ((a17.1.toNat : Int) < 32)) rfl b33 ?_
        refine sg_skip (decide ((a17.1.toNat : Int) < 32)) rfl b33 ?_
        refine sg_skip (decide ((a17.1.toNat : Int) < 32)) rfl b33 ?_
        refine sg_undef rfl ?_
        refine sg_undef rfl ?_
        refine sg_undef rfl ?_
        refine sg_skip (decide ((a17.1.toNat : Int) < 32)) rfl b33 ?_
        refine sp (.bool true) rfl (e_pick_t rfl b33 rfl) ?_
        refine sx ?_
        refine cn ?_
        have I47 : Inv _ ((r6, .cells [u8 x15.Key, u8 x15.Sign, .int .i64 x15.N]) :: (r0, .cells [v27, .int .i64 a17.2.2.at_]) :: B) (O) := I22.front 1 rfl
        exact keys_reader_motion_j20_ok k x4 x5 a17.1 true x15 a17.2.2 h rfl rfl rfl rfl rfl  s28 I47
      · have h := ite_f h b33
        refine sg_run (decide ((a17.1.toNat : Int) < 32)) rfl b33 ?_
        refine sp (u8 x4) rfl rfl ?_
        refine sg_run (decide ((a17.1.toNat : Int) < 32)) rfl b33 ?_
        refine sp (.bool (decide ((x4.toNat : Int) = 96))) rfl rfl ?_
        refine sg_run (decide ((a17.1.toNat : Int) < 32)) rfl b33 ?_
        refine sp (.bool (decide ((x4.toNat : Int) = 96))) rfl rfl ?_
        rcases bool_tf (decide ((x4.toNat : Int) = 96)) with b48 | b48
        · have h := ite_t h b48
          refine sg_run (decide ((x4.toNat : Int) = 96)) rfl b48 ?_
          refine sp (u8 a17.1) rfl rfl ?_
          refine sg_run (decide ((x4.toNat : Int) = 96)) rfl b48 ?_
          obtain ⟨a49, g50, h⟩ := bind_some h
          refine st_callc (keys_letter_ok k _ _ g50 ) rfl ?_
          intro v51 q52
          obtain rfl := q52
          refine sg_run (decide ((x4.toNat : Int) = 96)) rfl b48 ?_
          refine sp (.bool (!a49)) rfl rfl ?_
          refine sg_run (decide ((a17.1.toNat : Int) < 32)) rfl b33 ?_
          refine sp (.bool (!a49)) rfl (e_pick_t rfl b48 rfl) ?_
          refine sp (.bool (!a49)) rfl (e_pick_f rfl b33 rfl) ?_
          refine sx ?_
          refine cn ?_
          have I53 : Inv _ ((r6, .cells [u8 x15.Key, u8 x15.Sign, .int .i64 x15.N]) :: (r0, .cells [v27, .int .i64 a17.2.2.at_]) :: B) (O) := I22.front 1 rfl
          exact keys_reader_motion_j20_ok k x4 x5 a17.1 (!a49) x15 a17.2.2 h rfl rfl rfl rfl rfl  s28 I53
        · have h := ite_f h b48
          refine sg_skip (decide ((x4.toNat : Int) = 96)) rfl b48 ?_
          refine sg_skip (decide ((x4.toNat : Int) = 96)) rfl b48 ?_
          refine sg_skip (decide ((x4.toNat : Int) = 96)) rfl b48 ?_
          refine sg_run (decide ((a17.1.toNat : Int) < 32)) rfl b33 ?_
          refine sp (.bool false) rfl (e_pick_f rfl b48 rfl) ?_
          refine sp (.bool false) rfl (e_pick_f rfl b33 rfl) ?_
          refine sx ?_
          refine cn ?_
          have I54 : Inv _ ((r6, .cells [u8 x15.Key, u8 x15.Sign, .int .i64 x15.N]) :: (r0, .cells [v27, .int .i64 a17.2.2.at_]) :: B) (O) := I22.front 1 rfl
          exact keys_reader_motion_j20_ok k x4 x5 a17.1 false x15 a17.2.2 h rfl rfl rfl rfl rfl  s28 I54
  · have h := ite_f h b16
    refine c_cond_f x11 rfl b16 ?_
    refine c_seq ?_
    refine c_reg ?_
    refine sp (u8 x4) rfl rfl ?_
    refine sp (.bool (decide ((x4.toNat : Int) = 103))) rfl rfl ?_
    refine sp (.bool (decide ((x4.toNat : Int) = 103))) rfl rfl ?_
    refine sx ?_
    refine cn ?_
    refine c_keep (keep_cons rfl (keep_cons rfl (keep_cons rfl (keep_cons rfl (keep_cons rfl keep_nil))))) ?_
    rcases bool_tf (decide ((x4.toNat : Int) = 103)) with b55 | b55
    · have h := ite_t h b55
      refine c_cond_t (decide ((x4.toNat : Int) = 103)) rfl b55 ?_
      refine c_seq ?_
      refine c_reg ?_
      refine sp (.blk r0 0) rfl rfl ?_
      obtain ⟨a56, g57, h⟩ := bind_some h
      refine st_call (keys_reader_next_ok k _ _ g57 s14 I) rfl ?_
      intro v58 σ60 q59
      obtain ⟨v62, v64, v66, rfl, q63, q65, s67, I61⟩ := q59
      obtain rfl := q63
      obtain rfl := q65
      refine sp (.tuple [u8 a56.1, .bool a56.2.1]) rfl rfl ?_
      refine sp (u8 a56.1) rfl rfl ?_
      refine sp (.bool a56.2.1) rfl rfl ?_
      refine sp (u8 a56.1) rfl rfl ?_
      refine sp (.bool a56.2.1) rfl rfl ?_
      refine sx ?_
      refine cn ?_
      refine c_keep (keep_cons rfl (keep_cons rfl (keep_cons rfl (keep_cons rfl keep_nil)))) ?_
      refine c_seq ?_
      refine c_seq ?_
      refine c_reg ?_
      refine sp (.bool a56.2.1) rfl rfl ?_
      refine sp (.bool (!a56.2.1)) rfl rfl ?_
      refine sx ?_
      refine cn ?_
      refine c_keep (keep_cons rfl (keep_cons rfl (keep_cons rfl (keep_cons rfl keep_nil)))) ?_
      rcases bool_tf (!a56.2.1) with b68 | b68
      · have h := ite_t h b68
        refine c_cond_t (!a56.2.1) rfl b68 ?_
        refine c_seq ?_
        refine c_reg ?_
        refine sp (.agg [u8 (0 : UInt8), u8 (0 : UInt8), .int .i64 0]) rfl rfl ?_
        refine st_store I61 1 0 (cs' := [u8 (0 : UInt8), u8 (0 : UInt8), .int .i64 0]) (bs' := (r0, .cells [v66, .int .i64 a56.2.2.at_]) :: (r6, .cells [u8 (0 : UInt8), u8 (0 : UInt8), .int .i64 0]) :: B) rfl rfl rfl rfl rfl (Nat.le_of_ble_eq_true rfl) rfl rfl ?_
        intro σ70 I69
        refine sp (.int .i64 1) rfl rfl ?_
        refine sx ?_
        refine cn ?_
        refine c_ret ?_
        refine cr ?_
        refine br ?_
        refine cr ?_
        have I71 : Inv _ ((r0, .cells [v66, .int .i64 a56.2.2.at_]) :: B) (O) := (I69.front 1 rfl).drop
        obtain rfl := some_eq h
        exact rr (vs := [.agg [u8 (0 : UInt8), u8 (0 : UInt8), .int .i64 0], .int .i64 1]) (res_c (resp_cells I69 1 rfl rfl rfl) (res_c (resp_t rfl) res_nil)) ⟨_, _, _, rfl, ⟨_, rfl, rfl⟩, rfl, s67, I71⟩
      · have h := ite_f h b68
        refine c_cond_f (!a56.2.1) rfl b68 ?_
        refine c_skip ?_
        refine cn ?_
        refine c_keep (keep_cons rfl (keep_cons rfl (keep_cons rfl keep_nil))) ?_
        refine c_seq ?_
        refine c_seq ?_
        refine c_reg ?_
        refine sp (u8 a56.1) rfl rfl ?_
        refine sp (.bool (!decide ((a56.1.toNat : Int) = 103))) rfl rfl ?_
        refine sx ?_
        refine cn ?_
        refine c_keep (keep_cons rfl (keep_cons rfl (keep_cons rfl keep_nil))) ?_
        rcases bool_tf (!decide ((a56.1.toNat : Int) = 103)) with b72 | b72
        · have h := ite_t h b72
          refine c_cond_t (!decide ((a56.1.toNat : Int) = 103)) rfl b72 ?_
          refine c_seq ?_
          refine c_reg ?_
          refine sp (.agg [u8 (0 : UInt8), u8 (0 : UInt8), .int .i64 0]) rfl rfl ?_
          refine st_store I61 1 0 (cs' := [u8 (0 : UInt8), u8 (0 : UInt8), .int .i64 0]) (bs' := (r0, .cells [v66, .int .i64 a56.2.2.at_]) :: (r6, .cells [u8 (0 : UInt8), u8 (0 : UInt8), .int .i64 0]) :: B) rfl rfl rfl rfl rfl (Nat.le_of_ble_eq_true rfl) rfl rfl ?_
          intro σ74 I73
          refine sp (.int .i64 2) rfl rfl ?_
          refine sx ?_
          refine cn ?_
          refine c_ret ?_
          refine cr ?_
          refine br ?_
          refine cr ?_
          have I75 : Inv _ ((r0, .cells [v66, .int .i64 a56.2.2.at_]) :: B) (O) := (I73.front 1 rfl).drop
          obtain rfl := some_eq h
          exact rr (vs := [.agg [u8 (0 : UInt8), u8 (0 : UInt8), .int .i64 0], .int .i64 2]) (res_c (resp_cells I73 1 rfl rfl rfl) (res_c (resp_t rfl) res_nil)) ⟨_, _, _, rfl, ⟨_, rfl, rfl⟩, rfl, s67, I75⟩
        · have h := ite_f h b72
          refine c_cond_f (!decide ((a56.1.toNat : Int) = 103)) rfl b72 ?_
          refine c_skip ?_
          refine cn ?_
          refine c_keep (keep_cons rfl (keep_cons rfl keep_nil)) ?_
          refine c_seq ?_
          refine c_reg ?_
          refine sp (.int .i64 x5) rfl rfl ?_
          refine sp (.agg [u8 (103 : UInt8), u8 (0 : UInt8), .int .i64 x5]) rfl rfl ?_
          refine st_store I61 1 0 (cs' := [u8 (103 : UInt8), u8 (0 : UInt8), .int .i64 x5]) (bs' := (r0, .cells [v66, .int .i64 a56.2.2.at_]) :: (r6, .cells [u8 (103 : UInt8), u8 (0 : UInt8), .int .i64 x5]) :: B) rfl rfl rfl rfl rfl (Nat.le_of_ble_eq_true rfl) rfl rfl ?_
          intro σ77 I76
          refine sp (.int .i64 0) rfl rfl ?_
          refine sx ?_
          refine cn ?_
          refine c_ret ?_
          refine br ?_
          refine cr ?_
          have I78 : Inv _ ((r0, .cells [v66, .int .i64 a56.2.2.at_]) :: B) (O) := (I76.front 1 rfl).drop
          obtain rfl := some_eq h
          exact rr (vs := [.agg [u8 (103 : UInt8), u8 (0 : UInt8), .int .i64 x5], .int .i64 0]) (res_c (resp_cells I76 1 rfl rfl rfl) (res_c (resp_t rfl) res_nil)) ⟨_, _, _, rfl, ⟨_, rfl, rfl⟩, rfl, s67, I78⟩
    · have h := ite_f h b55
      refine c_cond_f (decide ((x4.toNat : Int) = 103)) rfl b55 ?_
      refine c_seq ?_
      refine c_reg ?_
      refine sp (u8 x4) rfl rfl ?_
      obtain ⟨a79, g80, h⟩ := bind_some h
      refine st_callc (strings_IndexByte_ok k _ _ _ g80 ) rfl ?_
      intro v81 q82
      obtain rfl := q82
      refine sp (.bool (decide (0 ≤ a79))) rfl rfl ?_
      refine sp (.bool (decide (0 ≤ a79))) rfl rfl ?_
      refine sx ?_
      refine cn ?_
      refine c_keep (keep_cons rfl (keep_cons rfl (keep_cons rfl (keep_cons rfl keep_nil)))) ?_
      rcases bool_tf (decide (0 ≤ a79)) with b83 | b83
      · have h := ite_t h b83
        refine c_cond_t (decide (0 ≤ a79)) rfl b83 ?_
        refine c_seq ?_
        refine c_reg ?_
        refine sp (u8 x4) rfl rfl ?_
        refine sp (.int .i64 x5) rfl rfl ?_
        refine sp (.agg [u8 x4, u8 (0 : UInt8), .int .i64 x5]) rfl rfl ?_
        refine st_store I 1 0 (cs' := [u8 x4, u8 (0 : UInt8), .int .i64 x5]) (bs' := (r0, .cells [v13, .int .i64 x12.at_]) :: (r6, .cells [u8 x4, u8 (0 : UInt8), .int .i64 x5]) :: B) rfl rfl rfl rfl rfl (Nat.le_of_ble_eq_true rfl) rfl rfl ?_
        intro σ85 I84
        refine sp (.int .i64 0) rfl rfl ?_
        refine sx ?_
        refine cn ?_
        refine c_ret ?_
        refine br ?_
        refine cr ?_
        have I86 : Inv _ ((r0, .cells [v13, .int .i64 x12.at_]) :: B) (O) := (I84.front 1 rfl).drop
        obtain rfl := some_eq h
        exact rr (vs := [.agg [u8 x4, u8 (0 : UInt8), .int .i64 x5], .int .i64 0]) (res_c (resp_cells I84 1 rfl rfl rfl) (res_c (resp_t rfl) res_nil)) ⟨_, _, _, rfl, ⟨_, rfl, rfl⟩, rfl, s14, I86⟩
      · have h := ite_f h b83
        refine c_cond_f (decide (0 ≤ a79)) rfl b83 ?_
        refine c_skip ?_
        refine bn ?_
        refine cn ?_
        refine c_keep (keep_cons rfl keep_nil) ?_
        refine c_seq ?_
        refine c_reg ?_
        refine sp (.agg [u8 (0 : UInt8), u8 (0 : UInt8), .int .i64 0]) rfl rfl ?_
        refine st_store I 1 0 (cs' := [u8 (0 : UInt8), u8 (0 : UInt8), .int .i64 0]) (bs' := (r0, .cells [v13, .int .i64 x12.at_]) :: (r6, .cells [u8 (0 : UInt8), u8 (0 : UInt8), .int .i64 0]) :: B) rfl rfl rfl rfl rfl (Nat.le_of_ble_eq_true rfl) rfl rfl ?_
        intro σ88 I87
        refine sp (.int .i64 2) rfl rfl ?_
        refine sx ?_
        refine cn ?_
        refine c_ret ?_
        have I89 : Inv _ ((r0, .cells [v13, .int .i64 x12.at_]) :: B) (O) := (I87.front 1 rfl).drop
        obtain rfl := some_eq h
        exact rr (vs := [.agg [u8 (0 : UInt8), u8 (0 : UInt8), .int .i64 0], .int .i64 2]) (res_c (resp_cells I87 1 rfl rfl rfl) (res_c (resp_t rfl) res_nil)) ⟨_, _, _, rfl, ⟨_, rfl, rfl⟩, rfl, s14, I89⟩
theorem keys_reader_motion_ok (k : Nat) (x1 : S_keys_reader) (x4 : UInt8) (x5 : Int) (r : (S_api_Motion × Int × S_keys_reader)) {v2 : AV} {r0 : Nat} {σ : St} {B : List (Nat × Blk)} {O : List AV}
    (h : keys_reader_motion k x1 x4 x5 = some r)
    (s3 : SL RU8 1 x1.p v2)
    (I : Inv σ ((r0, .cells [v2, .int .i64 x1.at_]) :: B) (O)) :
    RunF kE 30 [.blk r0 0, u8 x4, .int .i64 x5] σ (fun v σ' => ∃ w0 w1 q0v0, v = .tuple [w0, w1] ∧ VAgg S_api_Motion.R r.1 w0 ∧ w1 = .int .i64 r.2.1 ∧ SL RU8 1 r.2.2.p q0v0 ∧ Inv σ' ((r0, .cells [q0v0, .int .i64 r.2.2.at_]) :: B) (O)) := by
  refine f_plain rfl rfl rfl rfl ?_
  unfold keys_reader_motion at h
  refine c_seq ?_
  refine c_reg ?_
  refine st_alloc I ?_
  intro r6 σ7 I8
  have I9 : Inv _ ((r6, .cells [u8 (0 : UInt8), u8 (0 : UInt8), .int .i64 0]) :: (r0, .cells [v2, .int .i64 x1.at_]) :: B) (O) := I8
  refine sp (.int .i64 0) rfl rfl ?_
  refine sx ?_
  refine cn ?_
  refine c_keep (keep_cons rfl (keep_cons rfl (keep_cons rfl (keep_cons rfl keep_nil)))) ?_
  refine c_seq ?_
  refine c_block ?_
  refine c_seq ?_
  refine c_reg ?_
  refine sp (u8 x4) rfl rfl ?_
  refine sp (.bool (decide ((x4.toNat : Int) = 102))) rfl rfl ?_
  refine sp (.bool (decide ((x4.toNat : Int) = 102))) rfl rfl ?_
  rcases bool_tf (decide ((x4.toNat : Int) = 102)) with b10 | b10
  · have h := ite_t h b10
    refine sg_skip (decide ((x4.toNat : Int) = 102)) rfl b10 ?_
    refine sg_skip (decide ((x4.toNat : Int) = 102)) rfl b10 ?_
    refine sp (.bool true) rfl (e_pick_t rfl b10 rfl) ?_
    refine sp (.bool true) rfl rfl ?_
    refine sg_skip true rfl rfl ?_
    refine sg_skip true rfl rfl ?_
    refine sp (.bool true) rfl (e_pick_t rfl rfl rfl) ?_
    refine sp (.bool true) rfl rfl ?_
    refine sx ?_
    refine cn ?_
    have I90 : Inv _ ((r0, .cells [v2, .int .i64 x1.at_]) :: (r6, .cells [u8 (0 : UInt8), u8 (0 : UInt8), .int .i64 0]) :: B) (O) := I9.front 1 rfl
    exact keys_reader_motion_j6_ok k x4 x5 true x1 (⟨(0 : UInt8), (0 : UInt8), 0⟩ : S_api_Motion) h rfl rfl rfl rfl rfl  s3 I90
  · have h := ite_f h b10
    refine sg_run (decide ((x4.toNat : Int) = 102)) rfl b10 ?_
    refine sp (u8 x4) rfl rfl ?_
    refine sg_run (decide ((x4.toNat : Int) = 102)) rfl b10 ?_
    refine sp (.bool (decide ((x4.toNat : Int) = 116))) rfl rfl ?_
    refine sp (.bool (decide ((x4.toNat : Int) = 116))) rfl (e_pick_f rfl b10 rfl) ?_
    refine sp (.bool (decide ((x4.toNat : Int) = 116))) rfl rfl ?_
    rcases bool_tf (decide ((x4.toNat : Int) = 116)) with b91 | b91
    · have h := ite_t h b91
      refine sg_skip (decide ((x4.toNat : Int) = 116)) rfl b91 ?_
      refine sg_skip (decide ((x4.toNat : Int) = 116)) rfl b91 ?_
      refine sp (.bool true) rfl (e_pick_t rfl b91 rfl) ?_
      refine sp (.bool true) rfl rfl ?_
      refine sx ?_
      refine cn ?_
      have I92 : Inv _ ((r0, .cells [v2, .int .i64 x1.at_]) :: (r6, .cells [u8 (0 : UInt8), u8 (0 : UInt8), .int .i64 0]) :: B) (O) := I9.front 1 rfl
      exact keys_reader_motion_j6_ok k x4 x5 true x1 (⟨(0 : UInt8), (0 : UInt8), 0⟩ : S_api_Motion) h rfl rfl rfl rfl rfl  s3 I92
    · have h := ite_f h b91
      refine sg_run (decide ((x4.toNat : Int) = 116)) rfl b91 ?_
      refine sp (u8 x4) rfl rfl ?_
      refine sg_run (decide ((x4.toNat : Int) = 116)) rfl b91 ?_
      refine sp (.bool (decide ((x4.toNat : Int) = 96))) rfl rfl ?_
      refine sp (.bool (decide ((x4.toNat : Int) = 96))) rfl (e_pick_f rfl b91 rfl) ?_
      refine sp (.bool (decide ((x4.toNat : Int) = 96))) rfl rfl ?_
      refine sx ?_
      refine cn ?_
      have I93 : Inv _ ((r0, .cells [v2, .int .i64 x1.at_]) :: (r6, .cells [u8 (0 : UInt8), u8 (0 : UInt8), .int .i64 0]) :: B) (O) := I9.front 1 rfl
      exact keys_reader_motion_j6_ok k x4 x5 (decide ((x4.toNat : Int) = 96)) x1 (⟨(0 : UInt8), (0 : UInt8), 0⟩ : S_api_Motion) h rfl rfl rfl rfl rfl  s3 I93
/- (*platen.keys.reader).operator -/
def keys_reader_operator_j30 (k : Nat) (x5 : UInt8) (x53 : S_keys_reader) (x56 : S_keys_Cmd) (x57 : S_keys_Cmd) : Option ((S_keys_Cmd × Int × S_keys_reader)) :=
  (keys_reader_next k x53).bind fun a58 => if !a58.2.1 then (some (x56, 1, a58.2.2)) else (if decide ((a58.1.toNat : Int) = 27) then (some ((⟨(0 : UInt8), (0 : UInt8), 0, (0 : UInt8), (⟨(0 : UInt8), (0 : UInt8), 0⟩ : S_api_Motion), (0 : UInt8), (0 : UInt8)⟩ : S_keys_Cmd), 0, a58.2.2)) else (if decide ((a58.1.toNat : Int) = (x5.toNat : Int)) then (some ((⟨(2 : UInt8), x56.Reg, x56.N, x56.Op, x56.M, x56.Key, x56.Sign⟩ : S_keys_Cmd), 0, a58.2.2)) else (if decide ((a58.1.toNat : Int) = 105) then ((keys_reader_next k a58.2.2).bind fun a88 => if !a88.2.1 then (some (x56, 1, a88.2.2)) else ((strings_IndexByte k ([119, 112, 108] : List UInt8) a88.1).bind fun a105 => if decide (a105 < 0) then (some (x56, 2, a88.2.2)) else (some ((⟨(4 : UInt8), x56.Reg, x56.N, x56.Op, x56.M, x56.Key, a88.1⟩ : S_keys_Cmd), 0, a88.2.2)))) else ((keys_reader_motion k a58.2.2 a58.1 x56.N).bind fun a122 => some ((⟨(3 : UInt8), x56.Reg, x56.N, x56.Op, a122.1, x56.Key, x56.Sign⟩ : S_keys_Cmd), a122.2.1, a122.2.2)))))
def keys_reader_operator_j19 (k : Nat) (x5 : UInt8) (x38 : Int) (x39 : Bool) (x40 : S_keys_reader) (x43 : S_keys_Cmd) (x44 : S_keys_Cmd) : Option ((S_keys_Cmd × Int × S_keys_reader)) :=
  if x39 then (some (x43, 2, x40)) else (if decide (0 < x38) then (keys_reader_operator_j30 k x5 x40 (⟨x43.Kind, x43.Reg, (IntKind.i64.wrap (x38 * (iMax x43.N 1))), x43.Op, x43.M, x43.Key, x43.Sign⟩ : S_keys_Cmd) x44) else (keys_reader_operator_j30 k x5 x40 x43 x44))
def keys_reader_operator (k : Nat) (x1 : S_keys_reader) (x4 : S_keys_Cmd) (x5 : UInt8) (x6 : Bool) : Option ((S_keys_Cmd × Int × S_keys_reader)) :=
  if x6 then (some ((⟨(7 : UInt8), x4.Reg, x4.N, x5, x4.M, x4.Key, x4.Sign⟩ : S_keys_Cmd), 0, x1)) else ((keys_reader_count k x1).bind fun a24 => if !a24.2.1 then (keys_reader_operator_j19 k x5 a24.1 true a24.2.2 (⟨x4.Kind, x4.Reg, x4.N, x5, x4.M, x4.Key, x4.Sign⟩ : S_keys_Cmd) (⟨(0 : UInt8), (0 : UInt8), 0, (0 : UInt8), (⟨(0 : UInt8), (0 : UInt8), 0⟩ : S_api_Motion), (0 : UInt8), (0 : UInt8)⟩ : S_keys_Cmd)) else (keys_reader_operator_j19 k x5 a24.1 (decide (9999 < (IntKind.i64.wrap ((iMax a24.1 1) * (iMax x4.N 1))))) a24.2.2 (⟨x4.Kind, x4.Reg, x4.N, x5, x4.M, x4.Key, x4.Sign⟩ : S_keys_Cmd) (⟨(0 : UInt8), (0 : UInt8), 0, (0 : UInt8), (⟨(0 : UInt8), (0 : UInt8), 0⟩ : S_api_Motion), (0 : UInt8), (0 : UInt8)⟩ : S_keys_Cmd)))
theorem keys_reader_operator_j30_ok (k : Nat) (x5 : UInt8) (x53 : S_keys_reader) (x56 : S_keys_Cmd) (x57 : S_keys_Cmd) {r : (S_keys_Cmd × Int × S_keys_reader)} {v54 : AV} {r0 : Nat} {r11 : Nat} {r7 : Nat} {tm : List (Nat × AV)} {σ : St} {B : List (Nat × Blk)} {O : List AV}
    (h : keys_reader_operator_j30 k x5 x53 x56 x57 = some r)
    (e0 : lk tm 0 = some (.blk r0 0))
    (e2 : lk tm 2 = some (u8 x5))
    (e5 : lk tm 5 = some (.blk r7 0))
    (e8 : lk tm 8 = some (.blk r11 0))
    (s55 : SL RU8 1 x53.p v54)
    (I : Inv σ ((r0, .cells [v54, .int .i64 x53.at_]) :: (r7, .cells [u8 x56.Kind, u8 x56.Reg, .int .i64 x56.N, u8 x56.Op, u8 x56.M.Key, u8 x56.M.Sign, .int .i64 x56.M.N, u8 x56.Key, u8 x56.Sign]) :: (r11, .cells [u8 x57.Kind, u8 x57.Reg, .int .i64 x57.N, u8 x57.Op, u8 x57.M.Key, u8 x57.M.Sign, .int .i64 x57.M.N, u8 x57.Key, u8 x57.Sign]) :: B) (O)) :
    RunC kE k29c30 ⟨tm, σ⟩ (ResP (E := kE) k29.res (fun v σ' => ∃ w0 w1 q0v0, v = .tuple [w0, w1] ∧ VAgg S_keys_Cmd.R r.1 w0 ∧ w1 = .int .i64 r.2.1 ∧ SL RU8 1 r.2.2.p q0v0 ∧ Inv σ' ((r0, .cells [q0v0, .int .i64 r.2.2.at_]) :: B) (O))) := by
  unfold keys_reader_operator_j30 at h
  refine c_keep (keep_cons e0 (keep_cons e2 (keep_cons e5 (keep_cons e8 keep_nil)))) ?_
  refine c_seq ?_
  refine c_reg ?_
  refine sp (.blk r0 0) rfl rfl ?_
  obtain ⟨a58, g59, h⟩ := bind_some h
  refine st_call (keys_reader_next_ok k _ _ g59 s55 I) rfl ?_
  intro v60 σ62 q61
  obtain ⟨v64, v66, v68, rfl, q65, q67, s69, I63⟩ := q61
  obtain rfl := q65
  obtain rfl := q67
  refine sp (.tuple [u8 a58.1, .bool a58.2.1]) rfl rfl ?_
  refine sp (u8 a58.1) rfl rfl ?_
  refine sp (.bool a58.2.1) rfl rfl ?_
  refine sp (u8 a58.1) rfl rfl ?_
  refine sp (.bool a58.2.1) rfl rfl ?_
  refine sx ?_
  refine cn ?_
  refine c_keep (keep_cons rfl (keep_cons rfl (keep_cons rfl (keep_cons rfl (keep_cons rfl (keep_cons rfl keep_nil)))))) ?_
  refine c_seq ?_
  refine c_block ?_
  refine c_seq ?_
  refine c_reg ?_
  refine sp (.bool a58.2.1) rfl rfl ?_
  refine sp (.bool (!a58.2.1)) rfl rfl ?_
  refine sp (.bool (!a58.2.1)) rfl rfl ?_
  refine sx ?_
  refine cn ?_
  refine c_keep (keep_cons rfl (keep_cons rfl (keep_cons rfl (keep_cons rfl (keep_cons rfl (keep_cons rfl keep_nil)))))) ?_
  rcases bool_tf (!a58.2.1) with b70 | b70
  · have h := ite_t h b70
    refine c_cond_t (!a58.2.1) rfl b70 ?_
    refine c_seq ?_
    refine c_reg ?_
    refine sp (.agg [u8 x56.Kind, u8 x56.Reg, .int .i64 x56.N, u8 x56.Op, u8 x56.M.Key, u8 x56.M.Sign, .int .i64 x56.M.N, u8 x56.Key, u8 x56.Sign]) rfl (e_loads I63 1 0 9 rfl rfl rfl (Nat.le_of_ble_eq_true rfl)) ?_
    refine st_store I63 2 0 (cs' := [u8 x56.Kind, u8 x56.Reg, .int .i64 x56.N, u8 x56.Op, u8 x56.M.Key, u8 x56.M.Sign, .int .i64 x56.M.N, u8 x56.Key, u8 x56.Sign]) (bs' := (r0, .cells [v68, .int .i64 a58.2.2.at_]) :: (r7, .cells [u8 x56.Kind, u8 x56.Reg, .int .i64 x56.N, u8 x56.Op, u8 x56.M.Key, u8 x56.M.Sign, .int .i64 x56.M.N, u8 x56.Key, u8 x56.Sign]) :: (r11, .cells [u8 x56.Kind, u8 x56.Reg, .int .i64 x56.N, u8 x56.Op, u8 x56.M.Key, u8 x56.M.Sign, .int .i64 x56.M.N, u8 x56.Key, u8 x56.Sign]) :: B) rfl rfl rfl rfl rfl (Nat.le_of_ble_eq_true rfl) rfl rfl ?_
    intro σ72 I71
    refine sp (.int .i64 1) rfl rfl ?_
    refine sx ?_
    refine cn ?_
    refine c_ret ?_
    refine br ?_
    refine cr ?_
    have I73 : Inv _ ((r0, .cells [v68, .int .i64 a58.2.2.at_]) :: (r11, .cells [u8 x56.Kind, u8 x56.Reg, .int .i64 x56.N, u8 x56.Op, u8 x56.M.Key, u8 x56.M.Sign, .int .i64 x56.M.N, u8 x56.Key, u8 x56.Sign]) :: B) (O) := (I71.front 1 rfl).drop
    have I74 : Inv _ ((r0, .cells [v68, .int .i64 a58.2.2.at_]) :: B) (O) := (I73.front 1 rfl).drop
    obtain rfl := some_eq h
    exact rr (vs := [.agg [u8 x56.Kind, u8 x56.Reg, .int .i64 x56.N, u8 x56.Op, u8 x56.M.Key, u8 x56.M.Sign, .int .i64 x56.M.N, u8 x56.Key, u8 x56.Sign], .int .i64 1]) (res_c (resp_cells I71 2 rfl rfl rfl) (res_c (resp_t rfl) res_nil)) ⟨_, _, _, rfl, ⟨_, rfl, rfl⟩, rfl, s69, I74⟩
  · have h := ite_f h b70
    refine c_cond_f (!a58.2.1) rfl b70 ?_
    refine c_seq ?_
    refine c_reg ?_
    refine sp (u8 a58.1) rfl rfl ?_
    refine sp (.bool (decide ((a58.1.toNat : Int) = 27))) rfl rfl ?_
    refine sp (.bool (decide ((a58.1.toNat : Int) = 27))) rfl rfl ?_
    refine sx ?_
    refine cn ?_
    refine c_keep (keep_cons rfl (keep_cons rfl (keep_cons rfl (keep_cons rfl (keep_cons rfl (keep_cons rfl keep_nil)))))) ?_
    rcases bool_tf (decide ((a58.1.toNat : Int) = 27)) with b75 | b75
    · have h := ite_t h b75
      refine c_cond_t (decide ((a58.1.toNat : Int) = 27)) rfl b75 ?_
      refine c_seq ?_
      refine c_reg ?_
      refine sp (.agg [u8 (0 : UInt8), u8 (0 : UInt8), .int .i64 0, u8 (0 : UInt8), u8 (0 : UInt8), u8 (0 : UInt8), .int .i64 0, u8 (0 : UInt8), u8 (0 : UInt8)]) rfl rfl ?_
      refine st_store I63 2 0 (cs' := [u8 (0 : UInt8), u8 (0 : UInt8), .int .i64 0, u8 (0 : UInt8), u8 (0 : UInt8), u8 (0 : UInt8), .int .i64 0, u8 (0 : UInt8), u8 (0 : UInt8)]) (bs' := (r0, .cells [v68, .int .i64 a58.2.2.at_]) :: (r7, .cells [u8 x56.Kind, u8 x56.Reg, .int .i64 x56.N, u8 x56.Op, u8 x56.M.Key, u8 x56.M.Sign, .int .i64 x56.M.N, u8 x56.Key, u8 x56.Sign]) :: (r11, .cells [u8 (0 : UInt8), u8 (0 : UInt8), .int .i64 0, u8 (0 : UInt8), u8 (0 : UInt8), u8 (0 : UInt8), .int .i64 0, u8 (0 : UInt8), u8 (0 : UInt8)]) :: B) rfl rfl rfl rfl rfl (Nat.le_of_ble_eq_true rfl) rfl rfl ?_
      intro σ77 I76
      refine sp (.int .i64 0) rfl rfl ?_
      refine sx ?_
      refine cn ?_
      refine c_ret ?_
      refine br ?_
      refine cr ?_
      have I78 : Inv _ ((r0, .cells [v68, .int .i64 a58.2.2.at_]) :: (r11, .cells [u8 (0 : UInt8), u8 (0 : UInt8), .int .i64 0, u8 (0 : UInt8), u8 (0 : UInt8), u8 (0 : UInt8), .int .i64 0, u8 (0 : UInt8), u8 (0 : UInt8)]) :: B) (O) := (I76.front 1 rfl).drop
      have I79 : Inv _ ((r0, .cells [v68, .int .i64 a58.2.2.at_]) :: B) (O) := (I78.front 1 rfl).drop
      obtain rfl := some_eq h
      exact rr (vs := [.agg [u8 (0 : UInt8), u8 (0 : UInt8), .int .i64 0, u8 (0 : UInt8), u8 (0 : UInt8), u8 (0 : UInt8), .int .i64 0, u8 (0 : UInt8), u8 (0 : UInt8)], .int .i64 0]) (res_c (resp_cells I76 2 rfl rfl rfl) (res_c (resp_t rfl) res_nil)) ⟨_, _, _, rfl, ⟨_, rfl, rfl⟩, rfl, s69, I79⟩
    · have h := ite_f h b75
      refine c_cond_f (decide ((a58.1.toNat : Int) = 27)) rfl b75 ?_
      refine c_seq ?_
      refine c_reg ?_
      refine sp (u8 a58.1) rfl rfl ?_
      refine sp (u8 x5) rfl rfl ?_
      refine sp (.bool (decide ((a58.1.toNat : Int) = (x5.toNat : Int)))) rfl rfl ?_
      refine sp (.bool (decide ((a58.1.toNat : Int) = (x5.toNat : Int)))) rfl rfl ?_
      refine sx ?_
      refine cn ?_
      refine c_keep (keep_cons rfl (keep_cons rfl (keep_cons rfl (keep_cons rfl (keep_cons rfl keep_nil))))) ?_
      rcases bool_tf (decide ((a58.1.toNat : Int) = (x5.toNat : Int))) with b80 | b80
      · have h := ite_t h b80
        refine c_cond_t (decide ((a58.1.toNat : Int) = (x5.toNat : Int))) rfl b80 ?_
        refine c_seq ?_
        refine c_reg ?_
        refine sp (.blk r7 0) rfl rfl ?_
        refine st_store I63 1 0 (cs' := [u8 (2 : UInt8), u8 x56.Reg, .int .i64 x56.N, u8 x56.Op, u8 x56.M.Key, u8 x56.M.Sign, .int .i64 x56.M.N, u8 x56.Key, u8 x56.Sign]) (bs' := (r0, .cells [v68, .int .i64 a58.2.2.at_]) :: (r7, .cells [u8 (2 : UInt8), u8 x56.Reg, .int .i64 x56.N, u8 x56.Op, u8 x56.M.Key, u8 x56.M.Sign, .int .i64 x56.M.N, u8 x56.Key, u8 x56.Sign]) :: (r11, .cells [u8 x57.Kind, u8 x57.Reg, .int .i64 x57.N, u8 x57.Op, u8 x57.M.Key, u8 x57.M.Sign, .int .i64 x57.M.N, u8 x57.Key, u8 x57.Sign]) :: B) rfl rfl rfl rfl rfl (Nat.le_of_ble_eq_true rfl) rfl rfl ?_
        intro σ82 I81
        refine sx ?_
        refine cn ?_
        refine c_keep (keep_cons rfl (keep_cons rfl keep_nil)) ?_
        refine c_seq ?_
        refine c_reg ?_
        refine sp (.agg [u8 (2 : UInt8), u8 x56.Reg, .int .i64 x56.N, u8 x56.Op, u8 x56.M.Key, u8 x56.M.Sign, .int .i64 x56.M.N, u8 x56.Key, u8 x56.Sign]) rfl (e_loads I81 1 0 9 rfl rfl rfl (Nat.le_of_ble_eq_true rfl)) ?_
        refine st_store I81 2 0 (cs' := [u8 (2 : UInt8), u8 x56.Reg, .int .i64 x56.N, u8 x56.Op, u8 x56.M.Key, u8 x56.M.Sign, .int .i64 x56.M.N, u8 x56.Key, u8 x56.Sign]) (bs' := (r0, .cells [v68, .int .i64 a58.2.2.at_]) :: (r7, .cells [u8 (2 : UInt8), u8 x56.Reg, .int .i64 x56.N, u8 x56.Op, u8 x56.M.Key, u8 x56.M.Sign, .int .i64 x56.M.N, u8 x56.Key, u8 x56.Sign]) :: (r11, .cells [u8 (2 : UInt8), u8 x56.Reg, .int .i64 x56.N, u8 x56.Op, u8 x56.M.Key, u8 x56.M.Sign, .int .i64 x56.M.N, u8 x56.Key, u8 x56.Sign]) :: B) rfl rfl rfl rfl rfl (Nat.le_of_ble_eq_true rfl) rfl rfl ?_
        intro σ84 I83
        refine sp (.int .i64 0) rfl rfl ?_
        refine sx ?_
        refine cn ?_
        refine c_ret ?_
        refine br ?_
        refine cr ?_
        have I85 : Inv _ ((r0, .cells [v68, .int .i64 a58.2.2.at_]) :: (r11, .cells [u8 (2 : UInt8), u8 x56.Reg, .int .i64 x56.N, u8 x56.Op, u8 x56.M.Key, u8 x56.M.Sign, .int .i64 x56.M.N, u8 x56.Key, u8 x56.Sign]) :: B) (O) := (I83.front 1 rfl).drop
        have I86 : Inv _ ((r0, .cells [v68, .int .i64 a58.2.2.at_]) :: B) (O) := (I85.front 1 rfl).drop
        obtain rfl := some_eq h
        exact rr (vs := [.agg [u8 (2 : UInt8), u8 x56.Reg, .int .i64 x56.N, u8 x56.Op, u8 x56.M.Key, u8 x56.M.Sign, .int .i64 x56.M.N, u8 x56.Key, u8 x56.Sign], .int .i64 0]) (res_c (resp_cells I83 2 rfl rfl rfl) (res_c (resp_t rfl) res_nil)) ⟨_, _, _, rfl, ⟨_, rfl, rfl⟩, rfl, s69, I86⟩
      · have h := ite_f h b80
        refine c_cond_f (decide ((a58.1.toNat : Int) = (x5.toNat : Int))) rfl b80 ?_
        refine c_seq ?_
        refine c_reg ?_
        refine sp (u8 a58.1) rfl rfl ?_
        refine sp (.bool (decide ((a58.1.toNat : Int) = 105))) rfl rfl ?_
        refine sp (.bool (decide ((a58.1.toNat : Int) = 105))) rfl rfl ?_
        refine sx ?_
        refine cn ?_
        refine c_keep (keep_cons rfl (keep_cons rfl (keep_cons rfl (keep_cons rfl (keep_cons rfl keep_nil))))) ?_
        rcases bool_tf (decide ((a58.1.toNat : Int) = 105)) with b87 | b87
        · have h := ite_t h b87
          refine c_cond_t (decide ((a58.1.toNat : Int) = 105)) rfl b87 ?_
          refine c_seq ?_
          refine c_reg ?_
          refine sp (.blk r0 0) rfl rfl ?_
          obtain ⟨a88, g89, h⟩ := bind_some h
          refine st_call (keys_reader_next_ok k _ _ g89 s69 I63) rfl ?_
          intro v90 σ92 q91
          obtain ⟨v94, v96, v98, rfl, q95, q97, s99, I93⟩ := q91
          obtain rfl := q95
          obtain rfl := q97
          refine sp (.tuple [u8 a88.1, .bool a88.2.1]) rfl rfl ?_
          refine sp (u8 a88.1) rfl rfl ?_
          refine sp (.bool a88.2.1) rfl rfl ?_
          refine sp (u8 a88.1) rfl rfl ?_
          refine sp (.bool a88.2.1) rfl rfl ?_
          refine sx ?_
          refine cn ?_
          refine c_keep (keep_cons rfl (keep_cons rfl (keep_cons rfl (keep_cons rfl keep_nil)))) ?_
          refine c_seq ?_
          refine c_seq ?_
          refine c_reg ?_
          refine sp (.bool a88.2.1) rfl rfl ?_
          refine sp (.bool (!a88.2.1)) rfl rfl ?_
          refine sx ?_
          refine cn ?_
          refine c_keep (keep_cons rfl (keep_cons rfl (keep_cons rfl (keep_cons rfl keep_nil)))) ?_
          rcases bool_tf (!a88.2.1) with b100 | b100
          · have h := ite_t h b100
            refine c_cond_t (!a88.2.1) rfl b100 ?_
            refine c_seq ?_
            refine c_reg ?_
            refine sp (.agg [u8 x56.Kind, u8 x56.Reg, .int .i64 x56.N, u8 x56.Op, u8 x56.M.Key, u8 x56.M.Sign, .int .i64 x56.M.N, u8 x56.Key, u8 x56.Sign]) rfl (e_loads I93 1 0 9 rfl rfl rfl (Nat.le_of_ble_eq_true rfl)) ?_
            refine st_store I93 2 0 (cs' := [u8 x56.Kind, u8 x56.Reg, .int .i64 x56.N, u8 x56.Op, u8 x56.M.Key, u8 x56.M.Sign, .int .i64 x56.M.N, u8 x56.Key, u8 x56.Sign]) (bs' := (r0, .cells [v98, .int .i64 a88.2.2.at_]) :: (r7, .cells [u8 x56.Kind, u8 x56.Reg, .int .i64 x56.N, u8 x56.Op, u8 x56.M.Key, u8 x56.M.Sign, .int .i64 x56.M.N, u8 x56.Key, u8 x56.Sign]) :: (r11, .cells [u8 x56.Kind, u8 x56.Reg, .int .i64 x56.N, u8 x56.Op, u8 x56.M.Key, u8 x56.M.Sign, .int .i64 x56.M.N, u8 x56.Key, u8 x56.Sign]) :: B) rfl rfl rfl rfl rfl (Nat.le_of_ble_eq_true rfl) rfl rfl ?_
            intro σ102 I101
            refine sp (.int .i64 1) rfl rfl ?_
            refine sx ?_
            refine cn ?_
            refine c_ret ?_
            refine cr ?_
            refine br ?_
            refine cr ?_
            have I103 : Inv _ ((r0, .cells [v98, .int .i64 a88.2.2.at_]) :: (r11, .cells [u8 x56.Kind, u8 x56.Reg, .int .i64 x56.N, u8 x56.Op, u8 x56.M.Key, u8 x56.M.Sign, .int .i64 x56.M.N, u8 x56.Key, u8 x56.Sign]) :: B) (O) := (I101.front 1 rfl).drop
            have I104 : Inv _ ((r0, .cells [v98, .int .i64 a88.2.2.at_]) :: B) (O) := (I103.front 1 rfl).drop
            obtain rfl := some_eq h
            exact rr (vs := [.agg [u8 x56.Kind, u8 x56.Reg, .int .i64 x56.N, u8 x56.Op, u8 x56.M.Key, u8 x56.M.Sign, .int .i64 x56.M.N, u8 x56.Key, u8 x56.Sign], .int .i64 1]) (res_c (resp_cells I101 2 rfl rfl rfl) (res_c (resp_t rfl) res_nil)) ⟨_, _, _, rfl, ⟨_, rfl, rfl⟩, rfl, s99, I104⟩
          · have h := ite_f h b100
            refine c_cond_f (!a88.2.1) rfl b100 ?_
            refine c_skip ?_
            refine cn ?_
            refine c_keep (keep_cons rfl (keep_cons rfl (keep_cons rfl keep_nil))) ?_
            refine c_seq ?_
            refine c_seq ?_
            refine c_reg ?_
            refine sp (u8 a88.1) rfl rfl ?_
            obtain ⟨a105, g106, h⟩ := bind_some h
            refine st_callc (strings_IndexByte_ok k _ _ _ g106 ) rfl ?_
            intro v107 q108
            obtain rfl := q108
            refine sp (.bool (decide (a105 < 0))) rfl rfl ?_
            refine sx ?_
            refine cn ?_
            refine c_keep (keep_cons rfl (keep_cons rfl (keep_cons rfl (keep_cons rfl keep_nil)))) ?_
            rcases bool_tf (decide (a105 < 0)) with b109 | b109
            · have h := ite_t h b109
              refine c_cond_t (decide (a105 < 0)) rfl b109 ?_
              refine c_seq ?_
              refine c_reg ?_
              refine sp (.agg [u8 x56.Kind, u8 x56.Reg, .int .i64 x56.N, u8 x56.Op, u8 x56.M.Key, u8 x56.M.Sign, .int .i64 x56.M.N, u8 x56.Key, u8 x56.Sign]) rfl (e_loads I93 1 0 9 rfl rfl rfl (Nat.le_of_ble_eq_true rfl)) ?_
              refine st_store I93 2 0 (cs' := [u8 x56.Kind, u8 x56.Reg, .int .i64 x56.N, u8 x56.Op, u8 x56.M.Key, u8 x56.M.Sign, .int .i64 x56.M.N, u8 x56.Key, u8 x56.Sign]) (bs' := (r0, .cells [v98, .int .i64 a88.2.2.at_]) :: (r7, .cells [u8 x56.Kind, u8 x56.Reg, .int .i64 x56.N, u8 x56.Op, u8 x56.M.Key, u8 x56.M.Sign, .int .i64 x56.M.N, u8 x56.Key, u8 x56.Sign]) :: (r11, .cells [u8 x56.Kind, u8 x56.Reg, .int .i64 x56.N, u8 x56.Op, u8 x56.M.Key, u8 x56.M.Sign, .int .i64 x56.M.N, u8 x56.Key, u8 x56.Sign]) :: B) rfl rfl rfl rfl rfl (Nat.le_of_ble_eq_true rfl) rfl rfl ?_
              intro σ111 I110
              refine sp (.int .i64 2) rfl rfl ?_
              refine sx ?_
              refine cn ?_
              refine c_ret ?_
              refine cr ?_
              refine br ?_
              refine cr ?_
              have I112 : Inv _ ((r0, .cells [v98, .int .i64 a88.2.2.at_]) :: (r11, .cells [u8 x56.Kind, u8 x56.Reg, .int .i64 x56.N, u8 x56.Op, u8 x56.M.Key, u8 x56.M.Sign, .int .i64 x56.M.N, u8 x56.Key, u8 x56.Sign]) :: B) (O) := (I110.front 1 rfl).drop
              have I113 : Inv _ ((r0, .cells [v98, .int .i64 a88.2.2.at_]) :: B) (O) := (I112.front 1 rfl).drop
              obtain rfl := some_eq h
              exact rr (vs := [.agg [u8 x56.Kind, u8 x56.Reg, .int .i64 x56.N, u8 x56.Op, u8 x56.M.Key, u8 x56.M.Sign, .int .i64 x56.M.N, u8 x56.Key, u8 x56.Sign], .int .i64 2]) (res_c (resp_cells I110 2 rfl rfl rfl) (res_c (resp_t rfl) res_nil)) ⟨_, _, _, rfl, ⟨_, rfl, rfl⟩, rfl, s99, I113⟩
            · have h := ite_f h b109
              refine c_cond_f (decide (a105 < 0)) rfl b109 ?_
              refine c_skip ?_
              refine cn ?_
              refine c_keep (keep_cons rfl (keep_cons rfl (keep_cons rfl keep_nil))) ?_
              refine c_seq ?_
              refine c_reg ?_
              refine sp (u8 a88.1) rfl rfl ?_
              refine sp (.blk r7 0) rfl rfl ?_
              refine st_store I93 1 0 (cs' := [u8 (4 : UInt8), u8 x56.Reg, .int .i64 x56.N, u8 x56.Op, u8 x56.M.Key, u8 x56.M.Sign, .int .i64 x56.M.N, u8 x56.Key, u8 x56.Sign]) (bs' := (r0, .cells [v98, .int .i64 a88.2.2.at_]) :: (r7, .cells [u8 (4 : UInt8), u8 x56.Reg, .int .i64 x56.N, u8 x56.Op, u8 x56.M.Key, u8 x56.M.Sign, .int .i64 x56.M.N, u8 x56.Key, u8 x56.Sign]) :: (r11, .cells [u8 x57.Kind, u8 x57.Reg, .int .i64 x57.N, u8 x57.Op, u8 x57.M.Key, u8 x57.M.Sign, .int .i64 x57.M.N, u8 x57.Key, u8 x57.Sign]) :: B) rfl rfl rfl rfl rfl (Nat.le_of_ble_eq_true rfl) rfl rfl ?_
              intro σ115 I114
              refine sp (.blk r7 8) rfl rfl ?_
              refine st_store I114 1 8 (cs' := [u8 (4 : UInt8), u8 x56.Reg, .int .i64 x56.N, u8 x56.Op, u8 x56.M.Key, u8 x56.M.Sign, .int .i64 x56.M.N, u8 x56.Key, u8 a88.1]) (bs' := (r0, .cells [v98, .int .i64 a88.2.2.at_]) :: (r7, .cells [u8 (4 : UInt8), u8 x56.Reg, .int .i64 x56.N, u8 x56.Op, u8 x56.M.Key, u8 x56.M.Sign, .int .i64 x56.M.N, u8 x56.Key, u8 a88.1]) :: (r11, .cells [u8 x57.Kind, u8 x57.Reg, .int .i64 x57.N, u8 x57.Op, u8 x57.M.Key, u8 x57.M.Sign, .int .i64 x57.M.N, u8 x57.Key, u8 x57.Sign]) :: B) rfl rfl rfl rfl rfl (Nat.le_of_ble_eq_true rfl) rfl rfl ?_
              intro σ117 I116
              refine sx ?_
              refine cn ?_
              refine c_keep (keep_cons rfl (keep_cons rfl keep_nil)) ?_
              refine c_seq ?_
              refine c_reg ?_
              refine sp (.agg [u8 (4 : UInt8), u8 x56.Reg, .int .i64 x56.N, u8 x56.Op, u8 x56.M.Key, u8 x56.M.Sign, .int .i64 x56.M.N, u8 x56.Key, u8 a88.1]) rfl (e_loads I116 1 0 9 rfl rfl rfl (Nat.le_of_ble_eq_true rfl)) ?_
              refine st_store I116 2 0 (cs' := [u8 (4 : UInt8), u8 x56.Reg, .int .i64 x56.N, u8 x56.Op, u8 x56.M.Key, u8 x56.M.Sign, .int .i64 x56.M.N, u8 x56.Key, u8 a88.1]) (bs' := (r0, .cells [v98, .int .i64 a88.2.2.at_]) :: (r7, .cells [u8 (4 : UInt8), u8 x56.Reg, .int .i64 x56.N, u8 x56.Op, u8 x56.M.Key, u8 x56.M.Sign, .int .i64 x56.M.N, u8 x56.Key, u8 a88.1]) :: (r11, .cells [u8 (4 : UInt8), u8 x56.Reg, .int .i64 x56.N, u8 x56.Op, u8 x56.M.Key, u8 x56.M.Sign, .int .i64 x56.M.N, u8 x56.Key, u8 a88.1]) :: B) rfl rfl rfl rfl rfl (Nat.le_of_ble_eq_true rfl) rfl rfl ?_
              intro σ119 I118
              refine sp (.int .i64 0) rfl rfl ?_
              refine sx ?_
              refine cn ?_
              refine c_ret ?_
              refine br ?_
              refine cr ?_
              have I120 : Inv _ ((r0, .cells [v98, .int .i64 a88.2.2.at_]) :: (r11, .cells [u8 (4 : UInt8), u8 x56.Reg, .int .i64 x56.N, u8 x56.Op, u8 x56.M.Key, u8 x56.M.Sign, .int .i64 x56.M.N, u8 x56.Key, u8 a88.1]) :: B) (O) := (I118.front 1 rfl).drop
              have I121 : Inv _ ((r0, .cells [v98, .int .i64 a88.2.2.at_]) :: B) (O) := (I120.front 1 rfl).drop
              obtain rfl := some_eq h
              exact rr (vs := [.agg [u8 (4 : UInt8), u8 x56.Reg, .int .i64 x56.N, u8 x56.Op, u8 x56.M.Key, u8 x56.M.Sign, .int .i64 x56.M.N, u8 x56.Key, u8 a88.1], .int .i64 0]) (res_c (resp_cells I118 2 rfl rfl rfl) (res_c (resp_t rfl) res_nil)) ⟨_, _, _, rfl, ⟨_, rfl, rfl⟩, rfl, s99, I121⟩
        · have h := ite_f h b87
          refine c_cond_f (decide ((a58.1.toNat : Int) = 105)) rfl b87 ?_
          refine c_skip ?_
          refine bn ?_
          refine cn ?_
          refine c_keep (keep_cons rfl (keep_cons rfl (keep_cons rfl (keep_cons rfl keep_nil)))) ?_
          refine c_seq ?_
          refine c_reg ?_
          refine sp (.blk r0 0) rfl rfl ?_
          refine sp (u8 a58.1) rfl rfl ?_
          refine sp (.blk r7 2) rfl rfl ?_
          refine sp (.int .i64 x56.N) rfl (e_load I63 1 2 rfl rfl rfl) ?_
          obtain ⟨a122, g123, h⟩ := bind_some h
          refine st_call (keys_reader_motion_ok k _ _ _ _ g123 s69 I63) rfl ?_
          intro v124 σ126 q125
          obtain ⟨v128, v130, v132, rfl, q129, q131, s133, I127⟩ := q125
          obtain ⟨c134, rfl, q135⟩ := q129
          obtain rfl := q135
          obtain rfl := q131
          refine sp (.tuple [.agg [u8 a122.1.Key, u8 a122.1.Sign, .int .i64 a122.1.N], .int .i64 a122.2.1]) rfl rfl ?_
          refine sp (.agg [u8 a122.1.Key, u8 a122.1.Sign, .int .i64 a122.1.N]) rfl rfl ?_
          refine sp (.int .i64 a122.2.1) rfl rfl ?_
          refine st_alloc I127 ?_
          intro r136 σ137 I138
          have I139 : Inv _ ((r136, .cells [u8 (0 : UInt8), u8 (0 : UInt8), .int .i64 0]) :: (r0, .cells [v132, .int .i64 a122.2.2.at_]) :: (r7, .cells [u8 x56.Kind, u8 x56.Reg, .int .i64 x56.N, u8 x56.Op, u8 x56.M.Key, u8 x56.M.Sign, .int .i64 x56.M.N, u8 x56.Key, u8 x56.Sign]) :: (r11, .cells [u8 x57.Kind, u8 x57.Reg, .int .i64 x57.N, u8 x57.Op, u8 x57.M.Key, u8 x57.M.Sign, .int .i64 x57.M.N, u8 x57.Key, u8 x57.Sign]) :: B) (O) := I138
          refine st_store I139 0 0 (cs' := [u8 a122.1.Key, u8 a122.1.Sign, .int .i64 a122.1.N]) (bs' := (r136, .cells [u8 a122.1.Key, u8 a122.1.Sign, .int .i64 a122.1.N]) :: (r0, .cells [v132, .int .i64 a122.2.2.at_]) :: (r7, .cells [u8 x56.Kind, u8 x56.Reg, .int .i64 x56.N, u8 x56.Op, u8 x56.M.Key, u8 x56.M.Sign, .int .i64 x56.M.N, u8 x56.Key, u8 x56.Sign]) :: (r11, .cells [u8 x57.Kind, u8 x57.Reg, .int .i64 x57.N, u8 x57.Op, u8 x57.M.Key, u8 x57.M.Sign, .int .i64 x57.M.N, u8 x57.Key, u8 x57.Sign]) :: B) rfl rfl rfl rfl rfl (Nat.le_of_ble_eq_true rfl) rfl rfl ?_
          intro σ141 I140
          refine sp (.int .i64 a122.2.1) rfl rfl ?_
          refine sx ?_
          refine cn ?_
          refine c_keep (keep_cons rfl (keep_cons rfl (keep_cons rfl (keep_cons rfl keep_nil)))) ?_
          refine c_seq ?_
          refine c_regd ?_
          refine rt ?_
          refine sp (.agg [u8 a122.1.Key, u8 a122.1.Sign, .int .i64 a122.1.N]) rfl (e_loads I140 0 0 3 rfl rfl rfl (Nat.le_of_ble_eq_true rfl)) ?_
          refine sx ⟨_, _, rfl, fun ev142 => ?_⟩
          refine rt ?_
          refine sp (.blk r7 0) rfl rfl ?_
          refine sx ⟨_, _, rfl, fun ev143 => ?_⟩
          refine rtn ?_
          refine st_store I140 2 0 (cs' := [u8 (3 : UInt8), u8 x56.Reg, .int .i64 x56.N, u8 x56.Op, u8 x56.M.Key, u8 x56.M.Sign, .int .i64 x56.M.N, u8 x56.Key, u8 x56.Sign]) (bs' := (r136, .cells [u8 a122.1.Key, u8 a122.1.Sign, .int .i64 a122.1.N]) :: (r0, .cells [v132, .int .i64 a122.2.2.at_]) :: (r7, .cells [u8 (3 : UInt8), u8 x56.Reg, .int .i64 x56.N, u8 x56.Op, u8 x56.M.Key, u8 x56.M.Sign, .int .i64 x56.M.N, u8 x56.Key, u8 x56.Sign]) :: (r11, .cells [u8 x57.Kind, u8 x57.Reg, .int .i64 x57.N, u8 x57.Op, u8 x57.M.Key, u8 x57.M.Sign, .int .i64 x57.M.N, u8 x57.Key, u8 x57.Sign]) :: B) rfl rfl rfl rfl rfl (Nat.le_of_ble_eq_true rfl) rfl rfl ?_
          intro σ145 I144
          refine sx ⟨_, rfl, fun _ ev146 => ?_⟩
          refine rt ?_
          refine sp (.blk r7 4) rfl rfl ?_
          refine sx ⟨_, _, rfl, fun ev147 => ?_⟩
          refine rtn ?_
          refine st_store I144 2 4 (cs' := [u8 (3 : UInt8), u8 x56.Reg, .int .i64 x56.N, u8 x56.Op, u8 a122.1.Key, u8 a122.1.Sign, .int .i64 a122.1.N, u8 x56.Key, u8 x56.Sign]) (bs' := (r136, .cells [u8 a122.1.Key, u8 a122.1.Sign, .int .i64 a122.1.N]) :: (r0, .cells [v132, .int .i64 a122.2.2.at_]) :: (r7, .cells [u8 (3 : UInt8), u8 x56.Reg, .int .i64 x56.N, u8 x56.Op, u8 a122.1.Key, u8 a122.1.Sign, .int .i64 a122.1.N, u8 x56.Key, u8 x56.Sign]) :: (r11, .cells [u8 x57.Kind, u8 x57.Reg, .int .i64 x57.N, u8 x57.Op, u8 x57.M.Key, u8 x57.M.Sign, .int .i64 x57.M.N, u8 x57.Key, u8 x57.Sign]) :: B) rfl rfl rfl rfl rfl (Nat.le_of_ble_eq_true rfl) rfl rfl ?_
          intro σ149 I148
          refine sx ⟨_, rfl, fun _ ev150 => ?_⟩
          refine tx ?_
          refine ⟨(re_cons (re_pure _ rfl rfl rfl rfl (e_loads I144 0 0 3 rfl rfl rfl (Nat.le_of_ble_eq_true rfl))) re_nil), ?_⟩
          refine cn ?_
          refine c_keep (keep_cons rfl (keep_cons rfl (keep_cons rfl keep_nil))) ?_
          refine c_seq ?_
          refine c_reg ?_
          refine sp (.agg [u8 (3 : UInt8), u8 x56.Reg, .int .i64 x56.N, u8 x56.Op, u8 a122.1.Key, u8 a122.1.Sign, .int .i64 a122.1.N, u8 x56.Key, u8 x56.Sign]) rfl (e_loads I148 2 0 9 rfl rfl rfl (Nat.le_of_ble_eq_true rfl)) ?_
          refine sp (.int .i64 a122.2.1) rfl rfl ?_
          refine st_store I148 3 0 (cs' := [u8 (3 : UInt8), u8 x56.Reg, .int .i64 x56.N, u8 x56.Op, u8 a122.1.Key, u8 a122.1.Sign, .int .i64 a122.1.N, u8 x56.Key, u8 x56.Sign]) (bs' := (r136, .cells [u8 a122.1.Key, u8 a122.1.Sign, .int .i64 a122.1.N]) :: (r0, .cells [v132, .int .i64 a122.2.2.at_]) :: (r7, .cells [u8 (3 : UInt8), u8 x56.Reg, .int .i64 x56.N, u8 x56.Op, u8 a122.1.Key, u8 a122.1.Sign, .int .i64 a122.1.N, u8 x56.Key, u8 x56.Sign]) :: (r11, .cells [u8 (3 : UInt8), u8 x56.Reg, .int .i64 x56.N, u8 x56.Op, u8 a122.1.Key, u8 a122.1.Sign, .int .i64 a122.1.N, u8 x56.Key, u8 x56.Sign]) :: B) rfl rfl rfl rfl rfl (Nat.le_of_ble_eq_true rfl) rfl rfl ?_
          intro σ152 I151
          refine sp (.int .i64 a122.2.1) rfl rfl ?_
          refine sx ?_
          refine cn ?_
          refine c_ret ?_
          have I153 : Inv _ ((r0, .cells [v132, .int .i64 a122.2.2.at_]) :: (r7, .cells [u8 (3 : UInt8), u8 x56.Reg, .int .i64 x56.N, u8 x56.Op, u8 a122.1.Key, u8 a122.1.Sign, .int .i64 a122.1.N, u8 x56.Key, u8 x56.Sign]) :: (r11, .cells [u8 (3 : UInt8), u8 x56.Reg, .int .i64 x56.N, u8 x56.Op, u8 a122.1.Key, u8 a122.1.Sign, .int .i64 a122.1.N, u8 x56.Key, u8 x56.Sign]) :: B) (O) := (I151.front 0 rfl).drop
          have I154 : Inv _ ((r0, .cells [v132, .int .i64 a122.2.2.at_]) :: (r11, .cells [u8 (3 : UInt8), u8 x56.Reg, .int .i64 x56.N, u8 x56.Op, u8 a122.1.Key, u8 a122.1.Sign, .int .i64 a122.1.N, u8 x56.Key, u8 x56.Sign]) :: B) (O) := (I153.front 1 rfl).drop
          have I155 : Inv _ ((r0, .cells [v132, .int .i64 a122.2.2.at_]) :: B) (O) := (I154.front 1 rfl).drop
          obtain rfl := some_eq h
          exact rr (vs := [.agg [u8 (3 : UInt8), u8 x56.Reg, .int .i64 x56.N, u8 x56.Op, u8 a122.1.Key, u8 a122.1.Sign, .int .i64 a122.1.N, u8 x56.Key, u8 x56.Sign], .int .i64 a122.2.1]) (res_c (resp_cells I151 3 rfl rfl rfl) (res_c (resp_t rfl) res_nil)) ⟨_, _, _, rfl, ⟨_, rfl, rfl⟩, rfl, s133, I155⟩
theorem keys_reader_operator_j19_ok (k : Nat) (x5 : UInt8) (x38 : Int) (x39 : Bool) (x40 : S_keys_reader) (x43 : S_keys_Cmd) (x44 : S_keys_Cmd) {r : (S_keys_Cmd × Int × S_keys_reader)} {v41 : AV} {r0 : Nat} {r11 : Nat} {r7 : Nat} {tm : List (Nat × AV)} {σ : St} {B : List (Nat × Blk)} {O : List AV}
    (h : keys_reader_operator_j19 k x5 x38 x39 x40 x43 x44 = some r)
    (e0 : lk tm 0 = some (.blk r0 0))
    (e2 : lk tm 2 = some (u8 x5))
    (e5 : lk tm 5 = some (.blk r7 0))
    (e8 : lk tm 8 = some (.blk r11 0))
    (e10 : lk tm 10 = some (.int .i64 x38))
    (e37 : lk tm 37 = some (.bool x39))
    (s42 : SL RU8 1 x40.p v41)
    (I : Inv σ ((r0, .cells [v41, .int .i64 x40.at_]) :: (r7, .cells [u8 x43.Kind, u8 x43.Reg, .int .i64 x43.N, u8 x43.Op, u8 x43.M.Key, u8 x43.M.Sign, .int .i64 x43.M.N, u8 x43.Key, u8 x43.Sign]) :: (r11, .cells [u8 x44.Kind, u8 x44.Reg, .int .i64 x44.N, u8 x44.Op, u8 x44.M.Key, u8 x44.M.Sign, .int .i64 x44.M.N, u8 x44.Key, u8 x44.Sign]) :: B) (O)) :
    RunC kE k29c19 ⟨tm, σ⟩ (Cont kE k29c24 (ResP (E := kE) k29.res (fun v σ' => ∃ w0 w1 q0v0, v = .tuple [w0, w1] ∧ VAgg S_keys_Cmd.R r.1 w0 ∧ w1 = .int .i64 r.2.1 ∧ SL RU8 1 r.2.2.p q0v0 ∧ Inv σ' ((r0, .cells [q0v0, .int .i64 r.2.2.at_]) :: B) (O)))) := by
  unfold keys_reader_operator_j19 at h
  refine c_keep (keep_cons e0 (keep_cons e2 (keep_cons e5 (keep_cons e8 (keep_cons e10 (keep_cons e37 keep_nil)))))) ?_
  rcases bool_tf x39 with b45 | b45
  · have h := ite_t h b45
    refine c_cond_t x39 rfl b45 ?_
    refine c_seq ?_
    refine c_reg ?_
    refine sp (.agg [u8 x43.Kind, u8 x43.Reg, .int .i64 x43.N, u8 x43.Op, u8 x43.M.Key, u8 x43.M.Sign, .int .i64 x43.M.N, u8 x43.Key, u8 x43.Sign]) rfl (e_loads I 1 0 9 rfl rfl rfl (Nat.le_of_ble_eq_true rfl)) ?_
    refine st_store I 2 0 (cs' := [u8 x43.Kind, u8 x43.Reg, .int .i64 x43.N, u8 x43.Op, u8 x43.M.Key, u8 x43.M.Sign, .int .i64 x43.M.N, u8 x43.Key, u8 x43.Sign]) (bs' := (r0, .cells [v41, .int .i64 x40.at_]) :: (r7, .cells [u8 x43.Kind, u8 x43.Reg, .int .i64 x43.N, u8 x43.Op, u8 x43.M.Key, u8 x43.M.Sign, .int .i64 x43.M.N, u8 x43.Key, u8 x43.Sign]) :: (r11, .cells [u8 x43.Kind, u8 x43.Reg, .int .i64 x43.N, u8 x43.Op, u8 x43.M.Key, u8 x43.M.Sign, .int .i64 x43.M.N, u8 x43.Key, u8 x43.Sign]) :: B) rfl rfl rfl rfl rfl (Nat.le_of_ble_eq_true rfl) rfl rfl ?_
    intro σ47 I46
    refine sp (.int .i64 2) rfl rfl ?_
    refine sx ?_
    refine cn ?_
    refine c_ret ?_
    refine cr ?_
    have I48 : Inv _ ((r0, .cells [v41, .int .i64 x40.at_]) :: (r11, .cells [u8 x43.Kind, u8 x43.Reg, .int .i64 x43.N, u8 x43.Op, u8 x43.M.Key, u8 x43.M.Sign, .int .i64 x43.M.N, u8 x43.Key, u8 x43.Sign]) :: B) (O) := (I46.front 1 rfl).drop
    have I49 : Inv _ ((r0, .cells [v41, .int .i64 x40.at_]) :: B) (O) := (I48.front 1 rfl).drop
    obtain rfl := some_eq h
    exact rr (vs := [.agg [u8 x43.Kind, u8 x43.Reg, .int .i64 x43.N, u8 x43.Op, u8 x43.M.Key, u8 x43.M.Sign, .int .i64 x43.M.N, u8 x43.Key, u8 x43.Sign], .int .i64 2]) (res_c (resp_cells I46 2 rfl rfl rfl) (res_c (resp_t rfl) res_nil)) ⟨_, _, _, rfl, ⟨_, rfl, rfl⟩, rfl, s42, I49⟩
  · have h := ite_f h b45
    refine c_cond_f x39 rfl b45 ?_
    refine c_skip ?_
    refine cn ?_
    refine c_keep (keep_cons rfl (keep_cons rfl (keep_cons rfl (keep_cons rfl (keep_cons rfl keep_nil))))) ?_
    refine c_seq ?_
    refine c_seq ?_
    refine c_reg ?_
    refine sp (.int .i64 x38) rfl rfl ?_
    refine sp (.bool (decide (0 < x38))) rfl rfl ?_
    refine sx ?_
    refine cn ?_
    refine c_keep (keep_cons rfl (keep_cons rfl (keep_cons rfl (keep_cons rfl (keep_cons rfl (keep_cons rfl keep_nil)))))) ?_
    rcases bool_tf (decide (0 < x38)) with b50 | b50
    · have h := ite_t h b50
      refine c_cond_t (decide (0 < x38)) rfl b50 ?_
      refine c_reg ?_
      refine sp (.int .i64 x38) rfl rfl ?_
      refine sp (.blk r7 2) rfl rfl ?_
      refine sp (.int .i64 x43.N) rfl (e_load I 1 2 rfl rfl rfl) ?_
      refine sp (.int .i64 (iMax x43.N 1)) rfl rfl ?_
      refine sp (.int .i64 (IntKind.i64.wrap (x38 * (iMax x43.N 1)))) rfl rfl ?_
      refine sp (.blk r7 2) rfl rfl ?_
      refine st_store I 1 2 (cs' := [u8 x43.Kind, u8 x43.Reg, .int .i64 (IntKind.i64.wrap (x38 * (iMax x43.N 1))), u8 x43.Op, u8 x43.M.Key, u8 x43.M.Sign, .int .i64 x43.M.N, u8 x43.Key, u8 x43.Sign]) (bs' := (r0, .cells [v41, .int .i64 x40.at_]) :: (r7, .cells [u8 x43.Kind, u8 x43.Reg, .int .i64 (IntKind.i64.wrap (x38 * (iMax x43.N 1))), u8 x43.Op, u8 x43.M.Key, u8 x43.M.Sign, .int .i64 x43.M.N, u8 x43.Key, u8 x43.Sign]) :: (r11, .cells [u8 x44.Kind, u8 x44.Reg, .int .i64 x44.N, u8 x44.Op, u8 x44.M.Key, u8 x44.M.Sign, .int .i64 x44.M.N, u8 x44.Key, u8 x44.Sign]) :: B) rfl rfl rfl rfl rfl (Nat.le_of_ble_eq_true rfl) rfl rfl ?_
      intro σ52 I51
      refine sx ?_
      refine cn ?_
      exact keys_reader_operator_j30_ok k x5 x40 (⟨x43.Kind, x43.Reg, (IntKind.i64.wrap (x38 * (iMax x43.N 1))), x43.Op, x43.M, x43.Key, x43.Sign⟩ : S_keys_Cmd) x44 h rfl rfl rfl rfl  s42 I51
    · have h := ite_f h b50
      refine c_cond_f (decide (0 < x38)) rfl b50 ?_
      refine c_skip ?_
      refine cn ?_
      exact keys_reader_operator_j30_ok k x5 x40 x43 x44 h rfl rfl rfl rfl  s42 I
theorem keys_reader_operator_ok (k : Nat) (x1 : S_keys_reader) (x4 : S_keys_Cmd) (x5 : UInt8) (x6 : Bool) (r : (S_keys_Cmd × Int × S_keys_reader)) {v2 : AV} {c1 : List AV} {r0 : Nat} {σ : St} {B : List (Nat × Blk)} {O : List AV}
    (h : keys_reader_operator k x1 x4 x5 x6 = some r)
    (s3 : SL RU8 1 x1.p v2)
    (p1 : S_keys_Cmd.R x4 c1)
    (I : Inv σ ((r0, .cells [v2, .int .i64 x1.at_]) :: B) (O)) :
    RunF kE 29 [.blk r0 0, .agg c1, u8 x5, .bool x6] σ (fun v σ' => ∃ w0 w1 q0v0, v = .tuple [w0, w1] ∧ VAgg S_keys_Cmd.R r.1 w0 ∧ w1 = .int .i64 r.2.1 ∧ SL RU8 1 r.2.2.p q0v0 ∧ Inv σ' ((r0, .cells [q0v0, .int .i64 r.2.2.at_]) :: B) (O)) := by
  obtain rfl := p1
  refine f_plain rfl rfl rfl rfl ?_
  unfold keys_reader_operator at h
  refine c_seq ?_
  refine c_reg ?_
  refine st_box I rfl rfl ?_
  intro r7 σ8 I9
  have I10 : Inv _ ((r7, .cells [u8 x4.Kind, u8 x4.Reg, .int .i64 x4.N, u8 x4.Op, u8 x4.M.Key, u8 x4.M.Sign, .int .i64 x4.M.N, u8 x4.Key, u8 x4.Sign]) :: (r0, .cells [v2, .int .i64 x1.at_]) :: B) (O) := I9
  refine st_alloc I10 ?_
  intro r11 σ12 I13
  have I14 : Inv _ ((r11, .cells [u8 (0 : UInt8), u8 (0 : UInt8), .int .i64 0, u8 (0 : UInt8), u8 (0 : UInt8), u8 (0 : UInt8), .int .i64 0, u8 (0 : UInt8), u8 (0 : UInt8)]) :: (r7, .cells [u8 x4.Kind, u8 x4.Reg, .int .i64 x4.N, u8 x4.Op, u8 x4.M.Key, u8 x4.M.Sign, .int .i64 x4.M.N, u8 x4.Key, u8 x4.Sign]) :: (r0, .cells [v2, .int .i64 x1.at_]) :: B) (O) := I13
  refine sp (.int .i64 0) rfl rfl ?_
  refine sx ?_
  refine cn ?_
  refine c_keep (keep_cons rfl (keep_cons rfl (keep_cons rfl (keep_cons rfl (keep_cons rfl keep_nil))))) ?_
  refine c_seq ?_
  refine c_reg ?_
  refine sp (u8 x5) rfl rfl ?_
  refine sp (.blk r7 3) rfl rfl ?_
  refine st_store I14 1 3 (cs' := [u8 x4.Kind, u8 x4.Reg, .int .i64 x4.N, u8 x5, u8 x4.M.Key, u8 x4.M.Sign, .int .i64 x4.M.N, u8 x4.Key, u8 x4.Sign]) (bs' := (r11, .cells [u8 (0 : UInt8), u8 (0 : UInt8), .int .i64 0, u8 (0 : UInt8), u8 (0 : UInt8), u8 (0 : UInt8), .int .i64 0, u8 (0 : UInt8), u8 (0 : UInt8)]) :: (r7, .cells [u8 x4.Kind, u8 x4.Reg, .int .i64 x4.N, u8 x5, u8 x4.M.Key, u8 x4.M.Sign, .int .i64 x4.M.N, u8 x4.Key, u8 x4.Sign]) :: (r0, .cells [v2, .int .i64 x1.at_]) :: B) rfl rfl rfl rfl rfl (Nat.le_of_ble_eq_true rfl) rfl rfl ?_
  intro σ16 I15
  refine sx ?_
  refine cn ?_
  refine c_keep (keep_cons rfl (keep_cons rfl (keep_cons rfl (keep_cons rfl (keep_cons rfl keep_nil))))) ?_
  refine c_seq ?_
  refine c_seq ?_
  refine c_reg ?_
  refine sp (.bool x6) rfl rfl ?_
  refine sx ?_
  refine cn ?_
  refine c_keep (keep_cons rfl (keep_cons rfl (keep_cons rfl (keep_cons rfl (keep_cons rfl keep_nil))))) ?_
  rcases bool_tf x6 with b17 | b17
  · have h := ite_t h b17
    refine c_cond_t x6 rfl b17 ?_
    refine c_seq ?_
    refine c_reg ?_
    refine sp (.blk r7 0) rfl rfl ?_
    refine st_store I15 1 0 (cs' := [u8 (7 : UInt8), u8 x4.Reg, .int .i64 x4.N, u8 x5, u8 x4.M.Key, u8 x4.M.Sign, .int .i64 x4.M.N, u8 x4.Key, u8 x4.Sign]) (bs' := (r11, .cells [u8 (0 : UInt8), u8 (0 : UInt8), .int .i64 0, u8 (0 : UInt8), u8 (0 : UInt8), u8 (0 : UInt8), .int .i64 0, u8 (0 : UInt8), u8 (0 : UInt8)]) :: (r7, .cells [u8 (7 : UInt8), u8 x4.Reg, .int .i64 x4.N, u8 x5, u8 x4.M.Key, u8 x4.M.Sign, .int .i64 x4.M.N, u8 x4.Key, u8 x4.Sign]) :: (r0, .cells [v2, .int .i64 x1.at_]) :: B) rfl rfl rfl rfl rfl (Nat.le_of_ble_eq_true rfl) rfl rfl ?_
    intro σ19 I18
    refine sx ?_
    refine cn ?_
    refine c_keep (keep_cons rfl (keep_cons rfl keep_nil)) ?_
    refine c_seq ?_
    refine c_reg ?_
    refine sp (.agg [u8 (7 : UInt8), u8 x4.Reg, .int .i64 x4.N, u8 x5, u8 x4.M.Key, u8 x4.M.Sign, .int .i64 x4.M.N, u8 x4.Key, u8 x4.Sign]) rfl (e_loads I18 1 0 9 rfl rfl rfl (Nat.le_of_ble_eq_true rfl)) ?_
    refine st_store I18 0 0 (cs' := [u8 (7 : UInt8), u8 x4.Reg, .int .i64 x4.N, u8 x5, u8 x4.M.Key, u8 x4.M.Sign, .int .i64 x4.M.N, u8 x4.Key, u8 x4.Sign]) (bs' := (r11, .cells [u8 (7 : UInt8), u8 x4.Reg, .int .i64 x4.N, u8 x5, u8 x4.M.Key, u8 x4.M.Sign, .int .i64 x4.M.N, u8 x4.Key, u8 x4.Sign]) :: (r7, .cells [u8 (7 : UInt8), u8 x4.Reg, .int .i64 x4.N, u8 x5, u8 x4.M.Key, u8 x4.M.Sign, .int .i64 x4.M.N, u8 x4.Key, u8 x4.Sign]) :: (r0, .cells [v2, .int .i64 x1.at_]) :: B) rfl rfl rfl rfl rfl (Nat.le_of_ble_eq_true rfl) rfl rfl ?_
    intro σ21 I20
    refine sp (.int .i64 0) rfl rfl ?_
    refine sx ?_
    refine cn ?_
    refine c_ret ?_
    refine cr ?_
    have I22 : Inv _ ((r7, .cells [u8 (7 : UInt8), u8 x4.Reg, .int .i64 x4.N, u8 x5, u8 x4.M.Key, u8 x4.M.Sign, .int .i64 x4.M.N, u8 x4.Key, u8 x4.Sign]) :: (r0, .cells [v2, .int .i64 x1.at_]) :: B) (O) := (I20.front 0 rfl).drop
    have I23 : Inv _ ((r0, .cells [v2, .int .i64 x1.at_]) :: B) (O) := (I22.front 0 rfl).drop
    obtain rfl := some_eq h
    exact rr (vs := [.agg [u8 (7 : UInt8), u8 x4.Reg, .int .i64 x4.N, u8 x5, u8 x4.M.Key, u8 x4.M.Sign, .int .i64 x4.M.N, u8 x4.Key, u8 x4.Sign], .int .i64 0]) (res_c (resp_cells I20 0 rfl rfl rfl) (res_c (resp_t rfl) res_nil)) ⟨_, _, _, rfl, ⟨_, rfl, rfl⟩, rfl, s3, I23⟩
  · have h := ite_f h b17
    refine c_cond_f x6 rfl b17 ?_
    refine c_skip ?_
    refine cn ?_
    refine c_keep (keep_cons rfl (keep_cons rfl (keep_cons rfl (keep_cons rfl keep_nil)))) ?_
    refine c_seq ?_
    refine c_reg ?_
    refine sp (.blk r0 0) rfl rfl ?_
    obtain ⟨a24, g25, h⟩ := bind_some h
    have I28 : Inv _ ((r0, .cells [v2, .int .i64 x1.at_]) :: (r11, .cells [u8 (0 : UInt8), u8 (0 : UInt8), .int .i64 0, u8 (0 : UInt8), u8 (0 : UInt8), u8 (0 : UInt8), .int .i64 0, u8 (0 : UInt8), u8 (0 : UInt8)]) :: (r7, .cells [u8 x4.Kind, u8 x4.Reg, .int .i64 x4.N, u8 x5, u8 x4.M.Key, u8 x4.M.Sign, .int .i64 x4.M.N, u8 x4.Key, u8 x4.Sign]) :: B) (O) := I15.front 2 rfl
    refine st_call (keys_reader_count_ok k _ _ g25 s3 I28) rfl ?_
    intro v26 σ29 q27
    obtain ⟨v31, v33, v35, rfl, q32, q34, s36, I30⟩ := q27
    obtain rfl := q32
    obtain rfl := q34
    refine sp (.tuple [.int .i64 a24.1, .bool a24.2.1]) rfl rfl ?_
    refine sp (.int .i64 a24.1) rfl rfl ?_
    refine sp (.bool a24.2.1) rfl rfl ?_
    refine sp (.int .i64 a24.1) rfl rfl ?_
    refine sp (.bool a24.2.1) rfl rfl ?_
    refine sx ?_
    refine cn ?_
    refine c_keep (keep_cons rfl (keep_cons rfl (keep_cons rfl (keep_cons rfl (keep_cons rfl (keep_cons rfl keep_nil)))))) ?_
    refine c_seq ?_
    refine c_seq ?_
    refine c_reg ?_
    refine sp (.bool a24.2.1) rfl rfl ?_
    refine sp (.bool (!a24.2.1)) rfl rfl ?_
    refine sp (.bool (!a24.2.1)) rfl rfl ?_
    rcases bool_tf (!a24.2.1) with b37 | b37
    · have h := ite_t h b37
      refine sg_skip (!a24.2.1) rfl b37 ?_
      refine sg_skip (!a24.2.1) rfl b37 ?_
      refine sg_skip (!a24.2.1) rfl b37 ?_
      refine sg_skip (!a24.2.1) rfl b37 ?_
      refine sg_skip (!a24.2.1) rfl b37 ?_
      refine sg_skip (!a24.2.1) rfl b37 ?_
      refine sg_skip (!a24.2.1) rfl b37 ?_
      refine sp (.bool true) rfl (e_pick_t rfl b37 rfl) ?_
      refine sx ?_
      refine cn ?_
      have I156 : Inv _ ((r11, .cells [u8 (0 : UInt8), u8 (0 : UInt8), .int .i64 0, u8 (0 : UInt8), u8 (0 : UInt8), u8 (0 : UInt8), .int .i64 0, u8 (0 : UInt8), u8 (0 : UInt8)]) :: (r0, .cells [v35, .int .i64 a24.2.2.at_]) :: (r7, .cells [u8 x4.Kind, u8 x4.Reg, .int .i64 x4.N, u8 x5, u8 x4.M.Key, u8 x4.M.Sign, .int .i64 x4.M.N, u8 x4.Key, u8 x4.Sign]) :: B) (O) := I30.front 1 rfl
      have I157 : Inv _ ((r7, .cells [u8 x4.Kind, u8 x4.Reg, .int .i64 x4.N, u8 x5, u8 x4.M.Key, u8 x4.M.Sign, .int .i64 x4.M.N, u8 x4.Key, u8 x4.Sign]) :: (r11, .cells [u8 (0 : UInt8), u8 (0 : UInt8), .int .i64 0, u8 (0 : UInt8), u8 (0 : UInt8), u8 (0 : UInt8), .int .i64 0, u8 (0 : UInt8), u8 (0 : UInt8)]) :: (r0, .cells [v35, .int .i64 a24.2.2.at_]) :: B) (O) := I156.front 2 rfl
      have I158 : Inv _ ((r0, .cells [v35, .int .i64 a24.2.2.at_]) :: (r7, .cells [u8 x4.Kind, u8 x4.Reg, .int .i64 x4.N, u8 x5, u8 x4.M.Key, u8 x4.M.Sign, .int .i64 x4.M.N, u8 x4.Key, u8 x4.Sign]) :: (r11, .cells [u8 (0 : UInt8), u8 (0 : UInt8), .int .i64 0, u8 (0 : UInt8), u8 (0 : UInt8), u8 (0 : UInt8), .int .i64 0, u8 (0 : UInt8), u8 (0 : UInt8)]) :: B) (O) := I157.front 2 rfl
      exact keys_reader_operator_j19_ok k x5 a24.1 true a24.2.2 (⟨x4.Kind, x4.Reg, x4.N, x5, x4.M, x4.Key, x4.Sign⟩ : S_keys_Cmd) (⟨(0 : UInt8), (0 : UInt8), 0, (0 : UInt8), (⟨(0 : UInt8), (0 : UInt8), 0⟩ : S_api_Motion), (0 : UInt8), (0 : UInt8)⟩ : S_keys_Cmd) h rfl rfl rfl rfl rfl rfl  s36 I158
    · have h := ite_f h b37
      refine sg_run (!a24.2.1) rfl b37 ?_
      refine sp (.int .i64 a24.1) rfl rfl ?_
      refine sg_run (!a24.2.1) rfl b37 ?_
      refine sp (.int .i64 (iMax a24.1 1)) rfl rfl ?_
      refine sg_run (!a24.2.1) rfl b37 ?_
      refine sp (.blk r7 2) rfl rfl ?_
      refine sg_run (!a24.2.1) rfl b37 ?_
      refine sp (.int .i64 x4.N) rfl (e_load I30 2 2 rfl rfl rfl) ?_
      refine sg_run (!a24.2.1) rfl b37 ?_
      refine sp (.int .i64 (iMax x4.N 1)) rfl rfl ?_
      refine sg_run (!a24.2.1) rfl b37 ?_
      refine sp (.int .i64 (IntKind.i64.wrap ((iMax a24.1 1) * (iMax x4.N 1)))) rfl rfl ?_
      refine sg_run (!a24.2.1) rfl b37 ?_
      refine sp (.bool (decide (9999 < (IntKind.i64.wrap ((iMax a24.1 1) * (iMax x4.N 1)))))) rfl rfl ?_
      refine sp (.bool (decide (9999 < (IntKind.i64.wrap ((iMax a24.1 1) * (iMax x4.N 1)))))) rfl (e_pick_f rfl b37 rfl) ?_
      refine sx ?_
      refine cn ?_
      have I159 : Inv _ ((r11, .cells [u8 (0 : UInt8), u8 (0 : UInt8), .int .i64 0, u8 (0 : UInt8), u8 (0 : UInt8), u8 (0 : UInt8), .int .i64 0, u8 (0 : UInt8), u8 (0 : UInt8)]) :: (r0, .cells [v35, .int .i64 a24.2.2.at_]) :: (r7, .cells [u8 x4.Kind, u8 x4.Reg, .int .i64 x4.N, u8 x5, u8 x4.M.Key, u8 x4.M.Sign, .int .i64 x4.M.N, u8 x4.Key, u8 x4.Sign]) :: B) (O) := I30.front 1 rfl
      have I160 : Inv _ ((r7, .cells [u8 x4.Kind, u8 x4.Reg, .int .i64 x4.N, u8 x5, u8 x4.M.Key, u8 x4.M.Sign, .int .i64 x4.M.N, u8 x4.Key, u8 x4.Sign]) :: (r11, .cells [u8 (0 : UInt8), u8 (0 : UInt8), .int .i64 0, u8 (0 : UInt8), u8 (0 : UInt8), u8 (0 : UInt8), .int .i64 0, u8 (0 : UInt8), u8 (0 : UInt8)]) :: (r0, .cells [v35, .int .i64 a24.2.2.at_]) :: B) (O) := I159.front 2 rfl
      have I161 : Inv _ ((r0, .cells [v35, .int .i64 a24.2.2.at_]) :: (r7, .cells [u8 x4.Kind, u8 x4.Reg, .int .i64 x4.N, u8 x5, u8 x4.M.Key, u8 x4.M.Sign, .int .i64 x4.M.N, u8 x4.Key, u8 x4.Sign]) :: (r11, .cells [u8 (0 : UInt8), u8 (0 : UInt8), .int .i64 0, u8 (0 : UInt8), u8 (0 : UInt8), u8 (0 : UInt8), .int .i64 0, u8 (0 : UInt8), u8 (0 : UInt8)]) :: B) (O) := I160.front 2 rfl
      exact keys_reader_operator_j19_ok k x5 a24.1 (decide (9999 < (IntKind.i64.wrap ((iMax a24.1 1) * (iMax x4.N 1))))) a24.2.2 (⟨x4.Kind, x4.Reg, x4.N, x5, x4.M, x4.Key, x4.Sign⟩ : S_keys_Cmd) (⟨(0 : UInt8), (0 : UInt8), 0, (0 : UInt8), (⟨(0 : UInt8), (0 : UInt8), 0⟩ : S_api_Motion), (0 : UInt8), (0 : UInt8)⟩ : S_keys_Cmd) h rfl rfl rfl rfl rfl rfl  s36 I161
/- (*platen.keys.reader).key -/
def keys_reader_key_j79 (k : Nat) (x5 : UInt8) (x158 : UInt8) (x159 : Bool) (x160 : S_keys_Cmd) (x161 : S_keys_Cmd) (x162 : S_keys_reader) : Option ((S_keys_Cmd × Int × S_keys_reader)) :=
  if x159 then (some (x160, 2, x162)) else (some ((⟨(6 : UInt8), x160.Reg, x160.N, x160.Op, x160.M, x5, x158⟩ : S_keys_Cmd), 0, x162))
def keys_reader_key_j65 (k : Nat) (x5 : UInt8) (x128 : Bool) (x129 : S_keys_reader) (x132 : S_keys_Cmd) (x133 : S_keys_Cmd) : Option ((S_keys_Cmd × Int × S_keys_reader)) :=
  if x128 then ((keys_reader_next k x129).bind fun a135 => if !a135.2.1 then (some (x132, 1, a135.2.2)) else (if decide ((x5.toNat : Int) = 109) then ((keys_letter k a135.1).bind fun a153 => if !a153 then (keys_reader_key_j79 k x5 a135.1 true x132 x133 a135.2.2) else (if decide ((x5.toNat : Int) = 114) then (keys_reader_key_j79 k x5 a135.1 (decide ((a135.1.toNat : Int) < 32)) x132 x133 a135.2.2) else (keys_reader_key_j79 k x5 a135.1 false x132 x133 a135.2.2))) else (if decide ((x5.toNat : Int) = 114) then (keys_reader_key_j79 k x5 a135.1 (decide ((a135.1.toNat : Int) < 32)) x132 x133 a135.2.2) else (keys_reader_key_j79 k x5 a135.1 false x132 x133 a135.2.2)))) else ((keys_reader_motion k x129 x5 x132.N).bind fun a192 => some ((⟨(1 : UInt8), x132.Reg, x132.N, x132.Op, a192.1, x132.Key, x132.Sign⟩ : S_keys_Cmd), a192.2.1, a192.2.2))
def keys_reader_key_j57 (k : Nat) (x5 : UInt8) (x6 : Bool) (x112 : Bool) (x113 : S_keys_reader) (x116 : S_keys_Cmd) (x117 : S_keys_Cmd) : Option ((S_keys_Cmd × Int × S_keys_reader)) :=
  if x112 then (some ((⟨(5 : UInt8), x116.Reg, x116.N, x116.Op, x116.M, x5, x116.Sign⟩ : S_keys_Cmd), 0, x113)) else (if decide ((x5.toNat : Int) = 109) then (keys_reader_key_j65 k x5 true x113 x116 x117) else (if decide ((x5.toNat : Int) = 114) then (keys_reader_key_j65 k x5 (!x6) x113 x116 x117) else (keys_reader_key_j65 k x5 false x113 x116 x117)))
def keys_reader_key_j49 (k : Nat) (x5 : UInt8) (x6 : Bool) (x96 : Bool) (x97 : S_keys_reader) (x100 : S_keys_Cmd) (x101 : S_keys_Cmd) : Option ((S_keys_Cmd × Int × S_keys_reader)) :=
  if x96 then (some ((⟨(7 : UInt8), x100.Reg, x100.N, (100 : UInt8), x100.M, x100.Key, x100.Sign⟩ : S_keys_Cmd), 0, x97)) else (if decide ((x5.toNat : Int) = 118) then (keys_reader_key_j57 k x5 x6 true x97 x100 x101) else (if decide ((x5.toNat : Int) = 86) then (keys_reader_key_j57 k x5 x6 true x97 x100 x101) else (if !x6 then ((strings_IndexByte k ([120, 112, 80, 105, 97, 73, 65, 111, 79, 117, 46, 74, 58] : List UInt8) x5).bind fun a229 => if decide (0 ≤ a229) then (keys_reader_key_j57 k x5 x6 true x97 x100 x101) else (keys_reader_key_j57 k x5 x6 (decide ((x5.toNat : Int) = 18)) x97 x100 x101)) else (keys_reader_key_j57 k x5 x6 false x97 x100 x101))))
def keys_reader_key (k : Nat) (x1 : S_keys_reader) (x4 : S_keys_Cmd) (x5 : UInt8) (x6 : Bool) : Option ((S_keys_Cmd × Int × S_keys_reader)) :=
  if decide ((x5.toNat : Int) = 27) then (some ((⟨(0 : UInt8), (0 : UInt8), 0, (0 : UInt8), (⟨(0 : UInt8), (0 : UInt8), 0⟩ : S_api_Motion), (0 : UInt8), (0 : UInt8)⟩ : S_keys_Cmd), 0, x1)) else ((strings_IndexByte k ([100, 99, 121, 60, 62, 61] : List UInt8) x5).bind fun a20 => if decide (0 ≤ a20) then ((keys_reader_operator k x1 x4 x5 x6).bind fun a25 => some (a25.1, a25.2.1, a25.2.2)) else (if decide ((x5.toNat : Int) = 103) then ((keys_reader_next k x1).bind fun a45 => if !a45.2.1 then (some (x4, 1, a45.2.2)) else (if decide ((a45.1.toNat : Int) = 113) then ((keys_reader_operator k a45.2.2 x4 (113 : UInt8) x6).bind fun a64 => some (a64.1, a64.2.1, a64.2.2)) else (if !decide ((a45.1.toNat : Int) = 103) then (some (x4, 2, a45.2.2)) else (some ((⟨(1 : UInt8), x4.Reg, x4.N, x4.Op, (⟨(103 : UInt8), (0 : UInt8), x4.N⟩ : S_api_Motion), x4.Key, x4.Sign⟩ : S_keys_Cmd), 0, a45.2.2))))) else (if decide ((x5.toNat : Int) = 120) then (keys_reader_key_j49 k x5 x6 x6 x1 x4 (⟨(0 : UInt8), (0 : UInt8), 0, (0 : UInt8), (⟨(0 : UInt8), (0 : UInt8), 0⟩ : S_api_Motion), (0 : UInt8), (0 : UInt8)⟩ : S_keys_Cmd)) else (keys_reader_key_j49 k x5 x6 false x1 x4 (⟨(0 : UInt8), (0 : UInt8), 0, (0 : UInt8), (⟨(0 : UInt8), (0 : UInt8), 0⟩ : S_api_Motion), (0 : UInt8), (0 : UInt8)⟩ : S_keys_Cmd)))))
theorem keys_reader_key_j79_ok (k : Nat) (x5 : UInt8) (x158 : UInt8) (x159 : Bool) (x160 : S_keys_Cmd) (x161 : S_keys_Cmd) (x162 : S_keys_reader) {r : (S_keys_Cmd × Int × S_keys_reader)} {v163 : AV} {r0 : Nat} {r11 : Nat} {r7 : Nat} {tm : List (Nat × AV)} {σ : St} {B : List (Nat × Blk)} {O : List AV}
    (h : keys_reader_key_j79 k x5 x158 x159 x160 x161 x162 = some r)
    (e2 : lk tm 2 = some (u8 x5))
    (e5 : lk tm 5 = some (.blk r7 0))
    (e8 : lk tm 8 = some (.blk r11 0))
    (e12 : lk tm 12 = some (u8 x158))
    (e128 : lk tm 128 = some (.bool x159))
    (s164 : SL RU8 1 x162.p v163)
    (I : Inv σ ((r7, .cells [u8 x160.Kind, u8 x160.Reg, .int .i64 x160.N, u8 x160.Op, u8 x160.M.Key, u8 x160.M.Sign, .int .i64 x160.M.N, u8 x160.Key, u8 x160.Sign]) :: (r11, .cells [u8 x161.Kind, u8 x161.Reg, .int .i64 x161.N, u8 x161.Op, u8 x161.M.Key, u8 x161.M.Sign, .int .i64 x161.M.N, u8 x161.Key, u8 x161.Sign]) :: (r0, .cells [v163, .int .i64 x162.at_]) :: B) (O)) :
    RunC kE k21c79 ⟨tm, σ⟩ (Cont kE k21c84 (BlkQ 0 (Cont kE k21c90 (ResP (E := kE) k21.res (fun v σ' => ∃ w0 w1 q0v0, v = .tuple [w0, w1] ∧ VAgg S_keys_Cmd.R r.1 w0 ∧ w1 = .int .i64 r.2.1 ∧ SL RU8 1 r.2.2.p q0v0 ∧ Inv σ' ((r0, .cells [q0v0, .int .i64 r.2.2.at_]) :: B) (O)))))) := by
  unfold keys_reader_key_j79 at h
  refine c_keep (keep_cons e2 (keep_cons e5 (keep_cons e8 (keep_cons e12 (keep_cons e128 keep_nil))))) ?_
  rcases bool_tf x159 with b165 | b165
  · have h := ite_t h b165
    refine c_cond_t x159 rfl b165 ?_
    refine c_seq ?_
    refine c_reg ?_
    refine sp (.agg [u8 x160.Kind, u8 x160.Reg, .int .i64 x160.N, u8 x160.Op, u8 x160.M.Key, u8 x160.M.Sign, .int .i64 x160.M.N, u8 x160.Key, u8 x160.Sign]) rfl (e_loads I 0 0 9 rfl rfl rfl (Nat.le_of_ble_eq_true rfl)) ?_
    refine st_store I 1 0 (cs' := [u8 x160.Kind, u8 x160.Reg, .int .i64 x160.N, u8 x160.Op, u8 x160.M.Key, u8 x160.M.Sign, .int .i64 x160.M.N, u8 x160.Key, u8 x160.Sign]) (bs' := (r7, .cells [u8 x160.Kind, u8 x160.Reg, .int .i64 x160.N, u8 x160.Op, u8 x160.M.Key, u8 x160.M.Sign, .int .i64 x160.M.N, u8 x160.Key, u8 x160.Sign]) :: (r11, .cells [u8 x160.Kind, u8 x160.Reg, .int .i64 x160.N, u8 x160.Op, u8 x160.M.Key, u8 x160.M.Sign, .int .i64 x160.M.N, u8 x160.Key, u8 x160.Sign]) :: (r0, .cells [v163, .int .i64 x162.at_]) :: B) rfl rfl rfl rfl rfl (Nat.le_of_ble_eq_true rfl) rfl rfl ?_
    intro σ167 I166
    refine sp (.int .i64 2) rfl rfl ?_
    refine sx ?_
    refine cn ?_
    refine c_ret ?_
    refine cr ?_
    refine br ?_
    refine cr ?_
    have I168 : Inv _ ((r11, .cells [u8 x160.Kind, u8 x160.Reg, .int .i64 x160.N, u8 x160.Op, u8 x160.M.Key, u8 x160.M.Sign, .int .i64 x160.M.N, u8 x160.Key, u8 x160.Sign]) :: (r0, .cells [v163, .int .i64 x162.at_]) :: B) (O) := (I166.front 0 rfl).drop
    have I169 : Inv _ ((r0, .cells [v163, .int .i64 x162.at_]) :: B) (O) := (I168.front 0 rfl).drop
    obtain rfl := some_eq h
    exact rr (vs := [.agg [u8 x160.Kind, u8 x160.Reg, .int .i64 x160.N, u8 x160.Op, u8 x160.M.Key, u8 x160.M.Sign, .int .i64 x160.M.N, u8 x160.Key, u8 x160.Sign], .int .i64 2]) (res_c (resp_cells I166 1 rfl rfl rfl) (res_c (resp_t rfl) res_nil)) ⟨_, _, _, rfl, ⟨_, rfl, rfl⟩, rfl, s164, I169⟩
  · have h := ite_f h b165
    refine c_cond_f x159 rfl b165 ?_
    refine c_skip ?_
    refine cn ?_
    refine c_keep (keep_cons rfl (keep_cons rfl (keep_cons rfl (keep_cons rfl keep_nil)))) ?_
    refine c_seq ?_
    refine c_reg ?_
    refine sp (u8 x5) rfl rfl ?_
    refine sp (u8 x158) rfl rfl ?_
    refine sp (.blk r7 0) rfl rfl ?_
    refine st_store I 0 0 (cs' := [u8 (6 : UInt8), u8 x160.Reg, .int .i64 x160.N, u8 x160.Op, u8 x160.M.Key, u8 x160.M.Sign, .int .i64 x160.M.N, u8 x160.Key, u8 x160.Sign]) (bs' := (r7, .cells [u8 (6 : UInt8), u8 x160.Reg, .int .i64 x160.N, u8 x160.Op, u8 x160.M.Key, u8 x160.M.Sign, .int .i64 x160.M.N, u8 x160.Key, u8 x160.Sign]) :: (r11, .cells [u8 x161.Kind, u8 x161.Reg, .int .i64 x161.N, u8 x161.Op, u8 x161.M.Key, u8 x161.M.Sign, .int .i64 x161.M.N, u8 x161.Key, u8 x161.Sign]) :: (r0, .cells [v163, .int .i64 x162.at_]) :: B) rfl rfl rfl rfl rfl (Nat.le_of_ble_eq_true rfl) rfl rfl ?_
    intro σ171 I170
    refine sp (.blk r7 7) rfl rfl ?_
    refine st_store I170 0 7 (cs' := [u8 (6 : UInt8), u8 x160.Reg, .int .i64 x160.N, u8 x160.Op, u8 x160.M.Key, u8 x160.M.Sign, .int .i64 x160.M.N, u8 x5, u8 x160.Sign]) (bs' := (r7, .cells [u8 (6 : UInt8), u8 x160.Reg, .int .i64 x160.N, u8 x160.Op, u8 x160.M.Key, u8 x160.M.Sign, .int .i64 x160.M.N, u8 x5, u8 x160.Sign]) :: (r11, .cells [u8 x161.Kind, u8 x161.Reg, .int .i64 x161.N, u8 x161.Op, u8 x161.M.Key, u8 x161.M.Sign, .int .i64 x161.M.N, u8 x161.Key, u8 x161.Sign]) :: (r0, .cells [v163, .int .i64 x162.at_]) :: B) rfl rfl rfl rfl rfl (Nat.le_of_ble_eq_true rfl) rfl rfl ?_
    intro σ173 I172
    refine sp (.blk r7 8) rfl rfl ?_
    refine st_store I172 0 8 (cs' := [u8 (6 : UInt8), u8 x160.Reg, .int .i64 x160.N, u8 x160.Op, u8 x160.M.Key, u8 x160.M.Sign, .int .i64 x160.M.N, u8 x5, u8 x158]) (bs' := (r7, .cells [u8 (6 : UInt8), u8 x160.Reg, .int .i64 x160.N, u8 x160.Op, u8 x160.M.Key, u8 x160.M.Sign, .int .i64 x160.M.N, u8 x5, u8 x158]) :: (r11, .cells [u8 x161.Kind, u8 x161.Reg, .int .i64 x161.N, u8 x161.Op, u8 x161.M.Key, u8 x161.M.Sign, .int .i64 x161.M.N, u8 x161.Key, u8 x161.Sign]) :: (r0, .cells [v163, .int .i64 x162.at_]) :: B) rfl rfl rfl rfl rfl (Nat.le_of_ble_eq_true rfl) rfl rfl ?_
    intro σ175 I174
    refine sx ?_
    refine cn ?_
    refine c_keep (keep_cons rfl (keep_cons rfl keep_nil)) ?_
    refine c_seq ?_
    refine c_reg ?_
    refine sp (.agg [u8 (6 : UInt8), u8 x160.Reg, .int .i64 x160.N, u8 x160.Op, u8 x160.M.Key, u8 x160.M.Sign, .int .i64 x160.M.N, u8 x5, u8 x158]) rfl (e_loads I174 0 0 9 rfl rfl rfl (Nat.le_of_ble_eq_true rfl)) ?_
    refine st_store I174 1 0 (cs' := [u8 (6 : UInt8), u8 x160.Reg, .int .i64 x160.N, u8 x160.Op, u8 x160.M.Key, u8 x160.M.Sign, .int .i64 x160.M.N, u8 x5, u8 x158]) (bs' := (r7, .cells [u8 (6 : UInt8), u8 x160.Reg, .int .i64 x160.N, u8 x160.Op, u8 x160.M.Key, u8 x160.M.Sign, .int .i64 x160.M.N, u8 x5, u8 x158]) :: (r11, .cells [u8 (6 : UInt8), u8 x160.Reg, .int .i64 x160.N, u8 x160.Op, u8 x160.M.Key, u8 x160.M.Sign, .int .i64 x160.M.N, u8 x5, u8 x158]) :: (r0, .cells [v163, .int .i64 x162.at_]) :: B) rfl rfl rfl rfl rfl (Nat.le_of_ble_eq_true rfl) rfl rfl ?_
    intro σ177 I176
    refine sp (.int .i64 0) rfl rfl ?_
    refine sx ?_
    refine cn ?_
    refine c_ret ?_
    refine br ?_
    refine cr ?_
    have I178 : Inv _ ((r11, .cells [u8 (6 : UInt8), u8 x160.Reg, .int .i64 x160.N, u8 x160.Op, u8 x160.M.Key, u8 x160.M.Sign, .int .i64 x160.M.N, u8 x5, u8 x158]) :: (r0, .cells [v163, .int .i64 x162.at_]) :: B) (O) := (I176.front 0 rfl).drop
    have I179 : Inv _ ((r0, .cells [v163, .int .i64 x162.at_]) :: B) (O) := (I178.front 0 rfl).drop
    obtain rfl := some_eq h
    exact rr (vs := [.agg [u8 (6 : UInt8), u8 x160.Reg, .int .i64 x160.N, u8 x160.Op, u8 x160.M.Key, u8 x160.M.Sign, .int .i64 x160.M.N, u8 x5, u8 x158], .int .i64 0]) (res_c (resp_cells I176 1 rfl rfl rfl) (res_c (resp_t rfl) res_nil)) ⟨_, _, _, rfl, ⟨_, rfl, rfl⟩, rfl, s164, I179⟩
theorem keys_reader_key_j65_ok (k : Nat) (x5 : UInt8) (x128 : Bool) (x129 : S_keys_reader) (x132 : S_keys_Cmd) (x133 : S_keys_Cmd) {r : (S_keys_Cmd × Int × S_keys_reader)} {v130 : AV} {r0 : Nat} {r11 : Nat} {r7 : Nat} {tm : List (Nat × AV)} {σ : St} {B : List (Nat × Blk)} {O : List AV}
    (h : keys_reader_key_j65 k x5 x128 x129 x132 x133 = some r)
    (e0 : lk tm 0 = some (.blk r0 0))
    (e2 : lk tm 2 = some (u8 x5))
    (e5 : lk tm 5 = some (.blk r7 0))
    (e8 : lk tm 8 = some (.blk r11 0))
    (e95 : lk tm 95 = some (.bool x128))
    (s131 : SL RU8 1 x129.p v130)
    (I : Inv σ ((r0, .cells [v130, .int .i64 x129.at_]) :: (r7, .cells [u8 x132.Kind, u8 x132.Reg, .int .i64 x132.N, u8 x132.Op, u8 x132.M.Key, u8 x132.M.Sign, .int .i64 x132.M.N, u8 x132.Key, u8 x132.Sign]) :: (r11, .cells [u8 x133.Kind, u8 x133.Reg, .int .i64 x133.N, u8 x133.Op, u8 x133.M.Key, u8 x133.M.Sign, .int .i64 x133.M.N, u8 x133.Key, u8 x133.Sign]) :: B) (O)) :
    RunC kE k21c65 ⟨tm, σ⟩ (BlkQ 0 (Cont kE k21c90 (ResP (E := kE) k21.res (fun v σ' => ∃ w0 w1 q0v0, v = .tuple [w0, w1] ∧ VAgg S_keys_Cmd.R r.1 w0 ∧ w1 = .int .i64 r.2.1 ∧ SL RU8 1 r.2.2.p q0v0 ∧ Inv σ' ((r0, .cells [q0v0, .int .i64 r.2.2.at_]) :: B) (O))))) := by
  unfold keys_reader_key_j65 at h
  refine c_keep (keep_cons e0 (keep_cons e2 (keep_cons e5 (keep_cons e8 (keep_cons e95 keep_nil))))) ?_
  rcases bool_tf x128 with b134 | b134
  · have h := ite_t h b134
    refine c_cond_t x128 rfl b134 ?_
    refine c_seq ?_
    refine c_reg ?_
    refine sp (.blk r0 0) rfl rfl ?_
    obtain ⟨a135, g136, h⟩ := bind_some h
    refine st_call (keys_reader_next_ok k _ _ g136 s131 I) rfl ?_
    intro v137 σ139 q138
    obtain ⟨v141, v143, v145, rfl, q142, q144, s146, I140⟩ := q138
    obtain rfl := q142
    obtain rfl := q144
    refine sp (.tuple [u8 a135.1, .bool a135.2.1]) rfl rfl ?_
    refine sp (u8 a135.1) rfl rfl ?_
    refine sp (.bool a135.2.1) rfl rfl ?_
    refine sp (u8 a135.1) rfl rfl ?_
    refine sp (.bool a135.2.1) rfl rfl ?_
    refine sx ?_
    refine cn ?_
    refine c_keep (keep_cons rfl (keep_cons rfl (keep_cons rfl (keep_cons rfl (keep_cons rfl keep_nil))))) ?_
    refine c_seq ?_
    refine c_seq ?_
    refine c_reg ?_
    refine sp (.bool a135.2.1) rfl rfl ?_
    refine sp (.bool (!a135.2.1)) rfl rfl ?_
    refine sx ?_
    refine cn ?_
    refine c_keep (keep_cons rfl (keep_cons rfl (keep_cons rfl (keep_cons rfl (keep_cons rfl keep_nil))))) ?_
    rcases bool_tf (!a135.2.1) with b147 | b147
    · have h := ite_t h b147
      refine c_cond_t (!a135.2.1) rfl b147 ?_
      refine c_seq ?_
      refine c_reg ?_
      refine sp (.agg [u8 x132.Kind, u8 x132.Reg, .int .i64 x132.N, u8 x132.Op, u8 x132.M.Key, u8 x132.M.Sign, .int .i64 x132.M.N, u8 x132.Key, u8 x132.Sign]) rfl (e_loads I140 1 0 9 rfl rfl rfl (Nat.le_of_ble_eq_true rfl)) ?_
      refine st_store I140 2 0 (cs' := [u8 x132.Kind, u8 x132.Reg, .int .i64 x132.N, u8 x132.Op, u8 x132.M.Key, u8 x132.M.Sign, .int .i64 x132.M.N, u8 x132.Key, u8 x132.Sign]) (bs' := (r0, .cells [v145, .int .i64 a135.2.2.at_]) :: (r7, .cells [u8 x132.Kind, u8 x132.Reg, .int .i64 x132.N, u8 x132.Op, u8 x132.M.Key, u8 x132.M.Sign, .int .i64 x132.M.N, u8 x132.Key, u8 x132.Sign]) :: (r11, .cells [u8 x132.Kind, u8 x132.Reg, .int .i64 x132.N, u8 x132.Op, u8 x132.M.Key, u8 x132.M.Sign, .int .i64 x132.M.N, u8 x132.Key, u8 x132.Sign]) :: B) rfl rfl rfl rfl rfl (Nat.le_of_ble_eq_true rfl) rfl rfl ?_
      intro σ149 I148
      refine sp (.int .i64 1) rfl rfl ?_
      refine sx ?_
      refine cn ?_
      refine c_ret ?_
      refine cr ?_
      refine br ?_
      refine cr ?_
      have I150 : Inv _ ((r0, .cells [v145, .int .i64 a135.2.2.at_]) :: (r11, .cells [u8 x132.Kind, u8 x132.Reg, .int .i64 x132.N, u8 x132.Op, u8 x132.M.Key, u8 x132.M.Sign, .int .i64 x132.M.N, u8 x132.Key, u8 x132.Sign]) :: B) (O) := (I148.front 1 rfl).drop
      have I151 : Inv _ ((r0, .cells [v145, .int .i64 a135.2.2.at_]) :: B) (O) := (I150.front 1 rfl).drop
      obtain rfl := some_eq h
      exact rr (vs := [.agg [u8 x132.Kind, u8 x132.Reg, .int .i64 x132.N, u8 x132.Op, u8 x132.M.Key, u8 x132.M.Sign, .int .i64 x132.M.N, u8 x132.Key, u8 x132.Sign], .int .i64 1]) (res_c (resp_cells I148 2 rfl rfl rfl) (res_c (resp_t rfl) res_nil)) ⟨_, _, _, rfl, ⟨_, rfl, rfl⟩, rfl, s146, I151⟩
    · have h := ite_f h b147
      refine c_cond_f (!a135.2.1) rfl b147 ?_
      refine c_skip ?_
      refine cn ?_
      refine c_keep (keep_cons rfl (keep_cons rfl (keep_cons rfl (keep_cons rfl keep_nil)))) ?_
      refine c_seq ?_
      refine c_seq ?_
      refine c_reg ?_
      refine sp (u8 x5) rfl rfl ?_
      refine sp (.bool (decide ((x5.toNat : Int) = 109))) rfl rfl ?_
      refine sp (.bool (decide ((x5.toNat : Int) = 109))) rfl rfl ?_
      rcases bool_tf (decide ((x5.toNat : Int) = 109)) with b152 | b152
      · have h := ite_t h b152
        refine sg_run (decide ((x5.toNat : Int) = 109)) rfl b152 ?_
        refine sp (u8 a135.1) rfl rfl ?_
        refine sg_run (decide ((x5.toNat : Int) = 109)) rfl b152 ?_
        obtain ⟨a153, g154, h⟩ := bind_some h
        refine st_callc (keys_letter_ok k _ _ g154 ) rfl ?_
        intro v155 q156
        obtain rfl := q156
        refine sg_run (decide ((x5.toNat : Int) = 109)) rfl b152 ?_
        refine sp (.bool (!a153)) rfl rfl ?_
        refine sp (.bool (!a153)) rfl (e_pick_t rfl b152 rfl) ?_
        refine sp (.bool (!a153)) rfl rfl ?_
        rcases bool_tf (!a153) with b157 | b157
        · have h := ite_t h b157
          refine sg_skip (!a153) rfl b157 ?_
          refine sg_skip (!a153) rfl b157 ?_
          refine sg_skip (!a153) rfl b157 ?_
          refine sg_undef rfl ?_
          refine sg_undef rfl ?_
          refine sg_skip (!a153) rfl b157 ?_
          refine sp (.bool true) rfl (e_pick_t rfl b157 rfl) ?_
          refine sx ?_
          refine cn ?_
          have I180 : Inv _ ((r11, .cells [u8 x133.Kind, u8 x133.Reg, .int .i64 x133.N, u8 x133.Op, u8 x133.M.Key, u8 x133.M.Sign, .int .i64 x133.M.N, u8 x133.Key, u8 x133.Sign]) :: (r0, .cells [v145, .int .i64 a135.2.2.at_]) :: (r7, .cells [u8 x132.Kind, u8 x132.Reg, .int .i64 x132.N, u8 x132.Op, u8 x132.M.Key, u8 x132.M.Sign, .int .i64 x132.M.N, u8 x132.Key, u8 x132.Sign]) :: B) (O) := I140.front 2 rfl
          have I181 : Inv _ ((r7, .cells [u8 x132.Kind, u8 x132.Reg, .int .i64 x132.N, u8 x132.Op, u8 x132.M.Key, u8 x132.M.Sign, .int .i64 x132.M.N, u8 x132.Key, u8 x132.Sign]) :: (r11, .cells [u8 x133.Kind, u8 x133.Reg, .int .i64 x133.N, u8 x133.Op, u8 x133.M.Key, u8 x133.M.Sign, .int .i64 x133.M.N, u8 x133.Key, u8 x133.Sign]) :: (r0, .cells [v145, .int .i64 a135.2.2.at_]) :: B) (O) := I180.front 2 rfl
          exact keys_reader_key_j79_ok k x5 a135.1 true x132 x133 a135.2.2 h rfl rfl rfl rfl rfl  s146 I181
        · have h := ite_f h b157
          refine sg_run (!a153) rfl b157 ?_
          refine sp (u8 x5) rfl rfl ?_
          refine sg_run (!a153) rfl b157 ?_
          refine sp (.bool (decide ((x5.toNat : Int) = 114))) rfl rfl ?_
          refine sg_run (!a153) rfl b157 ?_
          refine sp (.bool (decide ((x5.toNat : Int) = 114))) rfl rfl ?_
          rcases bool_tf (decide ((x5.toNat : Int) = 114)) with b182 | b182
          · have h := ite_t h b182
            refine sg_run (decide ((x5.toNat : Int) = 114)) rfl b182 ?_
            refine sp (u8 a135.1) rfl rfl ?_
            refine sg_run (decide ((x5.toNat : Int) = 114)) rfl b182 ?_
            refine sp (.bool (decide ((a135.1.toNat : Int) < 32))) rfl rfl ?_
            refine sg_run (!a153) rfl b157 ?_
            refine sp (.bool (decide ((a135.1.toNat : Int) < 32))) rfl (e_pick_t rfl b182 rfl) ?_
            refine sp (.bool (decide ((a135.1.toNat : Int) < 32))) rfl (e_pick_f rfl b157 rfl) ?_
            refine sx ?_
            refine cn ?_
            have I183 : Inv _ ((r11, .cells [u8 x133.Kind, u8 x133.Reg, .int .i64 x133.N, u8 x133.Op, u8 x133.M.Key, u8 x133.M.Sign, .int .i64 x133.M.N, u8 x133.Key, u8 x133.Sign]) :: (r0, .cells [v145, .int .i64 a135.2.2.at_]) :: (r7, .cells [u8 x132.Kind, u8 x132.Reg, .int .i64 x132.N, u8 x132.Op, u8 x132.M.Key, u8 x132.M.Sign, .int .i64 x132.M.N, u8 x132.Key, u8 x132.Sign]) :: B) (O) := I140.front 2 rfl
            have I184 : Inv _ ((r7, .cells [u8 x132.Kind, u8 x132.Reg, .int .i64 x132.N, u8 x132.Op, u8 x132.M.Key, u8 x132.M.Sign, .int .i64 x132.M.N, u8 x132.Key, u8 x132.Sign]) :: (r11, .cells [u8 x133.Kind, u8 x133.Reg, .int .i64 x133.N, u8 x133.Op, u8 x133.M.Key, u8 x133.M.Sign, .int .i64 x133.M.N, u8 x133.Key, u8 x133.Sign]) :: (r0, .cells [v145, .int .i64 a135.2.2.at_]) :: B) (O) := I183.front 2 rfl
            exact keys_reader_key_j79_ok k x5 a135.1 (decide ((a135.1.toNat : Int) < 32)) x132 x133 a135.2.2 h rfl rfl rfl rfl rfl  s146 I184
          · have h := ite_f h b182
            refine sg_skip (decide ((x5.toNat : Int) = 114)) rfl b182 ?_
            refine sg_skip (decide ((x5.toNat : Int) = 114)) rfl b182 ?_
            refine sg_run (!a153) rfl b157 ?_
            refine sp (.bool false) rfl (e_pick_f rfl b182 rfl) ?_
            refine sp (.bool false) rfl (e_pick_f rfl b157 rfl) ?_
            refine sx ?_
            refine cn ?_
            have I185 : Inv _ ((r11, .cells [u8 x133.Kind, u8 x133.Reg, .int .i64 x133.N, u8 x133.Op, u8 x133.M.Key, u8 x133.M.Sign, .int .i64 x133.M.N, u8 x133.Key, u8 x133.Sign]) :: (r0, .cells [v145, .int .i64 a135.2.2.at_]) :: (r7, .cells [u8 x132.Kind, u8 x132.Reg, .int .i64 x132.N, u8 x132.Op, u8 x132.M.Key, u8 x132.M.Sign, .int .i64 x132.M.N, u8 x132.Key, u8 x132.Sign]) :: B) (O) := I140.front 2 rfl
            have I186 : Inv _ ((r7, .cells [u8 x132.Kind, u8 x132.Reg, .int .i64 x132.N, u8 x132.Op, u8 x132.M.Key, u8 x132.M.Sign, .int .i64 x132.M.N, u8 x132.Key, u8 x132.Sign]) :: (r11, .cells [u8 x133.Kind, u8 x133.Reg, .int .i64 x133.N, u8 x133.Op, u8 x133.M.Key, u8 x133.M.Sign, .int .i64 x133.M.N, u8 x133.Key, u8 x133.Sign]) :: (r0, .cells [v145, .int .i64 a135.2.2.at_]) :: B) (O) := I185.front 2 rfl
            exact keys_reader_key_j79_ok k x5 a135.1 false x132 x133 a135.2.2 h rfl rfl rfl rfl rfl  s146 I186
      · have h := ite_f h b152
        refine sg_skip (decide ((x5.toNat : Int) = 109)) rfl b152 ?_
        refine sg_skip (decide ((x5.toNat : Int) = 109)) rfl b152 ?_
        refine sg_skip (decide ((x5.toNat : Int) = 109)) rfl b152 ?_
        refine sp (.bool false) rfl (e_pick_f rfl b152 rfl) ?_
        refine sp (.bool false) rfl rfl ?_
        refine sg_run false rfl rfl ?_
        refine sp (u8 x5) rfl rfl ?_
        refine sg_run false rfl rfl ?_
        refine sp (.bool (decide ((x5.toNat : Int) = 114))) rfl rfl ?_
        refine sg_run false rfl rfl ?_
        refine sp (.bool (decide ((x5.toNat : Int) = 114))) rfl rfl ?_
        rcases bool_tf (decide ((x5.toNat : Int) = 114)) with b187 | b187
        · have h := ite_t h b187
          refine sg_run (decide ((x5.toNat : Int) = 114)) rfl b187 ?_
          refine sp (u8 a135.1) rfl rfl ?_
          refine sg_run (decide ((x5.toNat : Int) = 114)) rfl b187 ?_
          refine sp (.bool (decide ((a135.1.toNat : Int) < 32))) rfl rfl ?_
          refine sg_run false rfl rfl ?_
          refine sp (.bool (decide ((a135.1.toNat : Int) < 32))) rfl (e_pick_t rfl b187 rfl) ?_
          refine sp (.bool (decide ((a135.1.toNat : Int) < 32))) rfl (e_pick_f rfl rfl rfl) ?_
          refine sx ?_
          refine cn ?_
          have I188 : Inv _ ((r11, .cells [u8 x133.Kind, u8 x133.Reg, .int .i64 x133.N, u8 x133.Op, u8 x133.M.Key, u8 x133.M.Sign, .int .i64 x133.M.N, u8 x133.Key, u8 x133.Sign]) :: (r0, .cells [v145, .int .i64 a135.2.2.at_]) :: (r7, .cells [u8 x132.Kind, u8 x132.Reg, .int .i64 x132.N, u8 x132.Op, u8 x132.M.Key, u8 x132.M.Sign, .int .i64 x132.M.N, u8 x132.Key, u8 x132.Sign]) :: B) (O) := I140.front 2 rfl
          have I189 : Inv _ ((r7, .cells [u8 x132.Kind, u8 x132.Reg, .int .i64 x132.N, u8 x132.Op, u8 x132.M.Key, u8 x132.M.Sign, .int .i64 x132.M.N, u8 x132.Key, u8 x132.Sign]) :: (r11, .cells [u8 x133.Kind, u8 x133.Reg, .int .i64 x133.N, u8 x133.Op, u8 x133.M.Key, u8 x133.M.Sign, .int .i64 x133.M.N, u8 x133.Key, u8 x133.Sign]) :: (r0, .cells [v145, .int .i64 a135.2.2.at_]) :: B) (O) := I188.front 2 rfl
          exact keys_reader_key_j79_ok k x5 a135.1 (decide ((a135.1.toNat : Int) < 32)) x132 x133 a135.2.2 h rfl rfl rfl rfl rfl  s146 I189
        · have h := ite_f h b187
          refine sg_skip (decide ((x5.toNat : Int) = 114)) rfl b187 ?_
          refine sg_skip (decide ((x5.toNat : Int) = 114)) rfl b187 ?_
          refine sg_run false rfl rfl ?_
          refine sp (.bool false) rfl (e_pick_f rfl b187 rfl) ?_
          refine sp (.bool false) rfl (e_pick_f rfl rfl rfl) ?_
          refine sx ?_
          refine cn ?_
          have I190 : Inv _ ((r11, .cells [u8 x133.Kind, u8 x133.Reg, .int .i64 x133.N, u8 x133.Op, u8 x133.M.Key, u8 x133.M.Sign, .int .i64 x133.M.N, u8 x133.Key, u8 x133.Sign]) :: (r0, .cells [v145, .int .i64 a135.2.2.at_]) :: (r7, .cells [u8 x132.Kind, u8 x132.Reg, .int .i64 x132.N, u8 x132.Op, u8 x132.M.Key, u8 x132.M.Sign, .int .i64 x132.M.N, u8 x132.Key, u8 x132.Sign]) :: B) (O) := I140.front 2 rfl
          have I191 : Inv _ ((r7, .cells [u8 x132.Kind, u8 x132.Reg, .int .i64 x132.N, u8 x132.Op, u8 x132.M.Key, u8 x132.M.Sign, .int .i64 x132.M.N, u8 x132.Key, u8 x132.Sign]) :: (r11, .cells [u8 x133.Kind, u8 x133.Reg, .int .i64 x133.N, u8 x133.Op, u8 x133.M.Key, u8 x133.M.Sign, .int .i64 x133.M.N, u8 x133.Key, u8 x133.Sign]) :: (r0, .cells [v145, .int .i64 a135.2.2.at_]) :: B) (O) := I190.front 2 rfl
          exact keys_reader_key_j79_ok k x5 a135.1 false x132 x133 a135.2.2 h rfl rfl rfl rfl rfl  s146 I191
  · have h := ite_f h b134
    refine c_cond_f x128 rfl b134 ?_
    refine c_skip ?_
    refine bn ?_
    refine cn ?_
    refine c_keep (keep_cons rfl (keep_cons rfl (keep_cons rfl (keep_cons rfl keep_nil)))) ?_
    refine c_seq ?_
    refine c_reg ?_
    refine sp (.blk r0 0) rfl rfl ?_
    refine sp (u8 x5) rfl rfl ?_
    refine sp (.blk r7 2) rfl rfl ?_
    refine sp (.int .i64 x132.N) rfl (e_load I 1 2 rfl rfl rfl) ?_
    obtain ⟨a192, g193, h⟩ := bind_some h
    refine st_call (keys_reader_motion_ok k _ _ _ _ g193 s131 I) rfl ?_
    intro v194 σ196 q195
    obtain ⟨v198, v200, v202, rfl, q199, q201, s203, I197⟩ := q195
    obtain ⟨c204, rfl, q205⟩ := q199
    obtain rfl := q205
    obtain rfl := q201
    refine sp (.tuple [.agg [u8 a192.1.Key, u8 a192.1.Sign, .int .i64 a192.1.N], .int .i64 a192.2.1]) rfl rfl ?_
    refine sp (.agg [u8 a192.1.Key, u8 a192.1.Sign, .int .i64 a192.1.N]) rfl rfl ?_
    refine sp (.int .i64 a192.2.1) rfl rfl ?_
    refine st_alloc I197 ?_
    intro r206 σ207 I208
    have I209 : Inv _ ((r206, .cells [u8 (0 : UInt8), u8 (0 : UInt8), .int .i64 0]) :: (r0, .cells [v202, .int .i64 a192.2.2.at_]) :: (r7, .cells [u8 x132.Kind, u8 x132.Reg, .int .i64 x132.N, u8 x132.Op, u8 x132.M.Key, u8 x132.M.Sign, .int .i64 x132.M.N, u8 x132.Key, u8 x132.Sign]) :: (r11, .cells [u8 x133.Kind, u8 x133.Reg, .int .i64 x133.N, u8 x133.Op, u8 x133.M.Key, u8 x133.M.Sign, .int .i64 x133.M.N, u8 x133.Key, u8 x133.Sign]) :: B) (O) := I208
    refine st_store I209 0 0 (cs' := [u8 a192.1.Key, u8 a192.1.Sign, .int .i64 a192.1.N]) (bs' := (r206, .cells [u8 a192.1.Key, u8 a192.1.Sign, .int .i64 a192.1.N]) :: (r0, .cells [v202, .int .i64 a192.2.2.at_]) :: (r7, .cells [u8 x132.Kind, u8 x132.Reg, .int .i64 x132.N, u8 x132.Op, u8 x132.M.Key, u8 x132.M.Sign, .int .i64 x132.M.N, u8 x132.Key, u8 x132.Sign]) :: (r11, .cells [u8 x133.Kind, u8 x133.Reg, .int .i64 x133.N, u8 x133.Op, u8 x133.M.Key, u8 x133.M.Sign, .int .i64 x133.M.N, u8 x133.Key, u8 x133.Sign]) :: B) rfl rfl rfl rfl rfl (Nat.le_of_ble_eq_true rfl) rfl rfl ?_
    intro σ211 I210
    refine sp (.int .i64 a192.2.1) rfl rfl ?_
    refine sx ?_
    refine cn ?_
    refine c_keep (keep_cons rfl (keep_cons rfl (keep_cons rfl (keep_cons rfl keep_nil)))) ?_
    refine c_seq ?_
    refine c_regd ?_
    refine rt ?_
    refine sp (.agg [u8 a192.1.Key, u8 a192.1.Sign, .int .i64 a192.1.N]) rfl (e_loads I210 0 0 3 rfl rfl rfl (Nat.le_of_ble_eq_true rfl)) ?_
    refine sx ⟨_, _, rfl, fun ev212 => ?_⟩
    refine rt ?_
    refine sp (.blk r7 0) rfl rfl ?_
    refine sx ⟨_, _, rfl, fun ev213 => ?_⟩
    refine rtn ?_
    refine st_store I210 2 0 (cs' := [u8 (1 : UInt8), u8 x132.Reg, .int .i64 x132.N, u8 x132.Op, u8 x132.M.Key, u8 x132.M.Sign, .int .i64 x132.M.N, u8 x132.Key, u8 x132.Sign]) (bs' := (r206, .cells [u8 a192.1.Key, u8 a192.1.Sign, .int .i64 a192.1.N]) :: (r0, .cells [v202, .int .i64 a192.2.2.at_]) :: (r7, .cells [u8 (1 : UInt8), u8 x132.Reg, .int .i64 x132.N, u8 x132.Op, u8 x132.M.Key, u8 x132.M.Sign, .int .i64 x132.M.N, u8 x132.Key, u8 x132.Sign]) :: (r11, .cells [u8 x133.Kind, u8 x133.Reg, .int .i64 x133.N, u8 x133.Op, u8 x133.M.Key, u8 x133.M.Sign, .int .i64 x133.M.N, u8 x133.Key, u8 x133.Sign]) :: B) rfl rfl rfl rfl rfl (Nat.le_of_ble_eq_true rfl) rfl rfl ?_
    intro σ215 I214
    refine sx ⟨_, rfl, fun _ ev216 => ?_⟩
    refine rt ?_
    refine sp (.blk r7 4) rfl rfl ?_
    refine sx ⟨_, _, rfl, fun ev217 => ?_⟩
    refine rtn ?_
    refine st_store I214 2 4 (cs' := [u8 (1 : UInt8), u8 x132.Reg, .int .i64 x132.N, u8 x132.Op, u8 a192.1.Key, u8 a192.1.Sign, .int .i64 a192.1.N, u8 x132.Key, u8 x132.Sign]) (bs' := (r206, .cells [u8 a192.1.Key, u8 a192.1.Sign, .int .i64 a192.1.N]) :: (r0, .cells [v202, .int .i64 a192.2.2.at_]) :: (r7, .cells [u8 (1 : UInt8), u8 x132.Reg, .int .i64 x132.N, u8 x132.Op, u8 a192.1.Key, u8 a192.1.Sign, .int .i64 a192.1.N, u8 x132.Key, u8 x132.Sign]) :: (r11, .cells [u8 x133.Kind, u8 x133.Reg, .int .i64 x133.N, u8 x133.Op, u8 x133.M.Key, u8 x133.M.Sign, .int .i64 x133.M.N, u8 x133.Key, u8 x133.Sign]) :: B) rfl rfl rfl rfl rfl (Nat.le_of_ble_eq_true rfl) rfl rfl ?_
    intro σ219 I218
    refine sx ⟨_, rfl, fun _ ev220 => ?_⟩
    refine tx ?_
    refine ⟨(re_cons (re_pure _ rfl rfl rfl rfl (e_loads I214 0 0 3 rfl rfl rfl (Nat.le_of_ble_eq_true rfl))) re_nil), ?_⟩
    refine cn ?_
    refine c_keep (keep_cons rfl (keep_cons rfl (keep_cons rfl keep_nil))) ?_
    refine c_seq ?_
    refine c_reg ?_
    refine sp (.agg [u8 (1 : UInt8), u8 x132.Reg, .int .i64 x132.N, u8 x132.Op, u8 a192.1.Key, u8 a192.1.Sign, .int .i64 a192.1.N, u8 x132.Key, u8 x132.Sign]) rfl (e_loads I218 2 0 9 rfl rfl rfl (Nat.le_of_ble_eq_true rfl)) ?_
    refine sp (.int .i64 a192.2.1) rfl rfl ?_
    refine st_store I218 3 0 (cs' := [u8 (1 : UInt8), u8 x132.Reg, .int .i64 x132.N, u8 x132.Op, u8 a192.1.Key, u8 a192.1.Sign, .int .i64 a192.1.N, u8 x132.Key, u8 x132.Sign]) (bs' := (r206, .cells [u8 a192.1.Key, u8 a192.1.Sign, .int .i64 a192.1.N]) :: (r0, .cells [v202, .int .i64 a192.2.2.at_]) :: (r7, .cells [u8 (1 : UInt8), u8 x132.Reg, .int .i64 x132.N, u8 x132.Op, u8 a192.1.Key, u8 a192.1.Sign, .int .i64 a192.1.N, u8 x132.Key, u8 x132.Sign]) :: (r11, .cells [u8 (1 : UInt8), u8 x132.Reg, .int .i64 x132.N, u8 x132.Op, u8 a192.1.Key, u8 a192.1.Sign, .int .i64 a192.1.N, u8 x132.Key, u8 x132.Sign]) :: B) rfl rfl rfl rfl rfl (Nat.le_of_ble_eq_true rfl) rfl rfl ?_
    intro σ222 I221
    refine sp (.int .i64 a192.2.1) rfl rfl ?_
    refine sx ?_
    refine cn ?_
    refine c_ret ?_
    have I223 : Inv _ ((r0, .cells [v202, .int .i64 a192.2.2.at_]) :: (r7, .cells [u8 (1 : UInt8), u8 x132.Reg, .int .i64 x132.N, u8 x132.Op, u8 a192.1.Key, u8 a192.1.Sign, .int .i64 a192.1.N, u8 x132.Key, u8 x132.Sign]) :: (r11, .cells [u8 (1 : UInt8), u8 x132.Reg, .int .i64 x132.N, u8 x132.Op, u8 a192.1.Key, u8 a192.1.Sign, .int .i64 a192.1.N, u8 x132.Key, u8 x132.Sign]) :: B) (O) := (I221.front 0 rfl).drop
    have I224 : Inv _ ((r0, .cells [v202, .int .i64 a192.2.2.at_]) :: (r11, .cells [u8 (1 : UInt8), u8 x132.Reg, .int .i64 x132.N, u8 x132.Op, u8 a192.1.Key, u8 a192.1.Sign, .int .i64 a192.1.N, u8 x132.Key, u8 x132.Sign]) :: B) (O) := (I223.front 1 rfl).drop
    have I225 : Inv _ ((r0, .cells [v202, .int .i64 a192.2.2.at_]) :: B) (O) := (I224.front 1 rfl).drop
    obtain rfl := some_eq h
    exact rr (vs := [.agg [u8 (1 : UInt8), u8 x132.Reg, .int .i64 x132.N, u8 x132.Op, u8 a192.1.Key, u8 a192.1.Sign, .int .i64 a192.1.N, u8 x132.Key, u8 x132.Sign], .int .i64 a192.2.1]) (res_c (resp_cells I221 3 rfl rfl rfl) (res_c (resp_t rfl) res_nil)) ⟨_, _, _, rfl, ⟨_, rfl, rfl⟩, rfl, s203, I225⟩
theorem keys_reader_key_j57_ok (k : Nat) (x5 : UInt8) (x6 : Bool) (x112 : Bool) (x113 : S_keys_reader) (x116 : S_keys_Cmd) (x117 : S_keys_Cmd) {r : (S_keys_Cmd × Int × S_keys_reader)} {v114 : AV} {r0 : Nat} {r11 : Nat} {r7 : Nat} {tm : List (Nat × AV)} {σ : St} {B : List (Nat × Blk)} {O : List AV}
    (h : keys_reader_key_j57 k x5 x6 x112 x113 x116 x117 = some r)
    (e0 : lk tm 0 = some (.blk r0 0))
    (e2 : lk tm 2 = some (u8 x5))
    (e3 : lk tm 3 = some (.bool x6))
    (e5 : lk tm 5 = some (.blk r7 0))
    (e8 : lk tm 8 = some (.blk r11 0))
    (e71 : lk tm 71 = some (.bool x112))
    (s115 : SL RU8 1 x113.p v114)
    (I : Inv σ ((r0, .cells [v114, .int .i64 x113.at_]) :: (r7, .cells [u8 x116.Kind, u8 x116.Reg, .int .i64 x116.N, u8 x116.Op, u8 x116.M.Key, u8 x116.M.Sign, .int .i64 x116.M.N, u8 x116.Key, u8 x116.Sign]) :: (r11, .cells [u8 x117.Kind, u8 x117.Reg, .int .i64 x117.N, u8 x117.Op, u8 x117.M.Key, u8 x117.M.Sign, .int .i64 x117.M.N, u8 x117.Key, u8 x117.Sign]) :: B) (O)) :
    RunC kE k21c57 ⟨tm, σ⟩ (BlkQ 0 (Cont kE k21c90 (ResP (E := kE) k21.res (fun v σ' => ∃ w0 w1 q0v0, v = .tuple [w0, w1] ∧ VAgg S_keys_Cmd.R r.1 w0 ∧ w1 = .int .i64 r.2.1 ∧ SL RU8 1 r.2.2.p q0v0 ∧ Inv σ' ((r0, .cells [q0v0, .int .i64 r.2.2.at_]) :: B) (O))))) := by
  unfold keys_reader_key_j57 at h
  refine c_keep (keep_cons e0 (keep_cons e2 (keep_cons e3 (keep_cons e5 (keep_cons e8 (keep_cons e71 keep_nil)))))) ?_
  rcases bool_tf x112 with b118 | b118
  · have h := ite_t h b118
    refine c_cond_t x112 rfl b118 ?_
    refine c_seq ?_
    refine c_reg ?_
    refine sp (u8 x5) rfl rfl ?_
    refine sp (.blk r7 0) rfl rfl ?_
    refine st_store I 1 0 (cs' := [u8 (5 : UInt8), u8 x116.Reg, .int .i64 x116.N, u8 x116.Op, u8 x116.M.Key, u8 x116.M.Sign, .int .i64 x116.M.N, u8 x116.Key, u8 x116.Sign]) (bs' := (r0, .cells [v114, .int .i64 x113.at_]) :: (r7, .cells [u8 (5 : UInt8), u8 x116.Reg, .int .i64 x116.N, u8 x116.Op, u8 x116.M.Key, u8 x116.M.Sign, .int .i64 x116.M.N, u8 x116.Key, u8 x116.Sign]) :: (r11, .cells [u8 x117.Kind, u8 x117.Reg, .int .i64 x117.N, u8 x117.Op, u8 x117.M.Key, u8 x117.M.Sign, .int .i64 x117.M.N, u8 x117.Key, u8 x117.Sign]) :: B) rfl rfl rfl rfl rfl (Nat.le_of_ble_eq_true rfl) rfl rfl ?_
    intro σ120 I119
    refine sp (.blk r7 7) rfl rfl ?_
    refine st_store I119 1 7 (cs' := [u8 (5 : UInt8), u8 x116.Reg, .int .i64 x116.N, u8 x116.Op, u8 x116.M.Key, u8 x116.M.Sign, .int .i64 x116.M.N, u8 x5, u8 x116.Sign]) (bs' := (r0, .cells [v114, .int .i64 x113.at_]) :: (r7, .cells [u8 (5 : UInt8), u8 x116.Reg, .int .i64 x116.N, u8 x116.Op, u8 x116.M.Key, u8 x116.M.Sign, .int .i64 x116.M.N, u8 x5, u8 x116.Sign]) :: (r11, .cells [u8 x117.Kind, u8 x117.Reg, .int .i64 x117.N, u8 x117.Op, u8 x117.M.Key, u8 x117.M.Sign, .int .i64 x117.M.N, u8 x117.Key, u8 x117.Sign]) :: B) rfl rfl rfl rfl rfl (Nat.le_of_ble_eq_true rfl) rfl rfl ?_
    intro σ122 I121
    refine sx ?_
    refine cn ?_
    refine c_keep (keep_cons rfl (keep_cons rfl keep_nil)) ?_
    refine c_seq ?_
    refine c_reg ?_
    refine sp (.agg [u8 (5 : UInt8), u8 x116.Reg, .int .i64 x116.N, u8 x116.Op, u8 x116.M.Key, u8 x116.M.Sign, .int .i64 x116.M.N, u8 x5, u8 x116.Sign]) rfl (e_loads I121 1 0 9 rfl rfl rfl (Nat.le_of_ble_eq_true rfl)) ?_
    refine st_store I121 2 0 (cs' := [u8 (5 : UInt8), u8 x116.Reg, .int .i64 x116.N, u8 x116.Op, u8 x116.M.Key, u8 x116.M.Sign, .int .i64 x116.M.N, u8 x5, u8 x116.Sign]) (bs' := (r0, .cells [v114, .int .i64 x113.at_]) :: (r7, .cells [u8 (5 : UInt8), u8 x116.Reg, .int .i64 x116.N, u8 x116.Op, u8 x116.M.Key, u8 x116.M.Sign, .int .i64 x116.M.N, u8 x5, u8 x116.Sign]) :: (r11, .cells [u8 (5 : UInt8), u8 x116.Reg, .int .i64 x116.N, u8 x116.Op, u8 x116.M.Key, u8 x116.M.Sign, .int .i64 x116.M.N, u8 x5, u8 x116.Sign]) :: B) rfl rfl rfl rfl rfl (Nat.le_of_ble_eq_true rfl) rfl rfl ?_
    intro σ124 I123
    refine sp (.int .i64 0) rfl rfl ?_
    refine sx ?_
    refine cn ?_
    refine c_ret ?_
    refine br ?_
    refine cr ?_
    have I125 : Inv _ ((r0, .cells [v114, .int .i64 x113.at_]) :: (r11, .cells [u8 (5 : UInt8), u8 x116.Reg, .int .i64 x116.N, u8 x116.Op, u8 x116.M.Key, u8 x116.M.Sign, .int .i64 x116.M.N, u8 x5, u8 x116.Sign]) :: B) (O) := (I123.front 1 rfl).drop
    have I126 : Inv _ ((r0, .cells [v114, .int .i64 x113.at_]) :: B) (O) := (I125.front 1 rfl).drop
    obtain rfl := some_eq h
    exact rr (vs := [.agg [u8 (5 : UInt8), u8 x116.Reg, .int .i64 x116.N, u8 x116.Op, u8 x116.M.Key, u8 x116.M.Sign, .int .i64 x116.M.N, u8 x5, u8 x116.Sign], .int .i64 0]) (res_c (resp_cells I123 2 rfl rfl rfl) (res_c (resp_t rfl) res_nil)) ⟨_, _, _, rfl, ⟨_, rfl, rfl⟩, rfl, s115, I126⟩
  · have h := ite_f h b118
    refine c_cond_f x112 rfl b118 ?_
    refine c_seq ?_
    refine c_reg ?_
    refine sp (u8 x5) rfl rfl ?_
    refine sp (.bool (decide ((x5.toNat : Int) = 109))) rfl rfl ?_
    refine sp (.bool (decide ((x5.toNat : Int) = 109))) rfl rfl ?_
    rcases bool_tf (decide ((x5.toNat : Int) = 109)) with b127 | b127
    · have h := ite_t h b127
      refine sg_skip (decide ((x5.toNat : Int) = 109)) rfl b127 ?_
      refine sg_skip (decide ((x5.toNat : Int) = 109)) rfl b127 ?_
      refine sg_skip (decide ((x5.toNat : Int) = 109)) rfl b127 ?_
      refine sg_undef rfl ?_
      refine sg_undef rfl ?_
      refine sg_skip (decide ((x5.toNat : Int) = 109)) rfl b127 ?_
      refine sp (.bool true) rfl (e_pick_t rfl b127 rfl) ?_
      refine sp (.bool true) rfl rfl ?_
      refine sx ?_
      refine cn ?_
      exact keys_reader_key_j65_ok k x5 true x113 x116 x117 h rfl rfl rfl rfl rfl  s115 I
    · have h := ite_f h b127
      refine sg_run (decide ((x5.toNat : Int) = 109)) rfl b127 ?_
      refine sp (u8 x5) rfl rfl ?_
      refine sg_run (decide ((x5.toNat : Int) = 109)) rfl b127 ?_
      refine sp (.bool (decide ((x5.toNat : Int) = 114))) rfl rfl ?_
      refine sg_run (decide ((x5.toNat : Int) = 109)) rfl b127 ?_
      refine sp (.bool (decide ((x5.toNat : Int) = 114))) rfl rfl ?_
      rcases bool_tf (decide ((x5.toNat : Int) = 114)) with b226 | b226
      · have h := ite_t h b226
        refine sg_run (decide ((x5.toNat : Int) = 114)) rfl b226 ?_
        refine sp (.bool x6) rfl rfl ?_
        refine sg_run (decide ((x5.toNat : Int) = 114)) rfl b226 ?_
        refine sp (.bool (!x6)) rfl rfl ?_
        refine sg_run (decide ((x5.toNat : Int) = 109)) rfl b127 ?_
        refine sp (.bool (!x6)) rfl (e_pick_t rfl b226 rfl) ?_
        refine sp (.bool (!x6)) rfl (e_pick_f rfl b127 rfl) ?_
        refine sp (.bool (!x6)) rfl rfl ?_
        refine sx ?_
        refine cn ?_
        exact keys_reader_key_j65_ok k x5 (!x6) x113 x116 x117 h rfl rfl rfl rfl rfl  s115 I
      · have h := ite_f h b226
        refine sg_skip (decide ((x5.toNat : Int) = 114)) rfl b226 ?_
        refine sg_skip (decide ((x5.toNat : Int) = 114)) rfl b226 ?_
        refine sg_run (decide ((x5.toNat : Int) = 109)) rfl b127 ?_
        refine sp (.bool false) rfl (e_pick_f rfl b226 rfl) ?_
        refine sp (.bool false) rfl (e_pick_f rfl b127 rfl) ?_
        refine sp (.bool false) rfl rfl ?_
        refine sx ?_
        refine cn ?_
        exact keys_reader_key_j65_ok k x5 false x113 x116 x117 h rfl rfl rfl rfl rfl  s115 I
theorem keys_reader_key_j49_ok (k : Nat) (x5 : UInt8) (x6 : Bool) (x96 : Bool) (x97 : S_keys_reader) (x100 : S_keys_Cmd) (x101 : S_keys_Cmd) {r : (S_keys_Cmd × Int × S_keys_reader)} {v98 : AV} {r0 : Nat} {r11 : Nat} {r7 : Nat} {tm : List (Nat × AV)} {σ : St} {B : List (Nat × Blk)} {O : List AV}
    (h : keys_reader_key_j49 k x5 x6 x96 x97 x100 x101 = some r)
    (e0 : lk tm 0 = some (.blk r0 0))
    (e2 : lk tm 2 = some (u8 x5))
    (e3 : lk tm 3 = some (.bool x6))
    (e5 : lk tm 5 = some (.blk r7 0))
    (e8 : lk tm 8 = some (.blk r11 0))
    (e62 : lk tm 62 = some (.bool x96))
    (s99 : SL RU8 1 x97.p v98)
    (I : Inv σ ((r0, .cells [v98, .int .i64 x97.at_]) :: (r7, .cells [u8 x100.Kind, u8 x100.Reg, .int .i64 x100.N, u8 x100.Op, u8 x100.M.Key, u8 x100.M.Sign, .int .i64 x100.M.N, u8 x100.Key, u8 x100.Sign]) :: (r11, .cells [u8 x101.Kind, u8 x101.Reg, .int .i64 x101.N, u8 x101.Op, u8 x101.M.Key, u8 x101.M.Sign, .int .i64 x101.M.N, u8 x101.Key, u8 x101.Sign]) :: B) (O)) :
    RunC kE k21c49 ⟨tm, σ⟩ (BlkQ 0 (Cont kE k21c90 (ResP (E := kE) k21.res (fun v σ' => ∃ w0 w1 q0v0, v = .tuple [w0, w1] ∧ VAgg S_keys_Cmd.R r.1 w0 ∧ w1 = .int .i64 r.2.1 ∧ SL RU8 1 r.2.2.p q0v0 ∧ Inv σ' ((r0, .cells [q0v0, .int .i64 r.2.2.at_]) :: B) (O))))) := by
  unfold keys_reader_key_j49 at h
  refine c_keep (keep_cons e0 (keep_cons e2 (keep_cons e3 (keep_cons e5 (keep_cons e8 (keep_cons e62 keep_nil)))))) ?_
  rcases bool_tf x96 with b102 | b102
  · have h := ite_t h b102
    refine c_cond_t x96 rfl b102 ?_
    refine c_seq ?_
    refine c_reg ?_
    refine sp (.blk r7 0) rfl rfl ?_
    refine st_store I 1 0 (cs' := [u8 (7 : UInt8), u8 x100.Reg, .int .i64 x100.N, u8 x100.Op, u8 x100.M.Key, u8 x100.M.Sign, .int .i64 x100.M.N, u8 x100.Key, u8 x100.Sign]) (bs' := (r0, .cells [v98, .int .i64 x97.at_]) :: (r7, .cells [u8 (7 : UInt8), u8 x100.Reg, .int .i64 x100.N, u8 x100.Op, u8 x100.M.Key, u8 x100.M.Sign, .int .i64 x100.M.N, u8 x100.Key, u8 x100.Sign]) :: (r11, .cells [u8 x101.Kind, u8 x101.Reg, .int .i64 x101.N, u8 x101.Op, u8 x101.M.Key, u8 x101.M.Sign, .int .i64 x101.M.N, u8 x101.Key, u8 x101.Sign]) :: B) rfl rfl rfl rfl rfl (Nat.le_of_ble_eq_true rfl) rfl rfl ?_
    intro σ104 I103
    refine sp (.blk r7 3) rfl rfl ?_
    refine st_store I103 1 3 (cs' := [u8 (7 : UInt8), u8 x100.Reg, .int .i64 x100.N, u8 (100 : UInt8), u8 x100.M.Key, u8 x100.M.Sign, .int .i64 x100.M.N, u8 x100.Key, u8 x100.Sign]) (bs' := (r0, .cells [v98, .int .i64 x97.at_]) :: (r7, .cells [u8 (7 : UInt8), u8 x100.Reg, .int .i64 x100.N, u8 (100 : UInt8), u8 x100.M.Key, u8 x100.M.Sign, .int .i64 x100.M.N, u8 x100.Key, u8 x100.Sign]) :: (r11, .cells [u8 x101.Kind, u8 x101.Reg, .int .i64 x101.N, u8 x101.Op, u8 x101.M.Key, u8 x101.M.Sign, .int .i64 x101.M.N, u8 x101.Key, u8 x101.Sign]) :: B) rfl rfl rfl rfl rfl (Nat.le_of_ble_eq_true rfl) rfl rfl ?_
    intro σ106 I105
    refine sx ?_
    refine cn ?_
    refine c_keep (keep_cons rfl (keep_cons rfl keep_nil)) ?_
    refine c_seq ?_
    refine c_reg ?_
    refine sp (.agg [u8 (7 : UInt8), u8 x100.Reg, .int .i64 x100.N, u8 (100 : UInt8), u8 x100.M.Key, u8 x100.M.Sign, .int .i64 x100.M.N, u8 x100.Key, u8 x100.Sign]) rfl (e_loads I105 1 0 9 rfl rfl rfl (Nat.le_of_ble_eq_true rfl)) ?_
    refine st_store I105 2 0 (cs' := [u8 (7 : UInt8), u8 x100.Reg, .int .i64 x100.N, u8 (100 : UInt8), u8 x100.M.Key, u8 x100.M.Sign, .int .i64 x100.M.N, u8 x100.Key, u8 x100.Sign]) (bs' := (r0, .cells [v98, .int .i64 x97.at_]) :: (r7, .cells [u8 (7 : UInt8), u8 x100.Reg, .int .i64 x100.N, u8 (100 : UInt8), u8 x100.M.Key, u8 x100.M.Sign, .int .i64 x100.M.N, u8 x100.Key, u8 x100.Sign]) :: (r11, .cells [u8 (7 : UInt8), u8 x100.Reg, .int .i64 x100.N, u8 (100 : UInt8), u8 x100.M.Key, u8 x100.M.Sign, .int .i64 x100.M.N, u8 x100.Key, u8 x100.Sign]) :: B) rfl rfl rfl rfl rfl (Nat.le_of_ble_eq_true rfl) rfl rfl ?_
    intro σ108 I107
    refine sp (.int .i64 0) rfl rfl ?_
    refine sx ?_
    refine cn ?_
    refine c_ret ?_
    refine br ?_
    refine cr ?_
    have I109 : Inv _ ((r0, .cells [v98, .int .i64 x97.at_]) :: (r11, .cells [u8 (7 : UInt8), u8 x100.Reg, .int .i64 x100.N, u8 (100 : UInt8), u8 x100.M.Key, u8 x100.M.Sign, .int .i64 x100.M.N, u8 x100.Key, u8 x100.Sign]) :: B) (O) := (I107.front 1 rfl).drop
    have I110 : Inv _ ((r0, .cells [v98, .int .i64 x97.at_]) :: B) (O) := (I109.front 1 rfl).drop
    obtain rfl := some_eq h
    exact rr (vs := [.agg [u8 (7 : UInt8), u8 x100.Reg, .int .i64 x100.N, u8 (100 : UInt8), u8 x100.M.Key, u8 x100.M.Sign, .int .i64 x100.M.N, u8 x100.Key, u8 x100.Sign], .int .i64 0]) (res_c (resp_cells I107 2 rfl rfl rfl) (res_c (resp_t rfl) res_nil)) ⟨_, _, _, rfl, ⟨_, rfl, rfl⟩, rfl, s99, I110⟩
  · have h := ite_f h b102
    refine c_cond_f x96 rfl b102 ?_
    refine c_seq ?_
    refine c_reg ?_
    refine sp (u8 x5) rfl rfl ?_
    refine sp (.bool (decide ((x5.toNat : Int) = 118))) rfl rfl ?_
    refine sp (.bool (decide ((x5.toNat : Int) = 118))) rfl rfl ?_
    rcases bool_tf (decide ((x5.toNat : Int) = 118)) with b111 | b111
    · have h := ite_t h b111
      refine sg_skip (decide ((x5.toNat : Int) = 118)) rfl b111 ?_
      refine sg_skip (decide ((x5.toNat : Int) = 118)) rfl b111 ?_
      refine sp (.bool true) rfl (e_pick_t rfl b111 rfl) ?_
      refine sp (.bool true) rfl rfl ?_
      refine sg_skip true rfl rfl ?_
      refine sg_skip true rfl rfl ?_
      refine sg_skip true rfl rfl ?_
      refine sg_undef rfl ?_
      refine sg_undef rfl ?_
      refine sg_undef rfl ?_
      refine sg_undef rfl ?_
      refine sg_undef rfl ?_
      refine sg_undef rfl ?_
      refine sg_undef rfl ?_
      refine sg_skip true rfl rfl ?_
      refine sp (.bool true) rfl (e_pick_t rfl rfl rfl) ?_
      refine sp (.bool true) rfl rfl ?_
      refine sx ?_
      refine cn ?_
      exact keys_reader_key_j57_ok k x5 x6 true x97 x100 x101 h rfl rfl rfl rfl rfl rfl  s99 I
    · have h := ite_f h b111
      refine sg_run (decide ((x5.toNat : Int) = 118)) rfl b111 ?_
      refine sp (u8 x5) rfl rfl ?_
      refine sg_run (decide ((x5.toNat : Int) = 118)) rfl b111 ?_
      refine sp (.bool (decide ((x5.toNat : Int) = 86))) rfl rfl ?_
      refine sp (.bool (decide ((x5.toNat : Int) = 86))) rfl (e_pick_f rfl b111 rfl) ?_
      refine sp (.bool (decide ((x5.toNat : Int) = 86))) rfl rfl ?_
      rcases bool_tf (decide ((x5.toNat : Int) = 86)) with b227 | b227
      · have h := ite_t h b227
        refine sg_skip (decide ((x5.toNat : Int) = 86)) rfl b227 ?_
        refine sg_skip (decide ((x5.toNat : Int) = 86)) rfl b227 ?_
        refine sg_skip (decide ((x5.toNat : Int) = 86)) rfl b227 ?_
        refine sg_undef rfl ?_
        refine sg_undef rfl ?_
        refine sg_undef rfl ?_
        refine sg_undef rfl ?_
        refine sg_undef rfl ?_
        refine sg_undef rfl ?_
        refine sg_undef rfl ?_
        refine sg_skip (decide ((x5.toNat : Int) = 86)) rfl b227 ?_
        refine sp (.bool true) rfl (e_pick_t rfl b227 rfl) ?_
        refine sp (.bool true) rfl rfl ?_
        refine sx ?_
        refine cn ?_
        exact keys_reader_key_j57_ok k x5 x6 true x97 x100 x101 h rfl rfl rfl rfl rfl rfl  s99 I
      · have h := ite_f h b227
        refine sg_run (decide ((x5.toNat : Int) = 86)) rfl b227 ?_
        refine sp (.bool x6) rfl rfl ?_
        refine sg_run (decide ((x5.toNat : Int) = 86)) rfl b227 ?_
        refine sp (.bool (!x6)) rfl rfl ?_
        refine sg_run (decide ((x5.toNat : Int) = 86)) rfl b227 ?_
        refine sp (.bool (!x6)) rfl rfl ?_
        rcases bool_tf (!x6) with b228 | b228
        · have h := ite_t h b228
          refine sg_run (!x6) rfl b228 ?_
          refine sp (u8 x5) rfl rfl ?_
          refine sg_run (!x6) rfl b228 ?_
          obtain ⟨a229, g230, h⟩ := bind_some h
          refine st_callc (strings_IndexByte_ok k _ _ _ g230 ) rfl ?_
          intro v231 q232
          obtain rfl := q232
          refine sg_run (!x6) rfl b228 ?_
          refine sp (.bool (decide (0 ≤ a229))) rfl rfl ?_
          refine sg_run (!x6) rfl b228 ?_
          refine sp (.bool (decide (0 ≤ a229))) rfl rfl ?_
          rcases bool_tf (decide (0 ≤ a229)) with b233 | b233
          · have h := ite_t h b233
            refine sg_skip (decide (0 ≤ a229)) rfl b233 ?_
            refine sg_skip (decide (0 ≤ a229)) rfl b233 ?_
            refine sg_run (!x6) rfl b228 ?_
            refine sp (.bool true) rfl (e_pick_t rfl b233 rfl) ?_
            refine sg_run (decide ((x5.toNat : Int) = 86)) rfl b227 ?_
            refine sp (.bool true) rfl (e_pick_t rfl b228 rfl) ?_
            refine sp (.bool true) rfl (e_pick_f rfl b227 rfl) ?_
            refine sp (.bool true) rfl rfl ?_
            refine sx ?_
            refine cn ?_
            exact keys_reader_key_j57_ok k x5 x6 true x97 x100 x101 h rfl rfl rfl rfl rfl rfl  s99 I
          · have h := ite_f h b233
            refine sg_run (decide (0 ≤ a229)) rfl b233 ?_
            refine sp (u8 x5) rfl rfl ?_
            refine sg_run (decide (0 ≤ a229)) rfl b233 ?_
            refine sp (.bool (decide ((x5.toNat : Int) = 18))) rfl rfl ?_
            refine sg_run (!x6) rfl b228 ?_
            refine sp (.bool (decide ((x5.toNat : Int) = 18))) rfl (e_pick_f rfl b233 rfl) ?_
            refine sg_run (decide ((x5.toNat : Int) = 86)) rfl b227 ?_
            refine sp (.bool (decide ((x5.toNat : Int) = 18))) rfl (e_pick_t rfl b228 rfl) ?_
            refine sp (.bool (decide ((x5.toNat : Int) = 18))) rfl (e_pick_f rfl b227 rfl) ?_
            refine sp (.bool (decide ((x5.toNat : Int) = 18))) rfl rfl ?_
            refine sx ?_
            refine cn ?_
            exact keys_reader_key_j57_ok k x5 x6 (decide ((x5.toNat : Int) = 18)) x97 x100 x101 h rfl rfl rfl rfl rfl rfl  s99 I
        · have h := ite_f h b228
          refine sg_skip (!x6) rfl b228 ?_
          refine sg_skip (!x6) rfl b228 ?_
          refine sg_skip (!x6) rfl b228 ?_
          refine sg_skip (!x6) rfl b228 ?_
          refine sg_undef rfl ?_
          refine sg_undef rfl ?_
          refine sg_skip (!x6) rfl b228 ?_
          refine sg_run (decide ((x5.toNat : Int) = 86)) rfl b227 ?_
          refine sp (.bool false) rfl (e_pick_f rfl b228 rfl) ?_
          refine sp (.bool false) rfl (e_pick_f rfl b227 rfl) ?_
          refine sp (.bool false) rfl rfl ?_
          refine sx ?_
          refine cn ?_
          exact keys_reader_key_j57_ok k x5 x6 false x97 x100 x101 h rfl rfl rfl rfl rfl rfl  s99 I
theorem keys_reader_key_ok (k : Nat) (x1 : S_keys_reader) (x4 : S_keys_Cmd) (x5 : UInt8) (x6 : Bool) (r : (S_keys_Cmd × Int × S_keys_reader)) {v2 : AV} {c1 : List AV} {r0 : Nat} {σ : St} {B : List (Nat × Blk)} {O : List AV}
    (h : keys_reader_key k x1 x4 x5 x6 = some r)
    (s3 : SL RU8 1 x1.p v2)
    (p1 : S_keys_Cmd.R x4 c1)
    (I : Inv σ ((r0, .cells [v2, .int .i64 x1.at_]) :: B) (O)) :
    RunF kE 21 [.blk r0 0, .agg c1, u8 x5, .bool x6] σ (fun v σ' => ∃ w0 w1 q0v0, v = .tuple [w0, w1] ∧ VAgg S_keys_Cmd.R r.1 w0 ∧ w1 = .int .i64 r.2.1 ∧ SL RU8 1 r.2.2.p q0v0 ∧ Inv σ' ((r0, .cells [q0v0, .int .i64 r.2.2.at_]) :: B) (O)) := by
  obtain rfl := p1
  refine f_plain rfl rfl rfl rfl ?_
  unfold keys_reader_key at h
  refine c_seq ?_
  refine c_reg ?_
  refine st_box I rfl rfl ?_
  intro r7 σ8 I9
  have I10 : Inv _ ((r7, .cells [u8 x4.Kind, u8 x4.Reg, .int .i64 x4.N, u8 x4.Op, u8 x4.M.Key, u8 x4.M.Sign, .int .i64 x4.M.N, u8 x4.Key, u8 x4.Sign]) :: (r0, .cells [v2, .int .i64 x1.at_]) :: B) (O) := I9
  refine st_alloc I10 ?_
  intro r11 σ12 I13
  have I14 : Inv _ ((r11, .cells [u8 (0 : UInt8), u8 (0 : UInt8), .int .i64 0, u8 (0 : UInt8), u8 (0 : UInt8), u8 (0 : UInt8), .int .i64 0, u8 (0 : UInt8), u8 (0 : UInt8)]) :: (r7, .cells [u8 x4.Kind, u8 x4.Reg, .int .i64 x4.N, u8 x4.Op, u8 x4.M.Key, u8 x4.M.Sign, .int .i64 x4.M.N, u8 x4.Key, u8 x4.Sign]) :: (r0, .cells [v2, .int .i64 x1.at_]) :: B) (O) := I13
  refine sp (.int .i64 0) rfl rfl ?_
  refine sx ?_
  refine cn ?_
  refine c_keep (keep_cons rfl (keep_cons rfl (keep_cons rfl (keep_cons rfl (keep_cons rfl keep_nil))))) ?_
  refine c_seq ?_
  refine c_block ?_
  refine c_seq ?_
  refine c_reg ?_
  refine sp (u8 x5) rfl rfl ?_
  refine sp (.bool (decide ((x5.toNat : Int) = 27))) rfl rfl ?_
  refine sp (.bool (decide ((x5.toNat : Int) = 27))) rfl rfl ?_
  refine sx ?_
  refine cn ?_
  refine c_keep (keep_cons rfl (keep_cons rfl (keep_cons rfl (keep_cons rfl (keep_cons rfl (keep_cons rfl keep_nil)))))) ?_
  rcases bool_tf (decide ((x5.toNat : Int) = 27)) with b15 | b15
  · have h := ite_t h b15
    refine c_cond_t (decide ((x5.toNat : Int) = 27)) rfl b15 ?_
    refine c_seq ?_
    refine c_reg ?_
    refine sp (.agg [u8 (0 : UInt8), u8 (0 : UInt8), .int .i64 0, u8 (0 : UInt8), u8 (0 : UInt8), u8 (0 : UInt8), .int .i64 0, u8 (0 : UInt8), u8 (0 : UInt8)]) rfl rfl ?_
    refine st_store I14 0 0 (cs' := [u8 (0 : UInt8), u8 (0 : UInt8), .int .i64 0, u8 (0 : UInt8), u8 (0 : UInt8), u8 (0 : UInt8), .int .i64 0, u8 (0 : UInt8), u8 (0 : UInt8)]) (bs' := (r11, .cells [u8 (0 : UInt8), u8 (0 : UInt8), .int .i64 0, u8 (0 : UInt8), u8 (0 : UInt8), u8 (0 : UInt8), .int .i64 0, u8 (0 : UInt8), u8 (0 : UInt8)]) :: (r7, .cells [u8 x4.Kind, u8 x4.Reg, .int .i64 x4.N, u8 x4.Op, u8 x4.M.Key, u8 x4.M.Sign, .int .i64 x4.M.N, u8 x4.Key, u8 x4.Sign]) :: (r0, .cells [v2, .int .i64 x1.at_]) :: B) rfl rfl rfl rfl rfl (Nat.le_of_ble_eq_true rfl) rfl rfl ?_
    intro σ17 I16
    refine sp (.int .i64 0) rfl rfl ?_
    refine sx ?_
    refine cn ?_
    refine c_ret ?_
    refine br ?_
    refine cr ?_
    have I18 : Inv _ ((r7, .cells [u8 x4.Kind, u8 x4.Reg, .int .i64 x4.N, u8 x4.Op, u8 x4.M.Key, u8 x4.M.Sign, .int .i64 x4.M.N, u8 x4.Key, u8 x4.Sign]) :: (r0, .cells [v2, .int .i64 x1.at_]) :: B) (O) := (I16.front 0 rfl).drop
    have I19 : Inv _ ((r0, .cells [v2, .int .i64 x1.at_]) :: B) (O) := (I18.front 0 rfl).drop
    obtain rfl := some_eq h
    exact rr (vs := [.agg [u8 (0 : UInt8), u8 (0 : UInt8), .int .i64 0, u8 (0 : UInt8), u8 (0 : UInt8), u8 (0 : UInt8), .int .i64 0, u8 (0 : UInt8), u8 (0 : UInt8)], .int .i64 0]) (res_c (resp_cells I16 0 rfl rfl rfl) (res_c (resp_t rfl) res_nil)) ⟨_, _, _, rfl, ⟨_, rfl, rfl⟩, rfl, s3, I19⟩
  · have h := ite_f h b15
    refine c_cond_f (decide ((x5.toNat : Int) = 27)) rfl b15 ?_
    refine c_seq ?_
    refine c_reg ?_
    refine sp (u8 x5) rfl rfl ?_
    obtain ⟨a20, g21, h⟩ := bind_some h
    refine st_callc (strings_IndexByte_ok k _ _ _ g21 ) rfl ?_
    intro v22 q23
    obtain rfl := q23
    refine sp (.bool (decide (0 ≤ a20))) rfl rfl ?_
    refine sp (.bool (decide (0 ≤ a20))) rfl rfl ?_
    refine sx ?_
    refine cn ?_
    refine c_keep (keep_cons rfl (keep_cons rfl (keep_cons rfl (keep_cons rfl (keep_cons rfl (keep_cons rfl keep_nil)))))) ?_
    rcases bool_tf (decide (0 ≤ a20)) with b24 | b24
    · have h := ite_t h b24
      refine c_cond_t (decide (0 ≤ a20)) rfl b24 ?_
      refine c_seq ?_
      refine c_reg ?_
      refine sp (.blk r0 0) rfl rfl ?_
      refine sp (.agg [u8 x4.Kind, u8 x4.Reg, .int .i64 x4.N, u8 x4.Op, u8 x4.M.Key, u8 x4.M.Sign, .int .i64 x4.M.N, u8 x4.Key, u8 x4.Sign]) rfl (e_loads I14 1 0 9 rfl rfl rfl (Nat.le_of_ble_eq_true rfl)) ?_
      refine sp (u8 x5) rfl rfl ?_
      refine sp (.bool x6) rfl rfl ?_
      obtain ⟨a25, g26, h⟩ := bind_some h
      have I29 : Inv _ ((r0, .cells [v2, .int .i64 x1.at_]) :: (r11, .cells [u8 (0 : UInt8), u8 (0 : UInt8), .int .i64 0, u8 (0 : UInt8), u8 (0 : UInt8), u8 (0 : UInt8), .int .i64 0, u8 (0 : UInt8), u8 (0 : UInt8)]) :: (r7, .cells [u8 x4.Kind, u8 x4.Reg, .int .i64 x4.N, u8 x4.Op, u8 x4.M.Key, u8 x4.M.Sign, .int .i64 x4.M.N, u8 x4.Key, u8 x4.Sign]) :: B) (O) := I14.front 2 rfl
      refine st_call (keys_reader_operator_ok k _ _ _ _ _ g26 s3 rfl I29) rfl ?_
      intro v27 σ30 q28
      obtain ⟨v32, v34, v36, rfl, q33, q35, s37, I31⟩ := q28
      obtain ⟨c38, rfl, q39⟩ := q33
      obtain rfl := q39
      obtain rfl := q35
      refine sp (.agg [u8 a25.1.Kind, u8 a25.1.Reg, .int .i64 a25.1.N, u8 a25.1.Op, u8 a25.1.M.Key, u8 a25.1.M.Sign, .int .i64 a25.1.M.N, u8 a25.1.Key, u8 a25.1.Sign]) rfl rfl ?_
      refine sp (.int .i64 a25.2.1) rfl rfl ?_
      refine st_store I31 1 0 (cs' := [u8 a25.1.Kind, u8 a25.1.Reg, .int .i64 a25.1.N, u8 a25.1.Op, u8 a25.1.M.Key, u8 a25.1.M.Sign, .int .i64 a25.1.M.N, u8 a25.1.Key, u8 a25.1.Sign]) (bs' := (r0, .cells [v36, .int .i64 a25.2.2.at_]) :: (r11, .cells [u8 a25.1.Kind, u8 a25.1.Reg, .int .i64 a25.1.N, u8 a25.1.Op, u8 a25.1.M.Key, u8 a25.1.M.Sign, .int .i64 a25.1.M.N, u8 a25.1.Key, u8 a25.1.Sign]) :: (r7, .cells [u8 x4.Kind, u8 x4.Reg, .int .i64 x4.N, u8 x4.Op, u8 x4.M.Key, u8 x4.M.Sign, .int .i64 x4.M.N, u8 x4.Key, u8 x4.Sign]) :: B) rfl rfl rfl rfl rfl (Nat.le_of_ble_eq_true rfl) rfl rfl ?_
      intro σ41 I40
      refine sp (.int .i64 a25.2.1) rfl rfl ?_
      refine sx ?_
      refine cn ?_
      refine c_ret ?_
      refine br ?_
      refine cr ?_
      have I42 : Inv _ ((r0, .cells [v36, .int .i64 a25.2.2.at_]) :: (r7, .cells [u8 x4.Kind, u8 x4.Reg, .int .i64 x4.N, u8 x4.Op, u8 x4.M.Key, u8 x4.M.Sign, .int .i64 x4.M.N, u8 x4.Key, u8 x4.Sign]) :: B) (O) := (I40.front 1 rfl).drop
      have I43 : Inv _ ((r0, .cells [v36, .int .i64 a25.2.2.at_]) :: B) (O) := (I42.front 1 rfl).drop
      obtain rfl := some_eq h
      exact rr (vs := [.agg [u8 a25.1.Kind, u8 a25.1.Reg, .int .i64 a25.1.N, u8 a25.1.Op, u8 a25.1.M.Key, u8 a25.1.M.Sign, .int .i64 a25.1.M.N, u8 a25.1.Key, u8 a25.1.Sign], .int .i64 a25.2.1]) (res_c (resp_cells I40 1 rfl rfl rfl) (res_c (resp_t rfl) res_nil)) ⟨_, _, _, rfl, ⟨_, rfl, rfl⟩, rfl, s37, I43⟩
    · have h := ite_f h b24
      refine c_cond_f (decide (0 ≤ a20)) rfl b24 ?_
      refine c_seq ?_
      refine c_reg ?_
      refine sp (u8 x5) rfl rfl ?_
      refine sp (.bool (decide ((x5.toNat : Int) = 103))) rfl rfl ?_
      refine sp (.bool (decide ((x5.toNat : Int) = 103))) rfl rfl ?_
      refine sx ?_
      refine cn ?_
      refine c_keep (keep_cons rfl (keep_cons rfl (keep_cons rfl (keep_cons rfl (keep_cons rfl (keep_cons rfl keep_nil)))))) ?_
      rcases bool_tf (decide ((x5.toNat : Int) = 103)) with b44 | b44
      · have h := ite_t h b44
        refine c_cond_t (decide ((x5.toNat : Int) = 103)) rfl b44 ?_
        refine c_seq ?_
        refine c_reg ?_
        refine sp (.blk r0 0) rfl rfl ?_
        obtain ⟨a45, g46, h⟩ := bind_some h
        have I49 : Inv _ ((r0, .cells [v2, .int .i64 x1.at_]) :: (r11, .cells [u8 (0 : UInt8), u8 (0 : UInt8), .int .i64 0, u8 (0 : UInt8), u8 (0 : UInt8), u8 (0 : UInt8), .int .i64 0, u8 (0 : UInt8), u8 (0 : UInt8)]) :: (r7, .cells [u8 x4.Kind, u8 x4.Reg, .int .i64 x4.N, u8 x4.Op, u8 x4.M.Key, u8 x4.M.Sign, .int .i64 x4.M.N, u8 x4.Key, u8 x4.Sign]) :: B) (O) := I14.front 2 rfl
        refine st_call (keys_reader_next_ok k _ _ g46 s3 I49) rfl ?_
        intro v47 σ50 q48
        obtain ⟨v52, v54, v56, rfl, q53, q55, s57, I51⟩ := q48
        obtain rfl := q53
        obtain rfl := q55
        refine sp (.tuple [u8 a45.1, .bool a45.2.1]) rfl rfl ?_
        refine sp (u8 a45.1) rfl rfl ?_
        refine sp (.bool a45.2.1) rfl rfl ?_
        refine sp (u8 a45.1) rfl rfl ?_
        refine sp (.bool a45.2.1) rfl rfl ?_
        refine sx ?_
        refine cn ?_
        refine c_keep (keep_cons rfl (keep_cons rfl (keep_cons rfl (keep_cons rfl (keep_cons rfl (keep_cons rfl keep_nil)))))) ?_
        refine c_seq ?_
        refine c_block ?_
        refine c_seq ?_
        refine c_reg ?_
        refine sp (.bool a45.2.1) rfl rfl ?_
        refine sp (.bool (!a45.2.1)) rfl rfl ?_
        refine sp (.bool (!a45.2.1)) rfl rfl ?_
        refine sx ?_
        refine cn ?_
        refine c_keep (keep_cons rfl (keep_cons rfl (keep_cons rfl (keep_cons rfl (keep_cons rfl (keep_cons rfl keep_nil)))))) ?_
        rcases bool_tf (!a45.2.1) with b58 | b58
        · have h := ite_t h b58
          refine c_cond_t (!a45.2.1) rfl b58 ?_
          refine c_seq ?_
          refine c_reg ?_
          refine sp (.agg [u8 x4.Kind, u8 x4.Reg, .int .i64 x4.N, u8 x4.Op, u8 x4.M.Key, u8 x4.M.Sign, .int .i64 x4.M.N, u8 x4.Key, u8 x4.Sign]) rfl (e_loads I51 2 0 9 rfl rfl rfl (Nat.le_of_ble_eq_true rfl)) ?_
          refine st_store I51 1 0 (cs' := [u8 x4.Kind, u8 x4.Reg, .int .i64 x4.N, u8 x4.Op, u8 x4.M.Key, u8 x4.M.Sign, .int .i64 x4.M.N, u8 x4.Key, u8 x4.Sign]) (bs' := (r0, .cells [v56, .int .i64 a45.2.2.at_]) :: (r11, .cells [u8 x4.Kind, u8 x4.Reg, .int .i64 x4.N, u8 x4.Op, u8 x4.M.Key, u8 x4.M.Sign, .int .i64 x4.M.N, u8 x4.Key, u8 x4.Sign]) :: (r7, .cells [u8 x4.Kind, u8 x4.Reg, .int .i64 x4.N, u8 x4.Op, u8 x4.M.Key, u8 x4.M.Sign, .int .i64 x4.M.N, u8 x4.Key, u8 x4.Sign]) :: B) rfl rfl rfl rfl rfl (Nat.le_of_ble_eq_true rfl) rfl rfl ?_
          intro σ60 I59
          refine sp (.int .i64 1) rfl rfl ?_
          refine sx ?_
          refine cn ?_
          refine c_ret ?_
          refine br ?_
          refine cr ?_
          refine br ?_
          refine cr ?_
          have I61 : Inv _ ((r0, .cells [v56, .int .i64 a45.2.2.at_]) :: (r7, .cells [u8 x4.Kind, u8 x4.Reg, .int .i64 x4.N, u8 x4.Op, u8 x4.M.Key, u8 x4.M.Sign, .int .i64 x4.M.N, u8 x4.Key, u8 x4.Sign]) :: B) (O) := (I59.front 1 rfl).drop
          have I62 : Inv _ ((r0, .cells [v56, .int .i64 a45.2.2.at_]) :: B) (O) := (I61.front 1 rfl).drop
          obtain rfl := some_eq h
          exact rr (vs := [.agg [u8 x4.Kind, u8 x4.Reg, .int .i64 x4.N, u8 x4.Op, u8 x4.M.Key, u8 x4.M.Sign, .int .i64 x4.M.N, u8 x4.Key, u8 x4.Sign], .int .i64 1]) (res_c (resp_cells I59 1 rfl rfl rfl) (res_c (resp_t rfl) res_nil)) ⟨_, _, _, rfl, ⟨_, rfl, rfl⟩, rfl, s57, I62⟩
        · have h := ite_f h b58
          refine c_cond_f (!a45.2.1) rfl b58 ?_
          refine c_seq ?_
          refine c_reg ?_
          refine sp (u8 a45.1) rfl rfl ?_
          refine sp (.bool (decide ((a45.1.toNat : Int) = 113))) rfl rfl ?_
          refine sp (.bool (decide ((a45.1.toNat : Int) = 113))) rfl rfl ?_
          refine sx ?_
          refine cn ?_
          refine c_keep (keep_cons rfl (keep_cons rfl (keep_cons rfl (keep_cons rfl (keep_cons rfl (keep_cons rfl keep_nil)))))) ?_
          rcases bool_tf (decide ((a45.1.toNat : Int) = 113)) with b63 | b63
          · have h := ite_t h b63
            refine c_cond_t (decide ((a45.1.toNat : Int) = 113)) rfl b63 ?_
            refine c_seq ?_
            refine c_reg ?_
            refine sp (.blk r0 0) rfl rfl ?_
            refine sp (.agg [u8 x4.Kind, u8 x4.Reg, .int .i64 x4.N, u8 x4.Op, u8 x4.M.Key, u8 x4.M.Sign, .int .i64 x4.M.N, u8 x4.Key, u8 x4.Sign]) rfl (e_loads I51 2 0 9 rfl rfl rfl (Nat.le_of_ble_eq_true rfl)) ?_
            refine sp (.bool x6) rfl rfl ?_
            obtain ⟨a64, g65, h⟩ := bind_some h
            refine st_call (keys_reader_operator_ok k _ _ _ _ _ g65 s57 rfl I51) rfl ?_
            intro v66 σ68 q67
            obtain ⟨v70, v72, v74, rfl, q71, q73, s75, I69⟩ := q67
            obtain ⟨c76, rfl, q77⟩ := q71
            obtain rfl := q77
            obtain rfl := q73
            refine sp (.agg [u8 a64.1.Kind, u8 a64.1.Reg, .int .i64 a64.1.N, u8 a64.1.Op, u8 a64.1.M.Key, u8 a64.1.M.Sign, .int .i64 a64.1.M.N, u8 a64.1.Key, u8 a64.1.Sign]) rfl rfl ?_
            refine sp (.int .i64 a64.2.1) rfl rfl ?_
            refine st_store I69 1 0 (cs' := [u8 a64.1.Kind, u8 a64.1.Reg, .int .i64 a64.1.N, u8 a64.1.Op, u8 a64.1.M.Key, u8 a64.1.M.Sign, .int .i64 a64.1.M.N, u8 a64.1.Key, u8 a64.1.Sign]) (bs' := (r0, .cells [v74, .int .i64 a64.2.2.at_]) :: (r11, .cells [u8 a64.1.Kind, u8 a64.1.Reg, .int .i64 a64.1.N, u8 a64.1.Op, u8 a64.1.M.Key, u8 a64.1.M.Sign, .int .i64 a64.1.M.N, u8 a64.1.Key, u8 a64.1.Sign]) :: (r7, .cells [u8 x4.Kind, u8 x4.Reg, .int .i64 x4.N, u8 x4.Op, u8 x4.M.Key, u8 x4.M.Sign, .int .i64 x4.M.N, u8 x4.Key, u8 x4.Sign]) :: B) rfl rfl rfl rfl rfl (Nat.le_of_ble_eq_true rfl) rfl rfl ?_
            intro σ79 I78
            refine sp (.int .i64 a64.2.1) rfl rfl ?_
            refine sx ?_
            refine cn ?_
            refine c_ret ?_
            refine br ?_
            refine cr ?_
            refine br ?_
            refine cr ?_
            have I80 : Inv _ ((r0, .cells [v74, .int .i64 a64.2.2.at_]) :: (r7, .cells [u8 x4.Kind, u8 x4.Reg, .int .i64 x4.N, u8 x4.Op, u8 x4.M.Key, u8 x4.M.Sign, .int .i64 x4.M.N, u8 x4.Key, u8 x4.Sign]) :: B) (O) := (I78.front 1 rfl).drop
            have I81 : Inv _ ((r0, .cells [v74, .int .i64 a64.2.2.at_]) :: B) (O) := (I80.front 1 rfl).drop
            obtain rfl := some_eq h
            exact rr (vs := [.agg [u8 a64.1.Kind, u8 a64.1.Reg, .int .i64 a64.1.N, u8 a64.1.Op, u8 a64.1.M.Key, u8 a64.1.M.Sign, .int .i64 a64.1.M.N, u8 a64.1.Key, u8 a64.1.Sign], .int .i64 a64.2.1]) (res_c (resp_cells I78 1 rfl rfl rfl) (res_c (resp_t rfl) res_nil)) ⟨_, _, _, rfl, ⟨_, rfl, rfl⟩, rfl, s75, I81⟩
          · have h := ite_f h b63
            refine c_cond_f (decide ((a45.1.toNat : Int) = 113)) rfl b63 ?_
            refine c_seq ?_
            refine c_reg ?_
            refine sp (u8 a45.1) rfl rfl ?_
            refine sp (.bool (!decide ((a45.1.toNat : Int) = 103))) rfl rfl ?_
            refine sp (.bool (!decide ((a45.1.toNat : Int) = 103))) rfl rfl ?_
            refine sx ?_
            refine cn ?_
            refine c_keep (keep_cons rfl (keep_cons rfl (keep_cons rfl keep_nil))) ?_
            rcases bool_tf (!decide ((a45.1.toNat : Int) = 103)) with b82 | b82
            · have h := ite_t h b82
              refine c_cond_t (!decide ((a45.1.toNat : Int) = 103)) rfl b82 ?_
              refine c_seq ?_
              refine c_reg ?_
              refine sp (.agg [u8 x4.Kind, u8 x4.Reg, .int .i64 x4.N, u8 x4.Op, u8 x4.M.Key, u8 x4.M.Sign, .int .i64 x4.M.N, u8 x4.Key, u8 x4.Sign]) rfl (e_loads I51 2 0 9 rfl rfl rfl (Nat.le_of_ble_eq_true rfl)) ?_
              refine st_store I51 1 0 (cs' := [u8 x4.Kind, u8 x4.Reg, .int .i64 x4.N, u8 x4.Op, u8 x4.M.Key, u8 x4.M.Sign, .int .i64 x4.M.N, u8 x4.Key, u8 x4.Sign]) (bs' := (r0, .cells [v56, .int .i64 a45.2.2.at_]) :: (r11, .cells [u8 x4.Kind, u8 x4.Reg, .int .i64 x4.N, u8 x4.Op, u8 x4.M.Key, u8 x4.M.Sign, .int .i64 x4.M.N, u8 x4.Key, u8 x4.Sign]) :: (r7, .cells [u8 x4.Kind, u8 x4.Reg, .int .i64 x4.N, u8 x4.Op, u8 x4.M.Key, u8 x4.M.Sign, .int .i64 x4.M.N, u8 x4.Key, u8 x4.Sign]) :: B) rfl rfl rfl rfl rfl (Nat.le_of_ble_eq_true rfl) rfl rfl ?_
              intro σ84 I83
              refine sp (.int .i64 2) rfl rfl ?_
              refine sx ?_
              refine cn ?_
              refine c_ret ?_
              refine br ?_
              refine cr ?_
              refine br ?_
              refine cr ?_
              have I85 : Inv _ ((r0, .cells [v56, .int .i64 a45.2.2.at_]) :: (r7, .cells [u8 x4.Kind, u8 x4.Reg, .int .i64 x4.N, u8 x4.Op, u8 x4.M.Key, u8 x4.M.Sign, .int .i64 x4.M.N, u8 x4.Key, u8 x4.Sign]) :: B) (O) := (I83.front 1 rfl).drop
              have I86 : Inv _ ((r0, .cells [v56, .int .i64 a45.2.2.at_]) :: B) (O) := (I85.front 1 rfl).drop
              obtain rfl := some_eq h
              exact rr (vs := [.agg [u8 x4.Kind, u8 x4.Reg, .int .i64 x4.N, u8 x4.Op, u8 x4.M.Key, u8 x4.M.Sign, .int .i64 x4.M.N, u8 x4.Key, u8 x4.Sign], .int .i64 2]) (res_c (resp_cells I83 1 rfl rfl rfl) (res_c (resp_t rfl) res_nil)) ⟨_, _, _, rfl, ⟨_, rfl, rfl⟩, rfl, s57, I86⟩
            · have h := ite_f h b82
              refine c_cond_f (!decide ((a45.1.toNat : Int) = 103)) rfl b82 ?_
              refine c_skip ?_
              refine bn ?_
              refine cn ?_
              refine c_keep (keep_cons rfl (keep_cons rfl keep_nil)) ?_
              refine c_seq ?_
              refine c_reg ?_
              refine sp (.blk r7 2) rfl rfl ?_
              refine sp (.int .i64 x4.N) rfl (e_load I51 2 2 rfl rfl rfl) ?_
              refine sp (.agg [u8 (103 : UInt8), u8 (0 : UInt8), .int .i64 x4.N]) rfl rfl ?_
              refine sp (.blk r7 0) rfl rfl ?_
              refine st_store I51 2 0 (cs' := [u8 (1 : UInt8), u8 x4.Reg, .int .i64 x4.N, u8 x4.Op, u8 x4.M.Key, u8 x4.M.Sign, .int .i64 x4.M.N, u8 x4.Key, u8 x4.Sign]) (bs' := (r0, .cells [v56, .int .i64 a45.2.2.at_]) :: (r11, .cells [u8 (0 : UInt8), u8 (0 : UInt8), .int .i64 0, u8 (0 : UInt8), u8 (0 : UInt8), u8 (0 : UInt8), .int .i64 0, u8 (0 : UInt8), u8 (0 : UInt8)]) :: (r7, .cells [u8 (1 : UInt8), u8 x4.Reg, .int .i64 x4.N, u8 x4.Op, u8 x4.M.Key, u8 x4.M.Sign, .int .i64 x4.M.N, u8 x4.Key, u8 x4.Sign]) :: B) rfl rfl rfl rfl rfl (Nat.le_of_ble_eq_true rfl) rfl rfl ?_
              intro σ88 I87
              refine sp (.blk r7 4) rfl rfl ?_
              refine st_store I87 2 4 (cs' := [u8 (1 : UInt8), u8 x4.Reg, .int .i64 x4.N, u8 x4.Op, u8 (103 : UInt8), u8 (0 : UInt8), .int .i64 x4.N, u8 x4.Key, u8 x4.Sign]) (bs' := (r0, .cells [v56, .int .i64 a45.2.2.at_]) :: (r11, .cells [u8 (0 : UInt8), u8 (0 : UInt8), .int .i64 0, u8 (0 : UInt8), u8 (0 : UInt8), u8 (0 : UInt8), .int .i64 0, u8 (0 : UInt8), u8 (0 : UInt8)]) :: (r7, .cells [u8 (1 : UInt8), u8 x4.Reg, .int .i64 x4.N, u8 x4.Op, u8 (103 : UInt8), u8 (0 : UInt8), .int .i64 x4.N, u8 x4.Key, u8 x4.Sign]) :: B) rfl rfl rfl rfl rfl (Nat.le_of_ble_eq_true rfl) rfl rfl ?_
              intro σ90 I89
              refine sx ?_
              refine cn ?_
              refine c_keep (keep_cons rfl (keep_cons rfl keep_nil)) ?_
              refine c_seq ?_
              refine c_reg ?_
              refine sp (.agg [u8 (1 : UInt8), u8 x4.Reg, .int .i64 x4.N, u8 x4.Op, u8 (103 : UInt8), u8 (0 : UInt8), .int .i64 x4.N, u8 x4.Key, u8 x4.Sign]) rfl (e_loads I89 2 0 9 rfl rfl rfl (Nat.le_of_ble_eq_true rfl)) ?_
              refine st_store I89 1 0 (cs' := [u8 (1 : UInt8), u8 x4.Reg, .int .i64 x4.N, u8 x4.Op, u8 (103 : UInt8), u8 (0 : UInt8), .int .i64 x4.N, u8 x4.Key, u8 x4.Sign]) (bs' := (r0, .cells [v56, .int .i64 a45.2.2.at_]) :: (r11, .cells [u8 (1 : UInt8), u8 x4.Reg, .int .i64 x4.N, u8 x4.Op, u8 (103 : UInt8), u8 (0 : UInt8), .int .i64 x4.N, u8 x4.Key, u8 x4.Sign]) :: (r7, .cells [u8 (1 : UInt8), u8 x4.Reg, .int .i64 x4.N, u8 x4.Op, u8 (103 : UInt8), u8 (0 : UInt8), .int .i64 x4.N, u8 x4.Key, u8 x4.Sign]) :: B) rfl rfl rfl rfl rfl (Nat.le_of_ble_eq_true rfl) rfl rfl ?_
              intro σ92 I91
              refine sp (.int .i64 0) rfl rfl ?_
              refine sx ?_
              refine cn ?_
              refine c_ret ?_
              refine br ?_
              refine cr ?_
              have I93 : Inv _ ((r0, .cells [v56, .int .i64 a45.2.2.at_]) :: (r7, .cells [u8 (1 : UInt8), u8 x4.Reg, .int .i64 x4.N, u8 x4.Op, u8 (103 : UInt8), u8 (0 : UInt8), .int .i64 x4.N, u8 x4.Key, u8 x4.Sign]) :: B) (O) := (I91.front 1 rfl).drop
              have I94 : Inv _ ((r0, .cells [v56, .int .i64 a45.2.2.at_]) :: B) (O) := (I93.front 1 rfl).drop
              obtain rfl := some_eq h
              exact rr (vs := [.agg [u8 (1 : UInt8), u8 x4.Reg, .int .i64 x4.N, u8 x4.Op, u8 (103 : UInt8), u8 (0 : UInt8), .int .i64 x4.N, u8 x4.Key, u8 x4.Sign], .int .i64 0]) (res_c (resp_cells I91 1 rfl rfl rfl) (res_c (resp_t rfl) res_nil)) ⟨_, _, _, rfl, ⟨_, rfl, rfl⟩, rfl, s57, I94⟩
      · have h := ite_f h b44
        refine c_cond_f (decide ((x5.toNat : Int) = 103)) rfl b44 ?_
        refine c_seq ?_
        refine c_reg ?_
        refine sp (u8 x5) rfl rfl ?_
        refine sp (.bool (decide ((x5.toNat : Int) = 120))) rfl rfl ?_
        refine sp (.bool (decide ((x5.toNat : Int) = 120))) rfl rfl ?_
        rcases bool_tf (decide ((x5.toNat : Int) = 120)) with b95 | b95
        · have h := ite_t h b95
          refine sg_run (decide ((x5.toNat : Int) = 120)) rfl b95 ?_
          refine sp (.bool x6) rfl rfl ?_
          refine sp (.bool x6) rfl (e_pick_t rfl b95 rfl) ?_
          refine sp (.bool x6) rfl rfl ?_
          refine sx ?_
          refine cn ?_
          have I234 : Inv _ ((r7, .cells [u8 x4.Kind, u8 x4.Reg, .int .i64 x4.N, u8 x4.Op, u8 x4.M.Key, u8 x4.M.Sign, .int .i64 x4.M.N, u8 x4.Key, u8 x4.Sign]) :: (r11, .cells [u8 (0 : UInt8), u8 (0 : UInt8), .int .i64 0, u8 (0 : UInt8), u8 (0 : UInt8), u8 (0 : UInt8), .int .i64 0, u8 (0 : UInt8), u8 (0 : UInt8)]) :: (r0, .cells [v2, .int .i64 x1.at_]) :: B) (O) := I14.front 1 rfl
          have I235 : Inv _ ((r0, .cells [v2, .int .i64 x1.at_]) :: (r7, .cells [u8 x4.Kind, u8 x4.Reg, .int .i64 x4.N, u8 x4.Op, u8 x4.M.Key, u8 x4.M.Sign, .int .i64 x4.M.N, u8 x4.Key, u8 x4.Sign]) :: (r11, .cells [u8 (0 : UInt8), u8 (0 : UInt8), .int .i64 0, u8 (0 : UInt8), u8 (0 : UInt8), u8 (0 : UInt8), .int .i64 0, u8 (0 : UInt8), u8 (0 : UInt8)]) :: B) (O) := I234.front 2 rfl
          exact keys_reader_key_j49_ok k x5 x6 x6 x1 x4 (⟨(0 : UInt8), (0 : UInt8), 0, (0 : UInt8), (⟨(0 : UInt8), (0 : UInt8), 0⟩ : S_api_Motion), (0 : UInt8), (0 : UInt8)⟩ : S_keys_Cmd) h rfl rfl rfl rfl rfl rfl  s3 I235
        · have h := ite_f h b95
          refine sg_skip (decide ((x5.toNat : Int) = 120)) rfl b95 ?_
          refine sp (.bool false) rfl (e_pick_f rfl b95 rfl) ?_
          refine sp (.bool false) rfl rfl ?_
          refine sx ?_
          refine cn ?_
          have I236 : Inv _ ((r7, .cells [u8 x4.Kind, u8 x4.Reg, .int .i64 x4.N, u8 x4.Op, u8 x4.M.Key, u8 x4.M.Sign, .int .i64 x4.M.N, u8 x4.Key, u8 x4.Sign]) :: (r11, .cells [u8 (0 : UInt8), u8 (0 : UInt8), .int .i64 0, u8 (0 : UInt8), u8 (0 : UInt8), u8 (0 : UInt8), .int .i64 0, u8 (0 : UInt8), u8 (0 : UInt8)]) :: (r0, .cells [v2, .int .i64 x1.at_]) :: B) (O) := I14.front 1 rfl
          have I237 : Inv _ ((r0, .cells [v2, .int .i64 x1.at_]) :: (r7, .cells [u8 x4.Kind, u8 x4.Reg, .int .i64 x4.N, u8 x4.Op, u8 x4.M.Key, u8 x4.M.Sign, .int .i64 x4.M.N, u8 x4.Key, u8 x4.Sign]) :: (r11, .cells [u8 (0 : UInt8), u8 (0 : UInt8), .int .i64 0, u8 (0 : UInt8), u8 (0 : UInt8), u8 (0 : UInt8), .int .i64 0, u8 (0 : UInt8), u8 (0 : UInt8)]) :: B) (O) := I236.front 2 rfl
          exact keys_reader_key_j49_ok k x5 x6 false x1 x4 (⟨(0 : UInt8), (0 : UInt8), 0, (0 : UInt8), (⟨(0 : UInt8), (0 : UInt8), 0⟩ : S_api_Motion), (0 : UInt8), (0 : UInt8)⟩ : S_keys_Cmd) h rfl rfl rfl rfl rfl rfl  s3 I237
/- (*platen.keys.reader).command -/
def keys_reader_command_j30 (k : Nat) (x4 : Bool) (x67 : S_keys_reader) (x70 : S_keys_Cmd) (x71 : S_keys_Cmd) : Option ((S_keys_Cmd × Int × S_keys_reader)) :=
  (keys_reader_count k x67).bind fun a72 => if !a72.2.1 then (some (x71, 2, a72.2.2)) else ((keys_reader_next k a72.2.2).bind fun a91 => if !a91.2.1 then (some ((⟨x71.Kind, x71.Reg, a72.1, x71.Op, x71.M, x71.Key, x71.Sign⟩ : S_keys_Cmd), 1, a91.2.2)) else ((keys_reader_key k a91.2.2 (⟨x71.Kind, x71.Reg, a72.1, x71.Op, x71.M, x71.Key, x71.Sign⟩ : S_keys_Cmd) a91.1 x4).bind fun a108 => some (a108.1, a108.2.1, a108.2.2)))
def keys_reader_command_j7 (k : Nat) (x4 : Bool) (x30 : Bool) (x31 : S_keys_reader) (x34 : S_keys_Cmd) (x35 : S_keys_Cmd) : Option ((S_keys_Cmd × Int × S_keys_reader)) :=
  if x30 then ((keys_reader_next k (⟨x31.p, (IntKind.i64.wrap (x31.at_ + 1))⟩ : S_keys_reader)).bind fun a39 => if !a39.2.1 then (some (x35, 1, a39.2.2)) else ((keys_letter k a39.1).bind fun a56 => if !a56 then (some (x35, 2, a39.2.2)) else (keys_reader_command_j30 k x4 a39.2.2 x34 (⟨x35.Kind, a39.1, x35.N, x35.Op, x35.M, x35.Key, x35.Sign⟩ : S_keys_Cmd)))) else (keys_reader_command_j30 k x4 x31 x34 x35)
def keys_reader_command (k : Nat) (x1 : S_keys_reader) (x4 : Bool) : Option ((S_keys_Cmd × Int × S_keys_reader)) :=
  (keys_reader_more k x1).bind fun a13 => if a13 then ((lIdx x1.p x1.at_).bind fun a22 => keys_reader_command_j7 k x4 (decide ((a22.toNat : Int) = 34)) x1 (⟨(0 : UInt8), (0 : UInt8), 0, (0 : UInt8), (⟨(0 : UInt8), (0 : UInt8), 0⟩ : S_api_Motion), (0 : UInt8), (0 : UInt8)⟩ : S_keys_Cmd) (⟨(0 : UInt8), (0 : UInt8), 0, (0 : UInt8), (⟨(0 : UInt8), (0 : UInt8), 0⟩ : S_api_Motion), (0 : UInt8), (0 : UInt8)⟩ : S_keys_Cmd)) else (keys_reader_command_j7 k x4 false x1 (⟨(0 : UInt8), (0 : UInt8), 0, (0 : UInt8), (⟨(0 : UInt8), (0 : UInt8), 0⟩ : S_api_Motion), (0 : UInt8), (0 : UInt8)⟩ : S_keys_Cmd) (⟨(0 : UInt8), (0 : UInt8), 0, (0 : UInt8), (⟨(0 : UInt8), (0 : UInt8), 0⟩ : S_api_Motion), (0 : UInt8), (0 : UInt8)⟩ : S_keys_Cmd))
theorem keys_reader_command_j30_ok (k : Nat) (x4 : Bool) (x67 : S_keys_reader) (x70 : S_keys_Cmd) (x71 : S_keys_Cmd) {r : (S_keys_Cmd × Int × S_keys_reader)} {v68 : AV} {r0 : Nat} {r5 : Nat} {r9 : Nat} {tm : List (Nat × AV)} {σ : St} {B : List (Nat × Blk)} {O : List AV}
    (h : keys_reader_command_j30 k x4 x67 x70 x71 = some r)
    (e0 : lk tm 0 = some (.blk r0 0))
    (e1 : lk tm 1 = some (.bool x4))
    (e4 : lk tm 4 = some (.blk r5 0))
    (e6 : lk tm 6 = some (.blk r9 0))
    (s69 : SL RU8 1 x67.p v68)
    (I : Inv σ ((r0, .cells [v68, .int .i64 x67.at_]) :: (r5, .cells [u8 x70.Kind, u8 x70.Reg, .int .i64 x70.N, u8 x70.Op, u8 x70.M.Key, u8 x70.M.Sign, .int .i64 x70.M.N, u8 x70.Key, u8 x70.Sign]) :: (r9, .cells [u8 x71.Kind, u8 x71.Reg, .int .i64 x71.N, u8 x71.Op, u8 x71.M.Key, u8 x71.M.Sign, .int .i64 x71.M.N, u8 x71.Key, u8 x71.Sign]) :: B) (O)) :
    RunC kE k15c30 ⟨tm, σ⟩ (ResP (E := kE) k15.res (fun v σ' => ∃ w0 w1 q0v0, v = .tuple [w0, w1] ∧ VAgg S_keys_Cmd.R r.1 w0 ∧ w1 = .int .i64 r.2.1 ∧ SL RU8 1 r.2.2.p q0v0 ∧ Inv σ' ((r0, .cells [q0v0, .int .i64 r.2.2.at_]) :: B) (O))) := by
  unfold keys_reader_command_j30 at h
  refine c_keep (keep_cons e0 (keep_cons e1 (keep_cons e4 (keep_cons e6 keep_nil)))) ?_
  refine c_seq ?_
  refine c_reg ?_
  refine sp (.blk r0 0) rfl rfl ?_
  obtain ⟨a72, g73, h⟩ := bind_some h
  refine st_call (keys_reader_count_ok k _ _ g73 s69 I) rfl ?_
  intro v74 σ76 q75
  obtain ⟨v78, v80, v82, rfl, q79, q81, s83, I77⟩ := q75
  obtain rfl := q79
  obtain rfl := q81
  refine sp (.tuple [.int .i64 a72.1, .bool a72.2.1]) rfl rfl ?_
  refine sp (.int .i64 a72.1) rfl rfl ?_
  refine sp (.bool a72.2.1) rfl rfl ?_
  refine sp (.int .i64 a72.1) rfl rfl ?_
  refine sp (.bool a72.2.1) rfl rfl ?_
  refine sx ?_
  refine cn ?_
  refine c_keep (keep_cons rfl (keep_cons rfl (keep_cons rfl (keep_cons rfl (keep_cons rfl (keep_cons rfl keep_nil)))))) ?_
  refine c_seq ?_
  refine c_seq ?_
  refine c_reg ?_
  refine sp (.bool a72.2.1) rfl rfl ?_
  refine sp (.bool (!a72.2.1)) rfl rfl ?_
  refine sx ?_
  refine cn ?_
  refine c_keep (keep_cons rfl (keep_cons rfl (keep_cons rfl (keep_cons rfl (keep_cons rfl (keep_cons rfl keep_nil)))))) ?_
  rcases bool_tf (!a72.2.1) with b84 | b84
  · have h := ite_t h b84
    refine c_cond_t (!a72.2.1) rfl b84 ?_
    refine c_seq ?_
    refine c_reg ?_
    refine sp (.agg [u8 x71.Kind, u8 x71.Reg, .int .i64 x71.N, u8 x71.Op, u8 x71.M.Key, u8 x71.M.Sign, .int .i64 x71.M.N, u8 x71.Key, u8 x71.Sign]) rfl (e_loads I77 2 0 9 rfl rfl rfl (Nat.le_of_ble_eq_true rfl)) ?_
    refine st_store I77 1 0 (cs' := [u8 x71.Kind, u8 x71.Reg, .int .i64 x71.N, u8 x71.Op, u8 x71.M.Key, u8 x71.M.Sign, .int .i64 x71.M.N, u8 x71.Key, u8 x71.Sign]) (bs' := (r0, .cells [v82, .int .i64 a72.2.2.at_]) :: (r5, .cells [u8 x71.Kind, u8 x71.Reg, .int .i64 x71.N, u8 x71.Op, u8 x71.M.Key, u8 x71.M.Sign, .int .i64 x71.M.N, u8 x71.Key, u8 x71.Sign]) :: (r9, .cells [u8 x71.Kind, u8 x71.Reg, .int .i64 x71.N, u8 x71.Op, u8 x71.M.Key, u8 x71.M.Sign, .int .i64 x71.M.N, u8 x71.Key, u8 x71.Sign]) :: B) rfl rfl rfl rfl rfl (Nat.le_of_ble_eq_true rfl) rfl rfl ?_
    intro σ86 I85
    refine sp (.int .i64 2) rfl rfl ?_
    refine sx ?_
    refine cn ?_
    refine c_ret ?_
    refine cr ?_
    have I87 : Inv _ ((r0, .cells [v82, .int .i64 a72.2.2.at_]) :: (r9, .cells [u8 x71.Kind, u8 x71.Reg, .int .i64 x71.N, u8 x71.Op, u8 x71.M.Key, u8 x71.M.Sign, .int .i64 x71.M.N, u8 x71.Key, u8 x71.Sign]) :: B) (O) := (I85.front 1 rfl).drop
    have I88 : Inv _ ((r0, .cells [v82, .int .i64 a72.2.2.at_]) :: B) (O) := (I87.front 1 rfl).drop
    obtain rfl := some_eq h
    exact rr (vs := [.agg [u8 x71.Kind, u8 x71.Reg, .int .i64 x71.N, u8 x71.Op, u8 x71.M.Key, u8 x71.M.Sign, .int .i64 x71.M.N, u8 x71.Key, u8 x71.Sign], .int .i64 2]) (res_c (resp_cells I85 1 rfl rfl rfl) (res_c (resp_t rfl) res_nil)) ⟨_, _, _, rfl, ⟨_, rfl, rfl⟩, rfl, s83, I88⟩
  · have h := ite_f h b84
    refine c_cond_f (!a72.2.1) rfl b84 ?_
    refine c_skip ?_
    refine cn ?_
    refine c_keep (keep_cons rfl (keep_cons rfl (keep_cons rfl (keep_cons rfl (keep_cons rfl keep_nil))))) ?_
    refine c_seq ?_
    refine c_reg ?_
    refine sp (.int .i64 a72.1) rfl rfl ?_
    refine sp (.blk r9 2) rfl rfl ?_
    refine st_store I77 2 2 (cs' := [u8 x71.Kind, u8 x71.Reg, .int .i64 a72.1, u8 x71.Op, u8 x71.M.Key, u8 x71.M.Sign, .int .i64 x71.M.N, u8 x71.Key, u8 x71.Sign]) (bs' := (r0, .cells [v82, .int .i64 a72.2.2.at_]) :: (r5, .cells [u8 x70.Kind, u8 x70.Reg, .int .i64 x70.N, u8 x70.Op, u8 x70.M.Key, u8 x70.M.Sign, .int .i64 x70.M.N, u8 x70.Key, u8 x70.Sign]) :: (r9, .cells [u8 x71.Kind, u8 x71.Reg, .int .i64 a72.1, u8 x71.Op, u8 x71.M.Key, u8 x71.M.Sign, .int .i64 x71.M.N, u8 x71.Key, u8 x71.Sign]) :: B) rfl rfl rfl rfl rfl (Nat.le_of_ble_eq_true rfl) rfl rfl ?_
    intro σ90 I89
    refine sx ?_
    refine cn ?_
    refine c_keep (keep_cons rfl (keep_cons rfl (keep_cons rfl (keep_cons rfl keep_nil)))) ?_
    refine c_seq ?_
    refine c_reg ?_
    refine sp (.blk r0 0) rfl rfl ?_
    obtain ⟨a91, g92, h⟩ := bind_some h
    refine st_call (keys_reader_next_ok k _ _ g92 s83 I89) rfl ?_
    intro v93 σ95 q94
    obtain ⟨v97, v99, v101, rfl, q98, q100, s102, I96⟩ := q94
    obtain rfl := q98
    obtain rfl := q100
    refine sp (.tuple [u8 a91.1, .bool a91.2.1]) rfl rfl ?_
    refine sp (u8 a91.1) rfl rfl ?_
    refine sp (.bool a91.2.1) rfl rfl ?_
    refine sp (u8 a91.1) rfl rfl ?_
    refine sp (.bool a91.2.1) rfl rfl ?_
    refine sx ?_
    refine cn ?_
    refine c_keep (keep_cons rfl (keep_cons rfl (keep_cons rfl (keep_cons rfl (keep_cons rfl (keep_cons rfl keep_nil)))))) ?_
    refine c_seq ?_
    refine c_seq ?_
    refine c_reg ?_
    refine sp (.bool a91.2.1) rfl rfl ?_
    refine sp (.bool (!a91.2.1)) rfl rfl ?_
    refine sx ?_
    refine cn ?_
    refine c_keep (keep_cons rfl (keep_cons rfl (keep_cons rfl (keep_cons rfl (keep_cons rfl (keep_cons rfl keep_nil)))))) ?_
    rcases bool_tf (!a91.2.1) with b103 | b103
    · have h := ite_t h b103
      refine c_cond_t (!a91.2.1) rfl b103 ?_
      refine c_seq ?_
      refine c_reg ?_
      refine sp (.agg [u8 x71.Kind, u8 x71.Reg, .int .i64 a72.1, u8 x71.Op, u8 x71.M.Key, u8 x71.M.Sign, .int .i64 x71.M.N, u8 x71.Key, u8 x71.Sign]) rfl (e_loads I96 2 0 9 rfl rfl rfl (Nat.le_of_ble_eq_true rfl)) ?_
      refine st_store I96 1 0 (cs' := [u8 x71.Kind, u8 x71.Reg, .int .i64 a72.1, u8 x71.Op, u8 x71.M.Key, u8 x71.M.Sign, .int .i64 x71.M.N, u8 x71.Key, u8 x71.Sign]) (bs' := (r0, .cells [v101, .int .i64 a91.2.2.at_]) :: (r5, .cells [u8 x71.Kind, u8 x71.Reg, .int .i64 a72.1, u8 x71.Op, u8 x71.M.Key, u8 x71.M.Sign, .int .i64 x71.M.N, u8 x71.Key, u8 x71.Sign]) :: (r9, .cells [u8 x71.Kind, u8 x71.Reg, .int .i64 a72.1, u8 x71.Op, u8 x71.M.Key, u8 x71.M.Sign, .int .i64 x71.M.N, u8 x71.Key, u8 x71.Sign]) :: B) rfl rfl rfl rfl rfl (Nat.le_of_ble_eq_true rfl) rfl rfl ?_
      intro σ105 I104
      refine sp (.int .i64 1) rfl rfl ?_
      refine sx ?_
      refine cn ?_
      refine c_ret ?_
      refine cr ?_
      have I106 : Inv _ ((r0, .cells [v101, .int .i64 a91.2.2.at_]) :: (r9, .cells [u8 x71.Kind, u8 x71.Reg, .int .i64 a72.1, u8 x71.Op, u8 x71.M.Key, u8 x71.M.Sign, .int .i64 x71.M.N, u8 x71.Key, u8 x71.Sign]) :: B) (O) := (I104.front 1 rfl).drop
      have I107 : Inv _ ((r0, .cells [v101, .int .i64 a91.2.2.at_]) :: B) (O) := (I106.front 1 rfl).drop
      obtain rfl := some_eq h
      exact rr (vs := [.agg [u8 x71.Kind, u8 x71.Reg, .int .i64 a72.1, u8 x71.Op, u8 x71.M.Key, u8 x71.M.Sign, .int .i64 x71.M.N, u8 x71.Key, u8 x71.Sign], .int .i64 1]) (res_c (resp_cells I104 1 rfl rfl rfl) (res_c (resp_t rfl) res_nil)) ⟨_, _, _, rfl, ⟨_, rfl, rfl⟩, rfl, s102, I107⟩
    · have h := ite_f h b103
      refine c_cond_f (!a91.2.1) rfl b103 ?_
      refine c_skip ?_
      refine cn ?_
      refine c_keep (keep_cons rfl (keep_cons rfl (keep_cons rfl (keep_cons rfl (keep_cons rfl keep_nil))))) ?_
      refine c_seq ?_
      refine c_reg ?_
      refine sp (.blk r0 0) rfl rfl ?_
      refine sp (.agg [u8 x71.Kind, u8 x71.Reg, .int .i64 a72.1, u8 x71.Op, u8 x71.M.Key, u8 x71.M.Sign, .int .i64 x71.M.N, u8 x71.Key, u8 x71.Sign]) rfl (e_loads I96 2 0 9 rfl rfl rfl (Nat.le_of_ble_eq_true rfl)) ?_
      refine sp (u8 a91.1) rfl rfl ?_
      refine sp (.bool x4) rfl rfl ?_
      obtain ⟨a108, g109, h⟩ := bind_some h
      refine st_call (keys_reader_key_ok k _ _ _ _ _ g109 s102 rfl I96) rfl ?_
      intro v110 σ112 q111
      obtain ⟨v114, v116, v118, rfl, q115, q117, s119, I113⟩ := q111
      obtain ⟨c120, rfl, q121⟩ := q115
      obtain rfl := q121
      obtain rfl := q117
      refine sp (.agg [u8 a108.1.Kind, u8 a108.1.Reg, .int .i64 a108.1.N, u8 a108.1.Op, u8 a108.1.M.Key, u8 a108.1.M.Sign, .int .i64 a108.1.M.N, u8 a108.1.Key, u8 a108.1.Sign]) rfl rfl ?_
      refine sp (.int .i64 a108.2.1) rfl rfl ?_
      refine st_store I113 1 0 (cs' := [u8 a108.1.Kind, u8 a108.1.Reg, .int .i64 a108.1.N, u8 a108.1.Op, u8 a108.1.M.Key, u8 a108.1.M.Sign, .int .i64 a108.1.M.N, u8 a108.1.Key, u8 a108.1.Sign]) (bs' := (r0, .cells [v118, .int .i64 a108.2.2.at_]) :: (r5, .cells [u8 a108.1.Kind, u8 a108.1.Reg, .int .i64 a108.1.N, u8 a108.1.Op, u8 a108.1.M.Key, u8 a108.1.M.Sign, .int .i64 a108.1.M.N, u8 a108.1.Key, u8 a108.1.Sign]) :: (r9, .cells [u8 x71.Kind, u8 x71.Reg, .int .i64 a72.1, u8 x71.Op, u8 x71.M.Key, u8 x71.M.Sign, .int .i64 x71.M.N, u8 x71.Key, u8 x71.Sign]) :: B) rfl rfl rfl rfl rfl (Nat.le_of_ble_eq_true rfl) rfl rfl ?_
      intro σ123 I122
      refine sp (.int .i64 a108.2.1) rfl rfl ?_
      refine sx ?_
      refine cn ?_
      refine c_ret ?_
      have I124 : Inv _ ((r0, .cells [v118, .int .i64 a108.2.2.at_]) :: (r9, .cells [u8 x71.Kind, u8 x71.Reg, .int .i64 a72.1, u8 x71.Op, u8 x71.M.Key, u8 x71.M.Sign, .int .i64 x71.M.N, u8 x71.Key, u8 x71.Sign]) :: B) (O) := (I122.front 1 rfl).drop
      have I125 : Inv _ ((r0, .cells [v118, .int .i64 a108.2.2.at_]) :: B) (O) := (I124.front 1 rfl).drop
      obtain rfl := some_eq h
      exact rr (vs := [.agg [u8 a108.1.Kind, u8 a108.1.Reg, .int .i64 a108.1.N, u8 a108.1.Op, u8 a108.1.M.Key, u8 a108.1.M.Sign, .int .i64 a108.1.M.N, u8 a108.1.Key, u8 a108.1.Sign], .int .i64 a108.2.1]) (res_c (resp_cells I122 1 rfl rfl rfl) (res_c (resp_t rfl) res_nil)) ⟨_, _, _, rfl, ⟨_, rfl, rfl⟩, rfl, s119, I125⟩
theorem keys_reader_command_j7_ok (k : Nat) (x4 : Bool) (x30 : Bool) (x31 : S_keys_reader) (x34 : S_keys_Cmd) (x35 : S_keys_Cmd) {r : (S_keys_Cmd × Int × S_keys_reader)} {v32 : AV} {r0 : Nat} {r5 : Nat} {r9 : Nat} {tm : List (Nat × AV)} {σ : St} {B : List (Nat × Blk)} {O : List AV}
    (h : keys_reader_command_j7 k x4 x30 x31 x34 x35 = some r)
    (e0 : lk tm 0 = some (.blk r0 0))
    (e1 : lk tm 1 = some (.bool x4))
    (e4 : lk tm 4 = some (.blk r5 0))
    (e6 : lk tm 6 = some (.blk r9 0))
    (e26 : lk tm 26 = some (.bool x30))
    (s33 : SL RU8 1 x31.p v32)
    (I : Inv σ ((r0, .cells [v32, .int .i64 x31.at_]) :: (r5, .cells [u8 x34.Kind, u8 x34.Reg, .int .i64 x34.N, u8 x34.Op, u8 x34.M.Key, u8 x34.M.Sign, .int .i64 x34.M.N, u8 x34.Key, u8 x34.Sign]) :: (r9, .cells [u8 x35.Kind, u8 x35.Reg, .int .i64 x35.N, u8 x35.Op, u8 x35.M.Key, u8 x35.M.Sign, .int .i64 x35.M.N, u8 x35.Key, u8 x35.Sign]) :: B) (O)) :
    RunC kE k15c7 ⟨tm, σ⟩ (Cont kE k15c30 (ResP (E := kE) k15.res (fun v σ' => ∃ w0 w1 q0v0, v = .tuple [w0, w1] ∧ VAgg S_keys_Cmd.R r.1 w0 ∧ w1 = .int .i64 r.2.1 ∧ SL RU8 1 r.2.2.p q0v0 ∧ Inv σ' ((r0, .cells [q0v0, .int .i64 r.2.2.at_]) :: B) (O)))) := by
  unfold keys_reader_command_j7 at h
  refine c_keep (keep_cons e0 (keep_cons e1 (keep_cons e4 (keep_cons e6 (keep_cons e26 keep_nil))))) ?_
  rcases bool_tf x30 with b36 | b36
  · have h := ite_t h b36
    refine c_cond_t x30 rfl b36 ?_
    refine c_seq ?_
    refine c_reg ?_
    refine sp (.blk r0 0) rfl rfl ?_
    refine sp (.blk r0 0) rfl rfl ?_
    refine sp (.blk r0 1) rfl rfl ?_
    refine sp (.int .i64 x31.at_) rfl (e_load I 0 1 rfl rfl rfl) ?_
    refine sp (.int .i64 (IntKind.i64.wrap (x31.at_ + 1))) rfl rfl ?_
    refine sp (.blk r0 0) rfl rfl ?_
    refine sp (.blk r0 1) rfl rfl ?_
    refine st_store I 0 1 (cs' := [v32, .int .i64 (IntKind.i64.wrap (x31.at_ + 1))]) (bs' := (r0, .cells [v32, .int .i64 (IntKind.i64.wrap (x31.at_ + 1))]) :: (r5, .cells [u8 x34.Kind, u8 x34.Reg, .int .i64 x34.N, u8 x34.Op, u8 x34.M.Key, u8 x34.M.Sign, .int .i64 x34.M.N, u8 x34.Key, u8 x34.Sign]) :: (r9, .cells [u8 x35.Kind, u8 x35.Reg, .int .i64 x35.N, u8 x35.Op, u8 x35.M.Key, u8 x35.M.Sign, .int .i64 x35.M.N, u8 x35.Key, u8 x35.Sign]) :: B) rfl rfl rfl rfl rfl (Nat.le_of_ble_eq_true rfl) rfl rfl ?_
    intro σ38 I37
    refine sx ?_
    refine cn ?_
    refine c_keep (keep_cons rfl (keep_cons rfl (keep_cons rfl (keep_cons rfl keep_nil)))) ?_
    refine c_seq ?_
    refine c_reg ?_
    refine sp (.blk r0 0) rfl rfl ?_
    obtain ⟨a39, g40, h⟩ := bind_some h
    refine st_call (keys_reader_next_ok k _ _ g40 s33 I37) rfl ?_
    intro v41 σ43 q42
    obtain ⟨v45, v47, v49, rfl, q46, q48, s50, I44⟩ := q42
    obtain rfl := q46
    obtain rfl := q48
    refine sp (.tuple [u8 a39.1, .bool a39.2.1]) rfl rfl ?_
    refine sp (u8 a39.1) rfl rfl ?_
    refine sp (.bool a39.2.1) rfl rfl ?_
    refine sp (u8 a39.1) rfl rfl ?_
    refine sp (.bool a39.2.1) rfl rfl ?_
    refine sx ?_
    refine cn ?_
    refine c_keep (keep_cons rfl (keep_cons rfl (keep_cons rfl (keep_cons rfl (keep_cons rfl (keep_cons rfl keep_nil)))))) ?_
    refine c_seq ?_
    refine c_seq ?_
    refine c_reg ?_
    refine sp (.bool a39.2.1) rfl rfl ?_
    refine sp (.bool (!a39.2.1)) rfl rfl ?_
    refine sx ?_
    refine cn ?_
    refine c_keep (keep_cons rfl (keep_cons rfl (keep_cons rfl (keep_cons rfl (keep_cons rfl (keep_cons rfl keep_nil)))))) ?_
    rcases bool_tf (!a39.2.1) with b51 | b51
    · have h := ite_t h b51
      refine c_cond_t (!a39.2.1) rfl b51 ?_
      refine c_seq ?_
      refine c_reg ?_
      refine sp (.agg [u8 x35.Kind, u8 x35.Reg, .int .i64 x35.N, u8 x35.Op, u8 x35.M.Key, u8 x35.M.Sign, .int .i64 x35.M.N, u8 x35.Key, u8 x35.Sign]) rfl (e_loads I44 2 0 9 rfl rfl rfl (Nat.le_of_ble_eq_true rfl)) ?_
      refine st_store I44 1 0 (cs' := [u8 x35.Kind, u8 x35.Reg, .int .i64 x35.N, u8 x35.Op, u8 x35.M.Key, u8 x35.M.Sign, .int .i64 x35.M.N, u8 x35.Key, u8 x35.Sign]) (bs' := (r0, .cells [v49, .int .i64 a39.2.2.at_]) :: (r5, .cells [u8 x35.Kind, u8 x35.Reg, .int .i64 x35.N, u8 x35.Op, u8 x35.M.Key, u8 x35.M.Sign, .int .i64 x35.M.N, u8 x35.Key, u8 x35.Sign]) :: (r9, .cells [u8 x35.Kind, u8 x35.Reg, .int .i64 x35.N, u8 x35.Op, u8 x35.M.Key, u8 x35.M.Sign, .int .i64 x35.M.N, u8 x35.Key, u8 x35.Sign]) :: B) rfl rfl rfl rfl rfl (Nat.le_of_ble_eq_true rfl) rfl rfl ?_
      intro σ53 I52
      refine sp (.int .i64 1) rfl rfl ?_
      refine sx ?_
      refine cn ?_
      refine c_ret ?_
      refine cr ?_
      refine cr ?_
      have I54 : Inv _ ((r0, .cells [v49, .int .i64 a39.2.2.at_]) :: (r9, .cells [u8 x35.Kind, u8 x35.Reg, .int .i64 x35.N, u8 x35.Op, u8 x35.M.Key, u8 x35.M.Sign, .int .i64 x35.M.N, u8 x35.Key, u8 x35.Sign]) :: B) (O) := (I52.front 1 rfl).drop
      have I55 : Inv _ ((r0, .cells [v49, .int .i64 a39.2.2.at_]) :: B) (O) := (I54.front 1 rfl).drop
      obtain rfl := some_eq h
      exact rr (vs := [.agg [u8 x35.Kind, u8 x35.Reg, .int .i64 x35.N, u8 x35.Op, u8 x35.M.Key, u8 x35.M.Sign, .int .i64 x35.M.N, u8 x35.Key, u8 x35.Sign], .int .i64 1]) (res_c (resp_cells I52 1 rfl rfl rfl) (res_c (resp_t rfl) res_nil)) ⟨_, _, _, rfl, ⟨_, rfl, rfl⟩, rfl, s50, I55⟩
    · have h := ite_f h b51
      refine c_cond_f (!a39.2.1) rfl b51 ?_
      refine c_skip ?_
      refine cn ?_
      refine c_keep (keep_cons rfl (keep_cons rfl (keep_cons rfl (keep_cons rfl (keep_cons rfl keep_nil))))) ?_
      refine c_seq ?_
      refine c_seq ?_
      refine c_reg ?_
      refine sp (u8 a39.1) rfl rfl ?_
      obtain ⟨a56, g57, h⟩ := bind_some h
      refine st_callc (keys_letter_ok k _ _ g57 ) rfl ?_
      intro v58 q59
      obtain rfl := q59
      refine sp (.bool (!a56)) rfl rfl ?_
      refine sx ?_
      refine cn ?_
      refine c_keep (keep_cons rfl (keep_cons rfl (keep_cons rfl (keep_cons rfl (keep_cons rfl (keep_cons rfl keep_nil)))))) ?_
      rcases bool_tf (!a56) with b60 | b60
      · have h := ite_t h b60
        refine c_cond_t (!a56) rfl b60 ?_
        refine c_seq ?_
        refine c_reg ?_
        refine sp (.agg [u8 x35.Kind, u8 x35.Reg, .int .i64 x35.N, u8 x35.Op, u8 x35.M.Key, u8 x35.M.Sign, .int .i64 x35.M.N, u8 x35.Key, u8 x35.Sign]) rfl (e_loads I44 2 0 9 rfl rfl rfl (Nat.le_of_ble_eq_true rfl)) ?_
        refine st_store I44 1 0 (cs' := [u8 x35.Kind, u8 x35.Reg, .int .i64 x35.N, u8 x35.Op, u8 x35.M.Key, u8 x35.M.Sign, .int .i64 x35.M.N, u8 x35.Key, u8 x35.Sign]) (bs' := (r0, .cells [v49, .int .i64 a39.2.2.at_]) :: (r5, .cells [u8 x35.Kind, u8 x35.Reg, .int .i64 x35.N, u8 x35.Op, u8 x35.M.Key, u8 x35.M.Sign, .int .i64 x35.M.N, u8 x35.Key, u8 x35.Sign]) :: (r9, .cells [u8 x35.Kind, u8 x35.Reg, .int .i64 x35.N, u8 x35.Op, u8 x35.M.Key, u8 x35.M.Sign, .int .i64 x35.M.N, u8 x35.Key, u8 x35.Sign]) :: B) rfl rfl rfl rfl rfl (Nat.le_of_ble_eq_true rfl) rfl rfl ?_
        intro σ62 I61
        refine sp (.int .i64 2) rfl rfl ?_
        refine sx ?_
        refine cn ?_
        refine c_ret ?_
        refine cr ?_
        refine cr ?_
        have I63 : Inv _ ((r0, .cells [v49, .int .i64 a39.2.2.at_]) :: (r9, .cells [u8 x35.Kind, u8 x35.Reg, .int .i64 x35.N, u8 x35.Op, u8 x35.M.Key, u8 x35.M.Sign, .int .i64 x35.M.N, u8 x35.Key, u8 x35.Sign]) :: B) (O) := (I61.front 1 rfl).drop
        have I64 : Inv _ ((r0, .cells [v49, .int .i64 a39.2.2.at_]) :: B) (O) := (I63.front 1 rfl).drop
        obtain rfl := some_eq h
        exact rr (vs := [.agg [u8 x35.Kind, u8 x35.Reg, .int .i64 x35.N, u8 x35.Op, u8 x35.M.Key, u8 x35.M.Sign, .int .i64 x35.M.N, u8 x35.Key, u8 x35.Sign], .int .i64 2]) (res_c (resp_cells I61 1 rfl rfl rfl) (res_c (resp_t rfl) res_nil)) ⟨_, _, _, rfl, ⟨_, rfl, rfl⟩, rfl, s50, I64⟩
      · have h := ite_f h b60
        refine c_cond_f (!a56) rfl b60 ?_
        refine c_skip ?_
        refine cn ?_
        refine c_keep (keep_cons rfl (keep_cons rfl (keep_cons rfl (keep_cons rfl (keep_cons rfl keep_nil))))) ?_
        refine c_reg ?_
        refine sp (u8 a39.1) rfl rfl ?_
        refine sp (.blk r9 1) rfl rfl ?_
        refine st_store I44 2 1 (cs' := [u8 x35.Kind, u8 a39.1, .int .i64 x35.N, u8 x35.Op, u8 x35.M.Key, u8 x35.M.Sign, .int .i64 x35.M.N, u8 x35.Key, u8 x35.Sign]) (bs' := (r0, .cells [v49, .int .i64 a39.2.2.at_]) :: (r5, .cells [u8 x34.Kind, u8 x34.Reg, .int .i64 x34.N, u8 x34.Op, u8 x34.M.Key, u8 x34.M.Sign, .int .i64 x34.M.N, u8 x34.Key, u8 x34.Sign]) :: (r9, .cells [u8 x35.Kind, u8 a39.1, .int .i64 x35.N, u8 x35.Op, u8 x35.M.Key, u8 x35.M.Sign, .int .i64 x35.M.N, u8 x35.Key, u8 x35.Sign]) :: B) rfl rfl rfl rfl rfl (Nat.le_of_ble_eq_true rfl) rfl rfl ?_
        intro σ66 I65
        refine sx ?_
        refine cn ?_
        exact keys_reader_command_j30_ok k x4 a39.2.2 x34 (⟨x35.Kind, a39.1, x35.N, x35.Op, x35.M, x35.Key, x35.Sign⟩ : S_keys_Cmd) h rfl rfl rfl rfl  s50 I65
  · have h := ite_f h b36
    refine c_cond_f x30 rfl b36 ?_
    refine c_skip ?_
    refine cn ?_
    exact keys_reader_command_j30_ok k x4 x31 x34 x35 h rfl rfl rfl rfl  s33 I
theorem keys_reader_command_ok (k : Nat) (x1 : S_keys_reader) (x4 : Bool) (r : (S_keys_Cmd × Int × S_keys_reader)) {v2 : AV} {r0 : Nat} {σ : St} {B : List (Nat × Blk)} {O : List AV}
    (h : keys_reader_command k x1 x4 = some r)
    (s3 : SL RU8 1 x1.p v2)
    (I : Inv σ ((r0, .cells [v2, .int .i64 x1.at_]) :: B) (O)) :
    RunF kE 15 [.blk r0 0, .bool x4] σ (fun v σ' => ∃ w0 w1 q0v0, v = .tuple [w0, w1] ∧ VAgg S_keys_Cmd.R r.1 w0 ∧ w1 = .int .i64 r.2.1 ∧ SL RU8 1 r.2.2.p q0v0 ∧ Inv σ' ((r0, .cells [q0v0, .int .i64 r.2.2.at_]) :: B) (O)) := by
  refine f_plain rfl rfl rfl rfl ?_
  unfold keys_reader_command at h
  refine c_seq ?_
  refine c_reg ?_
  refine st_alloc I ?_
  intro r5 σ6 I7
  have I8 : Inv _ ((r5, .cells [u8 (0 : UInt8), u8 (0 : UInt8), .int .i64 0, u8 (0 : UInt8), u8 (0 : UInt8), u8 (0 : UInt8), .int .i64 0, u8 (0 : UInt8), u8 (0 : UInt8)]) :: (r0, .cells [v2, .int .i64 x1.at_]) :: B) (O) := I7
  refine sp (.int .i64 0) rfl rfl ?_
  refine sx ?_
  refine cn ?_
  refine c_keep (keep_cons rfl (keep_cons rfl (keep_cons rfl keep_nil))) ?_
  refine c_seq ?_
  refine c_reg ?_
  refine st_alloc I8 ?_
  intro r9 σ10 I11
  have I12 : Inv _ ((r9, .cells [u8 (0 : UInt8), u8 (0 : UInt8), .int .i64 0, u8 (0 : UInt8), u8 (0 : UInt8), u8 (0 : UInt8), .int .i64 0, u8 (0 : UInt8), u8 (0 : UInt8)]) :: (r5, .cells [u8 (0 : UInt8), u8 (0 : UInt8), .int .i64 0, u8 (0 : UInt8), u8 (0 : UInt8), u8 (0 : UInt8), .int .i64 0, u8 (0 : UInt8), u8 (0 : UInt8)]) :: (r0, .cells [v2, .int .i64 x1.at_]) :: B) (O) := I11
  refine sx ?_
  refine cn ?_
  refine c_keep (keep_cons rfl (keep_cons rfl (keep_cons rfl (keep_cons rfl keep_nil)))) ?_
  refine c_seq ?_
  refine c_seq ?_
  refine c_reg ?_
  refine sp (.blk r0 0) rfl rfl ?_
  obtain ⟨a13, g14, h⟩ := bind_some h
  have I17 : Inv _ ((r0, .cells [v2, .int .i64 x1.at_]) :: (r9, .cells [u8 (0 : UInt8), u8 (0 : UInt8), .int .i64 0, u8 (0 : UInt8), u8 (0 : UInt8), u8 (0 : UInt8), .int .i64 0, u8 (0 : UInt8), u8 (0 : UInt8)]) :: (r5, .cells [u8 (0 : UInt8), u8 (0 : UInt8), .int .i64 0, u8 (0 : UInt8), u8 (0 : UInt8), u8 (0 : UInt8), .int .i64 0, u8 (0 : UInt8), u8 (0 : UInt8)]) :: B) (O) := I12.front 2 rfl
  refine st_call (keys_reader_more_ok k _ _ g14 s3 I17) rfl ?_
  intro v15 σ18 q16
  obtain ⟨q20, I19⟩ := q16
  obtain rfl := q20
  refine sp (.bool a13) rfl rfl ?_
  rcases bool_tf a13 with b21 | b21
  · have h := ite_t h b21
    refine sg_run a13 rfl b21 ?_
    refine sp (.blk r0 0) rfl rfl ?_
    refine sg_run a13 rfl b21 ?_
    refine sp (.blk r0 0) rfl rfl ?_
    refine sg_run a13 rfl b21 ?_
    refine sp (.blk r0 0) rfl rfl ?_
    refine sg_run a13 rfl b21 ?_
    refine sp (v2) rfl (e_load I19 0 0 rfl rfl rfl) ?_
    refine sg_run a13 rfl b21 ?_
    refine sp (.blk r0 0) rfl rfl ?_
    refine sg_run a13 rfl b21 ?_
    refine sp (.blk r0 0) rfl rfl ?_
    refine sg_run a13 rfl b21 ?_
    refine sp (.blk r0 1) rfl rfl ?_
    refine sg_run a13 rfl b21 ?_
    refine sp (.int .i64 x1.at_) rfl (e_load I19 0 1 rfl rfl rfl) ?_
    refine sg_run a13 rfl b21 ?_
    obtain ⟨a22, g23, h⟩ := bind_some h
    refine st_idxa rfl s3 rfl (Nat.le_of_ble_eq_true rfl) g23 ?_
    intro c24 o25 d26 q27 z28 l29
    obtain rfl := q27
    clear z28
    refine sg_run a13 rfl b21 ?_
    refine sp (u8 a22) rfl (e_load_elem 0 rfl l29 rfl) ?_
    refine sg_run a13 rfl b21 ?_
    refine sp (.bool (decide ((a22.toNat : Int) = 34))) rfl rfl ?_
    refine sp (.bool (decide ((a22.toNat : Int) = 34))) rfl (e_pick_t rfl b21 rfl) ?_
    refine sx ?_
    refine cn ?_
    have I126 : Inv _ ((r9, .cells [u8 (0 : UInt8), u8 (0 : UInt8), .int .i64 0, u8 (0 : UInt8), u8 (0 : UInt8), u8 (0 : UInt8), .int .i64 0, u8 (0 : UInt8), u8 (0 : UInt8)]) :: (r0, .cells [v2, .int .i64 x1.at_]) :: (r5, .cells [u8 (0 : UInt8), u8 (0 : UInt8), .int .i64 0, u8 (0 : UInt8), u8 (0 : UInt8), u8 (0 : UInt8), .int .i64 0, u8 (0 : UInt8), u8 (0 : UInt8)]) :: B) (O) := I19.front 1 rfl
    have I127 : Inv _ ((r5, .cells [u8 (0 : UInt8), u8 (0 : UInt8), .int .i64 0, u8 (0 : UInt8), u8 (0 : UInt8), u8 (0 : UInt8), .int .i64 0, u8 (0 : UInt8), u8 (0 : UInt8)]) :: (r9, .cells [u8 (0 : UInt8), u8 (0 : UInt8), .int .i64 0, u8 (0 : UInt8), u8 (0 : UInt8), u8 (0 : UInt8), .int .i64 0, u8 (0 : UInt8), u8 (0 : UInt8)]) :: (r0, .cells [v2, .int .i64 x1.at_]) :: B) (O) := I126.front 2 rfl
    have I128 : Inv _ ((r0, .cells [v2, .int .i64 x1.at_]) :: (r5, .cells [u8 (0 : UInt8), u8 (0 : UInt8), .int .i64 0, u8 (0 : UInt8), u8 (0 : UInt8), u8 (0 : UInt8), .int .i64 0, u8 (0 : UInt8), u8 (0 : UInt8)]) :: (r9, .cells [u8 (0 : UInt8), u8 (0 : UInt8), .int .i64 0, u8 (0 : UInt8), u8 (0 : UInt8), u8 (0 : UInt8), .int .i64 0, u8 (0 : UInt8), u8 (0 : UInt8)]) :: B) (O) := I127.front 2 rfl
    exact keys_reader_command_j7_ok k x4 (decide ((a22.toNat : Int) = 34)) x1 (⟨(0 : UInt8), (0 : UInt8), 0, (0 : UInt8), (⟨(0 : UInt8), (0 : UInt8), 0⟩ : S_api_Motion), (0 : UInt8), (0 : UInt8)⟩ : S_keys_Cmd) (⟨(0 : UInt8), (0 : UInt8), 0, (0 : UInt8), (⟨(0 : UInt8), (0 : UInt8), 0⟩ : S_api_Motion), (0 : UInt8), (0 : UInt8)⟩ : S_keys_Cmd) h rfl rfl rfl rfl rfl  s3 I128
  · have h := ite_f h b21
    refine sg_skip a13 rfl b21 ?_
    refine sg_skip a13 rfl b21 ?_
    refine sg_skip a13 rfl b21 ?_
    refine sg_skip a13 rfl b21 ?_
    refine sg_skip a13 rfl b21 ?_
    refine sg_skip a13 rfl b21 ?_
    refine sg_skip a13 rfl b21 ?_
    refine sg_skip a13 rfl b21 ?_
    refine sg_skip a13 rfl b21 ?_
    refine sg_skip a13 rfl b21 ?_
    refine sg_skip a13 rfl b21 ?_
    refine sp (.bool false) rfl (e_pick_f rfl b21 rfl) ?_
    refine sx ?_
    refine cn ?_
    have I129 : Inv _ ((r9, .cells [u8 (0 : UInt8), u8 (0 : UInt8), .int .i64 0, u8 (0 : UInt8), u8 (0 : UInt8), u8 (0 : UInt8), .int .i64 0, u8 (0 : UInt8), u8 (0 : UInt8)]) :: (r0, .cells [v2, .int .i64 x1.at_]) :: (r5, .cells [u8 (0 : UInt8), u8 (0 : UInt8), .int .i64 0, u8 (0 : UInt8), u8 (0 : UInt8), u8 (0 : UInt8), .int .i64 0, u8 (0 : UInt8), u8 (0 : UInt8)]) :: B) (O) := I19.front 1 rfl
    have I130 : Inv _ ((r5, .cells [u8 (0 : UInt8), u8 (0 : UInt8), .int .i64 0, u8 (0 : UInt8), u8 (0 : UInt8), u8 (0 : UInt8), .int .i64 0, u8 (0 : UInt8), u8 (0 : UInt8)]) :: (r9, .cells [u8 (0 : UInt8), u8 (0 : UInt8), .int .i64 0, u8 (0 : UInt8), u8 (0 : UInt8), u8 (0 : UInt8), .int .i64 0, u8 (0 : UInt8), u8 (0 : UInt8)]) :: (r0, .cells [v2, .int .i64 x1.at_]) :: B) (O) := I129.front 2 rfl
    have I131 : Inv _ ((r0, .cells [v2, .int .i64 x1.at_]) :: (r5, .cells [u8 (0 : UInt8), u8 (0 : UInt8), .int .i64 0, u8 (0 : UInt8), u8 (0 : UInt8), u8 (0 : UInt8), .int .i64 0, u8 (0 : UInt8), u8 (0 : UInt8)]) :: (r9, .cells [u8 (0 : UInt8), u8 (0 : UInt8), .int .i64 0, u8 (0 : UInt8), u8 (0 : UInt8), u8 (0 : UInt8), .int .i64 0, u8 (0 : UInt8), u8 (0 : UInt8)]) :: B) (O) := I130.front 2 rfl
    exact keys_reader_command_j7_ok k x4 false x1 (⟨(0 : UInt8), (0 : UInt8), 0, (0 : UInt8), (⟨(0 : UInt8), (0 : UInt8), 0⟩ : S_api_Motion), (0 : UInt8), (0 : UInt8)⟩ : S_keys_Cmd) (⟨(0 : UInt8), (0 : UInt8), 0, (0 : UInt8), (⟨(0 : UInt8), (0 : UInt8), 0⟩ : S_api_Motion), (0 : UInt8), (0 : UInt8)⟩ : S_keys_Cmd) h rfl rfl rfl rfl rfl  s3 I131
/- platen.keys.Read -/
def keys_Read_j12 (k : Nat) (x43 : Int) (x44 : S_keys_Cmd) (x45 : S_keys_Cmd) : Option ((S_keys_Cmd × Int)) :=
  if !decide (x43 = 0) then (some ((⟨(0 : UInt8), (0 : UInt8), 0, (0 : UInt8), (⟨(0 : UInt8), (0 : UInt8), 0⟩ : S_api_Motion), (0 : UInt8), (0 : UInt8)⟩ : S_keys_Cmd), x43)) else (some (x45, 0))
def keys_Read (k : Nat) (x1 : List UInt8) (x4 : Bool) : Option ((S_keys_Cmd × Int)) :=
  (keys_reader_command k (⟨x1, 0⟩ : S_keys_reader) x4).bind fun a13 => if decide (a13.2.1 = 0) then ((keys_reader_more k a13.2.2).bind fun a34 => if a34 then (keys_Read_j12 k  2 (⟨(0 : UInt8), (0 : UInt8), 0, (0 : UInt8), (⟨(0 : UInt8), (0 : UInt8), 0⟩ : S_api_Motion), (0 : UInt8), (0 : UInt8)⟩ : S_keys_Cmd) a13.1) else (keys_Read_j12 k  a13.2.1 (⟨(0 : UInt8), (0 : UInt8), 0, (0 : UInt8), (⟨(0 : UInt8), (0 : UInt8), 0⟩ : S_api_Motion), (0 : UInt8), (0 : UInt8)⟩ : S_keys_Cmd) a13.1)) else (keys_Read_j12 k  a13.2.1 (⟨(0 : UInt8), (0 : UInt8), 0, (0 : UInt8), (⟨(0 : UInt8), (0 : UInt8), 0⟩ : S_api_Motion), (0 : UInt8), (0 : UInt8)⟩ : S_keys_Cmd) a13.1)
theorem keys_Read_j12_ok (k : Nat) (x43 : Int) (x44 : S_keys_Cmd) (x45 : S_keys_Cmd) {r : (S_keys_Cmd × Int)}  {r27 : Nat} {r5 : Nat} {tm : List (Nat × AV)} {σ : St} {B : List (Nat × Blk)} {O : List AV}
    (h : keys_Read_j12 k x43 x44 x45 = some r)
    (e4 : lk tm 4 = some (.blk r5 0))
    (e7 : lk tm 7 = some (.blk r27 0))
    (e8 : lk tm 8 = some (.int .i64 x43))
    (I : Inv σ ((r5, .cells [u8 x44.Kind, u8 x44.Reg, .int .i64 x44.N, u8 x44.Op, u8 x44.M.Key, u8 x44.M.Sign, .int .i64 x44.M.N, u8 x44.Key, u8 x44.Sign]) :: (r27, .cells [u8 x45.Kind, u8 x45.Reg, .int .i64 x45.N, u8 x45.Op, u8 x45.M.Key, u8 x45.M.Sign, .int .i64 x45.M.N, u8 x45.Key, u8 x45.Sign]) :: B) (O)) :
    RunC kE k13c12 ⟨tm, σ⟩ (ResP (E := kE) k13.res (fun v σ' => ∃ v', close v = some v' ∧ (∃ w0 w1, v' = .tuple [w0, w1] ∧ VAgg S_keys_Cmd.R r.1 w0 ∧ w1 = .int .i64 r.2))) := by
  unfold keys_Read_j12 at h
  refine c_keep (keep_cons e4 (keep_cons e7 (keep_cons e8 keep_nil))) ?_
  refine c_seq ?_
  refine c_seq ?_
  refine c_reg ?_
  refine sp (.int .i64 x43) rfl rfl ?_
  refine sp (.bool (!decide (x43 = 0))) rfl rfl ?_
  refine sx ?_
  refine cn ?_
  refine c_keep (keep_cons rfl (keep_cons rfl (keep_cons rfl (keep_cons rfl keep_nil)))) ?_
  rcases bool_tf (!decide (x43 = 0)) with b46 | b46
  · have h := ite_t h b46
    refine c_cond_t (!decide (x43 = 0)) rfl b46 ?_
    refine c_seq ?_
    refine c_reg ?_
    refine sp (.agg [u8 (0 : UInt8), u8 (0 : UInt8), .int .i64 0, u8 (0 : UInt8), u8 (0 : UInt8), u8 (0 : UInt8), .int .i64 0, u8 (0 : UInt8), u8 (0 : UInt8)]) rfl rfl ?_
    refine sp (.int .i64 x43) rfl rfl ?_
    refine st_store I 0 0 (cs' := [u8 (0 : UInt8), u8 (0 : UInt8), .int .i64 0, u8 (0 : UInt8), u8 (0 : UInt8), u8 (0 : UInt8), .int .i64 0, u8 (0 : UInt8), u8 (0 : UInt8)]) (bs' := (r5, .cells [u8 (0 : UInt8), u8 (0 : UInt8), .int .i64 0, u8 (0 : UInt8), u8 (0 : UInt8), u8 (0 : UInt8), .int .i64 0, u8 (0 : UInt8), u8 (0 : UInt8)]) :: (r27, .cells [u8 x45.Kind, u8 x45.Reg, .int .i64 x45.N, u8 x45.Op, u8 x45.M.Key, u8 x45.M.Sign, .int .i64 x45.M.N, u8 x45.Key, u8 x45.Sign]) :: B) rfl rfl rfl rfl rfl (Nat.le_of_ble_eq_true rfl) rfl rfl ?_
    intro σ48 I47
    refine sp (.int .i64 x43) rfl rfl ?_
    refine sx ?_
    refine cn ?_
    refine c_ret ?_
    refine cr ?_
    obtain rfl := some_eq h
    exact rr (vs := [.agg [u8 (0 : UInt8), u8 (0 : UInt8), .int .i64 0, u8 (0 : UInt8), u8 (0 : UInt8), u8 (0 : UInt8), .int .i64 0, u8 (0 : UInt8), u8 (0 : UInt8)], .int .i64 x43]) (res_c (resp_cells I47 0 rfl rfl rfl) (res_c (resp_t rfl) res_nil)) ⟨_, cl_tuple (cl_cons rfl (cl_cons rfl cl_nil)), _, _, rfl, ⟨_, rfl, rfl⟩, rfl⟩
  · have h := ite_f h b46
    refine c_cond_f (!decide (x43 = 0)) rfl b46 ?_
    refine c_skip ?_
    refine cn ?_
    refine c_keep (keep_cons rfl (keep_cons rfl keep_nil)) ?_
    refine c_seq ?_
    refine c_reg ?_
    refine sp (.agg [u8 x45.Kind, u8 x45.Reg, .int .i64 x45.N, u8 x45.Op, u8 x45.M.Key, u8 x45.M.Sign, .int .i64 x45.M.N, u8 x45.Key, u8 x45.Sign]) rfl (e_loads I 1 0 9 rfl rfl rfl (Nat.le_of_ble_eq_true rfl)) ?_
    refine st_store I 0 0 (cs' := [u8 x45.Kind, u8 x45.Reg, .int .i64 x45.N, u8 x45.Op, u8 x45.M.Key, u8 x45.M.Sign, .int .i64 x45.M.N, u8 x45.Key, u8 x45.Sign]) (bs' := (r5, .cells [u8 x45.Kind, u8 x45.Reg, .int .i64 x45.N, u8 x45.Op, u8 x45.M.Key, u8 x45.M.Sign, .int .i64 x45.M.N, u8 x45.Key, u8 x45.Sign]) :: (r27, .cells [u8 x45.Kind, u8 x45.Reg, .int .i64 x45.N, u8 x45.Op, u8 x45.M.Key, u8 x45.M.Sign, .int .i64 x45.M.N, u8 x45.Key, u8 x45.Sign]) :: B) rfl rfl rfl rfl rfl (Nat.le_of_ble_eq_true rfl) rfl rfl ?_
    intro σ50 I49
    refine sp (.int .i64 0) rfl rfl ?_
    refine sx ?_
    refine cn ?_
    refine c_ret ?_
    obtain rfl := some_eq h
    exact rr (vs := [.agg [u8 x45.Kind, u8 x45.Reg, .int .i64 x45.N, u8 x45.Op, u8 x45.M.Key, u8 x45.M.Sign, .int .i64 x45.M.N, u8 x45.Key, u8 x45.Sign], .int .i64 0]) (res_c (resp_cells I49 0 rfl rfl rfl) (res_c (resp_t rfl) res_nil)) ⟨_, cl_tuple (cl_cons rfl (cl_cons rfl cl_nil)), _, _, rfl, ⟨_, rfl, rfl⟩, rfl⟩
theorem keys_Read_ok (k : Nat) (x1 : List UInt8) (x4 : Bool) (r : (S_keys_Cmd × Int)) {v2 : AV}  {σ : St}
    (h : keys_Read k x1 x4 = some r)
    (s3 : SL RU8 1 x1 v2) :
    RunF kE 13 [v2, .bool x4] σ (fun v σ' => σ' = σ ∧ (∃ w0 w1, v = .tuple [w0, w1] ∧ VAgg S_keys_Cmd.R r.1 w0 ∧ w1 = .int .i64 r.2)) := by
  obtain ⟨v2, k0, s3⟩ := s3.close
  refine f_closed rfl rfl rfl (cl_cons k0 (cl_cons rfl cl_nil)) rfl ?_
  have I0 : Inv .zero [] [] := Inv.zero
  unfold keys_Read at h
  refine c_seq ?_
  refine c_reg ?_
  refine st_alloc I0 ?_
  intro r5 σ6 I7
  have I8 : Inv _ ((r5, .cells [u8 (0 : UInt8), u8 (0 : UInt8), .int .i64 0, u8 (0 : UInt8), u8 (0 : UInt8), u8 (0 : UInt8), .int .i64 0, u8 (0 : UInt8), u8 (0 : UInt8)]) :: []) ([]) := I7
  refine sp (.int .i64 0) rfl rfl ?_
  refine sx ?_
  refine cn ?_
  refine c_keep (keep_cons rfl (keep_cons rfl (keep_cons rfl keep_nil))) ?_
  refine c_seq ?_
  refine c_reg ?_
  refine sp (v2) rfl rfl ?_
  refine sp (.agg [v2, .int .i64 0]) rfl (e_build rfl (fill_cons [v2, .int .i64 0] (SL.one s3) rfl (Nat.le_of_ble_eq_true rfl) rfl fill_nil)) ?_
  refine st_box I8 rfl rfl ?_
  intro r9 σ10 I11
  have I12 : Inv _ ((r9, .cells [v2, .int .i64 0]) :: (r5, .cells [u8 (0 : UInt8), u8 (0 : UInt8), .int .i64 0, u8 (0 : UInt8), u8 (0 : UInt8), u8 (0 : UInt8), .int .i64 0, u8 (0 : UInt8), u8 (0 : UInt8)]) :: []) ([]) := I11
  refine sp (.blk r9 0) rfl rfl ?_
  refine sx ?_
  refine cn ?_
  refine c_keep (keep_cons rfl (keep_cons rfl (keep_cons rfl keep_nil))) ?_
  refine c_seq ?_
  refine c_reg ?_
  refine sp (.blk r9 0) rfl rfl ?_
  refine sp (.bool x4) rfl rfl ?_
  obtain ⟨a13, g14, h⟩ := bind_some h
  refine st_call (keys_reader_command_ok k _ _ _ g14 s3 I12) rfl ?_
  intro v15 σ17 q16
  obtain ⟨v19, v21, v23, rfl, q20, q22, s24, I18⟩ := q16
  obtain ⟨c25, rfl, q26⟩ := q20
  obtain rfl := q26
  obtain rfl := q22
  refine sp (.tuple [.agg [u8 a13.1.Kind, u8 a13.1.Reg, .int .i64 a13.1.N, u8 a13.1.Op, u8 a13.1.M.Key, u8 a13.1.M.Sign, .int .i64 a13.1.M.N, u8 a13.1.Key, u8 a13.1.Sign], .int .i64 a13.2.1]) rfl rfl ?_
  refine sp (.agg [u8 a13.1.Kind, u8 a13.1.Reg, .int .i64 a13.1.N, u8 a13.1.Op, u8 a13.1.M.Key, u8 a13.1.M.Sign, .int .i64 a13.1.M.N, u8 a13.1.Key, u8 a13.1.Sign]) rfl rfl ?_
  refine sp (.int .i64 a13.2.1) rfl rfl ?_
  refine st_alloc I18 ?_
  intro r27 σ28 I29
  have I30 : Inv _ ((r27, .cells [u8 (0 : UInt8), u8 (0 : UInt8), .int .i64 0, u8 (0 : UInt8), u8 (0 : UInt8), u8 (0 : UInt8), .int .i64 0, u8 (0 : UInt8), u8 (0 : UInt8)]) :: (r9, .cells [v23, .int .i64 a13.2.2.at_]) :: (r5, .cells [u8 (0 : UInt8), u8 (0 : UInt8), .int .i64 0, u8 (0 : UInt8), u8 (0 : UInt8), u8 (0 : UInt8), .int .i64 0, u8 (0 : UInt8), u8 (0 : UInt8)]) :: []) ([]) := I29
  refine st_store I30 0 0 (cs' := [u8 a13.1.Kind, u8 a13.1.Reg, .int .i64 a13.1.N, u8 a13.1.Op, u8 a13.1.M.Key, u8 a13.1.M.Sign, .int .i64 a13.1.M.N, u8 a13.1.Key, u8 a13.1.Sign]) (bs' := (r27, .cells [u8 a13.1.Kind, u8 a13.1.Reg, .int .i64 a13.1.N, u8 a13.1.Op, u8 a13.1.M.Key, u8 a13.1.M.Sign, .int .i64 a13.1.M.N, u8 a13.1.Key, u8 a13.1.Sign]) :: (r9, .cells [v23, .int .i64 a13.2.2.at_]) :: (r5, .cells [u8 (0 : UInt8), u8 (0 : UInt8), .int .i64 0, u8 (0 : UInt8), u8 (0 : UInt8), u8 (0 : UInt8), .int .i64 0, u8 (0 : UInt8), u8 (0 : UInt8)]) :: []) rfl rfl rfl rfl rfl (Nat.le_of_ble_eq_true rfl) rfl rfl ?_
  intro σ32 I31
  refine sp (.int .i64 a13.2.1) rfl rfl ?_
  refine sx ?_
  refine cn ?_
  refine c_keep (keep_cons rfl (keep_cons rfl (keep_cons rfl (keep_cons rfl keep_nil)))) ?_
  refine c_seq ?_
  refine c_seq ?_
  refine c_reg ?_
  refine sp (.int .i64 a13.2.1) rfl rfl ?_
  refine sp (.bool (decide (a13.2.1 = 0))) rfl rfl ?_
  refine sp (.bool (decide (a13.2.1 = 0))) rfl rfl ?_
  rcases bool_tf (decide (a13.2.1 = 0)) with b33 | b33
  · have h := ite_t h b33
    refine sg_run (decide (a13.2.1 = 0)) rfl b33 ?_
    refine sp (.blk r9 0) rfl rfl ?_
    refine sg_run (decide (a13.2.1 = 0)) rfl b33 ?_
    obtain ⟨a34, g35, h⟩ := bind_some h
    have I38 : Inv _ ((r9, .cells [v23, .int .i64 a13.2.2.at_]) :: (r27, .cells [u8 a13.1.Kind, u8 a13.1.Reg, .int .i64 a13.1.N, u8 a13.1.Op, u8 a13.1.M.Key, u8 a13.1.M.Sign, .int .i64 a13.1.M.N, u8 a13.1.Key, u8 a13.1.Sign]) :: (r5, .cells [u8 (0 : UInt8), u8 (0 : UInt8), .int .i64 0, u8 (0 : UInt8), u8 (0 : UInt8), u8 (0 : UInt8), .int .i64 0, u8 (0 : UInt8), u8 (0 : UInt8)]) :: []) ([]) := I31.front 1 rfl
    refine st_call (keys_reader_more_ok k _ _ g35 s24 I38) rfl ?_
    intro v36 σ39 q37
    obtain ⟨q41, I40⟩ := q37
    obtain rfl := q41
    refine sp (.bool a34) rfl (e_pick_t rfl b33 rfl) ?_
    refine sx ?_
    refine cn ?_
    refine c_keep (keep_cons rfl (keep_cons rfl (keep_cons rfl (keep_cons rfl keep_nil)))) ?_
    rcases bool_tf a34 with b42 | b42
    · have h := ite_t h b42
      refine c_cond_t a34 rfl b42 ?_
      refine c_reg ?_
      refine sp (.int .i64 2) rfl rfl ?_
      refine sx ?_
      refine cn ?_
      have I51 : Inv _ ((r27, .cells [u8 a13.1.Kind, u8 a13.1.Reg, .int .i64 a13.1.N, u8 a13.1.Op, u8 a13.1.M.Key, u8 a13.1.M.Sign, .int .i64 a13.1.M.N, u8 a13.1.Key, u8 a13.1.Sign]) :: (r5, .cells [u8 (0 : UInt8), u8 (0 : UInt8), .int .i64 0, u8 (0 : UInt8), u8 (0 : UInt8), u8 (0 : UInt8), .int .i64 0, u8 (0 : UInt8), u8 (0 : UInt8)]) :: []) ([]) := (I40.front 0 rfl).drop
      have I52 : Inv _ ((r5, .cells [u8 (0 : UInt8), u8 (0 : UInt8), .int .i64 0, u8 (0 : UInt8), u8 (0 : UInt8), u8 (0 : UInt8), .int .i64 0, u8 (0 : UInt8), u8 (0 : UInt8)]) :: (r27, .cells [u8 a13.1.Kind, u8 a13.1.Reg, .int .i64 a13.1.N, u8 a13.1.Op, u8 a13.1.M.Key, u8 a13.1.M.Sign, .int .i64 a13.1.M.N, u8 a13.1.Key, u8 a13.1.Sign]) :: []) ([]) := I51.front 1 rfl
      exact keys_Read_j12_ok k  2 (⟨(0 : UInt8), (0 : UInt8), 0, (0 : UInt8), (⟨(0 : UInt8), (0 : UInt8), 0⟩ : S_api_Motion), (0 : UInt8), (0 : UInt8)⟩ : S_keys_Cmd) a13.1 h rfl rfl rfl   I52
    · have h := ite_f h b42
      refine c_cond_f a34 rfl b42 ?_
      refine c_skip ?_
      refine cn ?_
      have I53 : Inv _ ((r27, .cells [u8 a13.1.Kind, u8 a13.1.Reg, .int .i64 a13.1.N, u8 a13.1.Op, u8 a13.1.M.Key, u8 a13.1.M.Sign, .int .i64 a13.1.M.N, u8 a13.1.Key, u8 a13.1.Sign]) :: (r5, .cells [u8 (0 : UInt8), u8 (0 : UInt8), .int .i64 0, u8 (0 : UInt8), u8 (0 : UInt8), u8 (0 : UInt8), .int .i64 0, u8 (0 : UInt8), u8 (0 : UInt8)]) :: []) ([]) := (I40.front 0 rfl).drop
      have I54 : Inv _ ((r5, .cells [u8 (0 : UInt8), u8 (0 : UInt8), .int .i64 0, u8 (0 : UInt8), u8 (0 : UInt8), u8 (0 : UInt8), .int .i64 0, u8 (0 : UInt8), u8 (0 : UInt8)]) :: (r27, .cells [u8 a13.1.Kind, u8 a13.1.Reg, .int .i64 a13.1.N, u8 a13.1.Op, u8 a13.1.M.Key, u8 a13.1.M.Sign, .int .i64 a13.1.M.N, u8 a13.1.Key, u8 a13.1.Sign]) :: []) ([]) := I53.front 1 rfl
      exact keys_Read_j12_ok k  a13.2.1 (⟨(0 : UInt8), (0 : UInt8), 0, (0 : UInt8), (⟨(0 : UInt8), (0 : UInt8), 0⟩ : S_api_Motion), (0 : UInt8), (0 : UInt8)⟩ : S_keys_Cmd) a13.1 h rfl rfl rfl   I54
  · have h := ite_f h b33
    refine sg_skip (decide (a13.2.1 = 0)) rfl b33 ?_
    refine sg_skip (decide (a13.2.1 = 0)) rfl b33 ?_
    refine sp (.bool false) rfl (e_pick_f rfl b33 rfl) ?_
    refine sx ?_
    refine cn ?_
    refine c_keep (keep_cons rfl (keep_cons rfl (keep_cons rfl (keep_cons rfl keep_nil)))) ?_
    refine c_cond_f false rfl rfl ?_
    refine c_skip ?_
    refine cn ?_
    have I55 : Inv _ ((r27, .cells [u8 a13.1.Kind, u8 a13.1.Reg, .int .i64 a13.1.N, u8 a13.1.Op, u8 a13.1.M.Key, u8 a13.1.M.Sign, .int .i64 a13.1.M.N, u8 a13.1.Key, u8 a13.1.Sign]) :: (r5, .cells [u8 (0 : UInt8), u8 (0 : UInt8), .int .i64 0, u8 (0 : UInt8), u8 (0 : UInt8), u8 (0 : UInt8), .int .i64 0, u8 (0 : UInt8), u8 (0 : UInt8)]) :: []) ([]) := (I31.front 1 rfl).drop
    have I56 : Inv _ ((r5, .cells [u8 (0 : UInt8), u8 (0 : UInt8), .int .i64 0, u8 (0 : UInt8), u8 (0 : UInt8), u8 (0 : UInt8), .int .i64 0, u8 (0 : UInt8), u8 (0 : UInt8)]) :: (r27, .cells [u8 a13.1.Kind, u8 a13.1.Reg, .int .i64 a13.1.N, u8 a13.1.Op, u8 a13.1.M.Key, u8 a13.1.M.Sign, .int .i64 a13.1.M.N, u8 a13.1.Key, u8 a13.1.Sign]) :: []) ([]) := I55.front 1 rfl
    exact keys_Read_j12_ok k  a13.2.1 (⟨(0 : UInt8), (0 : UInt8), 0, (0 : UInt8), (⟨(0 : UInt8), (0 : UInt8), 0⟩ : S_api_Motion), (0 : UInt8), (0 : UInt8)⟩ : S_keys_Cmd) a13.1 h rfl rfl rfl   I56
/- platen.platenlaw21.two -/
def platenlaw21_two (k : Nat)  : Option Bool :=
  (keys_Read k ([(50 : UInt8), (100 : UInt8)] : List UInt8) false).bind fun a3 => (keys_Read k ([(50 : UInt8), (100 : UInt8), (119 : UInt8)] : List UInt8) false).bind fun a21 => (keys_Read k ([(27 : UInt8)] : List UInt8) true).bind fun a39 => if decide (a3.2 = 1) then (if decide (a21.2 = 0) then (if decide ((a21.1.Kind.toNat : Int) = 3) then (if decide (a21.1.N = 2) then (if decide ((a21.1.Op.toNat : Int) = 100) then (if decide ((a21.1.M.Key.toNat : Int) = 119) then (if decide (a39.2 = 0) then (some (decide ((a39.1.Kind.toNat : Int) = 0) && (decide ((a39.1.Reg.toNat : Int) = 0) && (decide (a39.1.N = 0) && (decide ((a39.1.Op.toNat : Int) = 0) && (decide ((a39.1.M.Key.toNat : Int) = 0) && (decide ((a39.1.M.Sign.toNat : Int) = 0) && (decide (a39.1.M.N = 0) && (decide ((a39.1.Key.toNat : Int) = 0) && (decide ((a39.1.Sign.toNat : Int) = 0) && true)))))))))) else (some false)) else (some false)) else (some false)) else (some false)) else (some false)) else (some false)) else (some false)
theorem platenlaw21_two_ok (k : Nat)  (r : Bool)   {σ : St}
    (h : platenlaw21_two k  = some r) :
    RunF kE 9 [] σ (fun v σ' => σ' = σ ∧ v = .bool r) := by
  refine f_closed rfl rfl rfl cl_nil rfl ?_
  have I0 : Inv .zero [] [] := Inv.zero
  unfold platenlaw21_two at h
  refine c_seq ?_
  refine c_reg ?_
  refine sp (.bool false) rfl rfl ?_
  refine sx ?_
  refine cn ?_
  refine c_keep keep_nil ?_
  refine c_seq ?_
  refine c_reg ?_
  refine sp (.list .own 1 [u8 (50 : UInt8), u8 (100 : UInt8)]) rfl rfl ?_
  have s2 : SL RU8 1 ([(50 : UInt8), (100 : UInt8)] : List UInt8) (.list .own 1 [u8 (50 : UInt8), u8 (100 : UInt8)]) := SL.mk (RL.cons [u8 (50 : UInt8)] rfl rfl (RL.cons [u8 (100 : UInt8)] rfl rfl RL.nil))
  refine sp ((.list .own 1 [u8 (50 : UInt8), u8 (100 : UInt8)])) rfl rfl ?_
  obtain ⟨a3, g4, h⟩ := bind_some h
  refine st_callc (keys_Read_ok k _ _ _ g4 s2) rfl ?_
  intro v5 q6
  obtain ⟨v7, v9, rfl, q8, q10⟩ := q6
  obtain ⟨c11, rfl, q12⟩ := q8
  obtain rfl := q12
  obtain rfl := q10
  refine sp (.tuple [.agg [u8 a3.1.Kind, u8 a3.1.Reg, .int .i64 a3.1.N, u8 a3.1.Op, u8 a3.1.M.Key, u8 a3.1.M.Sign, .int .i64 a3.1.M.N, u8 a3.1.Key, u8 a3.1.Sign], .int .i64 a3.2]) rfl rfl ?_
  refine sp (.agg [u8 a3.1.Kind, u8 a3.1.Reg, .int .i64 a3.1.N, u8 a3.1.Op, u8 a3.1.M.Key, u8 a3.1.M.Sign, .int .i64 a3.1.M.N, u8 a3.1.Key, u8 a3.1.Sign]) rfl rfl ?_
  refine sp (.int .i64 a3.2) rfl rfl ?_
  refine st_alloc I0 ?_
  intro r13 σ14 I15
  have I16 : Inv _ ((r13, .cells [u8 (0 : UInt8), u8 (0 : UInt8), .int .i64 0, u8 (0 : UInt8), u8 (0 : UInt8), u8 (0 : UInt8), .int .i64 0, u8 (0 : UInt8), u8 (0 : UInt8)]) :: []) ([]) := I15
  refine st_store I16 0 0 (cs' := [u8 a3.1.Kind, u8 a3.1.Reg, .int .i64 a3.1.N, u8 a3.1.Op, u8 a3.1.M.Key, u8 a3.1.M.Sign, .int .i64 a3.1.M.N, u8 a3.1.Key, u8 a3.1.Sign]) (bs' := (r13, .cells [u8 a3.1.Kind, u8 a3.1.Reg, .int .i64 a3.1.N, u8 a3.1.Op, u8 a3.1.M.Key, u8 a3.1.M.Sign, .int .i64 a3.1.M.N, u8 a3.1.Key, u8 a3.1.Sign]) :: []) rfl rfl rfl rfl rfl (Nat.le_of_ble_eq_true rfl) rfl rfl ?_
  intro σ18 I17
  refine sp (.int .i64 a3.2) rfl rfl ?_
  refine sx ?_
  refine cn ?_
  refine c_keep (keep_cons rfl keep_nil) ?_
  refine c_seq ?_
  refine c_reg ?_
  refine sp (.list .own 1 [u8 (50 : UInt8), u8 (100 : UInt8), u8 (119 : UInt8)]) rfl rfl ?_
  have s20 : SL RU8 1 ([(50 : UInt8), (100 : UInt8), (119 : UInt8)] : List UInt8) (.list .own 1 [u8 (50 : UInt8), u8 (100 : UInt8), u8 (119 : UInt8)]) := SL.mk (RL.cons [u8 (50 : UInt8)] rfl rfl (RL.cons [u8 (100 : UInt8)] rfl rfl (RL.cons [u8 (119 : UInt8)] rfl rfl RL.nil)))
  refine sp ((.list .own 1 [u8 (50 : UInt8), u8 (100 : UInt8), u8 (119 : UInt8)])) rfl rfl ?_
  obtain ⟨a21, g22, h⟩ := bind_some h
  refine st_callc (keys_Read_ok k _ _ _ g22 s20) rfl ?_
  intro v23 q24
  obtain ⟨v25, v27, rfl, q26, q28⟩ := q24
  obtain ⟨c29, rfl, q30⟩ := q26
  obtain rfl := q30
  obtain rfl := q28
  refine sp (.tuple [.agg [u8 a21.1.Kind, u8 a21.1.Reg, .int .i64 a21.1.N, u8 a21.1.Op, u8 a21.1.M.Key, u8 a21.1.M.Sign, .int .i64 a21.1.M.N, u8 a21.1.Key, u8 a21.1.Sign], .int .i64 a21.2]) rfl rfl ?_
  refine sp (.agg [u8 a21.1.Kind, u8 a21.1.Reg, .int .i64 a21.1.N, u8 a21.1.Op, u8 a21.1.M.Key, u8 a21.1.M.Sign, .int .i64 a21.1.M.N, u8 a21.1.Key, u8 a21.1.Sign]) rfl rfl ?_
  refine sp (.int .i64 a21.2) rfl rfl ?_
  refine st_alloc I17 ?_
  intro r31 σ32 I33
  have I34 : Inv _ ((r31, .cells [u8 (0 : UInt8), u8 (0 : UInt8), .int .i64 0, u8 (0 : UInt8), u8 (0 : UInt8), u8 (0 : UInt8), .int .i64 0, u8 (0 : UInt8), u8 (0 : UInt8)]) :: (r13, .cells [u8 a3.1.Kind, u8 a3.1.Reg, .int .i64 a3.1.N, u8 a3.1.Op, u8 a3.1.M.Key, u8 a3.1.M.Sign, .int .i64 a3.1.M.N, u8 a3.1.Key, u8 a3.1.Sign]) :: []) ([]) := I33
  refine st_store I34 0 0 (cs' := [u8 a21.1.Kind, u8 a21.1.Reg, .int .i64 a21.1.N, u8 a21.1.Op, u8 a21.1.M.Key, u8 a21.1.M.Sign, .int .i64 a21.1.M.N, u8 a21.1.Key, u8 a21.1.Sign]) (bs' := (r31, .cells [u8 a21.1.Kind, u8 a21.1.Reg, .int .i64 a21.1.N, u8 a21.1.Op, u8 a21.1.M.Key, u8 a21.1.M.Sign, .int .i64 a21.1.M.N, u8 a21.1.Key, u8 a21.1.Sign]) :: (r13, .cells [u8 a3.1.Kind, u8 a3.1.Reg, .int .i64 a3.1.N, u8 a3.1.Op, u8 a3.1.M.Key, u8 a3.1.M.Sign, .int .i64 a3.1.M.N, u8 a3.1.Key, u8 a3.1.Sign]) :: []) rfl rfl rfl rfl rfl (Nat.le_of_ble_eq_true rfl) rfl rfl ?_
  intro σ36 I35
  refine sp (.int .i64 a21.2) rfl rfl ?_
  refine sx ?_
  refine cn ?_
  refine c_keep (keep_cons rfl (keep_cons rfl (keep_cons rfl keep_nil))) ?_
  refine c_seq ?_
  refine c_reg ?_
  refine sp (.list .own 1 [u8 (27 : UInt8)]) rfl rfl ?_
  have s38 : SL RU8 1 ([(27 : UInt8)] : List UInt8) (.list .own 1 [u8 (27 : UInt8)]) := SL.mk (RL.cons [u8 (27 : UInt8)] rfl rfl RL.nil)
  obtain ⟨a39, g40, h⟩ := bind_some h
  refine st_callc (keys_Read_ok k _ _ _ g40 s38) rfl ?_
  intro v41 q42
  obtain ⟨v43, v45, rfl, q44, q46⟩ := q42
  obtain ⟨c47, rfl, q48⟩ := q44
  obtain rfl := q48
  obtain rfl := q46
  refine sp (.tuple [.agg [u8 a39.1.Kind, u8 a39.1.Reg, .int .i64 a39.1.N, u8 a39.1.Op, u8 a39.1.M.Key, u8 a39.1.M.Sign, .int .i64 a39.1.M.N, u8 a39.1.Key, u8 a39.1.Sign], .int .i64 a39.2]) rfl rfl ?_
  refine sp (.agg [u8 a39.1.Kind, u8 a39.1.Reg, .int .i64 a39.1.N, u8 a39.1.Op, u8 a39.1.M.Key, u8 a39.1.M.Sign, .int .i64 a39.1.M.N, u8 a39.1.Key, u8 a39.1.Sign]) rfl rfl ?_
  refine sp (.int .i64 a39.2) rfl rfl ?_
  refine st_alloc I35 ?_
  intro r49 σ50 I51
  have I52 : Inv _ ((r49, .cells [u8 (0 : UInt8), u8 (0 : UInt8), .int .i64 0, u8 (0 : UInt8), u8 (0 : UInt8), u8 (0 : UInt8), .int .i64 0, u8 (0 : UInt8), u8 (0 : UInt8)]) :: (r31, .cells [u8 a21.1.Kind, u8 a21.1.Reg, .int .i64 a21.1.N, u8 a21.1.Op, u8 a21.1.M.Key, u8 a21.1.M.Sign, .int .i64 a21.1.M.N, u8 a21.1.Key, u8 a21.1.Sign]) :: (r13, .cells [u8 a3.1.Kind, u8 a3.1.Reg, .int .i64 a3.1.N, u8 a3.1.Op, u8 a3.1.M.Key, u8 a3.1.M.Sign, .int .i64 a3.1.M.N, u8 a3.1.Key, u8 a3.1.Sign]) :: []) ([]) := I51
  refine st_store I52 0 0 (cs' := [u8 a39.1.Kind, u8 a39.1.Reg, .int .i64 a39.1.N, u8 a39.1.Op, u8 a39.1.M.Key, u8 a39.1.M.Sign, .int .i64 a39.1.M.N, u8 a39.1.Key, u8 a39.1.Sign]) (bs' := (r49, .cells [u8 a39.1.Kind, u8 a39.1.Reg, .int .i64 a39.1.N, u8 a39.1.Op, u8 a39.1.M.Key, u8 a39.1.M.Sign, .int .i64 a39.1.M.N, u8 a39.1.Key, u8 a39.1.Sign]) :: (r31, .cells [u8 a21.1.Kind, u8 a21.1.Reg, .int .i64 a21.1.N, u8 a21.1.Op, u8 a21.1.M.Key, u8 a21.1.M.Sign, .int .i64 a21.1.M.N, u8 a21.1.Key, u8 a21.1.Sign]) :: (r13, .cells [u8 a3.1.Kind, u8 a3.1.Reg, .int .i64 a3.1.N, u8 a3.1.Op, u8 a3.1.M.Key, u8 a3.1.M.Sign, .int .i64 a3.1.M.N, u8 a3.1.Key, u8 a3.1.Sign]) :: []) rfl rfl rfl rfl rfl (Nat.le_of_ble_eq_true rfl) rfl rfl ?_
  intro σ54 I53
  refine sp (.int .i64 a39.2) rfl rfl ?_
  refine sx ?_
  refine cn ?_
  refine c_keep (keep_cons rfl (keep_cons rfl (keep_cons rfl (keep_cons rfl (keep_cons rfl keep_nil))))) ?_
  refine c_seq ?_
  refine c_reg ?_
  refine sp (.int .i64 a3.2) rfl rfl ?_
  refine sp (.bool (decide (a3.2 = 1))) rfl rfl ?_
  refine sp (.bool (decide (a3.2 = 1))) rfl rfl ?_
  rcases bool_tf (decide (a3.2 = 1)) with b55 | b55
  · have h := ite_t h b55
    refine sg_run (decide (a3.2 = 1)) rfl b55 ?_
    refine sp (.int .i64 a21.2) rfl rfl ?_
    refine sg_run (decide (a3.2 = 1)) rfl b55 ?_
    refine sp (.bool (decide (a21.2 = 0))) rfl rfl ?_
    refine sp (.bool (decide (a21.2 = 0))) rfl (e_pick_t rfl b55 rfl) ?_
    refine sp (.bool (decide (a21.2 = 0))) rfl rfl ?_
    rcases bool_tf (decide (a21.2 = 0)) with b56 | b56
    · have h := ite_t h b56
      refine sg_run (decide (a21.2 = 0)) rfl b56 ?_
      refine sp (.blk r31 0) rfl rfl ?_
      refine sg_run (decide (a21.2 = 0)) rfl b56 ?_
      refine sp (u8 a21.1.Kind) rfl (e_load I53 1 0 rfl rfl rfl) ?_
      refine sg_run (decide (a21.2 = 0)) rfl b56 ?_
      refine sp (.bool (decide ((a21.1.Kind.toNat : Int) = 3))) rfl rfl ?_
      refine sp (.bool (decide ((a21.1.Kind.toNat : Int) = 3))) rfl (e_pick_t rfl b56 rfl) ?_
      refine sp (.bool (decide ((a21.1.Kind.toNat : Int) = 3))) rfl rfl ?_
      rcases bool_tf (decide ((a21.1.Kind.toNat : Int) = 3)) with b57 | b57
      · have h := ite_t h b57
        refine sg_run (decide ((a21.1.Kind.toNat : Int) = 3)) rfl b57 ?_
        refine sp (.blk r31 2) rfl rfl ?_
        refine sg_run (decide ((a21.1.Kind.toNat : Int) = 3)) rfl b57 ?_
        refine sp (.int .i64 a21.1.N) rfl (e_load I53 1 2 rfl rfl rfl) ?_
        refine sg_run (decide ((a21.1.Kind.toNat : Int) = 3)) rfl b57 ?_
        refine sp (.bool (decide (a21.1.N = 2))) rfl rfl ?_
        refine sp (.bool (decide (a21.1.N = 2))) rfl (e_pick_t rfl b57 rfl) ?_
        refine sp (.bool (decide (a21.1.N = 2))) rfl rfl ?_
        rcases bool_tf (decide (a21.1.N = 2)) with b58 | b58
        · have h := ite_t h b58
          refine sg_run (decide (a21.1.N = 2)) rfl b58 ?_
          refine sp (.blk r31 3) rfl rfl ?_
          refine sg_run (decide (a21.1.N = 2)) rfl b58 ?_
          refine sp (u8 a21.1.Op) rfl (e_load I53 1 3 rfl rfl rfl) ?_
          refine sg_run (decide (a21.1.N = 2)) rfl b58 ?_
          refine sp (.bool (decide ((a21.1.Op.toNat : Int) = 100))) rfl rfl ?_
          refine sp (.bool (decide ((a21.1.Op.toNat : Int) = 100))) rfl (e_pick_t rfl b58 rfl) ?_
          refine sp (.bool (decide ((a21.1.Op.toNat : Int) = 100))) rfl rfl ?_
          rcases bool_tf (decide ((a21.1.Op.toNat : Int) = 100)) with b59 | b59
          · have h := ite_t h b59
            refine sg_run (decide ((a21.1.Op.toNat : Int) = 100)) rfl b59 ?_
            refine sp (.blk r31 4) rfl rfl ?_
            refine sg_run (decide ((a21.1.Op.toNat : Int) = 100)) rfl b59 ?_
            refine sp (.blk r31 4) rfl rfl ?_
            refine sg_run (decide ((a21.1.Op.toNat : Int) = 100)) rfl b59 ?_
            refine sp (u8 a21.1.M.Key) rfl (e_load I53 1 4 rfl rfl rfl) ?_
            refine sg_run (decide ((a21.1.Op.toNat : Int) = 100)) rfl b59 ?_
            refine sp (.bool (decide ((a21.1.M.Key.toNat : Int) = 119))) rfl rfl ?_
            refine sp (.bool (decide ((a21.1.M.Key.toNat : Int) = 119))) rfl (e_pick_t rfl b59 rfl) ?_
            refine sp (.bool (decide ((a21.1.M.Key.toNat : Int) = 119))) rfl rfl ?_
            rcases bool_tf (decide ((a21.1.M.Key.toNat : Int) = 119)) with b60 | b60
            · have h := ite_t h b60
              refine sg_run (decide ((a21.1.M.Key.toNat : Int) = 119)) rfl b60 ?_
              refine sp (.int .i64 a39.2) rfl rfl ?_
              refine sg_run (decide ((a21.1.M.Key.toNat : Int) = 119)) rfl b60 ?_
              refine sp (.bool (decide (a39.2 = 0))) rfl rfl ?_
              refine sp (.bool (decide (a39.2 = 0))) rfl (e_pick_t rfl b60 rfl) ?_
              refine sp (.bool (decide (a39.2 = 0))) rfl rfl ?_
              rcases bool_tf (decide (a39.2 = 0)) with b61 | b61
              · have h := ite_t h b61
                refine sg_run (decide (a39.2 = 0)) rfl b61 ?_
                refine sp (.agg [u8 a39.1.Kind, u8 a39.1.Reg, .int .i64 a39.1.N, u8 a39.1.Op, u8 a39.1.M.Key, u8 a39.1.M.Sign, .int .i64 a39.1.M.N, u8 a39.1.Key, u8 a39.1.Sign]) rfl (e_loads I53 0 0 9 rfl rfl rfl (Nat.le_of_ble_eq_true rfl)) ?_
                refine sg_run (decide (a39.2 = 0)) rfl b61 ?_
                refine sp (.agg [u8 (0 : UInt8), u8 (0 : UInt8), .int .i64 0, u8 (0 : UInt8), u8 (0 : UInt8), u8 (0 : UInt8), .int .i64 0, u8 (0 : UInt8), u8 (0 : UInt8)]) rfl rfl ?_
                refine sg_run (decide (a39.2 = 0)) rfl b61 ?_
                refine sp (.bool (decide ((a39.1.Kind.toNat : Int) = 0) && (decide ((a39.1.Reg.toNat : Int) = 0) && (decide (a39.1.N = 0) && (decide ((a39.1.Op.toNat : Int) = 0) && (decide ((a39.1.M.Key.toNat : Int) = 0) && (decide ((a39.1.M.Sign.toNat : Int) = 0) && (decide (a39.1.M.N = 0) && (decide ((a39.1.Key.toNat : Int) = 0) && (decide ((a39.1.Sign.toNat : Int) = 0) && true)))))))))) rfl rfl ?_
                refine sp (.bool (decide ((a39.1.Kind.toNat : Int) = 0) && (decide ((a39.1.Reg.toNat : Int) = 0) && (decide (a39.1.N = 0) && (decide ((a39.1.Op.toNat : Int) = 0) && (decide ((a39.1.M.Key.toNat : Int) = 0) && (decide ((a39.1.M.Sign.toNat : Int) = 0) && (decide (a39.1.M.N = 0) && (decide ((a39.1.Key.toNat : Int) = 0) && (decide ((a39.1.Sign.toNat : Int) = 0) && true)))))))))) rfl (e_pick_t rfl b61 rfl) ?_
                refine sp (.bool (decide ((a39.1.Kind.toNat : Int) = 0) && (decide ((a39.1.Reg.toNat : Int) = 0) && (decide (a39.1.N = 0) && (decide ((a39.1.Op.toNat : Int) = 0) && (decide ((a39.1.M.Key.toNat : Int) = 0) && (decide ((a39.1.M.Sign.toNat : Int) = 0) && (decide (a39.1.M.N = 0) && (decide ((a39.1.Key.toNat : Int) = 0) && (decide ((a39.1.Sign.toNat : Int) = 0) && true)))))))))) rfl rfl ?_
                refine sx ?_
                refine cn ?_
                refine c_ret ?_
                obtain rfl := some_eq h
                exact rr (vs := [.bool (decide ((a39.1.Kind.toNat : Int) = 0) && (decide ((a39.1.Reg.toNat : Int) = 0) && (decide (a39.1.N = 0) && (decide ((a39.1.Op.toNat : Int) = 0) && (decide ((a39.1.M.Key.toNat : Int) = 0) && (decide ((a39.1.M.Sign.toNat : Int) = 0) && (decide (a39.1.M.N = 0) && (decide ((a39.1.Key.toNat : Int) = 0) && (decide ((a39.1.Sign.toNat : Int) = 0) && true)))))))))]) (res_c (resp_t rfl) res_nil) ⟨_, rfl, rfl⟩
              · have h := ite_f h b61
                refine sg_skip (decide (a39.2 = 0)) rfl b61 ?_
                refine sg_skip (decide (a39.2 = 0)) rfl b61 ?_
                refine sg_skip (decide (a39.2 = 0)) rfl b61 ?_
                refine sp (.bool false) rfl (e_pick_f rfl b61 rfl) ?_
                refine sp (.bool false) rfl rfl ?_
                refine sx ?_
                refine cn ?_
                refine c_ret ?_
                obtain rfl := some_eq h
                exact rr (vs := [.bool false]) (res_c (resp_t rfl) res_nil) ⟨_, rfl, rfl⟩
            · have h := ite_f h b60
              refine sg_skip (decide ((a21.1.M.Key.toNat : Int) = 119)) rfl b60 ?_
              refine sg_skip (decide ((a21.1.M.Key.toNat : Int) = 119)) rfl b60 ?_
              refine sp (.bool false) rfl (e_pick_f rfl b60 rfl) ?_
              refine sp (.bool false) rfl rfl ?_
              refine sg_skip false rfl rfl ?_
              refine sg_skip false rfl rfl ?_
              refine sg_skip false rfl rfl ?_
              refine sp (.bool false) rfl (e_pick_f rfl rfl rfl) ?_
              refine sp (.bool false) rfl rfl ?_
              refine sx ?_
              refine cn ?_
              refine c_ret ?_
              obtain rfl := some_eq h
              exact rr (vs := [.bool false]) (res_c (resp_t rfl) res_nil) ⟨_, rfl, rfl⟩
          · have h := ite_f h b59
            refine sg_skip (decide ((a21.1.Op.toNat : Int) = 100)) rfl b59 ?_
            refine sg_skip (decide ((a21.1.Op.toNat : Int) = 100)) rfl b59 ?_
            refine sg_skip (decide ((a21.1.Op.toNat : Int) = 100)) rfl b59 ?_
            refine sg_skip (decide ((a21.1.Op.toNat : Int) = 100)) rfl b59 ?_
            refine sp (.bool false) rfl (e_pick_f rfl b59 rfl) ?_
            refine sp (.bool false) rfl rfl ?_
            refine sg_skip false rfl rfl ?_
            refine sg_skip false rfl rfl ?_
            refine sp (.bool false) rfl (e_pick_f rfl rfl rfl) ?_
            refine sp (.bool false) rfl rfl ?_
            refine sg_skip false rfl rfl ?_
            refine sg_skip false rfl rfl ?_
            refine sg_skip false rfl rfl ?_
            refine sp (.bool false) rfl (e_pick_f rfl rfl rfl) ?_
            refine sp (.bool false) rfl rfl ?_
            refine sx ?_
            refine cn ?_
            refine c_ret ?_
            obtain rfl := some_eq h
            exact rr (vs := [.bool false]) (res_c (resp_t rfl) res_nil) ⟨_, rfl, rfl⟩
        · have h := ite_f h b58
          refine sg_skip (decide (a21.1.N = 2)) rfl b58 ?_
          refine sg_skip (decide (a21.1.N = 2)) rfl b58 ?_
          refine sg_skip (decide (a21.1.N = 2)) rfl b58 ?_
          refine sp (.bool false) rfl (e_pick_f rfl b58 rfl) ?_
          refine sp (.bool false) rfl rfl ?_
          refine sg_skip false rfl rfl ?_
          refine sg_skip false rfl rfl ?_
          refine sg_skip false rfl rfl ?_
          refine sg_skip false rfl rfl ?_
          refine sp (.bool false) rfl (e_pick_f rfl rfl rfl) ?_
          refine sp (.bool false) rfl rfl ?_
          refine sg_skip false rfl rfl ?_
          refine sg_skip false rfl rfl ?_
          refine sp (.bool false) rfl (e_pick_f rfl rfl rfl) ?_
          refine sp (.bool false) rfl rfl ?_
          refine sg_skip false rfl rfl ?_
          refine sg_skip false rfl rfl ?_
          refine sg_skip false rfl rfl ?_
          refine sp (.bool false) rfl (e_pick_f rfl rfl rfl) ?_
          refine sp (.bool false) rfl rfl ?_
          refine sx ?_
          refine cn ?_
          refine c_ret ?_
          obtain rfl := some_eq h
          exact rr (vs := [.bool false]) (res_c (resp_t rfl) res_nil) ⟨_, rfl, rfl⟩
      · have h := ite_f h b57
        refine sg_skip (decide ((a21.1.Kind.toNat : Int) = 3)) rfl b57 ?_
        refine sg_skip (decide ((a21.1.Kind.toNat : Int) = 3)) rfl b57 ?_
        refine sg_skip (decide ((a21.1.Kind.toNat : Int) = 3)) rfl b57 ?_
        refine sp (.bool false) rfl (e_pick_f rfl b57 rfl) ?_
        refine sp (.bool false) rfl rfl ?_
        refine sg_skip false rfl rfl ?_
        refine sg_skip false rfl rfl ?_
        refine sg_skip false rfl rfl ?_
        refine sp (.bool false) rfl (e_pick_f rfl rfl rfl) ?_
        refine sp (.bool false) rfl rfl ?_
        refine sg_skip false rfl rfl ?_
        refine sg_skip false rfl rfl ?_
        refine sg_skip false rfl rfl ?_
        refine sg_skip false rfl rfl ?_
        refine sp (.bool false) rfl (e_pick_f rfl rfl rfl) ?_
        refine sp (.bool false) rfl rfl ?_
        refine sg_skip false rfl rfl ?_
        refine sg_skip false rfl rfl ?_
        refine sp (.bool false) rfl (e_pick_f rfl rfl rfl) ?_
        refine sp (.bool false) rfl rfl ?_
        refine sg_skip false rfl rfl ?_
        refine sg_skip false rfl rfl ?_
        refine sg_skip false rfl rfl ?_
        refine sp (.bool false) rfl (e_pick_f rfl rfl rfl) ?_
        refine sp (.bool false) rfl rfl ?_
        refine sx ?_
        refine cn ?_
        refine c_ret ?_
        obtain rfl := some_eq h
        exact rr (vs := [.bool false]) (res_c (resp_t rfl) res_nil) ⟨_, rfl, rfl⟩
    · have h := ite_f h b56
      refine sg_skip (decide (a21.2 = 0)) rfl b56 ?_
      refine sg_skip (decide (a21.2 = 0)) rfl b56 ?_
      refine sg_skip (decide (a21.2 = 0)) rfl b56 ?_
      refine sp (.bool false) rfl (e_pick_f rfl b56 rfl) ?_
      refine sp (.bool false) rfl rfl ?_
      refine sg_skip false rfl rfl ?_
      refine sg_skip false rfl rfl ?_
      refine sg_skip false rfl rfl ?_
      refine sp (.bool false) rfl (e_pick_f rfl rfl rfl) ?_
      refine sp (.bool false) rfl rfl ?_
      refine sg_skip false rfl rfl ?_
      refine sg_skip false rfl rfl ?_
      refine sg_skip false rfl rfl ?_
      refine sp (.bool false) rfl (e_pick_f rfl rfl rfl) ?_
      refine sp (.bool false) rfl rfl ?_
      refine sg_skip false rfl rfl ?_
      refine sg_skip false rfl rfl ?_
      refine sg_skip false rfl rfl ?_
      refine sg_skip false rfl rfl ?_
      refine sp (.bool false) rfl (e_pick_f rfl rfl rfl) ?_
      refine sp (.bool false) rfl rfl ?_
      refine sg_skip false rfl rfl ?_
      refine sg_skip false rfl rfl ?_
      refine sp (.bool false) rfl (e_pick_f rfl rfl rfl) ?_
      refine sp (.bool false) rfl rfl ?_
      refine sg_skip false rfl rfl ?_
      refine sg_skip false rfl rfl ?_
      refine sg_skip false rfl rfl ?_
      refine sp (.bool false) rfl (e_pick_f rfl rfl rfl) ?_
      refine sp (.bool false) rfl rfl ?_
      refine sx ?_
      refine cn ?_
      refine c_ret ?_
      obtain rfl := some_eq h
      exact rr (vs := [.bool false]) (res_c (resp_t rfl) res_nil) ⟨_, rfl, rfl⟩
  · have h := ite_f h b55
    refine sg_skip (decide (a3.2 = 1)) rfl b55 ?_
    refine sg_skip (decide (a3.2 = 1)) rfl b55 ?_
    refine sp (.bool false) rfl (e_pick_f rfl b55 rfl) ?_
    refine sp (.bool false) rfl rfl ?_
    refine sg_skip false rfl rfl ?_
    refine sg_skip false rfl rfl ?_
    refine sg_skip false rfl rfl ?_
    refine sp (.bool false) rfl (e_pick_f rfl rfl rfl) ?_
    refine sp (.bool false) rfl rfl ?_
    refine sg_skip false rfl rfl ?_
    refine sg_skip false rfl rfl ?_
    refine sg_skip false rfl rfl ?_
    refine sp (.bool false) rfl (e_pick_f rfl rfl rfl) ?_
    refine sp (.bool false) rfl rfl ?_
    refine sg_skip false rfl rfl ?_
    refine sg_skip false rfl rfl ?_
    refine sg_skip false rfl rfl ?_
    refine sp (.bool false) rfl (e_pick_f rfl rfl rfl) ?_
    refine sp (.bool false) rfl rfl ?_
    refine sg_skip false rfl rfl ?_
    refine sg_skip false rfl rfl ?_
    refine sg_skip false rfl rfl ?_
    refine sg_skip false rfl rfl ?_
    refine sp (.bool false) rfl (e_pick_f rfl rfl rfl) ?_
    refine sp (.bool false) rfl rfl ?_
    refine sg_skip false rfl rfl ?_
    refine sg_skip false rfl rfl ?_
    refine sp (.bool false) rfl (e_pick_f rfl rfl rfl) ?_
    refine sp (.bool false) rfl rfl ?_
    refine sg_skip false rfl rfl ?_
    refine sg_skip false rfl rfl ?_
    refine sg_skip false rfl rfl ?_
    refine sp (.bool false) rfl (e_pick_f rfl rfl rfl) ?_
    refine sp (.bool false) rfl rfl ?_
    refine sx ?_
    refine cn ?_
    refine c_ret ?_
    obtain rfl := some_eq h
    exact rr (vs := [.bool false]) (res_c (resp_t rfl) res_nil) ⟨_, rfl, rfl⟩
/- (*platen.platenref21.machine).more -/
def platenref21_machine_more (k : Nat) (x1 : S_platenref21_machine) (x2 : UInt8) : Option ((Int × S_platenref21_machine)) :=
  some (1, (⟨x2, x1.chosen, x1.c, x1.n, x1.k⟩ : S_platenref21_machine))
theorem platenref21_machine_more_ok (k : Nat) (x1 : S_platenref21_machine) (x2 : UInt8) (r : (Int × S_platenref21_machine))  {r0 : Nat} {σ : St} {B : List (Nat × Blk)} {O : List AV}
    (h : platenref21_machine_more k x1 x2 = some r)
    (I : Inv σ ((r0, .cells [u8 x1.state, .bool x1.chosen, u8 x1.c.Kind, u8 x1.c.Reg, .int .i64 x1.c.N, u8 x1.c.Op, u8 x1.c.M.Key, u8 x1.c.M.Sign, .int .i64 x1.c.M.N, u8 x1.c.Key, u8 x1.c.Sign, .int .i64 x1.n, .int .i64 x1.k]) :: B) (O)) :
    RunF kE 22 [.blk r0 0, u8 x2] σ (fun v σ' => v = .int .i64 r.1 ∧ Inv σ' ((r0, .cells [u8 r.2.state, .bool r.2.chosen, u8 r.2.c.Kind, u8 r.2.c.Reg, .int .i64 r.2.c.N, u8 r.2.c.Op, u8 r.2.c.M.Key, u8 r.2.c.M.Sign, .int .i64 r.2.c.M.N, u8 r.2.c.Key, u8 r.2.c.Sign, .int .i64 r.2.n, .int .i64 r.2.k]) :: B) (O)) := by
  refine f_plain rfl rfl rfl rfl ?_
  unfold platenref21_machine_more at h
  refine c_seq ?_
  refine c_reg ?_
  refine sp (.int .i64 0) rfl rfl ?_
  refine sx ?_
  refine cn ?_
  refine c_keep (keep_cons rfl (keep_cons rfl keep_nil)) ?_
  refine c_seq ?_
  refine c_reg ?_
  refine sp (.blk r0 0) rfl rfl ?_
  refine sp (u8 x2) rfl rfl ?_
  refine sp (.blk r0 0) rfl rfl ?_
  refine sp (.blk r0 0) rfl rfl ?_
  refine st_store I 0 0 (cs' := [u8 x2, .bool x1.chosen, u8 x1.c.Kind, u8 x1.c.Reg, .int .i64 x1.c.N, u8 x1.c.Op, u8 x1.c.M.Key, u8 x1.c.M.Sign, .int .i64 x1.c.M.N, u8 x1.c.Key, u8 x1.c.Sign, .int .i64 x1.n, .int .i64 x1.k]) (bs' := (r0, .cells [u8 x2, .bool x1.chosen, u8 x1.c.Kind, u8 x1.c.Reg, .int .i64 x1.c.N, u8 x1.c.Op, u8 x1.c.M.Key, u8 x1.c.M.Sign, .int .i64 x1.c.M.N, u8 x1.c.Key, u8 x1.c.Sign, .int .i64 x1.n, .int .i64 x1.k]) :: B) rfl rfl rfl rfl rfl (Nat.le_of_ble_eq_true rfl) rfl rfl ?_
  intro σ4 I3
  refine sx ?_
  refine cn ?_
  refine c_keep keep_nil ?_
  refine c_seq ?_
  refine c_reg ?_
  refine sp (.int .i64 1) rfl rfl ?_
  refine sx ?_
  refine cn ?_
  refine c_ret ?_
  obtain rfl := some_eq h
  exact rr (vs := [.int .i64 1]) (res_c (resp_t rfl) res_nil) ⟨rfl, I3⟩
/- platen.platenref21.digit -/
def platenref21_digit (k : Nat) (x1 : Int) (x2 : UInt8) : Option ((Int × Bool)) :=
  some ((IntKind.i64.wrap ((IntKind.i64.wrap (10 * x1)) + (((toB ((x2.toNat : Int) - 48))).toNat : Int))), decide ((IntKind.i64.wrap ((IntKind.i64.wrap (10 * x1)) + (((toB ((x2.toNat : Int) - 48))).toNat : Int))) ≤ 9999))
theorem platenref21_digit_ok (k : Nat) (x1 : Int) (x2 : UInt8) (r : (Int × Bool))   {σ : St}
    (h : platenref21_digit k x1 x2 = some r) :
    RunF kE 23 [.int .i64 x1, u8 x2] σ (fun v σ' => σ' = σ ∧ (∃ w0 w1, v = .tuple [w0, w1] ∧ w0 = .int .i64 r.1 ∧ w1 = .bool r.2)) := by
  refine f_closed rfl rfl rfl (cl_cons rfl (cl_cons rfl cl_nil)) rfl ?_
  have I0 : Inv .zero [] [] := Inv.zero
  unfold platenref21_digit at h
  refine c_seq ?_
  refine c_reg ?_
  refine sp (.int .i64 0) rfl rfl ?_
  refine sp (.bool false) rfl rfl ?_
  refine sx ?_
  refine cn ?_
  refine c_keep (keep_cons rfl (keep_cons rfl keep_nil)) ?_
  refine c_seq ?_
  refine c_reg ?_
  refine sp (.int .i64 x1) rfl rfl ?_
  refine sp (.int .i64 (IntKind.i64.wrap (10 * x1))) rfl rfl ?_
  refine sp (u8 x2) rfl rfl ?_
  refine spe (u8 (toB ((x2.toNat : Int) - 48))) rfl rfl (u8_wrap _) ?_
  refine spe (.int .i64 (((toB ((x2.toNat : Int) - 48))).toNat : Int)) rfl rfl (u8_to .i64 _ rfl) ?_
  refine sp (.int .i64 (IntKind.i64.wrap ((IntKind.i64.wrap (10 * x1)) + (((toB ((x2.toNat : Int) - 48))).toNat : Int)))) rfl rfl ?_
  refine sp (.int .i64 (IntKind.i64.wrap ((IntKind.i64.wrap (10 * x1)) + (((toB ((x2.toNat : Int) - 48))).toNat : Int)))) rfl rfl ?_
  refine sx ?_
  refine cn ?_
  refine c_keep (keep_cons rfl keep_nil) ?_
  refine c_seq ?_
  refine c_reg ?_
  refine sp (.int .i64 (IntKind.i64.wrap ((IntKind.i64.wrap (10 * x1)) + (((toB ((x2.toNat : Int) - 48))).toNat : Int)))) rfl rfl ?_
  refine sp (.int .i64 (IntKind.i64.wrap ((IntKind.i64.wrap (10 * x1)) + (((toB ((x2.toNat : Int) - 48))).toNat : Int)))) rfl rfl ?_
  refine sp (.bool (decide ((IntKind.i64.wrap ((IntKind.i64.wrap (10 * x1)) + (((toB ((x2.toNat : Int) - 48))).toNat : Int))) ≤ 9999))) rfl rfl ?_
  refine sp (.int .i64 (IntKind.i64.wrap ((IntKind.i64.wrap (10 * x1)) + (((toB ((x2.toNat : Int) - 48))).toNat : Int)))) rfl rfl ?_
  refine sp (.bool (decide ((IntKind.i64.wrap ((IntKind.i64.wrap (10 * x1)) + (((toB ((x2.toNat : Int) - 48))).toNat : Int))) ≤ 9999))) rfl rfl ?_
  refine sx ?_
  refine cn ?_
  refine c_ret ?_
  obtain rfl := some_eq h
  exact rr (vs := [.int .i64 (IntKind.i64.wrap ((IntKind.i64.wrap (10 * x1)) + (((toB ((x2.toNat : Int) - 48))).toNat : Int))), .bool (decide ((IntKind.i64.wrap ((IntKind.i64.wrap (10 * x1)) + (((toB ((x2.toNat : Int) - 48))).toNat : Int))) ≤ 9999))]) (res_c (resp_t rfl) (res_c (resp_t rfl) res_nil)) ⟨_, cl_tuple (cl_cons rfl (cl_cons rfl cl_nil)), _, _, rfl, rfl, rfl⟩
/- (*platen.platenref21.machine).escape -/
def platenref21_machine_escape (k : Nat) (x1 : S_platenref21_machine) : Option ((Int × S_platenref21_machine)) :=
  some (0, (⟨x1.state, x1.chosen, (⟨(0 : UInt8), (0 : UInt8), 0, (0 : UInt8), (⟨(0 : UInt8), (0 : UInt8), 0⟩ : S_api_Motion), (0 : UInt8), (0 : UInt8)⟩ : S_keys_Cmd), x1.n, x1.k⟩ : S_platenref21_machine))
theorem platenref21_machine_escape_ok (k : Nat) (x1 : S_platenref21_machine) (r : (Int × S_platenref21_machine))  {r0 : Nat} {σ : St} {B : List (Nat × Blk)} {O : List AV}
    (h : platenref21_machine_escape k x1 = some r)
    (I : Inv σ ((r0, .cells [u8 x1.state, .bool x1.chosen, u8 x1.c.Kind, u8 x1.c.Reg, .int .i64 x1.c.N, u8 x1.c.Op, u8 x1.c.M.Key, u8 x1.c.M.Sign, .int .i64 x1.c.M.N, u8 x1.c.Key, u8 x1.c.Sign, .int .i64 x1.n, .int .i64 x1.k]) :: B) (O)) :
    RunF kE 31 [.blk r0 0] σ (fun v σ' => v = .int .i64 r.1 ∧ Inv σ' ((r0, .cells [u8 r.2.state, .bool r.2.chosen, u8 r.2.c.Kind, u8 r.2.c.Reg, .int .i64 r.2.c.N, u8 r.2.c.Op, u8 r.2.c.M.Key, u8 r.2.c.M.Sign, .int .i64 r.2.c.M.N, u8 r.2.c.Key, u8 r.2.c.Sign, .int .i64 r.2.n, .int .i64 r.2.k]) :: B) (O)) := by
  refine f_plain rfl rfl rfl rfl ?_
  unfold platenref21_machine_escape at h
  refine c_seq ?_
  refine c_reg ?_
  refine sp (.int .i64 0) rfl rfl ?_
  refine sx ?_
  refine cn ?_
  refine c_keep (keep_cons rfl keep_nil) ?_
  refine c_seq ?_
  refine c_reg ?_
  refine sp (.blk r0 0) rfl rfl ?_
  refine sp (.agg [u8 (0 : UInt8), u8 (0 : UInt8), .int .i64 0, u8 (0 : UInt8), u8 (0 : UInt8), u8 (0 : UInt8), .int .i64 0, u8 (0 : UInt8), u8 (0 : UInt8)]) rfl rfl ?_
  refine sp (.blk r0 0) rfl rfl ?_
  refine sp (.blk r0 2) rfl rfl ?_
  refine st_store I 0 2 (cs' := [u8 x1.state, .bool x1.chosen, u8 (0 : UInt8), u8 (0 : UInt8), .int .i64 0, u8 (0 : UInt8), u8 (0 : UInt8), u8 (0 : UInt8), .int .i64 0, u8 (0 : UInt8), u8 (0 : UInt8), .int .i64 x1.n, .int .i64 x1.k]) (bs' := (r0, .cells [u8 x1.state, .bool x1.chosen, u8 (0 : UInt8), u8 (0 : UInt8), .int .i64 0, u8 (0 : UInt8), u8 (0 : UInt8), u8 (0 : UInt8), .int .i64 0, u8 (0 : UInt8), u8 (0 : UInt8), .int .i64 x1.n, .int .i64 x1.k]) :: B) rfl rfl rfl rfl rfl (Nat.le_of_ble_eq_true rfl) rfl rfl ?_
  intro σ3 I2
  refine sx ?_
  refine cn ?_
  refine c_keep keep_nil ?_
  refine c_seq ?_
  refine c_reg ?_
  refine sp (.int .i64 0) rfl rfl ?_
  refine sx ?_
  refine cn ?_
  refine c_ret ?_
  obtain rfl := some_eq h
  exact rr (vs := [.int .i64 0]) (res_c (resp_t rfl) res_nil) ⟨rfl, I2⟩
/- platen.platenref21.in -/
def platenref21_in_l6 (x1 : UInt8) (x2 : List UInt8) : Nat → Int → Option ((Bool ⊕ Unit))
  | 0, _ => none
  | k + 1, x3 => if decide (x3 < (x2.length : Int)) then ((lIdx x2 x3).bind fun a5 => if decide ((a5.toNat : Int) = (x1.toNat : Int)) then (some (Sum.inl true)) else (platenref21_in_l6 x1 x2 k (IntKind.i64.wrap (x3 + 1)))) else (some (Sum.inr ()))
def platenref21_in (k : Nat) (x1 : UInt8) (x2 : List UInt8) : Option Bool :=
  (platenref21_in_l6 x1 x2 k 0).bind fun a9 => (match a9 with | .inl x8 => (some x8) | .inr () => (some false))
theorem platenref21_in_l6_ok (x1 : UInt8) (x2 : List UInt8) {out : (Bool ⊕ Unit)}  {Q : Ex → M → Prop} {B : List (Nat × Blk)} {O : List AV}
    (hL0 : ∀ (x8 : Bool) (tm : List (Nat × AV)) (σ : St), lk tm 4 = some (.bool x8) → Inv σ (B) (O) → (Sum.inl x8) = out → Q .ret ⟨tm, σ⟩)
    (hL1 : ∀  (tm : List (Nat × AV)) (σ : St), Inv σ (B) (O) → (Sum.inr ()) = out → Q (.exit 0) ⟨tm, σ⟩) :
    ∀ (k : Nat) (x3 : Int)  (tm : List (Nat × AV)) (σ : St), platenref21_in_l6 x1 x2 k x3 = some out →
    lk tm 0 = some (u8 x1) →
    lk tm 1 = some (.str x2) →
    lk tm 5 = some (.int .i64 x3) →
    Inv σ (B) (O) → RunC kE (.loop k32l6) ⟨tm, σ⟩ Q := by
  intro k
  induction k with
  | zero => intros; exact none_eq ‹platenref21_in_l6 x1 x2 0 _ = some out›
  | succ k ih =>
    intro x3 tm σ h e0 e1 e5  I
    rw [platenref21_in_l6] at h
    refine c_loop ?_
    refine c_keep (keep_cons e0 (keep_cons e1 (keep_cons e5 keep_nil))) ?_
    refine c_seq ?_
    refine c_seq ?_
    refine c_reg ?_
    refine sp (.int .i64 x3) rfl rfl ?_
    refine sp (.str x2) rfl rfl ?_
    refine sp (.int .i64 (x2.length : Int)) rfl rfl ?_
    refine sp (.bool (decide (x3 < (x2.length : Int)))) rfl rfl ?_
    refine sx ?_
    refine cn ?_
    refine c_keep (keep_cons rfl (keep_cons rfl (keep_cons rfl (keep_cons rfl keep_nil)))) ?_
    rcases bool_tf (decide (x3 < (x2.length : Int))) with b4 | b4
    · have h := ite_t h b4
      refine c_cond_t (decide (x3 < (x2.length : Int))) rfl b4 ?_
      refine c_skip ?_
      refine cn ?_
      refine c_keep (keep_cons rfl (keep_cons rfl (keep_cons rfl keep_nil))) ?_
      refine c_seq ?_
      refine c_block ?_
      refine c_seq ?_
      refine c_reg ?_
      refine sp (.str x2) rfl rfl ?_
      refine sp (.int .i64 x3) rfl rfl ?_
      obtain ⟨a5, g6, h⟩ := bind_some h
      refine sp (u8 a5) rfl (e_idxs rfl rfl g6) ?_
      refine sp (u8 x1) rfl rfl ?_
      refine sp (.bool (decide ((a5.toNat : Int) = (x1.toNat : Int)))) rfl rfl ?_
      refine sx ?_
      refine cn ?_
      refine c_keep (keep_cons rfl (keep_cons rfl (keep_cons rfl (keep_cons rfl keep_nil)))) ?_
      rcases bool_tf (decide ((a5.toNat : Int) = (x1.toNat : Int))) with b7 | b7
      · have h := ite_t h b7
        refine c_cond_t (decide ((a5.toNat : Int) = (x1.toNat : Int))) rfl b7 ?_
        refine c_seq ?_
        refine c_reg ?_
        refine sp (.bool true) rfl rfl ?_
        refine sx ?_
        refine cn ?_
        refine c_ret ?_
        refine br ?_
        refine cr ?_
        refine cr ?_
        exact hL0 true  _ _ rfl  I (some_eq h)
      · have h := ite_f h b7
        refine c_cond_f (decide ((a5.toNat : Int) = (x1.toNat : Int))) rfl b7 ?_
        refine c_skip ?_
        refine bn ?_
        refine cn ?_
        refine c_keep (keep_cons rfl (keep_cons rfl (keep_cons rfl keep_nil))) ?_
        refine c_reg ?_
        refine sp (.int .i64 x3) rfl rfl ?_
        refine sp (.int .i64 (IntKind.i64.wrap (x3 + 1))) rfl rfl ?_
        refine sp (.int .i64 (IntKind.i64.wrap (x3 + 1))) rfl rfl ?_
        refine sx ?_
        refine cn ?_
        exact ih (IntKind.i64.wrap (x3 + 1))  _ _ h rfl rfl rfl  I
    · have h := ite_f h b4
      refine c_cond_f (decide (x3 < (x2.length : Int))) rfl b4 ?_
      refine c_exit ?_
      refine cx ?_
      refine cx ?_
      exact hL1   _ _   I (some_eq h)
theorem platenref21_in_ok (k : Nat) (x1 : UInt8) (x2 : List UInt8) (r : Bool)   {σ : St}
    (h : platenref21_in k x1 x2 = some r) :
    RunF kE 32 [u8 x1, .str x2] σ (fun v σ' => σ' = σ ∧ v = .bool r) := by
  refine f_closed rfl rfl rfl (cl_cons rfl (cl_cons rfl cl_nil)) rfl ?_
  have I0 : Inv .zero [] [] := Inv.zero
  unfold platenref21_in at h
  refine c_seq ?_
  refine c_reg ?_
  refine sp (.bool false) rfl rfl ?_
  refine sx ?_
  refine cn ?_
  refine c_keep (keep_cons rfl (keep_cons rfl keep_nil)) ?_
  refine c_seq ?_
  refine c_seq ?_
  refine c_reg ?_
  refine sp (.int .i64 0) rfl rfl ?_
  refine sx ?_
  refine cn ?_
  refine c_keep (keep_cons rfl (keep_cons rfl (keep_cons rfl keep_nil))) ?_
  refine c_block ?_
  obtain ⟨a9, g10, h⟩ := bind_some h
  refine platenref21_in_l6_ok x1 x2  ?_ ?_ k 0  _ _ g10 rfl rfl rfl  I0
  · intro x8 tm11 σ12 e15  I13 ho14
    subst ho14
    refine br ?_
    refine cr ?_
    obtain rfl := some_eq h
    exact rr (vs := [.bool x8]) (res_c (resp_t e15) res_nil) ⟨_, rfl, rfl⟩
  · intro  tm16 σ17   I18 ho19
    subst ho19
    refine bx ?_
    refine cn ?_
    refine c_keep keep_nil ?_
    refine c_seq ?_
    refine c_reg ?_
    refine sp (.bool false) rfl rfl ?_
    refine sx ?_
    refine cn ?_
    refine c_ret ?_
    obtain rfl := some_eq h
    exact rr (vs := [.bool false]) (res_c (resp_t rfl) res_nil) ⟨_, rfl, rfl⟩
/- (*platen.platenref21.machine).operator -/
def platenref21_machine_operator (k : Nat) (x1 : S_platenref21_machine) (x2 : UInt8) : Option ((Int × S_platenref21_machine)) :=
  if x1.chosen then (some (0, (⟨x1.state, x1.chosen, (⟨(7 : UInt8), x1.c.Reg, x1.c.N, x2, x1.c.M, x1.c.Key, x1.c.Sign⟩ : S_keys_Cmd), x1.n, x1.k⟩ : S_platenref21_machine))) else ((platenref21_machine_more k (⟨x1.state, x1.chosen, (⟨x1.c.Kind, x1.c.Reg, x1.c.N, x2, x1.c.M, x1.c.Key, x1.c.Sign⟩ : S_keys_Cmd), x1.n, x1.k⟩ : S_platenref21_machine) (3 : UInt8)).bind fun a8 => some (a8.1, a8.2))
theorem platenref21_machine_operator_ok (k : Nat) (x1 : S_platenref21_machine) (x2 : UInt8) (r : (Int × S_platenref21_machine))  {r0 : Nat} {σ : St} {B : List (Nat × Blk)} {O : List AV}
    (h : platenref21_machine_operator k x1 x2 = some r)
    (I : Inv σ ((r0, .cells [u8 x1.state, .bool x1.chosen, u8 x1.c.Kind, u8 x1.c.Reg, .int .i64 x1.c.N, u8 x1.c.Op, u8 x1.c.M.Key, u8 x1.c.M.Sign, .int .i64 x1.c.M.N, u8 x1.c.Key, u8 x1.c.Sign, .int .i64 x1.n, .int .i64 x1.k]) :: B) (O)) :
    RunF kE 33 [.blk r0 0, u8 x2] σ (fun v σ' => v = .int .i64 r.1 ∧ Inv σ' ((r0, .cells [u8 r.2.state, .bool r.2.chosen, u8 r.2.c.Kind, u8 r.2.c.Reg, .int .i64 r.2.c.N, u8 r.2.c.Op, u8 r.2.c.M.Key, u8 r.2.c.M.Sign, .int .i64 r.2.c.M.N, u8 r.2.c.Key, u8 r.2.c.Sign, .int .i64 r.2.n, .int .i64 r.2.k]) :: B) (O)) := by
  refine f_plain rfl rfl rfl rfl ?_
  unfold platenref21_machine_operator at h
  refine c_seq ?_
  refine c_reg ?_
  refine sp (.int .i64 0) rfl rfl ?_
  refine sx ?_
  refine cn ?_
  refine c_keep (keep_cons rfl (keep_cons rfl keep_nil)) ?_
  refine c_seq ?_
  refine c_reg ?_
  refine sp (.blk r0 0) rfl rfl ?_
  refine sp (u8 x2) rfl rfl ?_
  refine sp (.blk r0 0) rfl rfl ?_
  refine sp (.blk r0 2) rfl rfl ?_
  refine sp (.blk r0 5) rfl rfl ?_
  refine st_store I 0 5 (cs' := [u8 x1.state, .bool x1.chosen, u8 x1.c.Kind, u8 x1.c.Reg, .int .i64 x1.c.N, u8 x2, u8 x1.c.M.Key, u8 x1.c.M.Sign, .int .i64 x1.c.M.N, u8 x1.c.Key, u8 x1.c.Sign, .int .i64 x1.n, .int .i64 x1.k]) (bs' := (r0, .cells [u8 x1.state, .bool x1.chosen, u8 x1.c.Kind, u8 x1.c.Reg, .int .i64 x1.c.N, u8 x2, u8 x1.c.M.Key, u8 x1.c.M.Sign, .int .i64 x1.c.M.N, u8 x1.c.Key, u8 x1.c.Sign, .int .i64 x1.n, .int .i64 x1.k]) :: B) rfl rfl rfl rfl rfl (Nat.le_of_ble_eq_true rfl) rfl rfl ?_
  intro σ4 I3
  refine sx ?_
  refine cn ?_
  refine c_keep (keep_cons rfl keep_nil) ?_
  refine c_seq ?_
  refine c_seq ?_
  refine c_reg ?_
  refine sp (.blk r0 0) rfl rfl ?_
  refine sp (.blk r0 0) rfl rfl ?_
  refine sp (.blk r0 1) rfl rfl ?_
  refine sp (.bool x1.chosen) rfl (e_load I3 0 1 rfl rfl rfl) ?_
  refine sx ?_
  refine cn ?_
  refine c_keep (keep_cons rfl (keep_cons rfl keep_nil)) ?_
  rcases bool_tf x1.chosen with b5 | b5
  · have h := ite_t h b5
    refine c_cond_t x1.chosen rfl b5 ?_
    refine c_seq ?_
    refine c_reg ?_
    refine sp (.blk r0 0) rfl rfl ?_
    refine sp (.blk r0 0) rfl rfl ?_
    refine sp (.blk r0 2) rfl rfl ?_
    refine sp (.blk r0 2) rfl rfl ?_
    refine st_store I3 0 2 (cs' := [u8 x1.state, .bool x1.chosen, u8 (7 : UInt8), u8 x1.c.Reg, .int .i64 x1.c.N, u8 x2, u8 x1.c.M.Key, u8 x1.c.M.Sign, .int .i64 x1.c.M.N, u8 x1.c.Key, u8 x1.c.Sign, .int .i64 x1.n, .int .i64 x1.k]) (bs' := (r0, .cells [u8 x1.state, .bool x1.chosen, u8 (7 : UInt8), u8 x1.c.Reg, .int .i64 x1.c.N, u8 x2, u8 x1.c.M.Key, u8 x1.c.M.Sign, .int .i64 x1.c.M.N, u8 x1.c.Key, u8 x1.c.Sign, .int .i64 x1.n, .int .i64 x1.k]) :: B) rfl rfl rfl rfl rfl (Nat.le_of_ble_eq_true rfl) rfl rfl ?_
    intro σ7 I6
    refine sx ?_
    refine cn ?_
    refine c_keep keep_nil ?_
    refine c_seq ?_
    refine c_reg ?_
    refine sp (.int .i64 0) rfl rfl ?_
    refine sx ?_
    refine cn ?_
    refine c_ret ?_
    refine cr ?_
    obtain rfl := some_eq h
    exact rr (vs := [.int .i64 0]) (res_c (resp_t rfl) res_nil) ⟨rfl, I6⟩
  · have h := ite_f h b5
    refine c_cond_f x1.chosen rfl b5 ?_
    refine c_skip ?_
    refine cn ?_
    refine c_keep (keep_cons rfl keep_nil) ?_
    refine c_seq ?_
    refine c_reg ?_
    refine sp (.blk r0 0) rfl rfl ?_
    obtain ⟨a8, g9, h⟩ := bind_some h
    refine st_call (platenref21_machine_more_ok k _ _ _ g9  I3) rfl ?_
    intro v10 σ12 q11
    obtain ⟨q14, I13⟩ := q11
    obtain rfl := q14
    refine sp (.int .i64 a8.1) rfl rfl ?_
    refine sx ?_
    refine cn ?_
    refine c_ret ?_
    obtain rfl := some_eq h
    exact rr (vs := [.int .i64 a8.1]) (res_c (resp_t rfl) res_nil) ⟨rfl, I13⟩
/- (*platen.platenref21.machine).motion -/
def platenref21_machine_motion_j14 (k : Nat) (x16 : Bool) (x17 : S_platenref21_machine) : Option ((Int × S_platenref21_machine)) :=
  if x16 then ((platenref21_machine_more k x17 (7 : UInt8)).bind fun a19 => some (a19.1, a19.2)) else (some (2, x17))
def platenref21_machine_motion (k : Nat) (x1 : S_platenref21_machine) (x2 : UInt8) (x3 : UInt8) : Option ((Int × S_platenref21_machine)) :=
  (platenref21_in k x2 ([104, 108, 106, 107, 48, 94, 36, 119, 98, 101, 71, 123, 125] : List UInt8)).bind fun a10 => if a10 then (some (0, (⟨x1.state, x1.chosen, (⟨x3, x1.c.Reg, x1.c.N, x1.c.Op, (⟨x2, x1.c.M.Sign, x1.c.N⟩ : S_api_Motion), x1.c.Key, x1.c.Sign⟩ : S_keys_Cmd), x1.n, x1.k⟩ : S_platenref21_machine))) else (if decide ((x2.toNat : Int) = 102) then (platenref21_machine_motion_j14 k  true (⟨x1.state, x1.chosen, (⟨x3, x1.c.Reg, x1.c.N, x1.c.Op, (⟨x2, x1.c.M.Sign, x1.c.N⟩ : S_api_Motion), x1.c.Key, x1.c.Sign⟩ : S_keys_Cmd), x1.n, x1.k⟩ : S_platenref21_machine)) else (if decide ((x2.toNat : Int) = 116) then (platenref21_machine_motion_j14 k  true (⟨x1.state, x1.chosen, (⟨x3, x1.c.Reg, x1.c.N, x1.c.Op, (⟨x2, x1.c.M.Sign, x1.c.N⟩ : S_api_Motion), x1.c.Key, x1.c.Sign⟩ : S_keys_Cmd), x1.n, x1.k⟩ : S_platenref21_machine)) else (platenref21_machine_motion_j14 k  (decide ((x2.toNat : Int) = 96)) (⟨x1.state, x1.chosen, (⟨x3, x1.c.Reg, x1.c.N, x1.c.Op, (⟨x2, x1.c.M.Sign, x1.c.N⟩ : S_api_Motion), x1.c.Key, x1.c.Sign⟩ : S_keys_Cmd), x1.n, x1.k⟩ : S_platenref21_machine))))
theorem platenref21_machine_motion_j14_ok (k : Nat) (x16 : Bool) (x17 : S_platenref21_machine) {r : (Int × S_platenref21_machine)}  {r0 : Nat} {tm : List (Nat × AV)} {σ : St} {B : List (Nat × Blk)} {O : List AV}
    (h : platenref21_machine_motion_j14 k x16 x17 = some r)
    (e0 : lk tm 0 = some (.blk r0 0))
    (e31 : lk tm 31 = some (.bool x16))
    (I : Inv σ ((r0, .cells [u8 x17.state, .bool x17.chosen, u8 x17.c.Kind, u8 x17.c.Reg, .int .i64 x17.c.N, u8 x17.c.Op, u8 x17.c.M.Key, u8 x17.c.M.Sign, .int .i64 x17.c.M.N, u8 x17.c.Key, u8 x17.c.Sign, .int .i64 x17.n, .int .i64 x17.k]) :: B) (O)) :
    RunC kE k34c14 ⟨tm, σ⟩ (BlkQ 0 (Cont kE k34c19 (ResP (E := kE) k34.res (fun v σ' => v = .int .i64 r.1 ∧ Inv σ' ((r0, .cells [u8 r.2.state, .bool r.2.chosen, u8 r.2.c.Kind, u8 r.2.c.Reg, .int .i64 r.2.c.N, u8 r.2.c.Op, u8 r.2.c.M.Key, u8 r.2.c.M.Sign, .int .i64 r.2.c.M.N, u8 r.2.c.Key, u8 r.2.c.Sign, .int .i64 r.2.n, .int .i64 r.2.k]) :: B) (O))))) := by
  unfold platenref21_machine_motion_j14 at h
  refine c_keep (keep_cons e0 (keep_cons e31 keep_nil)) ?_
  rcases bool_tf x16 with b18 | b18
  · have h := ite_t h b18
    refine c_cond_t x16 rfl b18 ?_
    refine c_seq ?_
    refine c_reg ?_
    refine sp (.blk r0 0) rfl rfl ?_
    obtain ⟨a19, g20, h⟩ := bind_some h
    refine st_call (platenref21_machine_more_ok k _ _ _ g20  I) rfl ?_
    intro v21 σ23 q22
    obtain ⟨q25, I24⟩ := q22
    obtain rfl := q25
    refine sp (.int .i64 a19.1) rfl rfl ?_
    refine sx ?_
    refine cn ?_
    refine c_ret ?_
    refine br ?_
    refine cr ?_
    obtain rfl := some_eq h
    exact rr (vs := [.int .i64 a19.1]) (res_c (resp_t rfl) res_nil) ⟨rfl, I24⟩
  · have h := ite_f h b18
    refine c_cond_f x16 rfl b18 ?_
    refine c_skip ?_
    refine bn ?_
    refine cn ?_
    refine c_keep keep_nil ?_
    refine c_seq ?_
    refine c_reg ?_
    refine sp (.int .i64 2) rfl rfl ?_
    refine sx ?_
    refine cn ?_
    refine c_ret ?_
    obtain rfl := some_eq h
    exact rr (vs := [.int .i64 2]) (res_c (resp_t rfl) res_nil) ⟨rfl, I⟩
theorem platenref21_machine_motion_ok (k : Nat) (x1 : S_platenref21_machine) (x2 : UInt8) (x3 : UInt8) (r : (Int × S_platenref21_machine))  {r0 : Nat} {σ : St} {B : List (Nat × Blk)} {O : List AV}
    (h : platenref21_machine_motion k x1 x2 x3 = some r)
    (I : Inv σ ((r0, .cells [u8 x1.state, .bool x1.chosen, u8 x1.c.Kind, u8 x1.c.Reg, .int .i64 x1.c.N, u8 x1.c.Op, u8 x1.c.M.Key, u8 x1.c.M.Sign, .int .i64 x1.c.M.N, u8 x1.c.Key, u8 x1.c.Sign, .int .i64 x1.n, .int .i64 x1.k]) :: B) (O)) :
    RunF kE 34 [.blk r0 0, u8 x2, u8 x3] σ (fun v σ' => v = .int .i64 r.1 ∧ Inv σ' ((r0, .cells [u8 r.2.state, .bool r.2.chosen, u8 r.2.c.Kind, u8 r.2.c.Reg, .int .i64 r.2.c.N, u8 r.2.c.Op, u8 r.2.c.M.Key, u8 r.2.c.M.Sign, .int .i64 r.2.c.M.N, u8 r.2.c.Key, u8 r.2.c.Sign, .int .i64 r.2.n, .int .i64 r.2.k]) :: B) (O)) := by
  refine f_plain rfl rfl rfl rfl ?_
  unfold platenref21_machine_motion at h
  refine c_seq ?_
  refine c_reg ?_
  refine sp (.int .i64 0) rfl rfl ?_
  refine sx ?_
  refine cn ?_
  refine c_keep (keep_cons rfl (keep_cons rfl (keep_cons rfl keep_nil))) ?_
  refine c_seq ?_
  refine c_reg ?_
  refine sp (.blk r0 0) rfl rfl ?_
  refine sp (.blk r0 0) rfl rfl ?_
  refine sp (.blk r0 0) rfl rfl ?_
  refine sp (u8 x3) rfl rfl ?_
  refine sp (u8 x2) rfl rfl ?_
  refine sp (.blk r0 0) rfl rfl ?_
  refine sp (.blk r0 0) rfl rfl ?_
  refine sp (.blk r0 2) rfl rfl ?_
  refine sp (.blk r0 4) rfl rfl ?_
  refine sp (.int .i64 x1.c.N) rfl (e_load I 0 4 rfl rfl rfl) ?_
  refine sp (.blk r0 0) rfl rfl ?_
  refine sp (.blk r0 2) rfl rfl ?_
  refine sp (.blk r0 2) rfl rfl ?_
  refine st_store I 0 2 (cs' := [u8 x1.state, .bool x1.chosen, u8 x3, u8 x1.c.Reg, .int .i64 x1.c.N, u8 x1.c.Op, u8 x1.c.M.Key, u8 x1.c.M.Sign, .int .i64 x1.c.M.N, u8 x1.c.Key, u8 x1.c.Sign, .int .i64 x1.n, .int .i64 x1.k]) (bs' := (r0, .cells [u8 x1.state, .bool x1.chosen, u8 x3, u8 x1.c.Reg, .int .i64 x1.c.N, u8 x1.c.Op, u8 x1.c.M.Key, u8 x1.c.M.Sign, .int .i64 x1.c.M.N, u8 x1.c.Key, u8 x1.c.Sign, .int .i64 x1.n, .int .i64 x1.k]) :: B) rfl rfl rfl rfl rfl (Nat.le_of_ble_eq_true rfl) rfl rfl ?_
  intro σ5 I4
  refine sp (.blk r0 0) rfl rfl ?_
  refine sp (.blk r0 2) rfl rfl ?_
  refine sp (.blk r0 6) rfl rfl ?_
  refine sp (.blk r0 6) rfl rfl ?_
  refine st_store I4 0 6 (cs' := [u8 x1.state, .bool x1.chosen, u8 x3, u8 x1.c.Reg, .int .i64 x1.c.N, u8 x1.c.Op, u8 x2, u8 x1.c.M.Sign, .int .i64 x1.c.M.N, u8 x1.c.Key, u8 x1.c.Sign, .int .i64 x1.n, .int .i64 x1.k]) (bs' := (r0, .cells [u8 x1.state, .bool x1.chosen, u8 x3, u8 x1.c.Reg, .int .i64 x1.c.N, u8 x1.c.Op, u8 x2, u8 x1.c.M.Sign, .int .i64 x1.c.M.N, u8 x1.c.Key, u8 x1.c.Sign, .int .i64 x1.n, .int .i64 x1.k]) :: B) rfl rfl rfl rfl rfl (Nat.le_of_ble_eq_true rfl) rfl rfl ?_
  intro σ7 I6
  refine sp (.blk r0 0) rfl rfl ?_
  refine sp (.blk r0 2) rfl rfl ?_
  refine sp (.blk r0 6) rfl rfl ?_
  refine sp (.blk r0 8) rfl rfl ?_
  refine st_store I6 0 8 (cs' := [u8 x1.state, .bool x1.chosen, u8 x3, u8 x1.c.Reg, .int .i64 x1.c.N, u8 x1.c.Op, u8 x2, u8 x1.c.M.Sign, .int .i64 x1.c.N, u8 x1.c.Key, u8 x1.c.Sign, .int .i64 x1.n, .int .i64 x1.k]) (bs' := (r0, .cells [u8 x1.state, .bool x1.chosen, u8 x3, u8 x1.c.Reg, .int .i64 x1.c.N, u8 x1.c.Op, u8 x2, u8 x1.c.M.Sign, .int .i64 x1.c.N, u8 x1.c.Key, u8 x1.c.Sign, .int .i64 x1.n, .int .i64 x1.k]) :: B) rfl rfl rfl rfl rfl (Nat.le_of_ble_eq_true rfl) rfl rfl ?_
  intro σ9 I8
  refine sx ?_
  refine cn ?_
  refine c_keep (keep_cons rfl (keep_cons rfl keep_nil)) ?_
  refine c_seq ?_
  refine c_block ?_
  refine c_seq ?_
  refine c_reg ?_
  refine sp (u8 x2) rfl rfl ?_
  obtain ⟨a10, g11, h⟩ := bind_some h
  refine st_callc (platenref21_in_ok k _ _ _ g11 ) rfl ?_
  intro v12 q13
  obtain rfl := q13
  refine sp (.bool a10) rfl rfl ?_
  refine sx ?_
  refine cn ?_
  refine c_keep (keep_cons rfl (keep_cons rfl (keep_cons rfl keep_nil))) ?_
  rcases bool_tf a10 with b14 | b14
  · have h := ite_t h b14
    refine c_cond_t a10 rfl b14 ?_
    refine c_seq ?_
    refine c_reg ?_
    refine sp (.int .i64 0) rfl rfl ?_
    refine sx ?_
    refine cn ?_
    refine c_ret ?_
    refine br ?_
    refine cr ?_
    obtain rfl := some_eq h
    exact rr (vs := [.int .i64 0]) (res_c (resp_t rfl) res_nil) ⟨rfl, I8⟩
  · have h := ite_f h b14
    refine c_cond_f a10 rfl b14 ?_
    refine c_seq ?_
    refine c_reg ?_
    refine sp (u8 x2) rfl rfl ?_
    refine sp (.bool (decide ((x2.toNat : Int) = 102))) rfl rfl ?_
    refine sp (.bool (decide ((x2.toNat : Int) = 102))) rfl rfl ?_
    rcases bool_tf (decide ((x2.toNat : Int) = 102)) with b15 | b15
    · have h := ite_t h b15
      refine sg_skip (decide ((x2.toNat : Int) = 102)) rfl b15 ?_
      refine sg_skip (decide ((x2.toNat : Int) = 102)) rfl b15 ?_
      refine sp (.bool true) rfl (e_pick_t rfl b15 rfl) ?_
      refine sp (.bool true) rfl rfl ?_
      refine sg_skip true rfl rfl ?_
      refine sg_skip true rfl rfl ?_
      refine sp (.bool true) rfl (e_pick_t rfl rfl rfl) ?_
      refine sp (.bool true) rfl rfl ?_
      refine sx ?_
      refine cn ?_
      exact platenref21_machine_motion_j14_ok k  true (⟨x1.state, x1.chosen, (⟨x3, x1.c.Reg, x1.c.N, x1.c.Op, (⟨x2, x1.c.M.Sign, x1.c.N⟩ : S_api_Motion), x1.c.Key, x1.c.Sign⟩ : S_keys_Cmd), x1.n, x1.k⟩ : S_platenref21_machine) h rfl rfl   I8
    · have h := ite_f h b15
      refine sg_run (decide ((x2.toNat : Int) = 102)) rfl b15 ?_
      refine sp (u8 x2) rfl rfl ?_
      refine sg_run (decide ((x2.toNat : Int) = 102)) rfl b15 ?_
      refine sp (.bool (decide ((x2.toNat : Int) = 116))) rfl rfl ?_
      refine sp (.bool (decide ((x2.toNat : Int) = 116))) rfl (e_pick_f rfl b15 rfl) ?_
      refine sp (.bool (decide ((x2.toNat : Int) = 116))) rfl rfl ?_
      rcases bool_tf (decide ((x2.toNat : Int) = 116)) with b26 | b26
      · have h := ite_t h b26
        refine sg_skip (decide ((x2.toNat : Int) = 116)) rfl b26 ?_
        refine sg_skip (decide ((x2.toNat : Int) = 116)) rfl b26 ?_
        refine sp (.bool true) rfl (e_pick_t rfl b26 rfl) ?_
        refine sp (.bool true) rfl rfl ?_
        refine sx ?_
        refine cn ?_
        exact platenref21_machine_motion_j14_ok k  true (⟨x1.state, x1.chosen, (⟨x3, x1.c.Reg, x1.c.N, x1.c.Op, (⟨x2, x1.c.M.Sign, x1.c.N⟩ : S_api_Motion), x1.c.Key, x1.c.Sign⟩ : S_keys_Cmd), x1.n, x1.k⟩ : S_platenref21_machine) h rfl rfl   I8
      · have h := ite_f h b26
        refine sg_run (decide ((x2.toNat : Int) = 116)) rfl b26 ?_
        refine sp (u8 x2) rfl rfl ?_
        refine sg_run (decide ((x2.toNat : Int) = 116)) rfl b26 ?_
        refine sp (.bool (decide ((x2.toNat : Int) = 96))) rfl rfl ?_
        refine sp (.bool (decide ((x2.toNat : Int) = 96))) rfl (e_pick_f rfl b26 rfl) ?_
        refine sp (.bool (decide ((x2.toNat : Int) = 96))) rfl rfl ?_
        refine sx ?_
        refine cn ?_
        exact platenref21_machine_motion_j14_ok k  (decide ((x2.toNat : Int) = 96)) (⟨x1.state, x1.chosen, (⟨x3, x1.c.Reg, x1.c.N, x1.c.Op, (⟨x2, x1.c.M.Sign, x1.c.N⟩ : S_api_Motion), x1.c.Key, x1.c.Sign⟩ : S_keys_Cmd), x1.n, x1.k⟩ : S_platenref21_machine) h rfl rfl   I8
end Go.Pv
