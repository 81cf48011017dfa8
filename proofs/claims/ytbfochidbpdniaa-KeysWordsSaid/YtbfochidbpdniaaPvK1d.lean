/- Functions over typed values, printed; and that the abstract runs come to them. -/
import Derived.Test.YtbfochidbpdniaaPvK1d0
namespace Go.Pv
set_option linter.all false
set_option maxRecDepth 100000
/- (*platen.platenref21.machine).key -/
def platenref21_machine_key_j40 (k : Nat) (x2 : UInt8) (x53 : Bool) (x54 : S_platenref21_machine) : Option ((Int × S_platenref21_machine)) :=
  if x53 then ((platenref21_machine_more k (⟨x54.state, x54.chosen, (⟨(6 : UInt8), x54.c.Reg, x54.c.N, x54.c.Op, x54.c.M, x2, x54.c.Sign⟩ : S_keys_Cmd), x54.n, x54.k⟩ : S_platenref21_machine) (8 : UInt8)).bind fun a60 => some (a60.1, a60.2)) else ((platenref21_machine_motion k x54 x2 (1 : UInt8)).bind fun a67 => some (a67.1, a67.2))
def platenref21_machine_key_j32 (k : Nat) (x2 : UInt8) (x45 : Bool) (x46 : S_platenref21_machine) : Option ((Int × S_platenref21_machine)) :=
  if x45 then (some (0, (⟨x46.state, x46.chosen, (⟨(5 : UInt8), x46.c.Reg, x46.c.N, x46.c.Op, x46.c.M, x2, x46.c.Sign⟩ : S_keys_Cmd), x46.n, x46.k⟩ : S_platenref21_machine))) else (if decide ((x2.toNat : Int) = 109) then (platenref21_machine_key_j40 k x2 true x46) else (if decide ((x2.toNat : Int) = 114) then (platenref21_machine_key_j40 k x2 (!x46.chosen) x46) else (platenref21_machine_key_j40 k x2 false x46)))
def platenref21_machine_key_j26 (k : Nat) (x2 : UInt8) (x34 : Bool) (x35 : S_platenref21_machine) : Option ((Int × S_platenref21_machine)) :=
  if x34 then ((platenref21_machine_operator k x35 (100 : UInt8)).bind fun a37 => some (a37.1, a37.2)) else (if decide ((x2.toNat : Int) = 118) then (platenref21_machine_key_j32 k x2 true x35) else (if decide ((x2.toNat : Int) = 86) then (platenref21_machine_key_j32 k x2 true x35) else (if !x35.chosen then (if decide ((x2.toNat : Int) = 18) then (platenref21_machine_key_j32 k x2 true x35) else ((platenref21_in k x2 ([120, 112, 80, 105, 97, 73, 65, 111, 79, 117, 46, 74, 58] : List UInt8)).bind fun a78 => platenref21_machine_key_j32 k x2 a78 x35)) else (platenref21_machine_key_j32 k x2 false x35))))
def platenref21_machine_key (k : Nat) (x1 : S_platenref21_machine) (x2 : UInt8) : Option ((Int × S_platenref21_machine)) :=
  if decide ((x2.toNat : Int) = 27) then ((platenref21_machine_escape k (⟨x1.state, x1.chosen, (⟨x1.c.Kind, x1.c.Reg, x1.n, x1.c.Op, x1.c.M, x1.c.Key, x1.c.Sign⟩ : S_keys_Cmd), x1.n, x1.k⟩ : S_platenref21_machine)).bind fun a6 => some (a6.1, a6.2)) else ((platenref21_in k x2 ([100, 99, 121, 60, 62, 61] : List UInt8)).bind fun a13 => if a13 then ((platenref21_machine_operator k (⟨x1.state, x1.chosen, (⟨x1.c.Kind, x1.c.Reg, x1.n, x1.c.Op, x1.c.M, x1.c.Key, x1.c.Sign⟩ : S_keys_Cmd), x1.n, x1.k⟩ : S_platenref21_machine) x2).bind fun a18 => some (a18.1, a18.2)) else (if decide ((x2.toNat : Int) = 103) then ((platenref21_machine_more k (⟨x1.state, x1.chosen, (⟨x1.c.Kind, x1.c.Reg, x1.n, x1.c.Op, x1.c.M, x1.c.Key, x1.c.Sign⟩ : S_keys_Cmd), x1.n, x1.k⟩ : S_platenref21_machine) (4 : UInt8)).bind fun a26 => some (a26.1, a26.2)) else (if decide ((x2.toNat : Int) = 120) then (platenref21_machine_key_j26 k x2 x1.chosen (⟨x1.state, x1.chosen, (⟨x1.c.Kind, x1.c.Reg, x1.n, x1.c.Op, x1.c.M, x1.c.Key, x1.c.Sign⟩ : S_keys_Cmd), x1.n, x1.k⟩ : S_platenref21_machine)) else (platenref21_machine_key_j26 k x2 false (⟨x1.state, x1.chosen, (⟨x1.c.Kind, x1.c.Reg, x1.n, x1.c.Op, x1.c.M, x1.c.Key, x1.c.Sign⟩ : S_keys_Cmd), x1.n, x1.k⟩ : S_platenref21_machine)))))
theorem platenref21_machine_key_j40_ok (k : Nat) (x2 : UInt8) (x53 : Bool) (x54 : S_platenref21_machine) {r : (Int × S_platenref21_machine)}  {r0 : Nat} {tm : List (Nat × AV)} {σ : St} {B : List (Nat × Blk)} {O : List AV}
    (h : platenref21_machine_key_j40 k x2 x53 x54 = some r)
    (e0 : lk tm 0 = some (.blk r0 0))
    (e1 : lk tm 1 = some (u8 x2))
    (e71 : lk tm 71 = some (.bool x53))
    (I : Inv σ ((r0, .cells [u8 x54.state, .bool x54.chosen, u8 x54.c.Kind, u8 x54.c.Reg, .int .i64 x54.c.N, u8 x54.c.Op, u8 x54.c.M.Key, u8 x54.c.M.Sign, .int .i64 x54.c.M.N, u8 x54.c.Key, u8 x54.c.Sign, .int .i64 x54.n, .int .i64 x54.k]) :: B) (O)) :
    RunC kE k24c40 ⟨tm, σ⟩ (BlkQ 0 (Cont kE k24c47 (ResP (E := kE) k24.res (fun v σ' => v = .int .i64 r.1 ∧ Inv σ' ((r0, .cells [u8 r.2.state, .bool r.2.chosen, u8 r.2.c.Kind, u8 r.2.c.Reg, .int .i64 r.2.c.N, u8 r.2.c.Op, u8 r.2.c.M.Key, u8 r.2.c.M.Sign, .int .i64 r.2.c.M.N, u8 r.2.c.Key, u8 r.2.c.Sign, .int .i64 r.2.n, .int .i64 r.2.k]) :: B) (O))))) := by
  unfold platenref21_machine_key_j40 at h
  refine c_keep (keep_cons e0 (keep_cons e1 (keep_cons e71 keep_nil))) ?_
  rcases bool_tf x53 with b55 | b55
  · have h := ite_t h b55
    refine c_cond_t x53 rfl b55 ?_
    refine c_seq ?_
    refine c_reg ?_
    refine sp (.blk r0 0) rfl rfl ?_
    refine sp (.blk r0 0) rfl rfl ?_
    refine sp (u8 x2) rfl rfl ?_
    refine sp (.blk r0 0) rfl rfl ?_
    refine sp (.blk r0 2) rfl rfl ?_
    refine sp (.blk r0 2) rfl rfl ?_
    refine st_store I 0 2 (cs' := [u8 x54.state, .bool x54.chosen, u8 (6 : UInt8), u8 x54.c.Reg, .int .i64 x54.c.N, u8 x54.c.Op, u8 x54.c.M.Key, u8 x54.c.M.Sign, .int .i64 x54.c.M.N, u8 x54.c.Key, u8 x54.c.Sign, .int .i64 x54.n, .int .i64 x54.k]) (bs' := (r0, .cells [u8 x54.state, .bool x54.chosen, u8 (6 : UInt8), u8 x54.c.Reg, .int .i64 x54.c.N, u8 x54.c.Op, u8 x54.c.M.Key, u8 x54.c.M.Sign, .int .i64 x54.c.M.N, u8 x54.c.Key, u8 x54.c.Sign, .int .i64 x54.n, .int .i64 x54.k]) :: B) rfl rfl rfl rfl rfl (Nat.le_of_ble_eq_true rfl) rfl rfl ?_
    intro σ57 I56
    refine sp (.blk r0 0) rfl rfl ?_
    refine sp (.blk r0 2) rfl rfl ?_
    refine sp (.blk r0 9) rfl rfl ?_
    refine st_store I56 0 9 (cs' := [u8 x54.state, .bool x54.chosen, u8 (6 : UInt8), u8 x54.c.Reg, .int .i64 x54.c.N, u8 x54.c.Op, u8 x54.c.M.Key, u8 x54.c.M.Sign, .int .i64 x54.c.M.N, u8 x2, u8 x54.c.Sign, .int .i64 x54.n, .int .i64 x54.k]) (bs' := (r0, .cells [u8 x54.state, .bool x54.chosen, u8 (6 : UInt8), u8 x54.c.Reg, .int .i64 x54.c.N, u8 x54.c.Op, u8 x54.c.M.Key, u8 x54.c.M.Sign, .int .i64 x54.c.M.N, u8 x2, u8 x54.c.Sign, .int .i64 x54.n, .int .i64 x54.k]) :: B) rfl rfl rfl rfl rfl (Nat.le_of_ble_eq_true rfl) rfl rfl ?_
    intro σ59 I58
    refine sx ?_
    refine cn ?_
    refine c_keep (keep_cons rfl keep_nil) ?_
    refine c_seq ?_
    refine c_reg ?_
    refine sp (.blk r0 0) rfl rfl ?_
    obtain ⟨a60, g61, h⟩ := bind_some h
    refine st_call (platenref21_machine_more_ok k _ _ _ g61  I58) rfl ?_
    intro v62 σ64 q63
    obtain ⟨q66, I65⟩ := q63
    obtain rfl := q66
    refine sp (.int .i64 a60.1) rfl rfl ?_
    refine sx ?_
    refine cn ?_
    refine c_ret ?_
    refine br ?_
    refine cr ?_
    obtain rfl := some_eq h
    exact rr (vs := [.int .i64 a60.1]) (res_c (resp_t rfl) res_nil) ⟨rfl, I65⟩
  · have h := ite_f h b55
    refine c_cond_f x53 rfl b55 ?_
    refine c_skip ?_
    refine bn ?_
    refine cn ?_
    refine c_keep (keep_cons rfl (keep_cons rfl keep_nil)) ?_
    refine c_seq ?_
    refine c_reg ?_
    refine sp (.blk r0 0) rfl rfl ?_
    refine sp (u8 x2) rfl rfl ?_
    obtain ⟨a67, g68, h⟩ := bind_some h
    refine st_call (platenref21_machine_motion_ok k _ _ _ _ g68  I) rfl ?_
    intro v69 σ71 q70
    obtain ⟨q73, I72⟩ := q70
    obtain rfl := q73
    refine sp (.int .i64 a67.1) rfl rfl ?_
    refine sx ?_
    refine cn ?_
    refine c_ret ?_
    obtain rfl := some_eq h
    exact rr (vs := [.int .i64 a67.1]) (res_c (resp_t rfl) res_nil) ⟨rfl, I72⟩
theorem platenref21_machine_key_j32_ok (k : Nat) (x2 : UInt8) (x45 : Bool) (x46 : S_platenref21_machine) {r : (Int × S_platenref21_machine)}  {r0 : Nat} {tm : List (Nat × AV)} {σ : St} {B : List (Nat × Blk)} {O : List AV}
    (h : platenref21_machine_key_j32 k x2 x45 x46 = some r)
    (e0 : lk tm 0 = some (.blk r0 0))
    (e1 : lk tm 1 = some (u8 x2))
    (e40 : lk tm 40 = some (.bool x45))
    (I : Inv σ ((r0, .cells [u8 x46.state, .bool x46.chosen, u8 x46.c.Kind, u8 x46.c.Reg, .int .i64 x46.c.N, u8 x46.c.Op, u8 x46.c.M.Key, u8 x46.c.M.Sign, .int .i64 x46.c.M.N, u8 x46.c.Key, u8 x46.c.Sign, .int .i64 x46.n, .int .i64 x46.k]) :: B) (O)) :
    RunC kE k24c32 ⟨tm, σ⟩ (BlkQ 0 (Cont kE k24c47 (ResP (E := kE) k24.res (fun v σ' => v = .int .i64 r.1 ∧ Inv σ' ((r0, .cells [u8 r.2.state, .bool r.2.chosen, u8 r.2.c.Kind, u8 r.2.c.Reg, .int .i64 r.2.c.N, u8 r.2.c.Op, u8 r.2.c.M.Key, u8 r.2.c.M.Sign, .int .i64 r.2.c.M.N, u8 r.2.c.Key, u8 r.2.c.Sign, .int .i64 r.2.n, .int .i64 r.2.k]) :: B) (O))))) := by
  unfold platenref21_machine_key_j32 at h
  refine c_keep (keep_cons e0 (keep_cons e1 (keep_cons e40 keep_nil))) ?_
  rcases bool_tf x45 with b47 | b47
  · have h := ite_t h b47
    refine c_cond_t x45 rfl b47 ?_
    refine c_seq ?_
    refine c_reg ?_
    refine sp (.blk r0 0) rfl rfl ?_
    refine sp (.blk r0 0) rfl rfl ?_
    refine sp (u8 x2) rfl rfl ?_
    refine sp (.blk r0 0) rfl rfl ?_
    refine sp (.blk r0 2) rfl rfl ?_
    refine sp (.blk r0 2) rfl rfl ?_
    refine st_store I 0 2 (cs' := [u8 x46.state, .bool x46.chosen, u8 (5 : UInt8), u8 x46.c.Reg, .int .i64 x46.c.N, u8 x46.c.Op, u8 x46.c.M.Key, u8 x46.c.M.Sign, .int .i64 x46.c.M.N, u8 x46.c.Key, u8 x46.c.Sign, .int .i64 x46.n, .int .i64 x46.k]) (bs' := (r0, .cells [u8 x46.state, .bool x46.chosen, u8 (5 : UInt8), u8 x46.c.Reg, .int .i64 x46.c.N, u8 x46.c.Op, u8 x46.c.M.Key, u8 x46.c.M.Sign, .int .i64 x46.c.M.N, u8 x46.c.Key, u8 x46.c.Sign, .int .i64 x46.n, .int .i64 x46.k]) :: B) rfl rfl rfl rfl rfl (Nat.le_of_ble_eq_true rfl) rfl rfl ?_
    intro σ49 I48
    refine sp (.blk r0 0) rfl rfl ?_
    refine sp (.blk r0 2) rfl rfl ?_
    refine sp (.blk r0 9) rfl rfl ?_
    refine st_store I48 0 9 (cs' := [u8 x46.state, .bool x46.chosen, u8 (5 : UInt8), u8 x46.c.Reg, .int .i64 x46.c.N, u8 x46.c.Op, u8 x46.c.M.Key, u8 x46.c.M.Sign, .int .i64 x46.c.M.N, u8 x2, u8 x46.c.Sign, .int .i64 x46.n, .int .i64 x46.k]) (bs' := (r0, .cells [u8 x46.state, .bool x46.chosen, u8 (5 : UInt8), u8 x46.c.Reg, .int .i64 x46.c.N, u8 x46.c.Op, u8 x46.c.M.Key, u8 x46.c.M.Sign, .int .i64 x46.c.M.N, u8 x2, u8 x46.c.Sign, .int .i64 x46.n, .int .i64 x46.k]) :: B) rfl rfl rfl rfl rfl (Nat.le_of_ble_eq_true rfl) rfl rfl ?_
    intro σ51 I50
    refine sx ?_
    refine cn ?_
    refine c_keep keep_nil ?_
    refine c_seq ?_
    refine c_reg ?_
    refine sp (.int .i64 0) rfl rfl ?_
    refine sx ?_
    refine cn ?_
    refine c_ret ?_
    refine br ?_
    refine cr ?_
    obtain rfl := some_eq h
    exact rr (vs := [.int .i64 0]) (res_c (resp_t rfl) res_nil) ⟨rfl, I50⟩
  · have h := ite_f h b47
    refine c_cond_f x45 rfl b47 ?_
    refine c_seq ?_
    refine c_reg ?_
    refine sp (u8 x2) rfl rfl ?_
    refine sp (.bool (decide ((x2.toNat : Int) = 109))) rfl rfl ?_
    refine sp (.bool (decide ((x2.toNat : Int) = 109))) rfl rfl ?_
    rcases bool_tf (decide ((x2.toNat : Int) = 109)) with b52 | b52
    · have h := ite_t h b52
      refine sg_skip (decide ((x2.toNat : Int) = 109)) rfl b52 ?_
      refine sg_skip (decide ((x2.toNat : Int) = 109)) rfl b52 ?_
      refine sg_skip (decide ((x2.toNat : Int) = 109)) rfl b52 ?_
      refine sg_undef rfl ?_
      refine sg_undef rfl ?_
      refine sg_undef rfl ?_
      refine sg_undef rfl ?_
      refine sg_undef rfl ?_
      refine sg_skip (decide ((x2.toNat : Int) = 109)) rfl b52 ?_
      refine sp (.bool true) rfl (e_pick_t rfl b52 rfl) ?_
      refine sp (.bool true) rfl rfl ?_
      refine sx ?_
      refine cn ?_
      exact platenref21_machine_key_j40_ok k x2 true x46 h rfl rfl rfl   I
    · have h := ite_f h b52
      refine sg_run (decide ((x2.toNat : Int) = 109)) rfl b52 ?_
      refine sp (u8 x2) rfl rfl ?_
      refine sg_run (decide ((x2.toNat : Int) = 109)) rfl b52 ?_
      refine sp (.bool (decide ((x2.toNat : Int) = 114))) rfl rfl ?_
      refine sg_run (decide ((x2.toNat : Int) = 109)) rfl b52 ?_
      refine sp (.bool (decide ((x2.toNat : Int) = 114))) rfl rfl ?_
      rcases bool_tf (decide ((x2.toNat : Int) = 114)) with b74 | b74
      · have h := ite_t h b74
        refine sg_run (decide ((x2.toNat : Int) = 114)) rfl b74 ?_
        refine sp (.blk r0 0) rfl rfl ?_
        refine sg_run (decide ((x2.toNat : Int) = 114)) rfl b74 ?_
        refine sp (.blk r0 0) rfl rfl ?_
        refine sg_run (decide ((x2.toNat : Int) = 114)) rfl b74 ?_
        refine sp (.blk r0 1) rfl rfl ?_
        refine sg_run (decide ((x2.toNat : Int) = 114)) rfl b74 ?_
        refine sp (.bool x46.chosen) rfl (e_load I 0 1 rfl rfl rfl) ?_
        refine sg_run (decide ((x2.toNat : Int) = 114)) rfl b74 ?_
        refine sp (.bool (!x46.chosen)) rfl rfl ?_
        refine sg_run (decide ((x2.toNat : Int) = 109)) rfl b52 ?_
        refine sp (.bool (!x46.chosen)) rfl (e_pick_t rfl b74 rfl) ?_
        refine sp (.bool (!x46.chosen)) rfl (e_pick_f rfl b52 rfl) ?_
        refine sp (.bool (!x46.chosen)) rfl rfl ?_
        refine sx ?_
        refine cn ?_
        exact platenref21_machine_key_j40_ok k x2 (!x46.chosen) x46 h rfl rfl rfl   I
      · have h := ite_f h b74
        refine sg_skip (decide ((x2.toNat : Int) = 114)) rfl b74 ?_
        refine sg_skip (decide ((x2.toNat : Int) = 114)) rfl b74 ?_
        refine sg_skip (decide ((x2.toNat : Int) = 114)) rfl b74 ?_
        refine sg_skip (decide ((x2.toNat : Int) = 114)) rfl b74 ?_
        refine sg_skip (decide ((x2.toNat : Int) = 114)) rfl b74 ?_
        refine sg_run (decide ((x2.toNat : Int) = 109)) rfl b52 ?_
        refine sp (.bool false) rfl (e_pick_f rfl b74 rfl) ?_
        refine sp (.bool false) rfl (e_pick_f rfl b52 rfl) ?_
        refine sp (.bool false) rfl rfl ?_
        refine sx ?_
        refine cn ?_
        exact platenref21_machine_key_j40_ok k x2 false x46 h rfl rfl rfl   I
theorem platenref21_machine_key_j26_ok (k : Nat) (x2 : UInt8) (x34 : Bool) (x35 : S_platenref21_machine) {r : (Int × S_platenref21_machine)}  {r0 : Nat} {tm : List (Nat × AV)} {σ : St} {B : List (Nat × Blk)} {O : List AV}
    (h : platenref21_machine_key_j26 k x2 x34 x35 = some r)
    (e0 : lk tm 0 = some (.blk r0 0))
    (e1 : lk tm 1 = some (u8 x2))
    (e29 : lk tm 29 = some (.bool x34))
    (I : Inv σ ((r0, .cells [u8 x35.state, .bool x35.chosen, u8 x35.c.Kind, u8 x35.c.Reg, .int .i64 x35.c.N, u8 x35.c.Op, u8 x35.c.M.Key, u8 x35.c.M.Sign, .int .i64 x35.c.M.N, u8 x35.c.Key, u8 x35.c.Sign, .int .i64 x35.n, .int .i64 x35.k]) :: B) (O)) :
    RunC kE k24c26 ⟨tm, σ⟩ (BlkQ 0 (Cont kE k24c47 (ResP (E := kE) k24.res (fun v σ' => v = .int .i64 r.1 ∧ Inv σ' ((r0, .cells [u8 r.2.state, .bool r.2.chosen, u8 r.2.c.Kind, u8 r.2.c.Reg, .int .i64 r.2.c.N, u8 r.2.c.Op, u8 r.2.c.M.Key, u8 r.2.c.M.Sign, .int .i64 r.2.c.M.N, u8 r.2.c.Key, u8 r.2.c.Sign, .int .i64 r.2.n, .int .i64 r.2.k]) :: B) (O))))) := by
  unfold platenref21_machine_key_j26 at h
  refine c_keep (keep_cons e0 (keep_cons e1 (keep_cons e29 keep_nil))) ?_
  rcases bool_tf x34 with b36 | b36
  · have h := ite_t h b36
    refine c_cond_t x34 rfl b36 ?_
    refine c_seq ?_
    refine c_reg ?_
    refine sp (.blk r0 0) rfl rfl ?_
    obtain ⟨a37, g38, h⟩ := bind_some h
    refine st_call (platenref21_machine_operator_ok k _ _ _ g38  I) rfl ?_
    intro v39 σ41 q40
    obtain ⟨q43, I42⟩ := q40
    obtain rfl := q43
    refine sp (.int .i64 a37.1) rfl rfl ?_
    refine sx ?_
    refine cn ?_
    refine c_ret ?_
    refine br ?_
    refine cr ?_
    obtain rfl := some_eq h
    exact rr (vs := [.int .i64 a37.1]) (res_c (resp_t rfl) res_nil) ⟨rfl, I42⟩
  · have h := ite_f h b36
    refine c_cond_f x34 rfl b36 ?_
    refine c_seq ?_
    refine c_reg ?_
    refine sp (u8 x2) rfl rfl ?_
    refine sp (.bool (decide ((x2.toNat : Int) = 118))) rfl rfl ?_
    refine sp (.bool (decide ((x2.toNat : Int) = 118))) rfl rfl ?_
    rcases bool_tf (decide ((x2.toNat : Int) = 118)) with b44 | b44
    · have h := ite_t h b44
      refine sg_skip (decide ((x2.toNat : Int) = 118)) rfl b44 ?_
      refine sg_skip (decide ((x2.toNat : Int) = 118)) rfl b44 ?_
      refine sp (.bool true) rfl (e_pick_t rfl b44 rfl) ?_
      refine sp (.bool true) rfl rfl ?_
      refine sg_skip true rfl rfl ?_
      refine sg_skip true rfl rfl ?_
      refine sg_skip true rfl rfl ?_
      refine sg_skip true rfl rfl ?_
      refine sg_skip true rfl rfl ?_
      refine sg_skip true rfl rfl ?_
      refine sg_undef rfl ?_
      refine sg_undef rfl ?_
      refine sg_undef rfl ?_
      refine sg_undef rfl ?_
      refine sg_undef rfl ?_
      refine sg_undef rfl ?_
      refine sg_skip true rfl rfl ?_
      refine sp (.bool true) rfl (e_pick_t rfl rfl rfl) ?_
      refine sp (.bool true) rfl rfl ?_
      refine sx ?_
      refine cn ?_
      exact platenref21_machine_key_j32_ok k x2 true x35 h rfl rfl rfl   I
    · have h := ite_f h b44
      refine sg_run (decide ((x2.toNat : Int) = 118)) rfl b44 ?_
      refine sp (u8 x2) rfl rfl ?_
      refine sg_run (decide ((x2.toNat : Int) = 118)) rfl b44 ?_
      refine sp (.bool (decide ((x2.toNat : Int) = 86))) rfl rfl ?_
      refine sp (.bool (decide ((x2.toNat : Int) = 86))) rfl (e_pick_f rfl b44 rfl) ?_
      refine sp (.bool (decide ((x2.toNat : Int) = 86))) rfl rfl ?_
      rcases bool_tf (decide ((x2.toNat : Int) = 86)) with b75 | b75
      · have h := ite_t h b75
        refine sg_skip (decide ((x2.toNat : Int) = 86)) rfl b75 ?_
        refine sg_skip (decide ((x2.toNat : Int) = 86)) rfl b75 ?_
        refine sg_skip (decide ((x2.toNat : Int) = 86)) rfl b75 ?_
        refine sg_skip (decide ((x2.toNat : Int) = 86)) rfl b75 ?_
        refine sg_skip (decide ((x2.toNat : Int) = 86)) rfl b75 ?_
        refine sg_skip (decide ((x2.toNat : Int) = 86)) rfl b75 ?_
        refine sg_undef rfl ?_
        refine sg_undef rfl ?_
        refine sg_undef rfl ?_
        refine sg_undef rfl ?_
        refine sg_undef rfl ?_
        refine sg_undef rfl ?_
        refine sg_skip (decide ((x2.toNat : Int) = 86)) rfl b75 ?_
        refine sp (.bool true) rfl (e_pick_t rfl b75 rfl) ?_
        refine sp (.bool true) rfl rfl ?_
        refine sx ?_
        refine cn ?_
        exact platenref21_machine_key_j32_ok k x2 true x35 h rfl rfl rfl   I
      · have h := ite_f h b75
        refine sg_run (decide ((x2.toNat : Int) = 86)) rfl b75 ?_
        refine sp (.blk r0 0) rfl rfl ?_
        refine sg_run (decide ((x2.toNat : Int) = 86)) rfl b75 ?_
        refine sp (.blk r0 0) rfl rfl ?_
        refine sg_run (decide ((x2.toNat : Int) = 86)) rfl b75 ?_
        refine sp (.blk r0 1) rfl rfl ?_
        refine sg_run (decide ((x2.toNat : Int) = 86)) rfl b75 ?_
        refine sp (.bool x35.chosen) rfl (e_load I 0 1 rfl rfl rfl) ?_
        refine sg_run (decide ((x2.toNat : Int) = 86)) rfl b75 ?_
        refine sp (.bool (!x35.chosen)) rfl rfl ?_
        refine sg_run (decide ((x2.toNat : Int) = 86)) rfl b75 ?_
        refine sp (.bool (!x35.chosen)) rfl rfl ?_
        rcases bool_tf (!x35.chosen) with b76 | b76
        · have h := ite_t h b76
          refine sg_run (!x35.chosen) rfl b76 ?_
          refine sp (u8 x2) rfl rfl ?_
          refine sg_run (!x35.chosen) rfl b76 ?_
          refine sp (.bool (decide ((x2.toNat : Int) = 18))) rfl rfl ?_
          refine sg_run (!x35.chosen) rfl b76 ?_
          refine sp (.bool (decide ((x2.toNat : Int) = 18))) rfl rfl ?_
          rcases bool_tf (decide ((x2.toNat : Int) = 18)) with b77 | b77
          · have h := ite_t h b77
            refine sg_skip (decide ((x2.toNat : Int) = 18)) rfl b77 ?_
            refine sg_skip (decide ((x2.toNat : Int) = 18)) rfl b77 ?_
            refine sg_run (!x35.chosen) rfl b76 ?_
            refine sp (.bool true) rfl (e_pick_t rfl b77 rfl) ?_
            refine sg_run (decide ((x2.toNat : Int) = 86)) rfl b75 ?_
            refine sp (.bool true) rfl (e_pick_t rfl b76 rfl) ?_
            refine sp (.bool true) rfl (e_pick_f rfl b75 rfl) ?_
            refine sp (.bool true) rfl rfl ?_
            refine sx ?_
            refine cn ?_
            exact platenref21_machine_key_j32_ok k x2 true x35 h rfl rfl rfl   I
          · have h := ite_f h b77
            refine sg_run (decide ((x2.toNat : Int) = 18)) rfl b77 ?_
            refine sp (u8 x2) rfl rfl ?_
            refine sg_run (decide ((x2.toNat : Int) = 18)) rfl b77 ?_
            obtain ⟨a78, g79, h⟩ := bind_some h
            refine st_callc (platenref21_in_ok k _ _ _ g79 ) rfl ?_
            intro v80 q81
            obtain rfl := q81
            refine sg_run (!x35.chosen) rfl b76 ?_
            refine sp (.bool a78) rfl (e_pick_f rfl b77 rfl) ?_
            refine sg_run (decide ((x2.toNat : Int) = 86)) rfl b75 ?_
            refine sp (.bool a78) rfl (e_pick_t rfl b76 rfl) ?_
            refine sp (.bool a78) rfl (e_pick_f rfl b75 rfl) ?_
            refine sp (.bool a78) rfl rfl ?_
            refine sx ?_
            refine cn ?_
            exact platenref21_machine_key_j32_ok k x2 a78 x35 h rfl rfl rfl   I
        · have h := ite_f h b76
          refine sg_skip (!x35.chosen) rfl b76 ?_
          refine sg_skip (!x35.chosen) rfl b76 ?_
          refine sg_skip (!x35.chosen) rfl b76 ?_
          refine sg_undef rfl ?_
          refine sg_undef rfl ?_
          refine sg_skip (!x35.chosen) rfl b76 ?_
          refine sg_run (decide ((x2.toNat : Int) = 86)) rfl b75 ?_
          refine sp (.bool false) rfl (e_pick_f rfl b76 rfl) ?_
          refine sp (.bool false) rfl (e_pick_f rfl b75 rfl) ?_
          refine sp (.bool false) rfl rfl ?_
          refine sx ?_
          refine cn ?_
          exact platenref21_machine_key_j32_ok k x2 false x35 h rfl rfl rfl   I
theorem platenref21_machine_key_ok (k : Nat) (x1 : S_platenref21_machine) (x2 : UInt8) (r : (Int × S_platenref21_machine))  {r0 : Nat} {σ : St} {B : List (Nat × Blk)} {O : List AV}
    (h : platenref21_machine_key k x1 x2 = some r)
    (I : Inv σ ((r0, .cells [u8 x1.state, .bool x1.chosen, u8 x1.c.Kind, u8 x1.c.Reg, .int .i64 x1.c.N, u8 x1.c.Op, u8 x1.c.M.Key, u8 x1.c.M.Sign, .int .i64 x1.c.M.N, u8 x1.c.Key, u8 x1.c.Sign, .int .i64 x1.n, .int .i64 x1.k]) :: B) (O)) :
    RunF kE 24 [.blk r0 0, u8 x2] σ (fun v σ' => v = .int .i64 r.1 ∧ Inv σ' ((r0, .cells [u8 r.2.state, .bool r.2.chosen, u8 r.2.c.Kind, u8 r.2.c.Reg, .int .i64 r.2.c.N, u8 r.2.c.Op, u8 r.2.c.M.Key, u8 r.2.c.M.Sign, .int .i64 r.2.c.M.N, u8 r.2.c.Key, u8 r.2.c.Sign, .int .i64 r.2.n, .int .i64 r.2.k]) :: B) (O)) := by
  refine f_plain rfl rfl rfl rfl ?_
  unfold platenref21_machine_key at h
  refine c_seq ?_
  refine c_reg ?_
  refine sp (.int .i64 0) rfl rfl ?_
  refine sx ?_
  refine cn ?_
  refine c_keep (keep_cons rfl (keep_cons rfl keep_nil)) ?_
  refine c_seq ?_
  refine c_reg ?_
  refine sp (.blk r0 0) rfl rfl ?_
  refine sp (.blk r0 0) rfl rfl ?_
  refine sp (.blk r0 0) rfl rfl ?_
  refine sp (.blk r0 11) rfl rfl ?_
  refine sp (.int .i64 x1.n) rfl (e_load I 0 11 rfl rfl rfl) ?_
  refine sp (.blk r0 0) rfl rfl ?_
  refine sp (.blk r0 2) rfl rfl ?_
  refine sp (.blk r0 4) rfl rfl ?_
  refine st_store I 0 4 (cs' := [u8 x1.state, .bool x1.chosen, u8 x1.c.Kind, u8 x1.c.Reg, .int .i64 x1.n, u8 x1.c.Op, u8 x1.c.M.Key, u8 x1.c.M.Sign, .int .i64 x1.c.M.N, u8 x1.c.Key, u8 x1.c.Sign, .int .i64 x1.n, .int .i64 x1.k]) (bs' := (r0, .cells [u8 x1.state, .bool x1.chosen, u8 x1.c.Kind, u8 x1.c.Reg, .int .i64 x1.n, u8 x1.c.Op, u8 x1.c.M.Key, u8 x1.c.M.Sign, .int .i64 x1.c.M.N, u8 x1.c.Key, u8 x1.c.Sign, .int .i64 x1.n, .int .i64 x1.k]) :: B) rfl rfl rfl rfl rfl (Nat.le_of_ble_eq_true rfl) rfl rfl ?_
  intro σ4 I3
  refine sx ?_
  refine cn ?_
  refine c_keep (keep_cons rfl (keep_cons rfl keep_nil)) ?_
  refine c_seq ?_
  refine c_block ?_
  refine c_seq ?_
  refine c_reg ?_
  refine sp (u8 x2) rfl rfl ?_
  refine sp (.bool (decide ((x2.toNat : Int) = 27))) rfl rfl ?_
  refine sp (.bool (decide ((x2.toNat : Int) = 27))) rfl rfl ?_
  refine sx ?_
  refine cn ?_
  refine c_keep (keep_cons rfl (keep_cons rfl (keep_cons rfl keep_nil))) ?_
  rcases bool_tf (decide ((x2.toNat : Int) = 27)) with b5 | b5
  · have h := ite_t h b5
    refine c_cond_t (decide ((x2.toNat : Int) = 27)) rfl b5 ?_
    refine c_seq ?_
    refine c_reg ?_
    refine sp (.blk r0 0) rfl rfl ?_
    obtain ⟨a6, g7, h⟩ := bind_some h
    refine st_call (platenref21_machine_escape_ok k _ _ g7  I3) rfl ?_
    intro v8 σ10 q9
    obtain ⟨q12, I11⟩ := q9
    obtain rfl := q12
    refine sp (.int .i64 a6.1) rfl rfl ?_
    refine sx ?_
    refine cn ?_
    refine c_ret ?_
    refine br ?_
    refine cr ?_
    obtain rfl := some_eq h
    exact rr (vs := [.int .i64 a6.1]) (res_c (resp_t rfl) res_nil) ⟨rfl, I11⟩
  · have h := ite_f h b5
    refine c_cond_f (decide ((x2.toNat : Int) = 27)) rfl b5 ?_
    refine c_seq ?_
    refine c_reg ?_
    refine sp (u8 x2) rfl rfl ?_
    obtain ⟨a13, g14, h⟩ := bind_some h
    refine st_callc (platenref21_in_ok k _ _ _ g14 ) rfl ?_
    intro v15 q16
    obtain rfl := q16
    refine sp (.bool a13) rfl rfl ?_
    refine sx ?_
    refine cn ?_
    refine c_keep (keep_cons rfl (keep_cons rfl (keep_cons rfl keep_nil))) ?_
    rcases bool_tf a13 with b17 | b17
    · have h := ite_t h b17
      refine c_cond_t a13 rfl b17 ?_
      refine c_seq ?_
      refine c_reg ?_
      refine sp (.blk r0 0) rfl rfl ?_
      refine sp (u8 x2) rfl rfl ?_
      obtain ⟨a18, g19, h⟩ := bind_some h
      refine st_call (platenref21_machine_operator_ok k _ _ _ g19  I3) rfl ?_
      intro v20 σ22 q21
      obtain ⟨q24, I23⟩ := q21
      obtain rfl := q24
      refine sp (.int .i64 a18.1) rfl rfl ?_
      refine sx ?_
      refine cn ?_
      refine c_ret ?_
      refine br ?_
      refine cr ?_
      obtain rfl := some_eq h
      exact rr (vs := [.int .i64 a18.1]) (res_c (resp_t rfl) res_nil) ⟨rfl, I23⟩
    · have h := ite_f h b17
      refine c_cond_f a13 rfl b17 ?_
      refine c_seq ?_
      refine c_reg ?_
      refine sp (u8 x2) rfl rfl ?_
      refine sp (.bool (decide ((x2.toNat : Int) = 103))) rfl rfl ?_
      refine sp (.bool (decide ((x2.toNat : Int) = 103))) rfl rfl ?_
      refine sx ?_
      refine cn ?_
      refine c_keep (keep_cons rfl (keep_cons rfl (keep_cons rfl keep_nil))) ?_
      rcases bool_tf (decide ((x2.toNat : Int) = 103)) with b25 | b25
      · have h := ite_t h b25
        refine c_cond_t (decide ((x2.toNat : Int) = 103)) rfl b25 ?_
        refine c_seq ?_
        refine c_reg ?_
        refine sp (.blk r0 0) rfl rfl ?_
        obtain ⟨a26, g27, h⟩ := bind_some h
        refine st_call (platenref21_machine_more_ok k _ _ _ g27  I3) rfl ?_
        intro v28 σ30 q29
        obtain ⟨q32, I31⟩ := q29
        obtain rfl := q32
        refine sp (.int .i64 a26.1) rfl rfl ?_
        refine sx ?_
        refine cn ?_
        refine c_ret ?_
        refine br ?_
        refine cr ?_
        obtain rfl := some_eq h
        exact rr (vs := [.int .i64 a26.1]) (res_c (resp_t rfl) res_nil) ⟨rfl, I31⟩
      · have h := ite_f h b25
        refine c_cond_f (decide ((x2.toNat : Int) = 103)) rfl b25 ?_
        refine c_seq ?_
        refine c_reg ?_
        refine sp (u8 x2) rfl rfl ?_
        refine sp (.bool (decide ((x2.toNat : Int) = 120))) rfl rfl ?_
        refine sp (.bool (decide ((x2.toNat : Int) = 120))) rfl rfl ?_
        rcases bool_tf (decide ((x2.toNat : Int) = 120)) with b33 | b33
        · have h := ite_t h b33
          refine sg_run (decide ((x2.toNat : Int) = 120)) rfl b33 ?_
          refine sp (.blk r0 0) rfl rfl ?_
          refine sg_run (decide ((x2.toNat : Int) = 120)) rfl b33 ?_
          refine sp (.blk r0 0) rfl rfl ?_
          refine sg_run (decide ((x2.toNat : Int) = 120)) rfl b33 ?_
          refine sp (.blk r0 1) rfl rfl ?_
          refine sg_run (decide ((x2.toNat : Int) = 120)) rfl b33 ?_
          refine sp (.bool x1.chosen) rfl (e_load I3 0 1 rfl rfl rfl) ?_
          refine sp (.bool x1.chosen) rfl (e_pick_t rfl b33 rfl) ?_
          refine sp (.bool x1.chosen) rfl rfl ?_
          refine sx ?_
          refine cn ?_
          exact platenref21_machine_key_j26_ok k x2 x1.chosen (⟨x1.state, x1.chosen, (⟨x1.c.Kind, x1.c.Reg, x1.n, x1.c.Op, x1.c.M, x1.c.Key, x1.c.Sign⟩ : S_keys_Cmd), x1.n, x1.k⟩ : S_platenref21_machine) h rfl rfl rfl   I3
        · have h := ite_f h b33
          refine sg_skip (decide ((x2.toNat : Int) = 120)) rfl b33 ?_
          refine sg_skip (decide ((x2.toNat : Int) = 120)) rfl b33 ?_
          refine sg_skip (decide ((x2.toNat : Int) = 120)) rfl b33 ?_
          refine sg_skip (decide ((x2.toNat : Int) = 120)) rfl b33 ?_
          refine sp (.bool false) rfl (e_pick_f rfl b33 rfl) ?_
          refine sp (.bool false) rfl rfl ?_
          refine sx ?_
          refine cn ?_
          exact platenref21_machine_key_j26_ok k x2 false (⟨x1.state, x1.chosen, (⟨x1.c.Kind, x1.c.Reg, x1.n, x1.c.Op, x1.c.M, x1.c.Key, x1.c.Sign⟩ : S_keys_Cmd), x1.n, x1.k⟩ : S_platenref21_machine) h rfl rfl rfl   I3
/- platen.platenref21.letter -/
def platenref21_letter (k : Nat) (x1 : UInt8) : Option Bool :=
  if decide (97 ≤ (x1.toNat : Int)) then (some (decide ((x1.toNat : Int) ≤ 122))) else (some false)
theorem platenref21_letter_ok (k : Nat) (x1 : UInt8) (r : Bool)   {σ : St}
    (h : platenref21_letter k x1 = some r) :
    RunF kE 25 [u8 x1] σ (fun v σ' => σ' = σ ∧ v = .bool r) := by
  refine f_closed rfl rfl rfl (cl_cons rfl cl_nil) rfl ?_
  have I0 : Inv .zero [] [] := Inv.zero
  unfold platenref21_letter at h
  refine c_seq ?_
  refine c_reg ?_
  refine sp (.bool false) rfl rfl ?_
  refine sx ?_
  refine cn ?_
  refine c_keep (keep_cons rfl keep_nil) ?_
  refine c_seq ?_
  refine c_reg ?_
  refine sp (u8 x1) rfl rfl ?_
  refine sp (.bool (decide (97 ≤ (x1.toNat : Int)))) rfl rfl ?_
  refine sp (.bool (decide (97 ≤ (x1.toNat : Int)))) rfl rfl ?_
  rcases bool_tf (decide (97 ≤ (x1.toNat : Int))) with b2 | b2
  · have h := ite_t h b2
    refine sg_run (decide (97 ≤ (x1.toNat : Int))) rfl b2 ?_
    refine sp (u8 x1) rfl rfl ?_
    refine sg_run (decide (97 ≤ (x1.toNat : Int))) rfl b2 ?_
    refine sp (.bool (decide ((x1.toNat : Int) ≤ 122))) rfl rfl ?_
    refine sp (.bool (decide ((x1.toNat : Int) ≤ 122))) rfl (e_pick_t rfl b2 rfl) ?_
    refine sp (.bool (decide ((x1.toNat : Int) ≤ 122))) rfl rfl ?_
    refine sx ?_
    refine cn ?_
    refine c_ret ?_
    obtain rfl := some_eq h
    exact rr (vs := [.bool (decide ((x1.toNat : Int) ≤ 122))]) (res_c (resp_t rfl) res_nil) ⟨_, rfl, rfl⟩
  · have h := ite_f h b2
    refine sg_skip (decide (97 ≤ (x1.toNat : Int))) rfl b2 ?_
    refine sg_skip (decide (97 ≤ (x1.toNat : Int))) rfl b2 ?_
    refine sp (.bool false) rfl (e_pick_f rfl b2 rfl) ?_
    refine sp (.bool false) rfl rfl ?_
    refine sx ?_
    refine cn ?_
    refine c_ret ?_
    obtain rfl := some_eq h
    exact rr (vs := [.bool false]) (res_c (resp_t rfl) res_nil) ⟨_, rfl, rfl⟩
/- (*platen.platenref21.machine).behind -/
def platenref21_machine_behind_j14 (k : Nat) (x2 : UInt8) (x9 : S_platenref21_machine) : Option ((Int × S_platenref21_machine)) :=
  if decide ((x2.toNat : Int) = 27) then ((platenref21_machine_escape k x9).bind fun a11 => some (a11.1, a11.2)) else (if decide ((x2.toNat : Int) = (x9.c.Op.toNat : Int)) then (some (0, (⟨x9.state, x9.chosen, (⟨(2 : UInt8), x9.c.Reg, x9.c.N, x9.c.Op, x9.c.M, x9.c.Key, x9.c.Sign⟩ : S_keys_Cmd), x9.n, x9.k⟩ : S_platenref21_machine))) else (if decide ((x2.toNat : Int) = 105) then ((platenref21_machine_more k x9 (6 : UInt8)).bind fun a22 => some (a22.1, a22.2)) else (if decide ((x2.toNat : Int) = 103) then ((platenref21_machine_more k x9 (5 : UInt8)).bind fun a30 => some (a30.1, a30.2)) else ((platenref21_machine_motion k x9 x2 (3 : UInt8)).bind fun a37 => some (a37.1, a37.2)))))
def platenref21_machine_behind (k : Nat) (x1 : S_platenref21_machine) (x2 : UInt8) : Option ((Int × S_platenref21_machine)) :=
  if decide (0 < x1.k) then (if decide (0 < x1.n) then (platenref21_machine_behind_j14 k x2 (⟨x1.state, x1.chosen, (⟨x1.c.Kind, x1.c.Reg, (IntKind.i64.wrap (x1.k * x1.n)), x1.c.Op, x1.c.M, x1.c.Key, x1.c.Sign⟩ : S_keys_Cmd), x1.n, x1.k⟩ : S_platenref21_machine)) else (platenref21_machine_behind_j14 k x2 (⟨x1.state, x1.chosen, (⟨x1.c.Kind, x1.c.Reg, x1.k, x1.c.Op, x1.c.M, x1.c.Key, x1.c.Sign⟩ : S_keys_Cmd), x1.n, x1.k⟩ : S_platenref21_machine))) else (platenref21_machine_behind_j14 k x2 x1)
theorem platenref21_machine_behind_j14_ok (k : Nat) (x2 : UInt8) (x9 : S_platenref21_machine) {r : (Int × S_platenref21_machine)}  {r0 : Nat} {tm : List (Nat × AV)} {σ : St} {B : List (Nat × Blk)} {O : List AV}
    (h : platenref21_machine_behind_j14 k x2 x9 = some r)
    (e0 : lk tm 0 = some (.blk r0 0))
    (e1 : lk tm 1 = some (u8 x2))
    (I : Inv σ ((r0, .cells [u8 x9.state, .bool x9.chosen, u8 x9.c.Kind, u8 x9.c.Reg, .int .i64 x9.c.N, u8 x9.c.Op, u8 x9.c.M.Key, u8 x9.c.M.Sign, .int .i64 x9.c.M.N, u8 x9.c.Key, u8 x9.c.Sign, .int .i64 x9.n, .int .i64 x9.k]) :: B) (O)) :
    RunC kE k26c14 ⟨tm, σ⟩ (ResP (E := kE) k26.res (fun v σ' => v = .int .i64 r.1 ∧ Inv σ' ((r0, .cells [u8 r.2.state, .bool r.2.chosen, u8 r.2.c.Kind, u8 r.2.c.Reg, .int .i64 r.2.c.N, u8 r.2.c.Op, u8 r.2.c.M.Key, u8 r.2.c.M.Sign, .int .i64 r.2.c.M.N, u8 r.2.c.Key, u8 r.2.c.Sign, .int .i64 r.2.n, .int .i64 r.2.k]) :: B) (O))) := by
  unfold platenref21_machine_behind_j14 at h
  refine c_keep (keep_cons e0 (keep_cons e1 keep_nil)) ?_
  refine c_seq ?_
  refine c_seq ?_
  refine c_reg ?_
  refine sp (u8 x2) rfl rfl ?_
  refine sx ?_
  refine cn ?_
  refine c_keep (keep_cons rfl (keep_cons rfl (keep_cons rfl keep_nil))) ?_
  refine c_block ?_
  refine c_seq ?_
  refine c_reg ?_
  refine sp (.bool (decide ((x2.toNat : Int) = 27))) rfl rfl ?_
  refine sp (.bool (decide ((x2.toNat : Int) = 27))) rfl rfl ?_
  refine sx ?_
  refine cn ?_
  refine c_keep (keep_cons rfl (keep_cons rfl (keep_cons rfl (keep_cons rfl keep_nil)))) ?_
  rcases bool_tf (decide ((x2.toNat : Int) = 27)) with b10 | b10
  · have h := ite_t h b10
    refine c_cond_t (decide ((x2.toNat : Int) = 27)) rfl b10 ?_
    refine c_seq ?_
    refine c_reg ?_
    refine sp (.blk r0 0) rfl rfl ?_
    obtain ⟨a11, g12, h⟩ := bind_some h
    refine st_call (platenref21_machine_escape_ok k _ _ g12  I) rfl ?_
    intro v13 σ15 q14
    obtain ⟨q17, I16⟩ := q14
    obtain rfl := q17
    refine sp (.int .i64 a11.1) rfl rfl ?_
    refine sx ?_
    refine cn ?_
    refine c_ret ?_
    refine br ?_
    refine cr ?_
    obtain rfl := some_eq h
    exact rr (vs := [.int .i64 a11.1]) (res_c (resp_t rfl) res_nil) ⟨rfl, I16⟩
  · have h := ite_f h b10
    refine c_cond_f (decide ((x2.toNat : Int) = 27)) rfl b10 ?_
    refine c_seq ?_
    refine c_reg ?_
    refine sp (.blk r0 0) rfl rfl ?_
    refine sp (.blk r0 0) rfl rfl ?_
    refine sp (.blk r0 2) rfl rfl ?_
    refine sp (.blk r0 5) rfl rfl ?_
    refine sp (u8 x9.c.Op) rfl (e_load I 0 5 rfl rfl rfl) ?_
    refine sp (.bool (decide ((x2.toNat : Int) = (x9.c.Op.toNat : Int)))) rfl rfl ?_
    refine sp (.bool (decide ((x2.toNat : Int) = (x9.c.Op.toNat : Int)))) rfl rfl ?_
    refine sx ?_
    refine cn ?_
    refine c_keep (keep_cons rfl (keep_cons rfl (keep_cons rfl (keep_cons rfl keep_nil)))) ?_
    rcases bool_tf (decide ((x2.toNat : Int) = (x9.c.Op.toNat : Int))) with b18 | b18
    · have h := ite_t h b18
      refine c_cond_t (decide ((x2.toNat : Int) = (x9.c.Op.toNat : Int))) rfl b18 ?_
      refine c_seq ?_
      refine c_reg ?_
      refine sp (.blk r0 0) rfl rfl ?_
      refine sp (.blk r0 0) rfl rfl ?_
      refine sp (.blk r0 2) rfl rfl ?_
      refine sp (.blk r0 2) rfl rfl ?_
      refine st_store I 0 2 (cs' := [u8 x9.state, .bool x9.chosen, u8 (2 : UInt8), u8 x9.c.Reg, .int .i64 x9.c.N, u8 x9.c.Op, u8 x9.c.M.Key, u8 x9.c.M.Sign, .int .i64 x9.c.M.N, u8 x9.c.Key, u8 x9.c.Sign, .int .i64 x9.n, .int .i64 x9.k]) (bs' := (r0, .cells [u8 x9.state, .bool x9.chosen, u8 (2 : UInt8), u8 x9.c.Reg, .int .i64 x9.c.N, u8 x9.c.Op, u8 x9.c.M.Key, u8 x9.c.M.Sign, .int .i64 x9.c.M.N, u8 x9.c.Key, u8 x9.c.Sign, .int .i64 x9.n, .int .i64 x9.k]) :: B) rfl rfl rfl rfl rfl (Nat.le_of_ble_eq_true rfl) rfl rfl ?_
      intro σ20 I19
      refine sx ?_
      refine cn ?_
      refine c_keep keep_nil ?_
      refine c_seq ?_
      refine c_reg ?_
      refine sp (.int .i64 0) rfl rfl ?_
      refine sx ?_
      refine cn ?_
      refine c_ret ?_
      refine br ?_
      refine cr ?_
      obtain rfl := some_eq h
      exact rr (vs := [.int .i64 0]) (res_c (resp_t rfl) res_nil) ⟨rfl, I19⟩
    · have h := ite_f h b18
      refine c_cond_f (decide ((x2.toNat : Int) = (x9.c.Op.toNat : Int))) rfl b18 ?_
      refine c_seq ?_
      refine c_reg ?_
      refine sp (.bool (decide ((x2.toNat : Int) = 105))) rfl rfl ?_
      refine sp (.bool (decide ((x2.toNat : Int) = 105))) rfl rfl ?_
      refine sx ?_
      refine cn ?_
      refine c_keep (keep_cons rfl (keep_cons rfl (keep_cons rfl (keep_cons rfl keep_nil)))) ?_
      rcases bool_tf (decide ((x2.toNat : Int) = 105)) with b21 | b21
      · have h := ite_t h b21
        refine c_cond_t (decide ((x2.toNat : Int) = 105)) rfl b21 ?_
        refine c_seq ?_
        refine c_reg ?_
        refine sp (.blk r0 0) rfl rfl ?_
        obtain ⟨a22, g23, h⟩ := bind_some h
        refine st_call (platenref21_machine_more_ok k _ _ _ g23  I) rfl ?_
        intro v24 σ26 q25
        obtain ⟨q28, I27⟩ := q25
        obtain rfl := q28
        refine sp (.int .i64 a22.1) rfl rfl ?_
        refine sx ?_
        refine cn ?_
        refine c_ret ?_
        refine br ?_
        refine cr ?_
        obtain rfl := some_eq h
        exact rr (vs := [.int .i64 a22.1]) (res_c (resp_t rfl) res_nil) ⟨rfl, I27⟩
      · have h := ite_f h b21
        refine c_cond_f (decide ((x2.toNat : Int) = 105)) rfl b21 ?_
        refine c_seq ?_
        refine c_reg ?_
        refine sp (.bool (decide ((x2.toNat : Int) = 103))) rfl rfl ?_
        refine sp (.bool (decide ((x2.toNat : Int) = 103))) rfl rfl ?_
        refine sx ?_
        refine cn ?_
        refine c_keep (keep_cons rfl (keep_cons rfl (keep_cons rfl keep_nil))) ?_
        rcases bool_tf (decide ((x2.toNat : Int) = 103)) with b29 | b29
        · have h := ite_t h b29
          refine c_cond_t (decide ((x2.toNat : Int) = 103)) rfl b29 ?_
          refine c_seq ?_
          refine c_reg ?_
          refine sp (.blk r0 0) rfl rfl ?_
          obtain ⟨a30, g31, h⟩ := bind_some h
          refine st_call (platenref21_machine_more_ok k _ _ _ g31  I) rfl ?_
          intro v32 σ34 q33
          obtain ⟨q36, I35⟩ := q33
          obtain rfl := q36
          refine sp (.int .i64 a30.1) rfl rfl ?_
          refine sx ?_
          refine cn ?_
          refine c_ret ?_
          refine br ?_
          refine cr ?_
          obtain rfl := some_eq h
          exact rr (vs := [.int .i64 a30.1]) (res_c (resp_t rfl) res_nil) ⟨rfl, I35⟩
        · have h := ite_f h b29
          refine c_cond_f (decide ((x2.toNat : Int) = 103)) rfl b29 ?_
          refine c_skip ?_
          refine bn ?_
          refine cn ?_
          refine c_keep (keep_cons rfl (keep_cons rfl keep_nil)) ?_
          refine c_seq ?_
          refine c_reg ?_
          refine sp (.blk r0 0) rfl rfl ?_
          refine sp (u8 x2) rfl rfl ?_
          obtain ⟨a37, g38, h⟩ := bind_some h
          refine st_call (platenref21_machine_motion_ok k _ _ _ _ g38  I) rfl ?_
          intro v39 σ41 q40
          obtain ⟨q43, I42⟩ := q40
          obtain rfl := q43
          refine sp (.int .i64 a37.1) rfl rfl ?_
          refine sx ?_
          refine cn ?_
          refine c_ret ?_
          obtain rfl := some_eq h
          exact rr (vs := [.int .i64 a37.1]) (res_c (resp_t rfl) res_nil) ⟨rfl, I42⟩
theorem platenref21_machine_behind_ok (k : Nat) (x1 : S_platenref21_machine) (x2 : UInt8) (r : (Int × S_platenref21_machine))  {r0 : Nat} {σ : St} {B : List (Nat × Blk)} {O : List AV}
    (h : platenref21_machine_behind k x1 x2 = some r)
    (I : Inv σ ((r0, .cells [u8 x1.state, .bool x1.chosen, u8 x1.c.Kind, u8 x1.c.Reg, .int .i64 x1.c.N, u8 x1.c.Op, u8 x1.c.M.Key, u8 x1.c.M.Sign, .int .i64 x1.c.M.N, u8 x1.c.Key, u8 x1.c.Sign, .int .i64 x1.n, .int .i64 x1.k]) :: B) (O)) :
    RunF kE 26 [.blk r0 0, u8 x2] σ (fun v σ' => v = .int .i64 r.1 ∧ Inv σ' ((r0, .cells [u8 r.2.state, .bool r.2.chosen, u8 r.2.c.Kind, u8 r.2.c.Reg, .int .i64 r.2.c.N, u8 r.2.c.Op, u8 r.2.c.M.Key, u8 r.2.c.M.Sign, .int .i64 r.2.c.M.N, u8 r.2.c.Key, u8 r.2.c.Sign, .int .i64 r.2.n, .int .i64 r.2.k]) :: B) (O)) := by
  refine f_plain rfl rfl rfl rfl ?_
  unfold platenref21_machine_behind at h
  refine c_seq ?_
  refine c_reg ?_
  refine sp (.int .i64 0) rfl rfl ?_
  refine sx ?_
  refine cn ?_
  refine c_keep (keep_cons rfl (keep_cons rfl keep_nil)) ?_
  refine c_seq ?_
  refine c_seq ?_
  refine c_reg ?_
  refine sp (.blk r0 0) rfl rfl ?_
  refine sp (.blk r0 0) rfl rfl ?_
  refine sp (.blk r0 12) rfl rfl ?_
  refine sp (.int .i64 x1.k) rfl (e_load I 0 12 rfl rfl rfl) ?_
  refine sp (.bool (decide (0 < x1.k))) rfl rfl ?_
  refine sx ?_
  refine cn ?_
  refine c_keep (keep_cons rfl (keep_cons rfl (keep_cons rfl keep_nil))) ?_
  rcases bool_tf (decide (0 < x1.k)) with b3 | b3
  · have h := ite_t h b3
    refine c_cond_t (decide (0 < x1.k)) rfl b3 ?_
    refine c_seq ?_
    refine c_reg ?_
    refine sp (.blk r0 0) rfl rfl ?_
    refine sp (.blk r0 0) rfl rfl ?_
    refine sp (.blk r0 0) rfl rfl ?_
    refine sp (.blk r0 12) rfl rfl ?_
    refine sp (.int .i64 x1.k) rfl (e_load I 0 12 rfl rfl rfl) ?_
    refine sp (.blk r0 0) rfl rfl ?_
    refine sp (.blk r0 2) rfl rfl ?_
    refine sp (.blk r0 4) rfl rfl ?_
    refine st_store I 0 4 (cs' := [u8 x1.state, .bool x1.chosen, u8 x1.c.Kind, u8 x1.c.Reg, .int .i64 x1.k, u8 x1.c.Op, u8 x1.c.M.Key, u8 x1.c.M.Sign, .int .i64 x1.c.M.N, u8 x1.c.Key, u8 x1.c.Sign, .int .i64 x1.n, .int .i64 x1.k]) (bs' := (r0, .cells [u8 x1.state, .bool x1.chosen, u8 x1.c.Kind, u8 x1.c.Reg, .int .i64 x1.k, u8 x1.c.Op, u8 x1.c.M.Key, u8 x1.c.M.Sign, .int .i64 x1.c.M.N, u8 x1.c.Key, u8 x1.c.Sign, .int .i64 x1.n, .int .i64 x1.k]) :: B) rfl rfl rfl rfl rfl (Nat.le_of_ble_eq_true rfl) rfl rfl ?_
    intro σ5 I4
    refine sx ?_
    refine cn ?_
    refine c_keep (keep_cons rfl (keep_cons rfl keep_nil)) ?_
    refine c_seq ?_
    refine c_reg ?_
    refine sp (.blk r0 0) rfl rfl ?_
    refine sp (.blk r0 0) rfl rfl ?_
    refine sp (.blk r0 11) rfl rfl ?_
    refine sp (.int .i64 x1.n) rfl (e_load I4 0 11 rfl rfl rfl) ?_
    refine sp (.bool (decide (0 < x1.n))) rfl rfl ?_
    refine sx ?_
    refine cn ?_
    refine c_keep (keep_cons rfl (keep_cons rfl (keep_cons rfl keep_nil))) ?_
    rcases bool_tf (decide (0 < x1.n)) with b6 | b6
    · have h := ite_t h b6
      refine c_cond_t (decide (0 < x1.n)) rfl b6 ?_
      refine c_reg ?_
      refine sp (.blk r0 0) rfl rfl ?_
      refine sp (.blk r0 0) rfl rfl ?_
      refine sp (.blk r0 0) rfl rfl ?_
      refine sp (.blk r0 12) rfl rfl ?_
      refine sp (.int .i64 x1.k) rfl (e_load I4 0 12 rfl rfl rfl) ?_
      refine sp (.blk r0 0) rfl rfl ?_
      refine sp (.blk r0 0) rfl rfl ?_
      refine sp (.blk r0 11) rfl rfl ?_
      refine sp (.int .i64 x1.n) rfl (e_load I4 0 11 rfl rfl rfl) ?_
      refine sp (.int .i64 (IntKind.i64.wrap (x1.k * x1.n))) rfl rfl ?_
      refine sp (.blk r0 0) rfl rfl ?_
      refine sp (.blk r0 2) rfl rfl ?_
      refine sp (.blk r0 4) rfl rfl ?_
      refine st_store I4 0 4 (cs' := [u8 x1.state, .bool x1.chosen, u8 x1.c.Kind, u8 x1.c.Reg, .int .i64 (IntKind.i64.wrap (x1.k * x1.n)), u8 x1.c.Op, u8 x1.c.M.Key, u8 x1.c.M.Sign, .int .i64 x1.c.M.N, u8 x1.c.Key, u8 x1.c.Sign, .int .i64 x1.n, .int .i64 x1.k]) (bs' := (r0, .cells [u8 x1.state, .bool x1.chosen, u8 x1.c.Kind, u8 x1.c.Reg, .int .i64 (IntKind.i64.wrap (x1.k * x1.n)), u8 x1.c.Op, u8 x1.c.M.Key, u8 x1.c.M.Sign, .int .i64 x1.c.M.N, u8 x1.c.Key, u8 x1.c.Sign, .int .i64 x1.n, .int .i64 x1.k]) :: B) rfl rfl rfl rfl rfl (Nat.le_of_ble_eq_true rfl) rfl rfl ?_
      intro σ8 I7
      refine sx ?_
      refine cn ?_
      exact platenref21_machine_behind_j14_ok k x2 (⟨x1.state, x1.chosen, (⟨x1.c.Kind, x1.c.Reg, (IntKind.i64.wrap (x1.k * x1.n)), x1.c.Op, x1.c.M, x1.c.Key, x1.c.Sign⟩ : S_keys_Cmd), x1.n, x1.k⟩ : S_platenref21_machine) h rfl rfl   I7
    · have h := ite_f h b6
      refine c_cond_f (decide (0 < x1.n)) rfl b6 ?_
      refine c_skip ?_
      refine cn ?_
      exact platenref21_machine_behind_j14_ok k x2 (⟨x1.state, x1.chosen, (⟨x1.c.Kind, x1.c.Reg, x1.k, x1.c.Op, x1.c.M, x1.c.Key, x1.c.Sign⟩ : S_keys_Cmd), x1.n, x1.k⟩ : S_platenref21_machine) h rfl rfl   I4
  · have h := ite_f h b3
    refine c_cond_f (decide (0 < x1.k)) rfl b3 ?_
    refine c_skip ?_
    refine cn ?_
    exact platenref21_machine_behind_j14_ok k x2 x1 h rfl rfl   I
/- (*platen.platenref21.machine).last -/
def platenref21_machine_last_j47 (k : Nat) (x16 : Bool) (x17 : S_platenref21_machine) : Option ((Int × S_platenref21_machine)) :=
  if !x16 then (some (2, x17)) else (some (0, x17))
def platenref21_machine_last_j39 (k : Nat) (x2 : UInt8) (x36 : Bool) (x37 : S_platenref21_machine) : Option ((Int × S_platenref21_machine)) :=
  platenref21_machine_last_j47 k  x36 (⟨x37.state, x37.chosen, (⟨x37.c.Kind, x37.c.Reg, x37.c.N, x37.c.Op, (⟨x37.c.M.Key, x2, x37.c.M.N⟩ : S_api_Motion), x37.c.Key, x37.c.Sign⟩ : S_keys_Cmd), x37.n, x37.k⟩ : S_platenref21_machine)
def platenref21_machine_last_j45 (k : Nat) (x2 : UInt8) (x47 : Bool) (x48 : S_platenref21_machine) : Option ((Int × S_platenref21_machine)) :=
  platenref21_machine_last_j47 k  x47 (⟨x48.state, x48.chosen, (⟨x48.c.Kind, x48.c.Reg, x48.c.N, x48.c.Op, x48.c.M, x48.c.Key, x2⟩ : S_keys_Cmd), x48.n, x48.k⟩ : S_platenref21_machine)
def platenref21_machine_last (k : Nat) (x1 : S_platenref21_machine) (x2 : UInt8) : Option ((Int × S_platenref21_machine)) :=
  if decide ((x1.state.toNat : Int) = 4) then (if decide ((x2.toNat : Int) = 113) then ((platenref21_machine_operator k x1 (113 : UInt8)).bind fun a5 => some (a5.1, a5.2)) else (platenref21_machine_last_j47 k  (decide ((x2.toNat : Int) = 103)) (⟨x1.state, x1.chosen, (⟨(1 : UInt8), x1.c.Reg, x1.c.N, x1.c.Op, (⟨(103 : UInt8), (0 : UInt8), x1.c.N⟩ : S_api_Motion), x1.c.Key, x1.c.Sign⟩ : S_keys_Cmd), x1.n, x1.k⟩ : S_platenref21_machine))) else (if decide ((x1.state.toNat : Int) = 5) then (platenref21_machine_last_j47 k  (decide ((x2.toNat : Int) = 103)) (⟨x1.state, x1.chosen, (⟨(3 : UInt8), x1.c.Reg, x1.c.N, x1.c.Op, (⟨(103 : UInt8), (0 : UInt8), x1.c.N⟩ : S_api_Motion), x1.c.Key, x1.c.Sign⟩ : S_keys_Cmd), x1.n, x1.k⟩ : S_platenref21_machine)) else (if decide ((x1.state.toNat : Int) = 6) then ((platenref21_in k x2 ([119, 112, 108] : List UInt8)).bind fun a25 => platenref21_machine_last_j47 k  a25 (⟨x1.state, x1.chosen, (⟨(4 : UInt8), x1.c.Reg, x1.c.N, x1.c.Op, x1.c.M, x1.c.Key, x2⟩ : S_keys_Cmd), x1.n, x1.k⟩ : S_platenref21_machine)) else (if decide ((x1.state.toNat : Int) = 7) then (if decide (32 ≤ (x2.toNat : Int)) then (if !decide ((x1.c.M.Key.toNat : Int) = 96) then (platenref21_machine_last_j39 k x2 true x1) else ((platenref21_letter k x2).bind fun a40 => platenref21_machine_last_j39 k x2 a40 x1)) else (platenref21_machine_last_j39 k x2 false x1)) else (if decide ((x1.state.toNat : Int) = 8) then (if decide (32 ≤ (x2.toNat : Int)) then (if !decide ((x1.c.Key.toNat : Int) = 109) then (platenref21_machine_last_j45 k x2 true x1) else ((platenref21_letter k x2).bind fun a51 => platenref21_machine_last_j45 k x2 a51 x1)) else (platenref21_machine_last_j45 k x2 false x1)) else (platenref21_machine_last_j47 k  false x1)))))
theorem platenref21_machine_last_j47_ok (k : Nat) (x16 : Bool) (x17 : S_platenref21_machine) {r : (Int × S_platenref21_machine)}  {r0 : Nat} {tm : List (Nat × AV)} {σ : St} {B : List (Nat × Blk)} {O : List AV}
    (h : platenref21_machine_last_j47 k x16 x17 = some r)
    (e5 : lk tm 5 = some (.bool x16))
    (I : Inv σ ((r0, .cells [u8 x17.state, .bool x17.chosen, u8 x17.c.Kind, u8 x17.c.Reg, .int .i64 x17.c.N, u8 x17.c.Op, u8 x17.c.M.Key, u8 x17.c.M.Sign, .int .i64 x17.c.M.N, u8 x17.c.Key, u8 x17.c.Sign, .int .i64 x17.n, .int .i64 x17.k]) :: B) (O)) :
    RunC kE k27c47 ⟨tm, σ⟩ (ResP (E := kE) k27.res (fun v σ' => v = .int .i64 r.1 ∧ Inv σ' ((r0, .cells [u8 r.2.state, .bool r.2.chosen, u8 r.2.c.Kind, u8 r.2.c.Reg, .int .i64 r.2.c.N, u8 r.2.c.Op, u8 r.2.c.M.Key, u8 r.2.c.M.Sign, .int .i64 r.2.c.M.N, u8 r.2.c.Key, u8 r.2.c.Sign, .int .i64 r.2.n, .int .i64 r.2.k]) :: B) (O))) := by
  unfold platenref21_machine_last_j47 at h
  refine c_keep (keep_cons e5 keep_nil) ?_
  refine c_seq ?_
  refine c_seq ?_
  refine c_reg ?_
  refine sp (.bool x16) rfl rfl ?_
  refine sp (.bool (!x16)) rfl rfl ?_
  refine sx ?_
  refine cn ?_
  refine c_keep (keep_cons rfl keep_nil) ?_
  rcases bool_tf (!x16) with b18 | b18
  · have h := ite_t h b18
    refine c_cond_t (!x16) rfl b18 ?_
    refine c_seq ?_
    refine c_reg ?_
    refine sp (.int .i64 2) rfl rfl ?_
    refine sx ?_
    refine cn ?_
    refine c_ret ?_
    refine cr ?_
    obtain rfl := some_eq h
    exact rr (vs := [.int .i64 2]) (res_c (resp_t rfl) res_nil) ⟨rfl, I⟩
  · have h := ite_f h b18
    refine c_cond_f (!x16) rfl b18 ?_
    refine c_skip ?_
    refine cn ?_
    refine c_keep keep_nil ?_
    refine c_seq ?_
    refine c_reg ?_
    refine sp (.int .i64 0) rfl rfl ?_
    refine sx ?_
    refine cn ?_
    refine c_ret ?_
    obtain rfl := some_eq h
    exact rr (vs := [.int .i64 0]) (res_c (resp_t rfl) res_nil) ⟨rfl, I⟩
theorem platenref21_machine_last_j39_ok (k : Nat) (x2 : UInt8) (x36 : Bool) (x37 : S_platenref21_machine) {r : (Int × S_platenref21_machine)}  {r0 : Nat} {tm : List (Nat × AV)} {σ : St} {B : List (Nat × Blk)} {O : List AV}
    (h : platenref21_machine_last_j39 k x2 x36 x37 = some r)
    (e0 : lk tm 0 = some (.blk r0 0))
    (e1 : lk tm 1 = some (u8 x2))
    (e5 : lk tm 5 = some (.bool x36))
    (I : Inv σ ((r0, .cells [u8 x37.state, .bool x37.chosen, u8 x37.c.Kind, u8 x37.c.Reg, .int .i64 x37.c.N, u8 x37.c.Op, u8 x37.c.M.Key, u8 x37.c.M.Sign, .int .i64 x37.c.M.N, u8 x37.c.Key, u8 x37.c.Sign, .int .i64 x37.n, .int .i64 x37.k]) :: B) (O)) :
    RunC kE k27c39 ⟨tm, σ⟩ (BlkQ 0 (Cont kE k27c47 (ResP (E := kE) k27.res (fun v σ' => v = .int .i64 r.1 ∧ Inv σ' ((r0, .cells [u8 r.2.state, .bool r.2.chosen, u8 r.2.c.Kind, u8 r.2.c.Reg, .int .i64 r.2.c.N, u8 r.2.c.Op, u8 r.2.c.M.Key, u8 r.2.c.M.Sign, .int .i64 r.2.c.M.N, u8 r.2.c.Key, u8 r.2.c.Sign, .int .i64 r.2.n, .int .i64 r.2.k]) :: B) (O))))) := by
  unfold platenref21_machine_last_j39 at h
  refine c_keep (keep_cons e0 (keep_cons e1 (keep_cons e5 keep_nil))) ?_
  refine c_reg ?_
  refine sp (.blk r0 0) rfl rfl ?_
  refine sp (u8 x2) rfl rfl ?_
  refine sp (.blk r0 0) rfl rfl ?_
  refine sp (.blk r0 2) rfl rfl ?_
  refine sp (.blk r0 6) rfl rfl ?_
  refine sp (.blk r0 7) rfl rfl ?_
  refine st_store I 0 7 (cs' := [u8 x37.state, .bool x37.chosen, u8 x37.c.Kind, u8 x37.c.Reg, .int .i64 x37.c.N, u8 x37.c.Op, u8 x37.c.M.Key, u8 x2, .int .i64 x37.c.M.N, u8 x37.c.Key, u8 x37.c.Sign, .int .i64 x37.n, .int .i64 x37.k]) (bs' := (r0, .cells [u8 x37.state, .bool x37.chosen, u8 x37.c.Kind, u8 x37.c.Reg, .int .i64 x37.c.N, u8 x37.c.Op, u8 x37.c.M.Key, u8 x2, .int .i64 x37.c.M.N, u8 x37.c.Key, u8 x37.c.Sign, .int .i64 x37.n, .int .i64 x37.k]) :: B) rfl rfl rfl rfl rfl (Nat.le_of_ble_eq_true rfl) rfl rfl ?_
  intro σ39 I38
  refine sx ?_
  refine bn ?_
  refine cn ?_
  exact platenref21_machine_last_j47_ok k  x36 (⟨x37.state, x37.chosen, (⟨x37.c.Kind, x37.c.Reg, x37.c.N, x37.c.Op, (⟨x37.c.M.Key, x2, x37.c.M.N⟩ : S_api_Motion), x37.c.Key, x37.c.Sign⟩ : S_keys_Cmd), x37.n, x37.k⟩ : S_platenref21_machine) h rfl   I38
theorem platenref21_machine_last_j45_ok (k : Nat) (x2 : UInt8) (x47 : Bool) (x48 : S_platenref21_machine) {r : (Int × S_platenref21_machine)}  {r0 : Nat} {tm : List (Nat × AV)} {σ : St} {B : List (Nat × Blk)} {O : List AV}
    (h : platenref21_machine_last_j45 k x2 x47 x48 = some r)
    (e0 : lk tm 0 = some (.blk r0 0))
    (e1 : lk tm 1 = some (u8 x2))
    (e5 : lk tm 5 = some (.bool x47))
    (I : Inv σ ((r0, .cells [u8 x48.state, .bool x48.chosen, u8 x48.c.Kind, u8 x48.c.Reg, .int .i64 x48.c.N, u8 x48.c.Op, u8 x48.c.M.Key, u8 x48.c.M.Sign, .int .i64 x48.c.M.N, u8 x48.c.Key, u8 x48.c.Sign, .int .i64 x48.n, .int .i64 x48.k]) :: B) (O)) :
    RunC kE k27c45 ⟨tm, σ⟩ (BlkQ 0 (Cont kE k27c47 (ResP (E := kE) k27.res (fun v σ' => v = .int .i64 r.1 ∧ Inv σ' ((r0, .cells [u8 r.2.state, .bool r.2.chosen, u8 r.2.c.Kind, u8 r.2.c.Reg, .int .i64 r.2.c.N, u8 r.2.c.Op, u8 r.2.c.M.Key, u8 r.2.c.M.Sign, .int .i64 r.2.c.M.N, u8 r.2.c.Key, u8 r.2.c.Sign, .int .i64 r.2.n, .int .i64 r.2.k]) :: B) (O))))) := by
  unfold platenref21_machine_last_j45 at h
  refine c_keep (keep_cons e0 (keep_cons e1 (keep_cons e5 keep_nil))) ?_
  refine c_reg ?_
  refine sp (.blk r0 0) rfl rfl ?_
  refine sp (u8 x2) rfl rfl ?_
  refine sp (.blk r0 0) rfl rfl ?_
  refine sp (.blk r0 2) rfl rfl ?_
  refine sp (.blk r0 10) rfl rfl ?_
  refine st_store I 0 10 (cs' := [u8 x48.state, .bool x48.chosen, u8 x48.c.Kind, u8 x48.c.Reg, .int .i64 x48.c.N, u8 x48.c.Op, u8 x48.c.M.Key, u8 x48.c.M.Sign, .int .i64 x48.c.M.N, u8 x48.c.Key, u8 x2, .int .i64 x48.n, .int .i64 x48.k]) (bs' := (r0, .cells [u8 x48.state, .bool x48.chosen, u8 x48.c.Kind, u8 x48.c.Reg, .int .i64 x48.c.N, u8 x48.c.Op, u8 x48.c.M.Key, u8 x48.c.M.Sign, .int .i64 x48.c.M.N, u8 x48.c.Key, u8 x2, .int .i64 x48.n, .int .i64 x48.k]) :: B) rfl rfl rfl rfl rfl (Nat.le_of_ble_eq_true rfl) rfl rfl ?_
  intro σ50 I49
  refine sx ?_
  refine bn ?_
  refine cn ?_
  exact platenref21_machine_last_j47_ok k  x47 (⟨x48.state, x48.chosen, (⟨x48.c.Kind, x48.c.Reg, x48.c.N, x48.c.Op, x48.c.M, x48.c.Key, x2⟩ : S_keys_Cmd), x48.n, x48.k⟩ : S_platenref21_machine) h rfl   I49
theorem platenref21_machine_last_ok (k : Nat) (x1 : S_platenref21_machine) (x2 : UInt8) (r : (Int × S_platenref21_machine))  {r0 : Nat} {σ : St} {B : List (Nat × Blk)} {O : List AV}
    (h : platenref21_machine_last k x1 x2 = some r)
    (I : Inv σ ((r0, .cells [u8 x1.state, .bool x1.chosen, u8 x1.c.Kind, u8 x1.c.Reg, .int .i64 x1.c.N, u8 x1.c.Op, u8 x1.c.M.Key, u8 x1.c.M.Sign, .int .i64 x1.c.M.N, u8 x1.c.Key, u8 x1.c.Sign, .int .i64 x1.n, .int .i64 x1.k]) :: B) (O)) :
    RunF kE 27 [.blk r0 0, u8 x2] σ (fun v σ' => v = .int .i64 r.1 ∧ Inv σ' ((r0, .cells [u8 r.2.state, .bool r.2.chosen, u8 r.2.c.Kind, u8 r.2.c.Reg, .int .i64 r.2.c.N, u8 r.2.c.Op, u8 r.2.c.M.Key, u8 r.2.c.M.Sign, .int .i64 r.2.c.M.N, u8 r.2.c.Key, u8 r.2.c.Sign, .int .i64 r.2.n, .int .i64 r.2.k]) :: B) (O)) := by
  refine f_plain rfl rfl rfl rfl ?_
  unfold platenref21_machine_last at h
  refine c_seq ?_
  refine c_reg ?_
  refine sp (.int .i64 0) rfl rfl ?_
  refine sx ?_
  refine cn ?_
  refine c_keep (keep_cons rfl (keep_cons rfl keep_nil)) ?_
  refine c_seq ?_
  refine c_reg ?_
  refine sp (.bool false) rfl rfl ?_
  refine sx ?_
  refine cn ?_
  refine c_keep (keep_cons rfl (keep_cons rfl (keep_cons rfl keep_nil))) ?_
  refine c_seq ?_
  refine c_seq ?_
  refine c_reg ?_
  refine sp (.blk r0 0) rfl rfl ?_
  refine sp (.blk r0 0) rfl rfl ?_
  refine sp (.blk r0 0) rfl rfl ?_
  refine sp (u8 x1.state) rfl (e_load I 0 0 rfl rfl rfl) ?_
  refine sx ?_
  refine cn ?_
  refine c_keep (keep_cons rfl (keep_cons rfl (keep_cons rfl (keep_cons rfl keep_nil)))) ?_
  refine c_block ?_
  refine c_seq ?_
  refine c_reg ?_
  refine sp (.bool (decide ((x1.state.toNat : Int) = 4))) rfl rfl ?_
  refine sp (.bool (decide ((x1.state.toNat : Int) = 4))) rfl rfl ?_
  refine sx ?_
  refine cn ?_
  refine c_keep (keep_cons rfl (keep_cons rfl (keep_cons rfl (keep_cons rfl (keep_cons rfl keep_nil))))) ?_
  rcases bool_tf (decide ((x1.state.toNat : Int) = 4)) with b3 | b3
  · have h := ite_t h b3
    refine c_cond_t (decide ((x1.state.toNat : Int) = 4)) rfl b3 ?_
    refine c_seq ?_
    refine c_seq ?_
    refine c_reg ?_
    refine sp (u8 x2) rfl rfl ?_
    refine sp (.bool (decide ((x2.toNat : Int) = 113))) rfl rfl ?_
    refine sx ?_
    refine cn ?_
    refine c_keep (keep_cons rfl (keep_cons rfl (keep_cons rfl keep_nil))) ?_
    rcases bool_tf (decide ((x2.toNat : Int) = 113)) with b4 | b4
    · have h := ite_t h b4
      refine c_cond_t (decide ((x2.toNat : Int) = 113)) rfl b4 ?_
      refine c_seq ?_
      refine c_reg ?_
      refine sp (.blk r0 0) rfl rfl ?_
      obtain ⟨a5, g6, h⟩ := bind_some h
      refine st_call (platenref21_machine_operator_ok k _ _ _ g6  I) rfl ?_
      intro v7 σ9 q8
      obtain ⟨q11, I10⟩ := q8
      obtain rfl := q11
      refine sp (.int .i64 a5.1) rfl rfl ?_
      refine sx ?_
      refine cn ?_
      refine c_ret ?_
      refine cr ?_
      refine br ?_
      refine cr ?_
      obtain rfl := some_eq h
      exact rr (vs := [.int .i64 a5.1]) (res_c (resp_t rfl) res_nil) ⟨rfl, I10⟩
    · have h := ite_f h b4
      refine c_cond_f (decide ((x2.toNat : Int) = 113)) rfl b4 ?_
      refine c_skip ?_
      refine cn ?_
      refine c_keep (keep_cons rfl (keep_cons rfl keep_nil)) ?_
      refine c_seq ?_
      refine c_reg ?_
      refine sp (u8 x2) rfl rfl ?_
      refine sp (.bool (decide ((x2.toNat : Int) = 103))) rfl rfl ?_
      refine sp (.bool (decide ((x2.toNat : Int) = 103))) rfl rfl ?_
      refine sx ?_
      refine cn ?_
      refine c_keep (keep_cons rfl (keep_cons rfl keep_nil)) ?_
      refine c_reg ?_
      refine sp (.blk r0 0) rfl rfl ?_
      refine sp (.blk r0 0) rfl rfl ?_
      refine sp (.blk r0 0) rfl rfl ?_
      refine sp (.blk r0 0) rfl rfl ?_
      refine sp (.blk r0 2) rfl rfl ?_
      refine sp (.blk r0 4) rfl rfl ?_
      refine sp (.int .i64 x1.c.N) rfl (e_load I 0 4 rfl rfl rfl) ?_
      refine sp (.agg [u8 (103 : UInt8), u8 (0 : UInt8), .int .i64 x1.c.N]) rfl rfl ?_
      refine sp (.blk r0 0) rfl rfl ?_
      refine sp (.blk r0 2) rfl rfl ?_
      refine sp (.blk r0 2) rfl rfl ?_
      refine st_store I 0 2 (cs' := [u8 x1.state, .bool x1.chosen, u8 (1 : UInt8), u8 x1.c.Reg, .int .i64 x1.c.N, u8 x1.c.Op, u8 x1.c.M.Key, u8 x1.c.M.Sign, .int .i64 x1.c.M.N, u8 x1.c.Key, u8 x1.c.Sign, .int .i64 x1.n, .int .i64 x1.k]) (bs' := (r0, .cells [u8 x1.state, .bool x1.chosen, u8 (1 : UInt8), u8 x1.c.Reg, .int .i64 x1.c.N, u8 x1.c.Op, u8 x1.c.M.Key, u8 x1.c.M.Sign, .int .i64 x1.c.M.N, u8 x1.c.Key, u8 x1.c.Sign, .int .i64 x1.n, .int .i64 x1.k]) :: B) rfl rfl rfl rfl rfl (Nat.le_of_ble_eq_true rfl) rfl rfl ?_
      intro σ13 I12
      refine sp (.blk r0 0) rfl rfl ?_
      refine sp (.blk r0 2) rfl rfl ?_
      refine sp (.blk r0 6) rfl rfl ?_
      refine st_store I12 0 6 (cs' := [u8 x1.state, .bool x1.chosen, u8 (1 : UInt8), u8 x1.c.Reg, .int .i64 x1.c.N, u8 x1.c.Op, u8 (103 : UInt8), u8 (0 : UInt8), .int .i64 x1.c.N, u8 x1.c.Key, u8 x1.c.Sign, .int .i64 x1.n, .int .i64 x1.k]) (bs' := (r0, .cells [u8 x1.state, .bool x1.chosen, u8 (1 : UInt8), u8 x1.c.Reg, .int .i64 x1.c.N, u8 x1.c.Op, u8 (103 : UInt8), u8 (0 : UInt8), .int .i64 x1.c.N, u8 x1.c.Key, u8 x1.c.Sign, .int .i64 x1.n, .int .i64 x1.k]) :: B) rfl rfl rfl rfl rfl (Nat.le_of_ble_eq_true rfl) rfl rfl ?_
      intro σ15 I14
      refine sx ?_
      refine bn ?_
      refine cn ?_
      exact platenref21_machine_last_j47_ok k  (decide ((x2.toNat : Int) = 103)) (⟨x1.state, x1.chosen, (⟨(1 : UInt8), x1.c.Reg, x1.c.N, x1.c.Op, (⟨(103 : UInt8), (0 : UInt8), x1.c.N⟩ : S_api_Motion), x1.c.Key, x1.c.Sign⟩ : S_keys_Cmd), x1.n, x1.k⟩ : S_platenref21_machine) h rfl   I14
  · have h := ite_f h b3
    refine c_cond_f (decide ((x1.state.toNat : Int) = 4)) rfl b3 ?_
    refine c_seq ?_
    refine c_reg ?_
    refine sp (.bool (decide ((x1.state.toNat : Int) = 5))) rfl rfl ?_
    refine sp (.bool (decide ((x1.state.toNat : Int) = 5))) rfl rfl ?_
    refine sx ?_
    refine cn ?_
    refine c_keep (keep_cons rfl (keep_cons rfl (keep_cons rfl (keep_cons rfl (keep_cons rfl keep_nil))))) ?_
    rcases bool_tf (decide ((x1.state.toNat : Int) = 5)) with b19 | b19
    · have h := ite_t h b19
      refine c_cond_t (decide ((x1.state.toNat : Int) = 5)) rfl b19 ?_
      refine c_seq ?_
      refine c_reg ?_
      refine sp (u8 x2) rfl rfl ?_
      refine sp (.bool (decide ((x2.toNat : Int) = 103))) rfl rfl ?_
      refine sp (.bool (decide ((x2.toNat : Int) = 103))) rfl rfl ?_
      refine sx ?_
      refine cn ?_
      refine c_keep (keep_cons rfl (keep_cons rfl keep_nil)) ?_
      refine c_reg ?_
      refine sp (.blk r0 0) rfl rfl ?_
      refine sp (.blk r0 0) rfl rfl ?_
      refine sp (.blk r0 0) rfl rfl ?_
      refine sp (.blk r0 0) rfl rfl ?_
      refine sp (.blk r0 2) rfl rfl ?_
      refine sp (.blk r0 4) rfl rfl ?_
      refine sp (.int .i64 x1.c.N) rfl (e_load I 0 4 rfl rfl rfl) ?_
      refine sp (.agg [u8 (103 : UInt8), u8 (0 : UInt8), .int .i64 x1.c.N]) rfl rfl ?_
      refine sp (.blk r0 0) rfl rfl ?_
      refine sp (.blk r0 2) rfl rfl ?_
      refine sp (.blk r0 2) rfl rfl ?_
      refine st_store I 0 2 (cs' := [u8 x1.state, .bool x1.chosen, u8 (3 : UInt8), u8 x1.c.Reg, .int .i64 x1.c.N, u8 x1.c.Op, u8 x1.c.M.Key, u8 x1.c.M.Sign, .int .i64 x1.c.M.N, u8 x1.c.Key, u8 x1.c.Sign, .int .i64 x1.n, .int .i64 x1.k]) (bs' := (r0, .cells [u8 x1.state, .bool x1.chosen, u8 (3 : UInt8), u8 x1.c.Reg, .int .i64 x1.c.N, u8 x1.c.Op, u8 x1.c.M.Key, u8 x1.c.M.Sign, .int .i64 x1.c.M.N, u8 x1.c.Key, u8 x1.c.Sign, .int .i64 x1.n, .int .i64 x1.k]) :: B) rfl rfl rfl rfl rfl (Nat.le_of_ble_eq_true rfl) rfl rfl ?_
      intro σ21 I20
      refine sp (.blk r0 0) rfl rfl ?_
      refine sp (.blk r0 2) rfl rfl ?_
      refine sp (.blk r0 6) rfl rfl ?_
      refine st_store I20 0 6 (cs' := [u8 x1.state, .bool x1.chosen, u8 (3 : UInt8), u8 x1.c.Reg, .int .i64 x1.c.N, u8 x1.c.Op, u8 (103 : UInt8), u8 (0 : UInt8), .int .i64 x1.c.N, u8 x1.c.Key, u8 x1.c.Sign, .int .i64 x1.n, .int .i64 x1.k]) (bs' := (r0, .cells [u8 x1.state, .bool x1.chosen, u8 (3 : UInt8), u8 x1.c.Reg, .int .i64 x1.c.N, u8 x1.c.Op, u8 (103 : UInt8), u8 (0 : UInt8), .int .i64 x1.c.N, u8 x1.c.Key, u8 x1.c.Sign, .int .i64 x1.n, .int .i64 x1.k]) :: B) rfl rfl rfl rfl rfl (Nat.le_of_ble_eq_true rfl) rfl rfl ?_
      intro σ23 I22
      refine sx ?_
      refine bn ?_
      refine cn ?_
      exact platenref21_machine_last_j47_ok k  (decide ((x2.toNat : Int) = 103)) (⟨x1.state, x1.chosen, (⟨(3 : UInt8), x1.c.Reg, x1.c.N, x1.c.Op, (⟨(103 : UInt8), (0 : UInt8), x1.c.N⟩ : S_api_Motion), x1.c.Key, x1.c.Sign⟩ : S_keys_Cmd), x1.n, x1.k⟩ : S_platenref21_machine) h rfl   I22
    · have h := ite_f h b19
      refine c_cond_f (decide ((x1.state.toNat : Int) = 5)) rfl b19 ?_
      refine c_seq ?_
      refine c_reg ?_
      refine sp (.bool (decide ((x1.state.toNat : Int) = 6))) rfl rfl ?_
      refine sp (.bool (decide ((x1.state.toNat : Int) = 6))) rfl rfl ?_
      refine sx ?_
      refine cn ?_
      refine c_keep (keep_cons rfl (keep_cons rfl (keep_cons rfl (keep_cons rfl (keep_cons rfl keep_nil))))) ?_
      rcases bool_tf (decide ((x1.state.toNat : Int) = 6)) with b24 | b24
      · have h := ite_t h b24
        refine c_cond_t (decide ((x1.state.toNat : Int) = 6)) rfl b24 ?_
        refine c_seq ?_
        refine c_reg ?_
        refine sp (u8 x2) rfl rfl ?_
        obtain ⟨a25, g26, h⟩ := bind_some h
        refine st_callc (platenref21_in_ok k _ _ _ g26 ) rfl ?_
        intro v27 q28
        obtain rfl := q28
        refine sp (.bool a25) rfl rfl ?_
        refine sx ?_
        refine cn ?_
        refine c_keep (keep_cons rfl (keep_cons rfl (keep_cons rfl keep_nil))) ?_
        refine c_reg ?_
        refine sp (.blk r0 0) rfl rfl ?_
        refine sp (.blk r0 0) rfl rfl ?_
        refine sp (u8 x2) rfl rfl ?_
        refine sp (.blk r0 0) rfl rfl ?_
        refine sp (.blk r0 2) rfl rfl ?_
        refine sp (.blk r0 2) rfl rfl ?_
        refine st_store I 0 2 (cs' := [u8 x1.state, .bool x1.chosen, u8 (4 : UInt8), u8 x1.c.Reg, .int .i64 x1.c.N, u8 x1.c.Op, u8 x1.c.M.Key, u8 x1.c.M.Sign, .int .i64 x1.c.M.N, u8 x1.c.Key, u8 x1.c.Sign, .int .i64 x1.n, .int .i64 x1.k]) (bs' := (r0, .cells [u8 x1.state, .bool x1.chosen, u8 (4 : UInt8), u8 x1.c.Reg, .int .i64 x1.c.N, u8 x1.c.Op, u8 x1.c.M.Key, u8 x1.c.M.Sign, .int .i64 x1.c.M.N, u8 x1.c.Key, u8 x1.c.Sign, .int .i64 x1.n, .int .i64 x1.k]) :: B) rfl rfl rfl rfl rfl (Nat.le_of_ble_eq_true rfl) rfl rfl ?_
        intro σ30 I29
        refine sp (.blk r0 0) rfl rfl ?_
        refine sp (.blk r0 2) rfl rfl ?_
        refine sp (.blk r0 10) rfl rfl ?_
        refine st_store I29 0 10 (cs' := [u8 x1.state, .bool x1.chosen, u8 (4 : UInt8), u8 x1.c.Reg, .int .i64 x1.c.N, u8 x1.c.Op, u8 x1.c.M.Key, u8 x1.c.M.Sign, .int .i64 x1.c.M.N, u8 x1.c.Key, u8 x2, .int .i64 x1.n, .int .i64 x1.k]) (bs' := (r0, .cells [u8 x1.state, .bool x1.chosen, u8 (4 : UInt8), u8 x1.c.Reg, .int .i64 x1.c.N, u8 x1.c.Op, u8 x1.c.M.Key, u8 x1.c.M.Sign, .int .i64 x1.c.M.N, u8 x1.c.Key, u8 x2, .int .i64 x1.n, .int .i64 x1.k]) :: B) rfl rfl rfl rfl rfl (Nat.le_of_ble_eq_true rfl) rfl rfl ?_
        intro σ32 I31
        refine sx ?_
        refine bn ?_
        refine cn ?_
        exact platenref21_machine_last_j47_ok k  a25 (⟨x1.state, x1.chosen, (⟨(4 : UInt8), x1.c.Reg, x1.c.N, x1.c.Op, x1.c.M, x1.c.Key, x2⟩ : S_keys_Cmd), x1.n, x1.k⟩ : S_platenref21_machine) h rfl   I31
      · have h := ite_f h b24
        refine c_cond_f (decide ((x1.state.toNat : Int) = 6)) rfl b24 ?_
        refine c_seq ?_
        refine c_reg ?_
        refine sp (.bool (decide ((x1.state.toNat : Int) = 7))) rfl rfl ?_
        refine sp (.bool (decide ((x1.state.toNat : Int) = 7))) rfl rfl ?_
        refine sx ?_
        refine cn ?_
        refine c_keep (keep_cons rfl (keep_cons rfl (keep_cons rfl (keep_cons rfl (keep_cons rfl keep_nil))))) ?_
        rcases bool_tf (decide ((x1.state.toNat : Int) = 7)) with b33 | b33
        · have h := ite_t h b33
          refine c_cond_t (decide ((x1.state.toNat : Int) = 7)) rfl b33 ?_
          refine c_seq ?_
          refine c_reg ?_
          refine sp (u8 x2) rfl rfl ?_
          refine sp (.bool (decide (32 ≤ (x2.toNat : Int)))) rfl rfl ?_
          refine sp (.bool (decide (32 ≤ (x2.toNat : Int)))) rfl rfl ?_
          rcases bool_tf (decide (32 ≤ (x2.toNat : Int))) with b34 | b34
          · have h := ite_t h b34
            refine sg_run (decide (32 ≤ (x2.toNat : Int))) rfl b34 ?_
            refine sp (.blk r0 0) rfl rfl ?_
            refine sg_run (decide (32 ≤ (x2.toNat : Int))) rfl b34 ?_
            refine sp (.blk r0 0) rfl rfl ?_
            refine sg_run (decide (32 ≤ (x2.toNat : Int))) rfl b34 ?_
            refine sp (.blk r0 2) rfl rfl ?_
            refine sg_run (decide (32 ≤ (x2.toNat : Int))) rfl b34 ?_
            refine sp (.blk r0 6) rfl rfl ?_
            refine sg_run (decide (32 ≤ (x2.toNat : Int))) rfl b34 ?_
            refine sp (.blk r0 6) rfl rfl ?_
            refine sg_run (decide (32 ≤ (x2.toNat : Int))) rfl b34 ?_
            refine sp (u8 x1.c.M.Key) rfl (e_load I 0 6 rfl rfl rfl) ?_
            refine sg_run (decide (32 ≤ (x2.toNat : Int))) rfl b34 ?_
            refine sp (.bool (!decide ((x1.c.M.Key.toNat : Int) = 96))) rfl rfl ?_
            refine sg_run (decide (32 ≤ (x2.toNat : Int))) rfl b34 ?_
            refine sp (.bool (!decide ((x1.c.M.Key.toNat : Int) = 96))) rfl rfl ?_
            rcases bool_tf (!decide ((x1.c.M.Key.toNat : Int) = 96)) with b35 | b35
            · have h := ite_t h b35
              refine sg_skip (!decide ((x1.c.M.Key.toNat : Int) = 96)) rfl b35 ?_
              refine sg_skip (!decide ((x1.c.M.Key.toNat : Int) = 96)) rfl b35 ?_
              refine sg_run (decide (32 ≤ (x2.toNat : Int))) rfl b34 ?_
              refine sp (.bool true) rfl (e_pick_t rfl b35 rfl) ?_
              refine sp (.bool true) rfl (e_pick_t rfl b34 rfl) ?_
              refine sp (.bool true) rfl rfl ?_
              refine sx ?_
              refine cn ?_
              exact platenref21_machine_last_j39_ok k x2 true x1 h rfl rfl rfl   I
            · have h := ite_f h b35
              refine sg_run (!decide ((x1.c.M.Key.toNat : Int) = 96)) rfl b35 ?_
              refine sp (u8 x2) rfl rfl ?_
              refine sg_run (!decide ((x1.c.M.Key.toNat : Int) = 96)) rfl b35 ?_
              obtain ⟨a40, g41, h⟩ := bind_some h
              refine st_callc (platenref21_letter_ok k _ _ g41 ) rfl ?_
              intro v42 q43
              obtain rfl := q43
              refine sg_run (decide (32 ≤ (x2.toNat : Int))) rfl b34 ?_
              refine sp (.bool a40) rfl (e_pick_f rfl b35 rfl) ?_
              refine sp (.bool a40) rfl (e_pick_t rfl b34 rfl) ?_
              refine sp (.bool a40) rfl rfl ?_
              refine sx ?_
              refine cn ?_
              exact platenref21_machine_last_j39_ok k x2 a40 x1 h rfl rfl rfl   I
          · have h := ite_f h b34
            refine sg_skip (decide (32 ≤ (x2.toNat : Int))) rfl b34 ?_
            refine sg_skip (decide (32 ≤ (x2.toNat : Int))) rfl b34 ?_
            refine sg_skip (decide (32 ≤ (x2.toNat : Int))) rfl b34 ?_
            refine sg_skip (decide (32 ≤ (x2.toNat : Int))) rfl b34 ?_
            refine sg_skip (decide (32 ≤ (x2.toNat : Int))) rfl b34 ?_
            refine sg_skip (decide (32 ≤ (x2.toNat : Int))) rfl b34 ?_
            refine sg_skip (decide (32 ≤ (x2.toNat : Int))) rfl b34 ?_
            refine sg_skip (decide (32 ≤ (x2.toNat : Int))) rfl b34 ?_
            refine sg_undef rfl ?_
            refine sg_undef rfl ?_
            refine sg_skip (decide (32 ≤ (x2.toNat : Int))) rfl b34 ?_
            refine sp (.bool false) rfl (e_pick_f rfl b34 rfl) ?_
            refine sp (.bool false) rfl rfl ?_
            refine sx ?_
            refine cn ?_
            exact platenref21_machine_last_j39_ok k x2 false x1 h rfl rfl rfl   I
        · have h := ite_f h b33
          refine c_cond_f (decide ((x1.state.toNat : Int) = 7)) rfl b33 ?_
          refine c_seq ?_
          refine c_reg ?_
          refine sp (.bool (decide ((x1.state.toNat : Int) = 8))) rfl rfl ?_
          refine sp (.bool (decide ((x1.state.toNat : Int) = 8))) rfl rfl ?_
          refine sx ?_
          refine cn ?_
          refine c_keep (keep_cons rfl (keep_cons rfl (keep_cons rfl (keep_cons rfl keep_nil)))) ?_
          rcases bool_tf (decide ((x1.state.toNat : Int) = 8)) with b44 | b44
          · have h := ite_t h b44
            refine c_cond_t (decide ((x1.state.toNat : Int) = 8)) rfl b44 ?_
            refine c_seq ?_
            refine c_reg ?_
            refine sp (u8 x2) rfl rfl ?_
            refine sp (.bool (decide (32 ≤ (x2.toNat : Int)))) rfl rfl ?_
            refine sp (.bool (decide (32 ≤ (x2.toNat : Int)))) rfl rfl ?_
            rcases bool_tf (decide (32 ≤ (x2.toNat : Int))) with b45 | b45
            · have h := ite_t h b45
              refine sg_run (decide (32 ≤ (x2.toNat : Int))) rfl b45 ?_
              refine sp (.blk r0 0) rfl rfl ?_
              refine sg_run (decide (32 ≤ (x2.toNat : Int))) rfl b45 ?_
              refine sp (.blk r0 0) rfl rfl ?_
              refine sg_run (decide (32 ≤ (x2.toNat : Int))) rfl b45 ?_
              refine sp (.blk r0 2) rfl rfl ?_
              refine sg_run (decide (32 ≤ (x2.toNat : Int))) rfl b45 ?_
              refine sp (.blk r0 9) rfl rfl ?_
              refine sg_run (decide (32 ≤ (x2.toNat : Int))) rfl b45 ?_
              refine sp (u8 x1.c.Key) rfl (e_load I 0 9 rfl rfl rfl) ?_
              refine sg_run (decide (32 ≤ (x2.toNat : Int))) rfl b45 ?_
              refine sp (.bool (!decide ((x1.c.Key.toNat : Int) = 109))) rfl rfl ?_
              refine sg_run (decide (32 ≤ (x2.toNat : Int))) rfl b45 ?_
              refine sp (.bool (!decide ((x1.c.Key.toNat : Int) = 109))) rfl rfl ?_
              rcases bool_tf (!decide ((x1.c.Key.toNat : Int) = 109)) with b46 | b46
              · have h := ite_t h b46
                refine sg_skip (!decide ((x1.c.Key.toNat : Int) = 109)) rfl b46 ?_
                refine sg_skip (!decide ((x1.c.Key.toNat : Int) = 109)) rfl b46 ?_
                refine sg_run (decide (32 ≤ (x2.toNat : Int))) rfl b45 ?_
                refine sp (.bool true) rfl (e_pick_t rfl b46 rfl) ?_
                refine sp (.bool true) rfl (e_pick_t rfl b45 rfl) ?_
                refine sp (.bool true) rfl rfl ?_
                refine sx ?_
                refine cn ?_
                exact platenref21_machine_last_j45_ok k x2 true x1 h rfl rfl rfl   I
              · have h := ite_f h b46
                refine sg_run (!decide ((x1.c.Key.toNat : Int) = 109)) rfl b46 ?_
                refine sp (u8 x2) rfl rfl ?_
                refine sg_run (!decide ((x1.c.Key.toNat : Int) = 109)) rfl b46 ?_
                obtain ⟨a51, g52, h⟩ := bind_some h
                refine st_callc (platenref21_letter_ok k _ _ g52 ) rfl ?_
                intro v53 q54
                obtain rfl := q54
                refine sg_run (decide (32 ≤ (x2.toNat : Int))) rfl b45 ?_
                refine sp (.bool a51) rfl (e_pick_f rfl b46 rfl) ?_
                refine sp (.bool a51) rfl (e_pick_t rfl b45 rfl) ?_
                refine sp (.bool a51) rfl rfl ?_
                refine sx ?_
                refine cn ?_
                exact platenref21_machine_last_j45_ok k x2 a51 x1 h rfl rfl rfl   I
            · have h := ite_f h b45
              refine sg_skip (decide (32 ≤ (x2.toNat : Int))) rfl b45 ?_
              refine sg_skip (decide (32 ≤ (x2.toNat : Int))) rfl b45 ?_
              refine sg_skip (decide (32 ≤ (x2.toNat : Int))) rfl b45 ?_
              refine sg_skip (decide (32 ≤ (x2.toNat : Int))) rfl b45 ?_
              refine sg_skip (decide (32 ≤ (x2.toNat : Int))) rfl b45 ?_
              refine sg_skip (decide (32 ≤ (x2.toNat : Int))) rfl b45 ?_
              refine sg_skip (decide (32 ≤ (x2.toNat : Int))) rfl b45 ?_
              refine sg_undef rfl ?_
              refine sg_undef rfl ?_
              refine sg_skip (decide (32 ≤ (x2.toNat : Int))) rfl b45 ?_
              refine sp (.bool false) rfl (e_pick_f rfl b45 rfl) ?_
              refine sp (.bool false) rfl rfl ?_
              refine sx ?_
              refine cn ?_
              exact platenref21_machine_last_j45_ok k x2 false x1 h rfl rfl rfl   I
          · have h := ite_f h b44
            refine c_cond_f (decide ((x1.state.toNat : Int) = 8)) rfl b44 ?_
            refine c_skip ?_
            refine bn ?_
            refine cn ?_
            exact platenref21_machine_last_j47_ok k  false x1 h rfl   I
/- (*platen.platenref21.machine).feed -/
def platenref21_machine_feed_j28 (k : Nat) (x2 : UInt8) (x25 : Bool) (x26 : S_platenref21_machine) : Option ((Int × S_platenref21_machine)) :=
  if x25 then ((platenref21_digit k x26.n x2).bind fun a28 => if !a28.2 then (some (2, (⟨x26.state, x26.chosen, x26.c, a28.1, x26.k⟩ : S_platenref21_machine))) else ((platenref21_machine_more k (⟨x26.state, x26.chosen, x26.c, a28.1, x26.k⟩ : S_platenref21_machine) (2 : UInt8)).bind fun a39 => some (a39.1, a39.2))) else ((platenref21_machine_key k x26 x2).bind fun a46 => some (a46.1, a46.2))
def platenref21_machine_feed_j20 (k : Nat) (x2 : UInt8) (x13 : Bool) (x14 : Bool) (x15 : S_platenref21_machine) : Option ((Int × S_platenref21_machine)) :=
  if x14 then ((platenref21_machine_more k x15 (1 : UInt8)).bind fun a17 => some (a17.1, a17.2)) else (if x13 then (platenref21_machine_feed_j28 k x2 true x15) else (if decide ((x2.toNat : Int) = 48) then (platenref21_machine_feed_j28 k x2 (decide (0 < x15.n)) x15) else (platenref21_machine_feed_j28 k x2 false x15)))
def platenref21_machine_feed_j68 (k : Nat) (x2 : UInt8) (x71 : Bool) (x72 : S_platenref21_machine) : Option ((Int × S_platenref21_machine)) :=
  if x71 then ((platenref21_digit k x72.k x2).bind fun a74 => if !a74.2 then (some (2, (⟨x72.state, x72.chosen, x72.c, x72.n, a74.1⟩ : S_platenref21_machine))) else (if decide (0 < x72.n) then (if decide (9999 < (IntKind.i64.wrap (a74.1 * x72.n))) then (some (2, (⟨x72.state, x72.chosen, x72.c, x72.n, a74.1⟩ : S_platenref21_machine))) else (some (1, (⟨x72.state, x72.chosen, x72.c, x72.n, a74.1⟩ : S_platenref21_machine)))) else (some (1, (⟨x72.state, x72.chosen, x72.c, x72.n, a74.1⟩ : S_platenref21_machine))))) else ((platenref21_machine_behind k x72 x2).bind fun a87 => some (a87.1, a87.2))
def platenref21_machine_feed_j16 (k : Nat) (x2 : UInt8) (x7 : Bool) (x8 : UInt8) (x9 : Bool) (x10 : S_platenref21_machine) : Option ((Int × S_platenref21_machine)) :=
  if x9 then (if decide ((x2.toNat : Int) = 34) then (platenref21_machine_feed_j20 k x2 x7 (decide ((x10.state.toNat : Int) = 0)) x10) else (platenref21_machine_feed_j20 k x2 x7 false x10)) else (if decide ((x8.toNat : Int) = 1) then ((platenref21_letter k x2).bind fun a57 => if !a57 then (some (2, (⟨x10.state, x10.chosen, (⟨x10.c.Kind, x2, x10.c.N, x10.c.Op, x10.c.M, x10.c.Key, x10.c.Sign⟩ : S_keys_Cmd), x10.n, x10.k⟩ : S_platenref21_machine))) else ((platenref21_machine_more k (⟨x10.state, x10.chosen, (⟨x10.c.Kind, x2, x10.c.N, x10.c.Op, x10.c.M, x10.c.Key, x10.c.Sign⟩ : S_keys_Cmd), x10.n, x10.k⟩ : S_platenref21_machine) (2 : UInt8)).bind fun a62 => some (a62.1, a62.2))) else (if decide ((x8.toNat : Int) = 3) then (if x7 then (platenref21_machine_feed_j68 k x2 true x10) else (if decide ((x2.toNat : Int) = 48) then (platenref21_machine_feed_j68 k x2 (decide (0 < x10.k)) x10) else (platenref21_machine_feed_j68 k x2 false x10))) else ((platenref21_machine_last k x10 x2).bind fun a95 => some (a95.1, a95.2))))
def platenref21_machine_feed_j6 (k : Nat) (x2 : UInt8) (x4 : Bool) (x5 : S_platenref21_machine) : Option ((Int × S_platenref21_machine)) :=
  if decide ((x5.state.toNat : Int) = 0) then (platenref21_machine_feed_j16 k x2 x4 x5.state (decide ((x5.state.toNat : Int) = 0)) x5) else (platenref21_machine_feed_j16 k x2 x4 x5.state (decide ((x5.state.toNat : Int) = 2)) x5)
def platenref21_machine_feed (k : Nat) (x1 : S_platenref21_machine) (x2 : UInt8) : Option ((Int × S_platenref21_machine)) :=
  if decide (49 ≤ (x2.toNat : Int)) then (platenref21_machine_feed_j6 k x2 (decide ((x2.toNat : Int) ≤ 57)) x1) else (platenref21_machine_feed_j6 k x2 false x1)
theorem platenref21_machine_feed_j28_ok (k : Nat) (x2 : UInt8) (x25 : Bool) (x26 : S_platenref21_machine) {r : (Int × S_platenref21_machine)}  {r0 : Nat} {tm : List (Nat × AV)} {σ : St} {B : List (Nat × Blk)} {O : List AV}
    (h : platenref21_machine_feed_j28 k x2 x25 x26 = some r)
    (e0 : lk tm 0 = some (.blk r0 0))
    (e1 : lk tm 1 = some (u8 x2))
    (e42 : lk tm 42 = some (.bool x25))
    (I : Inv σ ((r0, .cells [u8 x26.state, .bool x26.chosen, u8 x26.c.Kind, u8 x26.c.Reg, .int .i64 x26.c.N, u8 x26.c.Op, u8 x26.c.M.Key, u8 x26.c.M.Sign, .int .i64 x26.c.M.N, u8 x26.c.Key, u8 x26.c.Sign, .int .i64 x26.n, .int .i64 x26.k]) :: B) (O)) :
    RunC kE k17c28 ⟨tm, σ⟩ (Cont kE k17c43 (BlkQ 0 (Cont kE k17c87 (ResP (E := kE) k17.res (fun v σ' => v = .int .i64 r.1 ∧ Inv σ' ((r0, .cells [u8 r.2.state, .bool r.2.chosen, u8 r.2.c.Kind, u8 r.2.c.Reg, .int .i64 r.2.c.N, u8 r.2.c.Op, u8 r.2.c.M.Key, u8 r.2.c.M.Sign, .int .i64 r.2.c.M.N, u8 r.2.c.Key, u8 r.2.c.Sign, .int .i64 r.2.n, .int .i64 r.2.k]) :: B) (O)))))) := by
  unfold platenref21_machine_feed_j28 at h
  refine c_keep (keep_cons e0 (keep_cons e1 (keep_cons e42 keep_nil))) ?_
  rcases bool_tf x25 with b27 | b27
  · have h := ite_t h b27
    refine c_cond_t x25 rfl b27 ?_
    refine c_seq ?_
    refine c_reg ?_
    refine sp (.blk r0 0) rfl rfl ?_
    refine sp (.blk r0 0) rfl rfl ?_
    refine sp (.blk r0 0) rfl rfl ?_
    refine sp (.blk r0 11) rfl rfl ?_
    refine sp (.int .i64 x26.n) rfl (e_load I 0 11 rfl rfl rfl) ?_
    refine sp (u8 x2) rfl rfl ?_
    obtain ⟨a28, g29, h⟩ := bind_some h
    refine st_callc (platenref21_digit_ok k _ _ _ g29 ) rfl ?_
    intro v30 q31
    obtain ⟨v32, v34, rfl, q33, q35⟩ := q31
    obtain rfl := q33
    obtain rfl := q35
    refine sp (.tuple [.int .i64 a28.1, .bool a28.2]) rfl rfl ?_
    refine sp (.int .i64 a28.1) rfl rfl ?_
    refine sp (.bool a28.2) rfl rfl ?_
    refine sp (.blk r0 0) rfl rfl ?_
    refine sp (.blk r0 11) rfl rfl ?_
    refine st_store I 0 11 (cs' := [u8 x26.state, .bool x26.chosen, u8 x26.c.Kind, u8 x26.c.Reg, .int .i64 x26.c.N, u8 x26.c.Op, u8 x26.c.M.Key, u8 x26.c.M.Sign, .int .i64 x26.c.M.N, u8 x26.c.Key, u8 x26.c.Sign, .int .i64 a28.1, .int .i64 x26.k]) (bs' := (r0, .cells [u8 x26.state, .bool x26.chosen, u8 x26.c.Kind, u8 x26.c.Reg, .int .i64 x26.c.N, u8 x26.c.Op, u8 x26.c.M.Key, u8 x26.c.M.Sign, .int .i64 x26.c.M.N, u8 x26.c.Key, u8 x26.c.Sign, .int .i64 a28.1, .int .i64 x26.k]) :: B) rfl rfl rfl rfl rfl (Nat.le_of_ble_eq_true rfl) rfl rfl ?_
    intro σ37 I36
    refine sp (.bool a28.2) rfl rfl ?_
    refine sx ?_
    refine cn ?_
    refine c_keep (keep_cons rfl (keep_cons rfl keep_nil)) ?_
    refine c_seq ?_
    refine c_seq ?_
    refine c_reg ?_
    refine sp (.bool a28.2) rfl rfl ?_
    refine sp (.bool (!a28.2)) rfl rfl ?_
    refine sx ?_
    refine cn ?_
    refine c_keep (keep_cons rfl (keep_cons rfl keep_nil)) ?_
    rcases bool_tf (!a28.2) with b38 | b38
    · have h := ite_t h b38
      refine c_cond_t (!a28.2) rfl b38 ?_
      refine c_seq ?_
      refine c_reg ?_
      refine sp (.int .i64 2) rfl rfl ?_
      refine sx ?_
      refine cn ?_
      refine c_ret ?_
      refine cr ?_
      refine cr ?_
      refine br ?_
      refine cr ?_
      obtain rfl := some_eq h
      exact rr (vs := [.int .i64 2]) (res_c (resp_t rfl) res_nil) ⟨rfl, I36⟩
    · have h := ite_f h b38
      refine c_cond_f (!a28.2) rfl b38 ?_
      refine c_skip ?_
      refine cn ?_
      refine c_keep (keep_cons rfl keep_nil) ?_
      refine c_seq ?_
      refine c_reg ?_
      refine sp (.blk r0 0) rfl rfl ?_
      obtain ⟨a39, g40, h⟩ := bind_some h
      refine st_call (platenref21_machine_more_ok k _ _ _ g40  I36) rfl ?_
      intro v41 σ43 q42
      obtain ⟨q45, I44⟩ := q42
      obtain rfl := q45
      refine sp (.int .i64 a39.1) rfl rfl ?_
      refine sx ?_
      refine cn ?_
      refine c_ret ?_
      refine cr ?_
      refine br ?_
      refine cr ?_
      obtain rfl := some_eq h
      exact rr (vs := [.int .i64 a39.1]) (res_c (resp_t rfl) res_nil) ⟨rfl, I44⟩
  · have h := ite_f h b27
    refine c_cond_f x25 rfl b27 ?_
    refine c_skip ?_
    refine cn ?_
    refine c_keep (keep_cons rfl (keep_cons rfl keep_nil)) ?_
    refine c_seq ?_
    refine c_reg ?_
    refine sp (.blk r0 0) rfl rfl ?_
    refine sp (u8 x2) rfl rfl ?_
    obtain ⟨a46, g47, h⟩ := bind_some h
    refine st_call (platenref21_machine_key_ok k _ _ _ g47  I) rfl ?_
    intro v48 σ50 q49
    obtain ⟨q52, I51⟩ := q49
    obtain rfl := q52
    refine sp (.int .i64 a46.1) rfl rfl ?_
    refine sx ?_
    refine cn ?_
    refine c_ret ?_
    refine br ?_
    refine cr ?_
    obtain rfl := some_eq h
    exact rr (vs := [.int .i64 a46.1]) (res_c (resp_t rfl) res_nil) ⟨rfl, I51⟩
theorem platenref21_machine_feed_j20_ok (k : Nat) (x2 : UInt8) (x13 : Bool) (x14 : Bool) (x15 : S_platenref21_machine) {r : (Int × S_platenref21_machine)}  {r0 : Nat} {tm : List (Nat × AV)} {σ : St} {B : List (Nat × Blk)} {O : List AV}
    (h : platenref21_machine_feed_j20 k x2 x13 x14 x15 = some r)
    (e0 : lk tm 0 = some (.blk r0 0))
    (e1 : lk tm 1 = some (u8 x2))
    (e6 : lk tm 6 = some (.bool x13))
    (e28 : lk tm 28 = some (.bool x14))
    (I : Inv σ ((r0, .cells [u8 x15.state, .bool x15.chosen, u8 x15.c.Kind, u8 x15.c.Reg, .int .i64 x15.c.N, u8 x15.c.Op, u8 x15.c.M.Key, u8 x15.c.M.Sign, .int .i64 x15.c.M.N, u8 x15.c.Key, u8 x15.c.Sign, .int .i64 x15.n, .int .i64 x15.k]) :: B) (O)) :
    RunC kE k17c20 ⟨tm, σ⟩ (Cont kE k17c25 (BlkQ 0 (Cont kE k17c87 (ResP (E := kE) k17.res (fun v σ' => v = .int .i64 r.1 ∧ Inv σ' ((r0, .cells [u8 r.2.state, .bool r.2.chosen, u8 r.2.c.Kind, u8 r.2.c.Reg, .int .i64 r.2.c.N, u8 r.2.c.Op, u8 r.2.c.M.Key, u8 r.2.c.M.Sign, .int .i64 r.2.c.M.N, u8 r.2.c.Key, u8 r.2.c.Sign, .int .i64 r.2.n, .int .i64 r.2.k]) :: B) (O)))))) := by
  unfold platenref21_machine_feed_j20 at h
  refine c_keep (keep_cons e0 (keep_cons e1 (keep_cons e6 (keep_cons e28 keep_nil)))) ?_
  rcases bool_tf x14 with b16 | b16
  · have h := ite_t h b16
    refine c_cond_t x14 rfl b16 ?_
    refine c_seq ?_
    refine c_reg ?_
    refine sp (.blk r0 0) rfl rfl ?_
    obtain ⟨a17, g18, h⟩ := bind_some h
    refine st_call (platenref21_machine_more_ok k _ _ _ g18  I) rfl ?_
    intro v19 σ21 q20
    obtain ⟨q23, I22⟩ := q20
    obtain rfl := q23
    refine sp (.int .i64 a17.1) rfl rfl ?_
    refine sx ?_
    refine cn ?_
    refine c_ret ?_
    refine cr ?_
    refine br ?_
    refine cr ?_
    obtain rfl := some_eq h
    exact rr (vs := [.int .i64 a17.1]) (res_c (resp_t rfl) res_nil) ⟨rfl, I22⟩
  · have h := ite_f h b16
    refine c_cond_f x14 rfl b16 ?_
    refine c_skip ?_
    refine cn ?_
    refine c_keep (keep_cons rfl (keep_cons rfl (keep_cons rfl keep_nil))) ?_
    refine c_seq ?_
    refine c_seq ?_
    refine c_reg ?_
    refine sp (.bool x13) rfl rfl ?_
    refine sp (.bool x13) rfl rfl ?_
    rcases bool_tf x13 with b24 | b24
    · have h := ite_t h b24
      refine sg_skip x13 rfl b24 ?_
      refine sg_skip x13 rfl b24 ?_
      refine sg_skip x13 rfl b24 ?_
      refine sg_undef rfl ?_
      refine sg_undef rfl ?_
      refine sg_undef rfl ?_
      refine sg_undef rfl ?_
      refine sg_undef rfl ?_
      refine sg_skip x13 rfl b24 ?_
      refine sp (.bool true) rfl (e_pick_t rfl b24 rfl) ?_
      refine sx ?_
      refine cn ?_
      exact platenref21_machine_feed_j28_ok k x2 true x15 h rfl rfl rfl   I
    · have h := ite_f h b24
      refine sg_run x13 rfl b24 ?_
      refine sp (u8 x2) rfl rfl ?_
      refine sg_run x13 rfl b24 ?_
      refine sp (.bool (decide ((x2.toNat : Int) = 48))) rfl rfl ?_
      refine sg_run x13 rfl b24 ?_
      refine sp (.bool (decide ((x2.toNat : Int) = 48))) rfl rfl ?_
      rcases bool_tf (decide ((x2.toNat : Int) = 48)) with b53 | b53
      · have h := ite_t h b53
        refine sg_run (decide ((x2.toNat : Int) = 48)) rfl b53 ?_
        refine sp (.blk r0 0) rfl rfl ?_
        refine sg_run (decide ((x2.toNat : Int) = 48)) rfl b53 ?_
        refine sp (.blk r0 0) rfl rfl ?_
        refine sg_run (decide ((x2.toNat : Int) = 48)) rfl b53 ?_
        refine sp (.blk r0 11) rfl rfl ?_
        refine sg_run (decide ((x2.toNat : Int) = 48)) rfl b53 ?_
        refine sp (.int .i64 x15.n) rfl (e_load I 0 11 rfl rfl rfl) ?_
        refine sg_run (decide ((x2.toNat : Int) = 48)) rfl b53 ?_
        refine sp (.bool (decide (0 < x15.n))) rfl rfl ?_
        refine sg_run x13 rfl b24 ?_
        refine sp (.bool (decide (0 < x15.n))) rfl (e_pick_t rfl b53 rfl) ?_
        refine sp (.bool (decide (0 < x15.n))) rfl (e_pick_f rfl b24 rfl) ?_
        refine sx ?_
        refine cn ?_
        exact platenref21_machine_feed_j28_ok k x2 (decide (0 < x15.n)) x15 h rfl rfl rfl   I
      · have h := ite_f h b53
        refine sg_skip (decide ((x2.toNat : Int) = 48)) rfl b53 ?_
        refine sg_skip (decide ((x2.toNat : Int) = 48)) rfl b53 ?_
        refine sg_skip (decide ((x2.toNat : Int) = 48)) rfl b53 ?_
        refine sg_skip (decide ((x2.toNat : Int) = 48)) rfl b53 ?_
        refine sg_skip (decide ((x2.toNat : Int) = 48)) rfl b53 ?_
        refine sg_run x13 rfl b24 ?_
        refine sp (.bool false) rfl (e_pick_f rfl b53 rfl) ?_
        refine sp (.bool false) rfl (e_pick_f rfl b24 rfl) ?_
        refine sx ?_
        refine cn ?_
        exact platenref21_machine_feed_j28_ok k x2 false x15 h rfl rfl rfl   I
theorem platenref21_machine_feed_j68_ok (k : Nat) (x2 : UInt8) (x71 : Bool) (x72 : S_platenref21_machine) {r : (Int × S_platenref21_machine)}  {r0 : Nat} {tm : List (Nat × AV)} {σ : St} {B : List (Nat × Blk)} {O : List AV}
    (h : platenref21_machine_feed_j68 k x2 x71 x72 = some r)
    (e0 : lk tm 0 = some (.blk r0 0))
    (e1 : lk tm 1 = some (u8 x2))
    (e87 : lk tm 87 = some (.bool x71))
    (I : Inv σ ((r0, .cells [u8 x72.state, .bool x72.chosen, u8 x72.c.Kind, u8 x72.c.Reg, .int .i64 x72.c.N, u8 x72.c.Op, u8 x72.c.M.Key, u8 x72.c.M.Sign, .int .i64 x72.c.M.N, u8 x72.c.Key, u8 x72.c.Sign, .int .i64 x72.n, .int .i64 x72.k]) :: B) (O)) :
    RunC kE k17c68 ⟨tm, σ⟩ (Cont kE k17c83 (BlkQ 0 (Cont kE k17c87 (ResP (E := kE) k17.res (fun v σ' => v = .int .i64 r.1 ∧ Inv σ' ((r0, .cells [u8 r.2.state, .bool r.2.chosen, u8 r.2.c.Kind, u8 r.2.c.Reg, .int .i64 r.2.c.N, u8 r.2.c.Op, u8 r.2.c.M.Key, u8 r.2.c.M.Sign, .int .i64 r.2.c.M.N, u8 r.2.c.Key, u8 r.2.c.Sign, .int .i64 r.2.n, .int .i64 r.2.k]) :: B) (O)))))) := by
  unfold platenref21_machine_feed_j68 at h
  refine c_keep (keep_cons e0 (keep_cons e1 (keep_cons e87 keep_nil))) ?_
  rcases bool_tf x71 with b73 | b73
  · have h := ite_t h b73
    refine c_cond_t x71 rfl b73 ?_
    refine c_seq ?_
    refine c_reg ?_
    refine sp (.blk r0 0) rfl rfl ?_
    refine sp (.blk r0 0) rfl rfl ?_
    refine sp (.blk r0 0) rfl rfl ?_
    refine sp (.blk r0 12) rfl rfl ?_
    refine sp (.int .i64 x72.k) rfl (e_load I 0 12 rfl rfl rfl) ?_
    refine sp (u8 x2) rfl rfl ?_
    obtain ⟨a74, g75, h⟩ := bind_some h
    refine st_callc (platenref21_digit_ok k _ _ _ g75 ) rfl ?_
    intro v76 q77
    obtain ⟨v78, v80, rfl, q79, q81⟩ := q77
    obtain rfl := q79
    obtain rfl := q81
    refine sp (.tuple [.int .i64 a74.1, .bool a74.2]) rfl rfl ?_
    refine sp (.int .i64 a74.1) rfl rfl ?_
    refine sp (.bool a74.2) rfl rfl ?_
    refine sp (.blk r0 0) rfl rfl ?_
    refine sp (.blk r0 12) rfl rfl ?_
    refine st_store I 0 12 (cs' := [u8 x72.state, .bool x72.chosen, u8 x72.c.Kind, u8 x72.c.Reg, .int .i64 x72.c.N, u8 x72.c.Op, u8 x72.c.M.Key, u8 x72.c.M.Sign, .int .i64 x72.c.M.N, u8 x72.c.Key, u8 x72.c.Sign, .int .i64 x72.n, .int .i64 a74.1]) (bs' := (r0, .cells [u8 x72.state, .bool x72.chosen, u8 x72.c.Kind, u8 x72.c.Reg, .int .i64 x72.c.N, u8 x72.c.Op, u8 x72.c.M.Key, u8 x72.c.M.Sign, .int .i64 x72.c.M.N, u8 x72.c.Key, u8 x72.c.Sign, .int .i64 x72.n, .int .i64 a74.1]) :: B) rfl rfl rfl rfl rfl (Nat.le_of_ble_eq_true rfl) rfl rfl ?_
    intro σ83 I82
    refine sp (.bool a74.2) rfl rfl ?_
    refine sx ?_
    refine cn ?_
    refine c_keep (keep_cons rfl (keep_cons rfl keep_nil)) ?_
    refine c_seq ?_
    refine c_seq ?_
    refine c_reg ?_
    refine sp (.bool a74.2) rfl rfl ?_
    refine sp (.bool (!a74.2)) rfl rfl ?_
    refine sp (.bool (!a74.2)) rfl rfl ?_
    rcases bool_tf (!a74.2) with b84 | b84
    · have h := ite_t h b84
      refine sg_skip (!a74.2) rfl b84 ?_
      refine sg_skip (!a74.2) rfl b84 ?_
      refine sg_skip (!a74.2) rfl b84 ?_
      refine sg_skip (!a74.2) rfl b84 ?_
      refine sg_skip (!a74.2) rfl b84 ?_
      refine sg_skip (!a74.2) rfl b84 ?_
      refine sg_undef rfl ?_
      refine sg_undef rfl ?_
      refine sg_undef rfl ?_
      refine sg_undef rfl ?_
      refine sg_undef rfl ?_
      refine sg_undef rfl ?_
      refine sg_undef rfl ?_
      refine sg_undef rfl ?_
      refine sg_undef rfl ?_
      refine sg_undef rfl ?_
      refine sg_skip (!a74.2) rfl b84 ?_
      refine sp (.bool true) rfl (e_pick_t rfl b84 rfl) ?_
      refine sx ?_
      refine cn ?_
      refine c_keep (keep_cons rfl keep_nil) ?_
      refine c_cond_t true rfl rfl ?_
      refine c_seq ?_
      refine c_reg ?_
      refine sp (.int .i64 2) rfl rfl ?_
      refine sx ?_
      refine cn ?_
      refine c_ret ?_
      refine cr ?_
      refine cr ?_
      refine br ?_
      refine cr ?_
      obtain rfl := some_eq h
      exact rr (vs := [.int .i64 2]) (res_c (resp_t rfl) res_nil) ⟨rfl, I82⟩
    · have h := ite_f h b84
      refine sg_run (!a74.2) rfl b84 ?_
      refine sp (.blk r0 0) rfl rfl ?_
      refine sg_run (!a74.2) rfl b84 ?_
      refine sp (.blk r0 0) rfl rfl ?_
      refine sg_run (!a74.2) rfl b84 ?_
      refine sp (.blk r0 11) rfl rfl ?_
      refine sg_run (!a74.2) rfl b84 ?_
      refine sp (.int .i64 x72.n) rfl (e_load I82 0 11 rfl rfl rfl) ?_
      refine sg_run (!a74.2) rfl b84 ?_
      refine sp (.bool (decide (0 < x72.n))) rfl rfl ?_
      refine sg_run (!a74.2) rfl b84 ?_
      refine sp (.bool (decide (0 < x72.n))) rfl rfl ?_
      rcases bool_tf (decide (0 < x72.n)) with b85 | b85
      · have h := ite_t h b85
        refine sg_run (decide (0 < x72.n)) rfl b85 ?_
        refine sp (.blk r0 0) rfl rfl ?_
        refine sg_run (decide (0 < x72.n)) rfl b85 ?_
        refine sp (.blk r0 0) rfl rfl ?_
        refine sg_run (decide (0 < x72.n)) rfl b85 ?_
        refine sp (.blk r0 12) rfl rfl ?_
        refine sg_run (decide (0 < x72.n)) rfl b85 ?_
        refine sp (.int .i64 a74.1) rfl (e_load I82 0 12 rfl rfl rfl) ?_
        refine sg_run (decide (0 < x72.n)) rfl b85 ?_
        refine sp (.blk r0 0) rfl rfl ?_
        refine sg_run (decide (0 < x72.n)) rfl b85 ?_
        refine sp (.blk r0 0) rfl rfl ?_
        refine sg_run (decide (0 < x72.n)) rfl b85 ?_
        refine sp (.blk r0 11) rfl rfl ?_
        refine sg_run (decide (0 < x72.n)) rfl b85 ?_
        refine sp (.int .i64 x72.n) rfl (e_load I82 0 11 rfl rfl rfl) ?_
        refine sg_run (decide (0 < x72.n)) rfl b85 ?_
        refine sp (.int .i64 (IntKind.i64.wrap (a74.1 * x72.n))) rfl rfl ?_
        refine sg_run (decide (0 < x72.n)) rfl b85 ?_
        refine sp (.bool (decide (9999 < (IntKind.i64.wrap (a74.1 * x72.n))))) rfl rfl ?_
        refine sg_run (!a74.2) rfl b84 ?_
        refine sp (.bool (decide (9999 < (IntKind.i64.wrap (a74.1 * x72.n))))) rfl (e_pick_t rfl b85 rfl) ?_
        refine sp (.bool (decide (9999 < (IntKind.i64.wrap (a74.1 * x72.n))))) rfl (e_pick_f rfl b84 rfl) ?_
        refine sx ?_
        refine cn ?_
        refine c_keep (keep_cons rfl keep_nil) ?_
        rcases bool_tf (decide (9999 < (IntKind.i64.wrap (a74.1 * x72.n)))) with b86 | b86
        · have h := ite_t h b86
          refine c_cond_t (decide (9999 < (IntKind.i64.wrap (a74.1 * x72.n)))) rfl b86 ?_
          refine c_seq ?_
          refine c_reg ?_
          refine sp (.int .i64 2) rfl rfl ?_
          refine sx ?_
          refine cn ?_
          refine c_ret ?_
          refine cr ?_
          refine cr ?_
          refine br ?_
          refine cr ?_
          obtain rfl := some_eq h
          exact rr (vs := [.int .i64 2]) (res_c (resp_t rfl) res_nil) ⟨rfl, I82⟩
        · have h := ite_f h b86
          refine c_cond_f (decide (9999 < (IntKind.i64.wrap (a74.1 * x72.n)))) rfl b86 ?_
          refine c_skip ?_
          refine cn ?_
          refine c_keep keep_nil ?_
          refine c_seq ?_
          refine c_reg ?_
          refine sp (.int .i64 1) rfl rfl ?_
          refine sx ?_
          refine cn ?_
          refine c_ret ?_
          refine cr ?_
          refine br ?_
          refine cr ?_
          obtain rfl := some_eq h
          exact rr (vs := [.int .i64 1]) (res_c (resp_t rfl) res_nil) ⟨rfl, I82⟩
      · have h := ite_f h b85
        refine sg_skip (decide (0 < x72.n)) rfl b85 ?_
        refine sg_skip (decide (0 < x72.n)) rfl b85 ?_
        refine sg_skip (decide (0 < x72.n)) rfl b85 ?_
        refine sg_skip (decide (0 < x72.n)) rfl b85 ?_
        refine sg_skip (decide (0 < x72.n)) rfl b85 ?_
        refine sg_skip (decide (0 < x72.n)) rfl b85 ?_
        refine sg_skip (decide (0 < x72.n)) rfl b85 ?_
        refine sg_skip (decide (0 < x72.n)) rfl b85 ?_
        refine sg_skip (decide (0 < x72.n)) rfl b85 ?_
        refine sg_skip (decide (0 < x72.n)) rfl b85 ?_
        refine sg_run (!a74.2) rfl b84 ?_
        refine sp (.bool false) rfl (e_pick_f rfl b85 rfl) ?_
        refine sp (.bool false) rfl (e_pick_f rfl b84 rfl) ?_
        refine sx ?_
        refine cn ?_
        refine c_keep (keep_cons rfl keep_nil) ?_
        refine c_cond_f false rfl rfl ?_
        refine c_skip ?_
        refine cn ?_
        refine c_keep keep_nil ?_
        refine c_seq ?_
        refine c_reg ?_
        refine sp (.int .i64 1) rfl rfl ?_
        refine sx ?_
        refine cn ?_
        refine c_ret ?_
        refine cr ?_
        refine br ?_
        refine cr ?_
        obtain rfl := some_eq h
        exact rr (vs := [.int .i64 1]) (res_c (resp_t rfl) res_nil) ⟨rfl, I82⟩
  · have h := ite_f h b73
    refine c_cond_f x71 rfl b73 ?_
    refine c_skip ?_
    refine cn ?_
    refine c_keep (keep_cons rfl (keep_cons rfl keep_nil)) ?_
    refine c_seq ?_
    refine c_reg ?_
    refine sp (.blk r0 0) rfl rfl ?_
    refine sp (u8 x2) rfl rfl ?_
    obtain ⟨a87, g88, h⟩ := bind_some h
    refine st_call (platenref21_machine_behind_ok k _ _ _ g88  I) rfl ?_
    intro v89 σ91 q90
    obtain ⟨q93, I92⟩ := q90
    obtain rfl := q93
    refine sp (.int .i64 a87.1) rfl rfl ?_
    refine sx ?_
    refine cn ?_
    refine c_ret ?_
    refine br ?_
    refine cr ?_
    obtain rfl := some_eq h
    exact rr (vs := [.int .i64 a87.1]) (res_c (resp_t rfl) res_nil) ⟨rfl, I92⟩
theorem platenref21_machine_feed_j16_ok (k : Nat) (x2 : UInt8) (x7 : Bool) (x8 : UInt8) (x9 : Bool) (x10 : S_platenref21_machine) {r : (Int × S_platenref21_machine)}  {r0 : Nat} {tm : List (Nat × AV)} {σ : St} {B : List (Nat × Blk)} {O : List AV}
    (h : platenref21_machine_feed_j16 k x2 x7 x8 x9 x10 = some r)
    (e0 : lk tm 0 = some (.blk r0 0))
    (e1 : lk tm 1 = some (u8 x2))
    (e6 : lk tm 6 = some (.bool x7))
    (e16 : lk tm 16 = some (u8 x8))
    (e17 : lk tm 17 = some (.bool x9))
    (I : Inv σ ((r0, .cells [u8 x10.state, .bool x10.chosen, u8 x10.c.Kind, u8 x10.c.Reg, .int .i64 x10.c.N, u8 x10.c.Op, u8 x10.c.M.Key, u8 x10.c.M.Sign, .int .i64 x10.c.M.N, u8 x10.c.Key, u8 x10.c.Sign, .int .i64 x10.n, .int .i64 x10.k]) :: B) (O)) :
    RunC kE k17c16 ⟨tm, σ⟩ (BlkQ 0 (Cont kE k17c87 (ResP (E := kE) k17.res (fun v σ' => v = .int .i64 r.1 ∧ Inv σ' ((r0, .cells [u8 r.2.state, .bool r.2.chosen, u8 r.2.c.Kind, u8 r.2.c.Reg, .int .i64 r.2.c.N, u8 r.2.c.Op, u8 r.2.c.M.Key, u8 r.2.c.M.Sign, .int .i64 r.2.c.M.N, u8 r.2.c.Key, u8 r.2.c.Sign, .int .i64 r.2.n, .int .i64 r.2.k]) :: B) (O))))) := by
  unfold platenref21_machine_feed_j16 at h
  refine c_keep (keep_cons e0 (keep_cons e1 (keep_cons e6 (keep_cons e16 (keep_cons e17 keep_nil))))) ?_
  rcases bool_tf x9 with b11 | b11
  · have h := ite_t h b11
    refine c_cond_t x9 rfl b11 ?_
    refine c_seq ?_
    refine c_seq ?_
    refine c_reg ?_
    refine sp (u8 x2) rfl rfl ?_
    refine sp (.bool (decide ((x2.toNat : Int) = 34))) rfl rfl ?_
    refine sp (.bool (decide ((x2.toNat : Int) = 34))) rfl rfl ?_
    rcases bool_tf (decide ((x2.toNat : Int) = 34)) with b12 | b12
    · have h := ite_t h b12
      refine sg_run (decide ((x2.toNat : Int) = 34)) rfl b12 ?_
      refine sp (.blk r0 0) rfl rfl ?_
      refine sg_run (decide ((x2.toNat : Int) = 34)) rfl b12 ?_
      refine sp (.blk r0 0) rfl rfl ?_
      refine sg_run (decide ((x2.toNat : Int) = 34)) rfl b12 ?_
      refine sp (.blk r0 0) rfl rfl ?_
      refine sg_run (decide ((x2.toNat : Int) = 34)) rfl b12 ?_
      refine sp (u8 x10.state) rfl (e_load I 0 0 rfl rfl rfl) ?_
      refine sg_run (decide ((x2.toNat : Int) = 34)) rfl b12 ?_
      refine sp (.bool (decide ((x10.state.toNat : Int) = 0))) rfl rfl ?_
      refine sp (.bool (decide ((x10.state.toNat : Int) = 0))) rfl (e_pick_t rfl b12 rfl) ?_
      refine sx ?_
      refine cn ?_
      exact platenref21_machine_feed_j20_ok k x2 x7 (decide ((x10.state.toNat : Int) = 0)) x10 h rfl rfl rfl rfl   I
    · have h := ite_f h b12
      refine sg_skip (decide ((x2.toNat : Int) = 34)) rfl b12 ?_
      refine sg_skip (decide ((x2.toNat : Int) = 34)) rfl b12 ?_
      refine sg_skip (decide ((x2.toNat : Int) = 34)) rfl b12 ?_
      refine sg_skip (decide ((x2.toNat : Int) = 34)) rfl b12 ?_
      refine sg_skip (decide ((x2.toNat : Int) = 34)) rfl b12 ?_
      refine sp (.bool false) rfl (e_pick_f rfl b12 rfl) ?_
      refine sx ?_
      refine cn ?_
      exact platenref21_machine_feed_j20_ok k x2 x7 false x10 h rfl rfl rfl rfl   I
  · have h := ite_f h b11
    refine c_cond_f x9 rfl b11 ?_
    refine c_seq ?_
    refine c_reg ?_
    refine sp (.bool (decide ((x8.toNat : Int) = 1))) rfl rfl ?_
    refine sp (.bool (decide ((x8.toNat : Int) = 1))) rfl rfl ?_
    refine sx ?_
    refine cn ?_
    refine c_keep (keep_cons rfl (keep_cons rfl (keep_cons rfl (keep_cons rfl (keep_cons rfl keep_nil))))) ?_
    rcases bool_tf (decide ((x8.toNat : Int) = 1)) with b54 | b54
    · have h := ite_t h b54
      refine c_cond_t (decide ((x8.toNat : Int) = 1)) rfl b54 ?_
      refine c_seq ?_
      refine c_reg ?_
      refine sp (.blk r0 0) rfl rfl ?_
      refine sp (u8 x2) rfl rfl ?_
      refine sp (.blk r0 0) rfl rfl ?_
      refine sp (.blk r0 2) rfl rfl ?_
      refine sp (.blk r0 3) rfl rfl ?_
      refine st_store I 0 3 (cs' := [u8 x10.state, .bool x10.chosen, u8 x10.c.Kind, u8 x2, .int .i64 x10.c.N, u8 x10.c.Op, u8 x10.c.M.Key, u8 x10.c.M.Sign, .int .i64 x10.c.M.N, u8 x10.c.Key, u8 x10.c.Sign, .int .i64 x10.n, .int .i64 x10.k]) (bs' := (r0, .cells [u8 x10.state, .bool x10.chosen, u8 x10.c.Kind, u8 x2, .int .i64 x10.c.N, u8 x10.c.Op, u8 x10.c.M.Key, u8 x10.c.M.Sign, .int .i64 x10.c.M.N, u8 x10.c.Key, u8 x10.c.Sign, .int .i64 x10.n, .int .i64 x10.k]) :: B) rfl rfl rfl rfl rfl (Nat.le_of_ble_eq_true rfl) rfl rfl ?_
      intro σ56 I55
      refine sx ?_
      refine cn ?_
      refine c_keep (keep_cons rfl (keep_cons rfl keep_nil)) ?_
      refine c_seq ?_
      refine c_seq ?_
      refine c_reg ?_
      refine sp (u8 x2) rfl rfl ?_
      obtain ⟨a57, g58, h⟩ := bind_some h
      refine st_callc (platenref21_letter_ok k _ _ g58 ) rfl ?_
      intro v59 q60
      obtain rfl := q60
      refine sp (.bool (!a57)) rfl rfl ?_
      refine sx ?_
      refine cn ?_
      refine c_keep (keep_cons rfl (keep_cons rfl keep_nil)) ?_
      rcases bool_tf (!a57) with b61 | b61
      · have h := ite_t h b61
        refine c_cond_t (!a57) rfl b61 ?_
        refine c_seq ?_
        refine c_reg ?_
        refine sp (.int .i64 2) rfl rfl ?_
        refine sx ?_
        refine cn ?_
        refine c_ret ?_
        refine cr ?_
        refine br ?_
        refine cr ?_
        obtain rfl := some_eq h
        exact rr (vs := [.int .i64 2]) (res_c (resp_t rfl) res_nil) ⟨rfl, I55⟩
      · have h := ite_f h b61
        refine c_cond_f (!a57) rfl b61 ?_
        refine c_skip ?_
        refine cn ?_
        refine c_keep (keep_cons rfl keep_nil) ?_
        refine c_seq ?_
        refine c_reg ?_
        refine sp (.blk r0 0) rfl rfl ?_
        obtain ⟨a62, g63, h⟩ := bind_some h
        refine st_call (platenref21_machine_more_ok k _ _ _ g63  I55) rfl ?_
        intro v64 σ66 q65
        obtain ⟨q68, I67⟩ := q65
        obtain rfl := q68
        refine sp (.int .i64 a62.1) rfl rfl ?_
        refine sx ?_
        refine cn ?_
        refine c_ret ?_
        refine br ?_
        refine cr ?_
        obtain rfl := some_eq h
        exact rr (vs := [.int .i64 a62.1]) (res_c (resp_t rfl) res_nil) ⟨rfl, I67⟩
    · have h := ite_f h b54
      refine c_cond_f (decide ((x8.toNat : Int) = 1)) rfl b54 ?_
      refine c_seq ?_
      refine c_reg ?_
      refine sp (.bool (decide ((x8.toNat : Int) = 3))) rfl rfl ?_
      refine sp (.bool (decide ((x8.toNat : Int) = 3))) rfl rfl ?_
      refine sx ?_
      refine cn ?_
      refine c_keep (keep_cons rfl (keep_cons rfl (keep_cons rfl (keep_cons rfl keep_nil)))) ?_
      rcases bool_tf (decide ((x8.toNat : Int) = 3)) with b69 | b69
      · have h := ite_t h b69
        refine c_cond_t (decide ((x8.toNat : Int) = 3)) rfl b69 ?_
        refine c_seq ?_
        refine c_seq ?_
        refine c_reg ?_
        refine sp (.bool x7) rfl rfl ?_
        refine sp (.bool x7) rfl rfl ?_
        rcases bool_tf x7 with b70 | b70
        · have h := ite_t h b70
          refine sg_skip x7 rfl b70 ?_
          refine sg_skip x7 rfl b70 ?_
          refine sg_skip x7 rfl b70 ?_
          refine sg_undef rfl ?_
          refine sg_undef rfl ?_
          refine sg_undef rfl ?_
          refine sg_undef rfl ?_
          refine sg_undef rfl ?_
          refine sg_skip x7 rfl b70 ?_
          refine sp (.bool true) rfl (e_pick_t rfl b70 rfl) ?_
          refine sx ?_
          refine cn ?_
          exact platenref21_machine_feed_j68_ok k x2 true x10 h rfl rfl rfl   I
        · have h := ite_f h b70
          refine sg_run x7 rfl b70 ?_
          refine sp (u8 x2) rfl rfl ?_
          refine sg_run x7 rfl b70 ?_
          refine sp (.bool (decide ((x2.toNat : Int) = 48))) rfl rfl ?_
          refine sg_run x7 rfl b70 ?_
          refine sp (.bool (decide ((x2.toNat : Int) = 48))) rfl rfl ?_
          rcases bool_tf (decide ((x2.toNat : Int) = 48)) with b94 | b94
          · have h := ite_t h b94
            refine sg_run (decide ((x2.toNat : Int) = 48)) rfl b94 ?_
            refine sp (.blk r0 0) rfl rfl ?_
            refine sg_run (decide ((x2.toNat : Int) = 48)) rfl b94 ?_
            refine sp (.blk r0 0) rfl rfl ?_
            refine sg_run (decide ((x2.toNat : Int) = 48)) rfl b94 ?_
            refine sp (.blk r0 12) rfl rfl ?_
            refine sg_run (decide ((x2.toNat : Int) = 48)) rfl b94 ?_
            refine sp (.int .i64 x10.k) rfl (e_load I 0 12 rfl rfl rfl) ?_
            refine sg_run (decide ((x2.toNat : Int) = 48)) rfl b94 ?_
            refine sp (.bool (decide (0 < x10.k))) rfl rfl ?_
            refine sg_run x7 rfl b70 ?_
            refine sp (.bool (decide (0 < x10.k))) rfl (e_pick_t rfl b94 rfl) ?_
            refine sp (.bool (decide (0 < x10.k))) rfl (e_pick_f rfl b70 rfl) ?_
            refine sx ?_
            refine cn ?_
            exact platenref21_machine_feed_j68_ok k x2 (decide (0 < x10.k)) x10 h rfl rfl rfl   I
          · have h := ite_f h b94
            refine sg_skip (decide ((x2.toNat : Int) = 48)) rfl b94 ?_
            refine sg_skip (decide ((x2.toNat : Int) = 48)) rfl b94 ?_
            refine sg_skip (decide ((x2.toNat : Int) = 48)) rfl b94 ?_
            refine sg_skip (decide ((x2.toNat : Int) = 48)) rfl b94 ?_
            refine sg_skip (decide ((x2.toNat : Int) = 48)) rfl b94 ?_
            refine sg_run x7 rfl b70 ?_
            refine sp (.bool false) rfl (e_pick_f rfl b94 rfl) ?_
            refine sp (.bool false) rfl (e_pick_f rfl b70 rfl) ?_
            refine sx ?_
            refine cn ?_
            exact platenref21_machine_feed_j68_ok k x2 false x10 h rfl rfl rfl   I
      · have h := ite_f h b69
        refine c_cond_f (decide ((x8.toNat : Int) = 3)) rfl b69 ?_
        refine c_skip ?_
        refine bn ?_
        refine cn ?_
        refine c_keep (keep_cons rfl (keep_cons rfl keep_nil)) ?_
        refine c_seq ?_
        refine c_reg ?_
        refine sp (.blk r0 0) rfl rfl ?_
        refine sp (u8 x2) rfl rfl ?_
        obtain ⟨a95, g96, h⟩ := bind_some h
        refine st_call (platenref21_machine_last_ok k _ _ _ g96  I) rfl ?_
        intro v97 σ99 q98
        obtain ⟨q101, I100⟩ := q98
        obtain rfl := q101
        refine sp (.int .i64 a95.1) rfl rfl ?_
        refine sx ?_
        refine cn ?_
        refine c_ret ?_
        obtain rfl := some_eq h
        exact rr (vs := [.int .i64 a95.1]) (res_c (resp_t rfl) res_nil) ⟨rfl, I100⟩
theorem platenref21_machine_feed_j6_ok (k : Nat) (x2 : UInt8) (x4 : Bool) (x5 : S_platenref21_machine) {r : (Int × S_platenref21_machine)}  {r0 : Nat} {tm : List (Nat × AV)} {σ : St} {B : List (Nat × Blk)} {O : List AV}
    (h : platenref21_machine_feed_j6 k x2 x4 x5 = some r)
    (e0 : lk tm 0 = some (.blk r0 0))
    (e1 : lk tm 1 = some (u8 x2))
    (e6 : lk tm 6 = some (.bool x4))
    (I : Inv σ ((r0, .cells [u8 x5.state, .bool x5.chosen, u8 x5.c.Kind, u8 x5.c.Reg, .int .i64 x5.c.N, u8 x5.c.Op, u8 x5.c.M.Key, u8 x5.c.M.Sign, .int .i64 x5.c.M.N, u8 x5.c.Key, u8 x5.c.Sign, .int .i64 x5.n, .int .i64 x5.k]) :: B) (O)) :
    RunC kE k17c6 ⟨tm, σ⟩ (ResP (E := kE) k17.res (fun v σ' => v = .int .i64 r.1 ∧ Inv σ' ((r0, .cells [u8 r.2.state, .bool r.2.chosen, u8 r.2.c.Kind, u8 r.2.c.Reg, .int .i64 r.2.c.N, u8 r.2.c.Op, u8 r.2.c.M.Key, u8 r.2.c.M.Sign, .int .i64 r.2.c.M.N, u8 r.2.c.Key, u8 r.2.c.Sign, .int .i64 r.2.n, .int .i64 r.2.k]) :: B) (O))) := by
  unfold platenref21_machine_feed_j6 at h
  refine c_keep (keep_cons e0 (keep_cons e1 (keep_cons e6 keep_nil))) ?_
  refine c_seq ?_
  refine c_seq ?_
  refine c_reg ?_
  refine sp (.blk r0 0) rfl rfl ?_
  refine sp (.blk r0 0) rfl rfl ?_
  refine sp (.blk r0 0) rfl rfl ?_
  refine sp (u8 x5.state) rfl (e_load I 0 0 rfl rfl rfl) ?_
  refine sx ?_
  refine cn ?_
  refine c_keep (keep_cons rfl (keep_cons rfl (keep_cons rfl (keep_cons rfl keep_nil)))) ?_
  refine c_block ?_
  refine c_seq ?_
  refine c_seq ?_
  refine c_reg ?_
  refine sp (.bool (decide ((x5.state.toNat : Int) = 0))) rfl rfl ?_
  refine sp (.bool (decide ((x5.state.toNat : Int) = 0))) rfl rfl ?_
  refine sx ?_
  refine cn ?_
  refine c_keep (keep_cons rfl (keep_cons rfl (keep_cons rfl (keep_cons rfl (keep_cons rfl keep_nil))))) ?_
  rcases bool_tf (decide ((x5.state.toNat : Int) = 0)) with b6 | b6
  · have h := ite_t h b6
    refine c_cond_t (decide ((x5.state.toNat : Int) = 0)) rfl b6 ?_
    refine c_skip ?_
    refine cn ?_
    exact platenref21_machine_feed_j16_ok k x2 x4 x5.state (decide ((x5.state.toNat : Int) = 0)) x5 h rfl rfl rfl rfl rfl   I
  · have h := ite_f h b6
    refine c_cond_f (decide ((x5.state.toNat : Int) = 0)) rfl b6 ?_
    refine c_reg ?_
    refine sp (.bool (decide ((x5.state.toNat : Int) = 2))) rfl rfl ?_
    refine sp (.bool (decide ((x5.state.toNat : Int) = 2))) rfl rfl ?_
    refine sx ?_
    refine cn ?_
    exact platenref21_machine_feed_j16_ok k x2 x4 x5.state (decide ((x5.state.toNat : Int) = 2)) x5 h rfl rfl rfl rfl rfl   I
theorem platenref21_machine_feed_ok (k : Nat) (x1 : S_platenref21_machine) (x2 : UInt8) (r : (Int × S_platenref21_machine))  {r0 : Nat} {σ : St} {B : List (Nat × Blk)} {O : List AV}
    (h : platenref21_machine_feed k x1 x2 = some r)
    (I : Inv σ ((r0, .cells [u8 x1.state, .bool x1.chosen, u8 x1.c.Kind, u8 x1.c.Reg, .int .i64 x1.c.N, u8 x1.c.Op, u8 x1.c.M.Key, u8 x1.c.M.Sign, .int .i64 x1.c.M.N, u8 x1.c.Key, u8 x1.c.Sign, .int .i64 x1.n, .int .i64 x1.k]) :: B) (O)) :
    RunF kE 17 [.blk r0 0, u8 x2] σ (fun v σ' => v = .int .i64 r.1 ∧ Inv σ' ((r0, .cells [u8 r.2.state, .bool r.2.chosen, u8 r.2.c.Kind, u8 r.2.c.Reg, .int .i64 r.2.c.N, u8 r.2.c.Op, u8 r.2.c.M.Key, u8 r.2.c.M.Sign, .int .i64 r.2.c.M.N, u8 r.2.c.Key, u8 r.2.c.Sign, .int .i64 r.2.n, .int .i64 r.2.k]) :: B) (O)) := by
  refine f_plain rfl rfl rfl rfl ?_
  unfold platenref21_machine_feed at h
  refine c_seq ?_
  refine c_reg ?_
  refine sp (.int .i64 0) rfl rfl ?_
  refine sx ?_
  refine cn ?_
  refine c_keep (keep_cons rfl (keep_cons rfl keep_nil)) ?_
  refine c_seq ?_
  refine c_reg ?_
  refine sp (.bool true) rfl rfl ?_
  refine sx ?_
  refine cn ?_
  refine c_keep (keep_cons rfl (keep_cons rfl keep_nil)) ?_
  refine c_seq ?_
  refine c_reg ?_
  refine sp (u8 x2) rfl rfl ?_
  refine sp (.bool (decide (49 ≤ (x2.toNat : Int)))) rfl rfl ?_
  refine sp (.bool (decide (49 ≤ (x2.toNat : Int)))) rfl rfl ?_
  rcases bool_tf (decide (49 ≤ (x2.toNat : Int))) with b3 | b3
  · have h := ite_t h b3
    refine sg_run (decide (49 ≤ (x2.toNat : Int))) rfl b3 ?_
    refine sp (u8 x2) rfl rfl ?_
    refine sg_run (decide (49 ≤ (x2.toNat : Int))) rfl b3 ?_
    refine sp (.bool (decide ((x2.toNat : Int) ≤ 57))) rfl rfl ?_
    refine sp (.bool (decide ((x2.toNat : Int) ≤ 57))) rfl (e_pick_t rfl b3 rfl) ?_
    refine sp (.bool (decide ((x2.toNat : Int) ≤ 57))) rfl rfl ?_
    refine sx ?_
    refine cn ?_
    exact platenref21_machine_feed_j6_ok k x2 (decide ((x2.toNat : Int) ≤ 57)) x1 h rfl rfl rfl   I
  · have h := ite_f h b3
    refine sg_skip (decide (49 ≤ (x2.toNat : Int))) rfl b3 ?_
    refine sg_skip (decide (49 ≤ (x2.toNat : Int))) rfl b3 ?_
    refine sp (.bool false) rfl (e_pick_f rfl b3 rfl) ?_
    refine sp (.bool false) rfl rfl ?_
    refine sx ?_
    refine cn ?_
    exact platenref21_machine_feed_j6_ok k x2 false x1 h rfl rfl rfl   I
/- platen.platenref21.Read -/
def platenref21_Read_l10 (x1 : List UInt8) : Nat → Int → Int → S_keys_Cmd → S_platenref21_machine → Option (((Int × S_keys_Cmd) ⊕ (Int × S_keys_Cmd × S_platenref21_machine)))
  | 0, _, _, _, _ => none
  | k + 1, x13, x14, x15, x16 => if decide (x14 < (x1.length : Int)) then (if !decide (x13 = 1) then (some (Sum.inl (2, (⟨(0 : UInt8), (0 : UInt8), 0, (0 : UInt8), (⟨(0 : UInt8), (0 : UInt8), 0⟩ : S_api_Motion), (0 : UInt8), (0 : UInt8)⟩ : S_keys_Cmd)))) else ((lIdx x1 x14).bind fun a24 => (platenref21_machine_feed k x16 a24).bind fun a32 => platenref21_Read_l10 x1 k a32.1 (IntKind.i64.wrap (x14 + 1)) x15 a32.2)) else (some (Sum.inr (x13, x15, x16)))
def platenref21_Read (k : Nat) (x1 : List UInt8) (x4 : Bool) : Option ((S_keys_Cmd × Int)) :=
  (platenref21_Read_l10 x1 k 1 0 (⟨(0 : UInt8), (0 : UInt8), 0, (0 : UInt8), (⟨(0 : UInt8), (0 : UInt8), 0⟩ : S_api_Motion), (0 : UInt8), (0 : UInt8)⟩ : S_keys_Cmd) (⟨(0 : UInt8), x4, (⟨(0 : UInt8), (0 : UInt8), 0, (0 : UInt8), (⟨(0 : UInt8), (0 : UInt8), 0⟩ : S_api_Motion), (0 : UInt8), (0 : UInt8)⟩ : S_keys_Cmd), 0, 0⟩ : S_platenref21_machine)).bind fun a45 => (match a45 with | .inl (x21, x22) => (some (x22, x21)) | .inr (x41, x42, x43) => (if !decide (x41 = 0) then (some ((⟨(0 : UInt8), (0 : UInt8), 0, (0 : UInt8), (⟨(0 : UInt8), (0 : UInt8), 0⟩ : S_api_Motion), (0 : UInt8), (0 : UInt8)⟩ : S_keys_Cmd), x41)) else (some (x43.c, 0))))
theorem platenref21_Read_l10_ok (x1 : List UInt8) {out : ((Int × S_keys_Cmd) ⊕ (Int × S_keys_Cmd × S_platenref21_machine))} {v2 : AV} {r5 : Nat} {r9 : Nat} {Q : Ex → M → Prop} {B : List (Nat × Blk)} {O : List AV}
    (s3 : SL RU8 1 x1 v2)
    (hL0 : ∀ (x21 : Int) (x22 : S_keys_Cmd) (tm : List (Nat × AV)) (σ : St), lk tm 4 = some (.blk r5 0) → lk tm 5 = some (.int .i64 x21) → Inv σ ((r5, .cells [u8 x22.Kind, u8 x22.Reg, .int .i64 x22.N, u8 x22.Op, u8 x22.M.Key, u8 x22.M.Sign, .int .i64 x22.M.N, u8 x22.Key, u8 x22.Sign]) :: B) (O) → (Sum.inl (x21, x22)) = out → Q .ret ⟨tm, σ⟩)
    (hL1 : ∀ (x41 : Int) (x42 : S_keys_Cmd) (x43 : S_platenref21_machine) (tm : List (Nat × AV)) (σ : St), lk tm 4 = some (.blk r5 0) → lk tm 6 = some (.blk r9 0) → lk tm 7 = some (.int .i64 x41) → Inv σ ((r5, .cells [u8 x42.Kind, u8 x42.Reg, .int .i64 x42.N, u8 x42.Op, u8 x42.M.Key, u8 x42.M.Sign, .int .i64 x42.M.N, u8 x42.Key, u8 x42.Sign]) :: (r9, .cells [u8 x43.state, .bool x43.chosen, u8 x43.c.Kind, u8 x43.c.Reg, .int .i64 x43.c.N, u8 x43.c.Op, u8 x43.c.M.Key, u8 x43.c.M.Sign, .int .i64 x43.c.M.N, u8 x43.c.Key, u8 x43.c.Sign, .int .i64 x43.n, .int .i64 x43.k]) :: B) (O) → (Sum.inr (x41, x42, x43)) = out → Q (.exit 0) ⟨tm, σ⟩) :
    ∀ (k : Nat) (x13 : Int) (x14 : Int) (x15 : S_keys_Cmd) (x16 : S_platenref21_machine)  (tm : List (Nat × AV)) (σ : St), platenref21_Read_l10 x1 k x13 x14 x15 x16 = some out →
    lk tm 0 = some (v2) →
    lk tm 4 = some (.blk r5 0) →
    lk tm 6 = some (.blk r9 0) →
    lk tm 7 = some (.int .i64 x13) →
    lk tm 8 = some (.int .i64 x14) →
    Inv σ ((r5, .cells [u8 x15.Kind, u8 x15.Reg, .int .i64 x15.N, u8 x15.Op, u8 x15.M.Key, u8 x15.M.Sign, .int .i64 x15.M.N, u8 x15.Key, u8 x15.Sign]) :: (r9, .cells [u8 x16.state, .bool x16.chosen, u8 x16.c.Kind, u8 x16.c.Reg, .int .i64 x16.c.N, u8 x16.c.Op, u8 x16.c.M.Key, u8 x16.c.M.Sign, .int .i64 x16.c.M.N, u8 x16.c.Key, u8 x16.c.Sign, .int .i64 x16.n, .int .i64 x16.k]) :: B) (O) → RunC kE (.loop k14l10) ⟨tm, σ⟩ Q := by
  intro k
  induction k with
  | zero => intros; exact none_eq ‹platenref21_Read_l10 x1 0 _ _ _ _ = some out›
  | succ k ih =>
    intro x13 x14 x15 x16 tm σ h e0 e4 e6 e7 e8  I
    rw [platenref21_Read_l10] at h
    refine c_loop ?_
    refine c_keep (keep_cons e0 (keep_cons e4 (keep_cons e6 (keep_cons e7 (keep_cons e8 keep_nil))))) ?_
    refine c_seq ?_
    refine c_seq ?_
    refine c_reg ?_
    refine sp (.int .i64 x14) rfl rfl ?_
    refine sp (v2) rfl rfl ?_
    refine sp (.int .i64 (x1.length : Int)) rfl (e_len rfl s3 (Nat.le_of_ble_eq_true rfl)) ?_
    refine sp (.bool (decide (x14 < (x1.length : Int)))) rfl rfl ?_
    refine sx ?_
    refine cn ?_
    refine c_keep (keep_cons rfl (keep_cons rfl (keep_cons rfl (keep_cons rfl (keep_cons rfl (keep_cons rfl keep_nil)))))) ?_
    rcases bool_tf (decide (x14 < (x1.length : Int))) with b17 | b17
    · have h := ite_t h b17
      refine c_cond_t (decide (x14 < (x1.length : Int))) rfl b17 ?_
      refine c_skip ?_
      refine cn ?_
      refine c_keep (keep_cons rfl (keep_cons rfl (keep_cons rfl (keep_cons rfl (keep_cons rfl keep_nil))))) ?_
      refine c_seq ?_
      refine c_block ?_
      refine c_seq ?_
      refine c_seq ?_
      refine c_reg ?_
      refine sp (.int .i64 x13) rfl rfl ?_
      refine sp (.bool (!decide (x13 = 1))) rfl rfl ?_
      refine sx ?_
      refine cn ?_
      refine c_keep (keep_cons rfl (keep_cons rfl (keep_cons rfl (keep_cons rfl (keep_cons rfl keep_nil))))) ?_
      rcases bool_tf (!decide (x13 = 1)) with b18 | b18
      · have h := ite_t h b18
        refine c_cond_t (!decide (x13 = 1)) rfl b18 ?_
        refine c_seq ?_
        refine c_reg ?_
        refine sp (.agg [u8 (0 : UInt8), u8 (0 : UInt8), .int .i64 0, u8 (0 : UInt8), u8 (0 : UInt8), u8 (0 : UInt8), .int .i64 0, u8 (0 : UInt8), u8 (0 : UInt8)]) rfl rfl ?_
        refine st_store I 0 0 (cs' := [u8 (0 : UInt8), u8 (0 : UInt8), .int .i64 0, u8 (0 : UInt8), u8 (0 : UInt8), u8 (0 : UInt8), .int .i64 0, u8 (0 : UInt8), u8 (0 : UInt8)]) (bs' := (r5, .cells [u8 (0 : UInt8), u8 (0 : UInt8), .int .i64 0, u8 (0 : UInt8), u8 (0 : UInt8), u8 (0 : UInt8), .int .i64 0, u8 (0 : UInt8), u8 (0 : UInt8)]) :: (r9, .cells [u8 x16.state, .bool x16.chosen, u8 x16.c.Kind, u8 x16.c.Reg, .int .i64 x16.c.N, u8 x16.c.Op, u8 x16.c.M.Key, u8 x16.c.M.Sign, .int .i64 x16.c.M.N, u8 x16.c.Key, u8 x16.c.Sign, .int .i64 x16.n, .int .i64 x16.k]) :: B) rfl rfl rfl rfl rfl (Nat.le_of_ble_eq_true rfl) rfl rfl ?_
        intro σ20 I19
        refine sp (.int .i64 2) rfl rfl ?_
        refine sx ?_
        refine cn ?_
        refine c_ret ?_
        refine cr ?_
        refine br ?_
        refine cr ?_
        refine cr ?_
        have I23 : Inv _ ((r5, .cells [u8 (0 : UInt8), u8 (0 : UInt8), .int .i64 0, u8 (0 : UInt8), u8 (0 : UInt8), u8 (0 : UInt8), .int .i64 0, u8 (0 : UInt8), u8 (0 : UInt8)]) :: B) (O) := (I19.front 1 rfl).drop
        exact hL0 2 (⟨(0 : UInt8), (0 : UInt8), 0, (0 : UInt8), (⟨(0 : UInt8), (0 : UInt8), 0⟩ : S_api_Motion), (0 : UInt8), (0 : UInt8)⟩ : S_keys_Cmd)  _ _ rfl rfl  I23 (some_eq h)
      · have h := ite_f h b18
        refine c_cond_f (!decide (x13 = 1)) rfl b18 ?_
        refine c_skip ?_
        refine cn ?_
        refine c_keep (keep_cons rfl (keep_cons rfl (keep_cons rfl (keep_cons rfl keep_nil)))) ?_
        refine c_reg ?_
        refine sp (.blk r9 0) rfl rfl ?_
        refine sp (v2) rfl rfl ?_
        refine sp (.int .i64 x14) rfl rfl ?_
        obtain ⟨a24, g25, h⟩ := bind_some h
        refine st_idxa rfl s3 rfl (Nat.le_of_ble_eq_true rfl) g25 ?_
        intro c26 o27 d28 q29 z30 l31
        obtain rfl := q29
        clear z30
        refine sp (u8 a24) rfl (e_load_elem 0 rfl l31 rfl) ?_
        obtain ⟨a32, g33, h⟩ := bind_some h
        have I36 : Inv _ ((r9, .cells [u8 x16.state, .bool x16.chosen, u8 x16.c.Kind, u8 x16.c.Reg, .int .i64 x16.c.N, u8 x16.c.Op, u8 x16.c.M.Key, u8 x16.c.M.Sign, .int .i64 x16.c.M.N, u8 x16.c.Key, u8 x16.c.Sign, .int .i64 x16.n, .int .i64 x16.k]) :: (r5, .cells [u8 x15.Kind, u8 x15.Reg, .int .i64 x15.N, u8 x15.Op, u8 x15.M.Key, u8 x15.M.Sign, .int .i64 x15.M.N, u8 x15.Key, u8 x15.Sign]) :: B) (O) := I.front 1 rfl
        refine st_call (platenref21_machine_feed_ok k _ _ _ g33  I36) rfl ?_
        intro v34 σ37 q35
        obtain ⟨q39, I38⟩ := q35
        obtain rfl := q39
        refine sp (.int .i64 a32.1) rfl rfl ?_
        refine sx ?_
        refine bn ?_
        refine cn ?_
        refine c_keep (keep_cons rfl (keep_cons rfl (keep_cons rfl (keep_cons rfl (keep_cons rfl keep_nil))))) ?_
        refine c_reg ?_
        refine sp (.int .i64 x14) rfl rfl ?_
        refine sp (.int .i64 (IntKind.i64.wrap (x14 + 1))) rfl rfl ?_
        refine sp (.int .i64 (IntKind.i64.wrap (x14 + 1))) rfl rfl ?_
        refine sx ?_
        refine cn ?_
        have I40 : Inv _ ((r5, .cells [u8 x15.Kind, u8 x15.Reg, .int .i64 x15.N, u8 x15.Op, u8 x15.M.Key, u8 x15.M.Sign, .int .i64 x15.M.N, u8 x15.Key, u8 x15.Sign]) :: (r9, .cells [u8 a32.2.state, .bool a32.2.chosen, u8 a32.2.c.Kind, u8 a32.2.c.Reg, .int .i64 a32.2.c.N, u8 a32.2.c.Op, u8 a32.2.c.M.Key, u8 a32.2.c.M.Sign, .int .i64 a32.2.c.M.N, u8 a32.2.c.Key, u8 a32.2.c.Sign, .int .i64 a32.2.n, .int .i64 a32.2.k]) :: B) (O) := I38.front 1 rfl
        exact ih a32.1 (IntKind.i64.wrap (x14 + 1)) x15 a32.2  _ _ h rfl rfl rfl rfl rfl  I40
    · have h := ite_f h b17
      refine c_cond_f (decide (x14 < (x1.length : Int))) rfl b17 ?_
      refine c_exit ?_
      refine cx ?_
      refine cx ?_
      exact hL1 x13 x15 x16  _ _ rfl rfl rfl  I (some_eq h)
theorem platenref21_Read_ok (k : Nat) (x1 : List UInt8) (x4 : Bool) (r : (S_keys_Cmd × Int)) {v2 : AV}  {σ : St}
    (h : platenref21_Read k x1 x4 = some r)
    (s3 : SL RU8 1 x1 v2) :
    RunF kE 14 [v2, .bool x4] σ (fun v σ' => σ' = σ ∧ (∃ w0 w1, v = .tuple [w0, w1] ∧ VAgg S_keys_Cmd.R r.1 w0 ∧ w1 = .int .i64 r.2)) := by
  obtain ⟨v2, k0, s3⟩ := s3.close
  refine f_closed rfl rfl rfl (cl_cons k0 (cl_cons rfl cl_nil)) rfl ?_
  have I0 : Inv .zero [] [] := Inv.zero
  unfold platenref21_Read at h
  refine c_seq ?_
  refine c_reg ?_
  refine st_alloc I0 ?_
  intro r5 σ6 I7
  have I8 : Inv _ ((r5, .cells [u8 (0 : UInt8), u8 (0 : UInt8), .int .i64 0, u8 (0 : UInt8), u8 (0 : UInt8), u8 (0 : UInt8), .int .i64 0, u8 (0 : UInt8), u8 (0 : UInt8)]) :: []) ([]) := I7
  refine sp (.int .i64 0) rfl rfl ?_
  refine sx ?_
  refine cn ?_
  refine c_keep (keep_cons rfl (keep_cons rfl (keep_cons rfl keep_nil))) ?_
  refine c_seq ?_
  refine c_reg ?_
  refine sp (.bool x4) rfl rfl ?_
  refine sp (.agg [u8 (0 : UInt8), .bool x4, u8 (0 : UInt8), u8 (0 : UInt8), .int .i64 0, u8 (0 : UInt8), u8 (0 : UInt8), u8 (0 : UInt8), .int .i64 0, u8 (0 : UInt8), u8 (0 : UInt8), .int .i64 0, .int .i64 0]) rfl rfl ?_
  refine st_box I8 rfl rfl ?_
  intro r9 σ10 I11
  have I12 : Inv _ ((r9, .cells [u8 (0 : UInt8), .bool x4, u8 (0 : UInt8), u8 (0 : UInt8), .int .i64 0, u8 (0 : UInt8), u8 (0 : UInt8), u8 (0 : UInt8), .int .i64 0, u8 (0 : UInt8), u8 (0 : UInt8), .int .i64 0, .int .i64 0]) :: (r5, .cells [u8 (0 : UInt8), u8 (0 : UInt8), .int .i64 0, u8 (0 : UInt8), u8 (0 : UInt8), u8 (0 : UInt8), .int .i64 0, u8 (0 : UInt8), u8 (0 : UInt8)]) :: []) ([]) := I11
  refine sp (.blk r9 0) rfl rfl ?_
  refine sx ?_
  refine cn ?_
  refine c_keep (keep_cons rfl (keep_cons rfl (keep_cons rfl keep_nil))) ?_
  refine c_seq ?_
  refine c_reg ?_
  refine sp (.int .i64 1) rfl rfl ?_
  refine sx ?_
  refine cn ?_
  refine c_keep (keep_cons rfl (keep_cons rfl (keep_cons rfl (keep_cons rfl keep_nil)))) ?_
  refine c_seq ?_
  refine c_seq ?_
  refine c_reg ?_
  refine sp (.int .i64 0) rfl rfl ?_
  refine sx ?_
  refine cn ?_
  refine c_keep (keep_cons rfl (keep_cons rfl (keep_cons rfl (keep_cons rfl (keep_cons rfl keep_nil))))) ?_
  refine c_block ?_
  have I44 : Inv _ ((r5, .cells [u8 (0 : UInt8), u8 (0 : UInt8), .int .i64 0, u8 (0 : UInt8), u8 (0 : UInt8), u8 (0 : UInt8), .int .i64 0, u8 (0 : UInt8), u8 (0 : UInt8)]) :: (r9, .cells [u8 (0 : UInt8), .bool x4, u8 (0 : UInt8), u8 (0 : UInt8), .int .i64 0, u8 (0 : UInt8), u8 (0 : UInt8), u8 (0 : UInt8), .int .i64 0, u8 (0 : UInt8), u8 (0 : UInt8), .int .i64 0, .int .i64 0]) :: []) ([]) := I12.front 1 rfl
  obtain ⟨a45, g46, h⟩ := bind_some h
  refine platenref21_Read_l10_ok x1 s3 ?_ ?_ k 1 0 (⟨(0 : UInt8), (0 : UInt8), 0, (0 : UInt8), (⟨(0 : UInt8), (0 : UInt8), 0⟩ : S_api_Motion), (0 : UInt8), (0 : UInt8)⟩ : S_keys_Cmd) (⟨(0 : UInt8), x4, (⟨(0 : UInt8), (0 : UInt8), 0, (0 : UInt8), (⟨(0 : UInt8), (0 : UInt8), 0⟩ : S_api_Motion), (0 : UInt8), (0 : UInt8)⟩ : S_keys_Cmd), 0, 0⟩ : S_platenref21_machine)  _ _ g46 rfl rfl rfl rfl rfl  I44
  · intro x21 x22 tm47 σ48 e51 e52  I49 ho50
    subst ho50
    refine br ?_
    refine cr ?_
    obtain rfl := some_eq h
    exact rr (vs := [.agg [u8 x22.Kind, u8 x22.Reg, .int .i64 x22.N, u8 x22.Op, u8 x22.M.Key, u8 x22.M.Sign, .int .i64 x22.M.N, u8 x22.Key, u8 x22.Sign], .int .i64 x21]) (res_c (resp_cells I49 0 rfl e51 rfl) (res_c (resp_t e52) res_nil)) ⟨_, cl_tuple (cl_cons rfl (cl_cons rfl cl_nil)), _, _, rfl, ⟨_, rfl, rfl⟩, rfl⟩
  · intro x41 x42 x43 tm53 σ54 e57 e58 e59  I55 ho56
    subst ho56
    refine bx ?_
    refine cn ?_
    refine c_keep (keep_cons e57 (keep_cons e58 (keep_cons e59 keep_nil))) ?_
    refine c_seq ?_
    refine c_seq ?_
    refine c_reg ?_
    refine sp (.int .i64 x41) rfl rfl ?_
    refine sp (.bool (!decide (x41 = 0))) rfl rfl ?_
    refine sx ?_
    refine cn ?_
    refine c_keep (keep_cons rfl (keep_cons rfl (keep_cons rfl (keep_cons rfl keep_nil)))) ?_
    rcases bool_tf (!decide (x41 = 0)) with b60 | b60
    · have h := ite_t h b60
      refine c_cond_t (!decide (x41 = 0)) rfl b60 ?_
      refine c_seq ?_
      refine c_reg ?_
      refine sp (.agg [u8 (0 : UInt8), u8 (0 : UInt8), .int .i64 0, u8 (0 : UInt8), u8 (0 : UInt8), u8 (0 : UInt8), .int .i64 0, u8 (0 : UInt8), u8 (0 : UInt8)]) rfl rfl ?_
      refine sp (.int .i64 x41) rfl rfl ?_
      refine st_store I55 0 0 (cs' := [u8 (0 : UInt8), u8 (0 : UInt8), .int .i64 0, u8 (0 : UInt8), u8 (0 : UInt8), u8 (0 : UInt8), .int .i64 0, u8 (0 : UInt8), u8 (0 : UInt8)]) (bs' := (r5, .cells [u8 (0 : UInt8), u8 (0 : UInt8), .int .i64 0, u8 (0 : UInt8), u8 (0 : UInt8), u8 (0 : UInt8), .int .i64 0, u8 (0 : UInt8), u8 (0 : UInt8)]) :: (r9, .cells [u8 x43.state, .bool x43.chosen, u8 x43.c.Kind, u8 x43.c.Reg, .int .i64 x43.c.N, u8 x43.c.Op, u8 x43.c.M.Key, u8 x43.c.M.Sign, .int .i64 x43.c.M.N, u8 x43.c.Key, u8 x43.c.Sign, .int .i64 x43.n, .int .i64 x43.k]) :: []) rfl rfl rfl rfl rfl (Nat.le_of_ble_eq_true rfl) rfl rfl ?_
      intro σ62 I61
      refine sp (.int .i64 x41) rfl rfl ?_
      refine sx ?_
      refine cn ?_
      refine c_ret ?_
      refine cr ?_
      obtain rfl := some_eq h
      exact rr (vs := [.agg [u8 (0 : UInt8), u8 (0 : UInt8), .int .i64 0, u8 (0 : UInt8), u8 (0 : UInt8), u8 (0 : UInt8), .int .i64 0, u8 (0 : UInt8), u8 (0 : UInt8)], .int .i64 x41]) (res_c (resp_cells I61 0 rfl rfl rfl) (res_c (resp_t rfl) res_nil)) ⟨_, cl_tuple (cl_cons rfl (cl_cons rfl cl_nil)), _, _, rfl, ⟨_, rfl, rfl⟩, rfl⟩
    · have h := ite_f h b60
      refine c_cond_f (!decide (x41 = 0)) rfl b60 ?_
      refine c_skip ?_
      refine cn ?_
      refine c_keep (keep_cons rfl (keep_cons rfl keep_nil)) ?_
      refine c_seq ?_
      refine c_reg ?_
      refine sp (.blk r9 0) rfl rfl ?_
      refine sp (.blk r9 0) rfl rfl ?_
      refine sp (.blk r9 2) rfl rfl ?_
      refine sp (.agg [u8 x43.c.Kind, u8 x43.c.Reg, .int .i64 x43.c.N, u8 x43.c.Op, u8 x43.c.M.Key, u8 x43.c.M.Sign, .int .i64 x43.c.M.N, u8 x43.c.Key, u8 x43.c.Sign]) rfl (e_loads I55 1 2 9 rfl rfl rfl (Nat.le_of_ble_eq_true rfl)) ?_
      refine st_store I55 0 0 (cs' := [u8 x43.c.Kind, u8 x43.c.Reg, .int .i64 x43.c.N, u8 x43.c.Op, u8 x43.c.M.Key, u8 x43.c.M.Sign, .int .i64 x43.c.M.N, u8 x43.c.Key, u8 x43.c.Sign]) (bs' := (r5, .cells [u8 x43.c.Kind, u8 x43.c.Reg, .int .i64 x43.c.N, u8 x43.c.Op, u8 x43.c.M.Key, u8 x43.c.M.Sign, .int .i64 x43.c.M.N, u8 x43.c.Key, u8 x43.c.Sign]) :: (r9, .cells [u8 x43.state, .bool x43.chosen, u8 x43.c.Kind, u8 x43.c.Reg, .int .i64 x43.c.N, u8 x43.c.Op, u8 x43.c.M.Key, u8 x43.c.M.Sign, .int .i64 x43.c.M.N, u8 x43.c.Key, u8 x43.c.Sign, .int .i64 x43.n, .int .i64 x43.k]) :: []) rfl rfl rfl rfl rfl (Nat.le_of_ble_eq_true rfl) rfl rfl ?_
      intro σ64 I63
      refine sp (.int .i64 0) rfl rfl ?_
      refine sx ?_
      refine cn ?_
      refine c_ret ?_
      obtain rfl := some_eq h
      exact rr (vs := [.agg [u8 x43.c.Kind, u8 x43.c.Reg, .int .i64 x43.c.N, u8 x43.c.Op, u8 x43.c.M.Key, u8 x43.c.M.Sign, .int .i64 x43.c.M.N, u8 x43.c.Key, u8 x43.c.Sign], .int .i64 0]) (res_c (resp_cells I63 0 rfl rfl rfl) (res_c (resp_t rfl) res_nil)) ⟨_, cl_tuple (cl_cons rfl (cl_cons rfl cl_nil)), _, _, rfl, ⟨_, rfl, rfl⟩, rfl⟩
/- platen.platenlaw21.same -/
def platenlaw21_same (k : Nat) (x1 : List UInt8) (x4 : Bool) : Option Bool :=
  (keys_Read k x1 x4).bind fun a5 => (platenref21_Read k x1 x4).bind fun a21 => if decide (a5.2 = a21.2) then (if decide ((a5.1.Kind.toNat : Int) = (a21.1.Kind.toNat : Int)) then (if decide ((a5.1.Reg.toNat : Int) = (a21.1.Reg.toNat : Int)) then (if decide (a5.1.N = a21.1.N) then (if decide ((a5.1.Op.toNat : Int) = (a21.1.Op.toNat : Int)) then (if (decide ((a5.1.M.Key.toNat : Int) = (a21.1.M.Key.toNat : Int)) && (decide ((a5.1.M.Sign.toNat : Int) = (a21.1.M.Sign.toNat : Int)) && (decide (a5.1.M.N = a21.1.M.N) && true))) then (if decide ((a5.1.Key.toNat : Int) = (a21.1.Key.toNat : Int)) then (some (decide ((a5.1.Sign.toNat : Int) = (a21.1.Sign.toNat : Int)))) else (some false)) else (some false)) else (some false)) else (some false)) else (some false)) else (some false)) else (some false)
theorem platenlaw21_same_ok (k : Nat) (x1 : List UInt8) (x4 : Bool) (r : Bool) {v2 : AV}  {σ : St}
    (h : platenlaw21_same k x1 x4 = some r)
    (s3 : SL RU8 1 x1 v2) :
    RunF kE 10 [v2, .bool x4] σ (fun v σ' => σ' = σ ∧ v = .bool r) := by
  obtain ⟨v2, k0, s3⟩ := s3.close
  refine f_closed rfl rfl rfl (cl_cons k0 (cl_cons rfl cl_nil)) rfl ?_
  have I0 : Inv .zero [] [] := Inv.zero
  unfold platenlaw21_same at h
  refine c_seq ?_
  refine c_reg ?_
  refine sp (.bool false) rfl rfl ?_
  refine sx ?_
  refine cn ?_
  refine c_keep (keep_cons rfl (keep_cons rfl keep_nil)) ?_
  refine c_seq ?_
  refine c_reg ?_
  refine sp (v2) rfl rfl ?_
  refine sp (.bool x4) rfl rfl ?_
  obtain ⟨a5, g6, h⟩ := bind_some h
  refine st_callc (keys_Read_ok k _ _ _ g6 s3) rfl ?_
  intro v7 q8
  obtain ⟨v9, v11, rfl, q10, q12⟩ := q8
  obtain ⟨c13, rfl, q14⟩ := q10
  obtain rfl := q14
  obtain rfl := q12
  refine sp (.tuple [.agg [u8 a5.1.Kind, u8 a5.1.Reg, .int .i64 a5.1.N, u8 a5.1.Op, u8 a5.1.M.Key, u8 a5.1.M.Sign, .int .i64 a5.1.M.N, u8 a5.1.Key, u8 a5.1.Sign], .int .i64 a5.2]) rfl rfl ?_
  refine sp (.agg [u8 a5.1.Kind, u8 a5.1.Reg, .int .i64 a5.1.N, u8 a5.1.Op, u8 a5.1.M.Key, u8 a5.1.M.Sign, .int .i64 a5.1.M.N, u8 a5.1.Key, u8 a5.1.Sign]) rfl rfl ?_
  refine sp (.int .i64 a5.2) rfl rfl ?_
  refine st_alloc I0 ?_
  intro r15 σ16 I17
  have I18 : Inv _ ((r15, .cells [u8 (0 : UInt8), u8 (0 : UInt8), .int .i64 0, u8 (0 : UInt8), u8 (0 : UInt8), u8 (0 : UInt8), .int .i64 0, u8 (0 : UInt8), u8 (0 : UInt8)]) :: []) ([]) := I17
  refine st_store I18 0 0 (cs' := [u8 a5.1.Kind, u8 a5.1.Reg, .int .i64 a5.1.N, u8 a5.1.Op, u8 a5.1.M.Key, u8 a5.1.M.Sign, .int .i64 a5.1.M.N, u8 a5.1.Key, u8 a5.1.Sign]) (bs' := (r15, .cells [u8 a5.1.Kind, u8 a5.1.Reg, .int .i64 a5.1.N, u8 a5.1.Op, u8 a5.1.M.Key, u8 a5.1.M.Sign, .int .i64 a5.1.M.N, u8 a5.1.Key, u8 a5.1.Sign]) :: []) rfl rfl rfl rfl rfl (Nat.le_of_ble_eq_true rfl) rfl rfl ?_
  intro σ20 I19
  refine sp (.int .i64 a5.2) rfl rfl ?_
  refine sx ?_
  refine cn ?_
  refine c_keep (keep_cons rfl (keep_cons rfl (keep_cons rfl (keep_cons rfl keep_nil)))) ?_
  refine c_seq ?_
  refine c_reg ?_
  refine sp (v2) rfl rfl ?_
  refine sp (.bool x4) rfl rfl ?_
  obtain ⟨a21, g22, h⟩ := bind_some h
  refine st_callc (platenref21_Read_ok k _ _ _ g22 s3) rfl ?_
  intro v23 q24
  obtain ⟨v25, v27, rfl, q26, q28⟩ := q24
  obtain ⟨c29, rfl, q30⟩ := q26
  obtain rfl := q30
  obtain rfl := q28
  refine sp (.tuple [.agg [u8 a21.1.Kind, u8 a21.1.Reg, .int .i64 a21.1.N, u8 a21.1.Op, u8 a21.1.M.Key, u8 a21.1.M.Sign, .int .i64 a21.1.M.N, u8 a21.1.Key, u8 a21.1.Sign], .int .i64 a21.2]) rfl rfl ?_
  refine sp (.agg [u8 a21.1.Kind, u8 a21.1.Reg, .int .i64 a21.1.N, u8 a21.1.Op, u8 a21.1.M.Key, u8 a21.1.M.Sign, .int .i64 a21.1.M.N, u8 a21.1.Key, u8 a21.1.Sign]) rfl rfl ?_
  refine sp (.int .i64 a21.2) rfl rfl ?_
  refine st_alloc I19 ?_
  intro r31 σ32 I33
  have I34 : Inv _ ((r31, .cells [u8 (0 : UInt8), u8 (0 : UInt8), .int .i64 0, u8 (0 : UInt8), u8 (0 : UInt8), u8 (0 : UInt8), .int .i64 0, u8 (0 : UInt8), u8 (0 : UInt8)]) :: (r15, .cells [u8 a5.1.Kind, u8 a5.1.Reg, .int .i64 a5.1.N, u8 a5.1.Op, u8 a5.1.M.Key, u8 a5.1.M.Sign, .int .i64 a5.1.M.N, u8 a5.1.Key, u8 a5.1.Sign]) :: []) ([]) := I33
  refine st_store I34 0 0 (cs' := [u8 a21.1.Kind, u8 a21.1.Reg, .int .i64 a21.1.N, u8 a21.1.Op, u8 a21.1.M.Key, u8 a21.1.M.Sign, .int .i64 a21.1.M.N, u8 a21.1.Key, u8 a21.1.Sign]) (bs' := (r31, .cells [u8 a21.1.Kind, u8 a21.1.Reg, .int .i64 a21.1.N, u8 a21.1.Op, u8 a21.1.M.Key, u8 a21.1.M.Sign, .int .i64 a21.1.M.N, u8 a21.1.Key, u8 a21.1.Sign]) :: (r15, .cells [u8 a5.1.Kind, u8 a5.1.Reg, .int .i64 a5.1.N, u8 a5.1.Op, u8 a5.1.M.Key, u8 a5.1.M.Sign, .int .i64 a5.1.M.N, u8 a5.1.Key, u8 a5.1.Sign]) :: []) rfl rfl rfl rfl rfl (Nat.le_of_ble_eq_true rfl) rfl rfl ?_
  intro σ36 I35
  refine sp (.int .i64 a21.2) rfl rfl ?_
  refine sx ?_
  refine cn ?_
  refine c_keep (keep_cons rfl (keep_cons rfl (keep_cons rfl (keep_cons rfl keep_nil)))) ?_
  refine c_seq ?_
  refine c_reg ?_
  refine sp (.int .i64 a5.2) rfl rfl ?_
  refine sp (.int .i64 a21.2) rfl rfl ?_
  refine sp (.bool (decide (a5.2 = a21.2))) rfl rfl ?_
  refine sp (.bool (decide (a5.2 = a21.2))) rfl rfl ?_
  rcases bool_tf (decide (a5.2 = a21.2)) with b37 | b37
  · have h := ite_t h b37
    refine sg_run (decide (a5.2 = a21.2)) rfl b37 ?_
    refine sp (.blk r15 0) rfl rfl ?_
    refine sg_run (decide (a5.2 = a21.2)) rfl b37 ?_
    refine sp (u8 a5.1.Kind) rfl (e_load I35 1 0 rfl rfl rfl) ?_
    refine sg_run (decide (a5.2 = a21.2)) rfl b37 ?_
    refine sp (.blk r31 0) rfl rfl ?_
    refine sg_run (decide (a5.2 = a21.2)) rfl b37 ?_
    refine sp (u8 a21.1.Kind) rfl (e_load I35 0 0 rfl rfl rfl) ?_
    refine sg_run (decide (a5.2 = a21.2)) rfl b37 ?_
    refine sp (.bool (decide ((a5.1.Kind.toNat : Int) = (a21.1.Kind.toNat : Int)))) rfl rfl ?_
    refine sp (.bool (decide ((a5.1.Kind.toNat : Int) = (a21.1.Kind.toNat : Int)))) rfl (e_pick_t rfl b37 rfl) ?_
    refine sp (.bool (decide ((a5.1.Kind.toNat : Int) = (a21.1.Kind.toNat : Int)))) rfl rfl ?_
    rcases bool_tf (decide ((a5.1.Kind.toNat : Int) = (a21.1.Kind.toNat : Int))) with b38 | b38
    · have h := ite_t h b38
      refine sg_run (decide ((a5.1.Kind.toNat : Int) = (a21.1.Kind.toNat : Int))) rfl b38 ?_
      refine sp (.blk r15 1) rfl rfl ?_
      refine sg_run (decide ((a5.1.Kind.toNat : Int) = (a21.1.Kind.toNat : Int))) rfl b38 ?_
      refine sp (u8 a5.1.Reg) rfl (e_load I35 1 1 rfl rfl rfl) ?_
      refine sg_run (decide ((a5.1.Kind.toNat : Int) = (a21.1.Kind.toNat : Int))) rfl b38 ?_
      refine sp (.blk r31 1) rfl rfl ?_
      refine sg_run (decide ((a5.1.Kind.toNat : Int) = (a21.1.Kind.toNat : Int))) rfl b38 ?_
      refine sp (u8 a21.1.Reg) rfl (e_load I35 0 1 rfl rfl rfl) ?_
      refine sg_run (decide ((a5.1.Kind.toNat : Int) = (a21.1.Kind.toNat : Int))) rfl b38 ?_
      refine sp (.bool (decide ((a5.1.Reg.toNat : Int) = (a21.1.Reg.toNat : Int)))) rfl rfl ?_
      refine sp (.bool (decide ((a5.1.Reg.toNat : Int) = (a21.1.Reg.toNat : Int)))) rfl (e_pick_t rfl b38 rfl) ?_
      refine sp (.bool (decide ((a5.1.Reg.toNat : Int) = (a21.1.Reg.toNat : Int)))) rfl rfl ?_
      rcases bool_tf (decide ((a5.1.Reg.toNat : Int) = (a21.1.Reg.toNat : Int))) with b39 | b39
      · have h := ite_t h b39
        refine sg_run (decide ((a5.1.Reg.toNat : Int) = (a21.1.Reg.toNat : Int))) rfl b39 ?_
        refine sp (.blk r15 2) rfl rfl ?_
        refine sg_run (decide ((a5.1.Reg.toNat : Int) = (a21.1.Reg.toNat : Int))) rfl b39 ?_
        refine sp (.int .i64 a5.1.N) rfl (e_load I35 1 2 rfl rfl rfl) ?_
        refine sg_run (decide ((a5.1.Reg.toNat : Int) = (a21.1.Reg.toNat : Int))) rfl b39 ?_
        refine sp (.blk r31 2) rfl rfl ?_
        refine sg_run (decide ((a5.1.Reg.toNat : Int) = (a21.1.Reg.toNat : Int))) rfl b39 ?_
        refine sp (.int .i64 a21.1.N) rfl (e_load I35 0 2 rfl rfl rfl) ?_
        refine sg_run (decide ((a5.1.Reg.toNat : Int) = (a21.1.Reg.toNat : Int))) rfl b39 ?_
        refine sp (.bool (decide (a5.1.N = a21.1.N))) rfl rfl ?_
        refine sp (.bool (decide (a5.1.N = a21.1.N))) rfl (e_pick_t rfl b39 rfl) ?_
        refine sp (.bool (decide (a5.1.N = a21.1.N))) rfl rfl ?_
        rcases bool_tf (decide (a5.1.N = a21.1.N)) with b40 | b40
        · have h := ite_t h b40
          refine sg_run (decide (a5.1.N = a21.1.N)) rfl b40 ?_
          refine sp (.blk r15 3) rfl rfl ?_
          refine sg_run (decide (a5.1.N = a21.1.N)) rfl b40 ?_
          refine sp (u8 a5.1.Op) rfl (e_load I35 1 3 rfl rfl rfl) ?_
          refine sg_run (decide (a5.1.N = a21.1.N)) rfl b40 ?_
          refine sp (.blk r31 3) rfl rfl ?_
          refine sg_run (decide (a5.1.N = a21.1.N)) rfl b40 ?_
          refine sp (u8 a21.1.Op) rfl (e_load I35 0 3 rfl rfl rfl) ?_
          refine sg_run (decide (a5.1.N = a21.1.N)) rfl b40 ?_
          refine sp (.bool (decide ((a5.1.Op.toNat : Int) = (a21.1.Op.toNat : Int)))) rfl rfl ?_
          refine sp (.bool (decide ((a5.1.Op.toNat : Int) = (a21.1.Op.toNat : Int)))) rfl (e_pick_t rfl b40 rfl) ?_
          refine sp (.bool (decide ((a5.1.Op.toNat : Int) = (a21.1.Op.toNat : Int)))) rfl rfl ?_
          rcases bool_tf (decide ((a5.1.Op.toNat : Int) = (a21.1.Op.toNat : Int))) with b41 | b41
          · have h := ite_t h b41
            refine sg_run (decide ((a5.1.Op.toNat : Int) = (a21.1.Op.toNat : Int))) rfl b41 ?_
            refine sp (.blk r15 4) rfl rfl ?_
            refine sg_run (decide ((a5.1.Op.toNat : Int) = (a21.1.Op.toNat : Int))) rfl b41 ?_
            refine sp (.agg [u8 a5.1.M.Key, u8 a5.1.M.Sign, .int .i64 a5.1.M.N]) rfl (e_loads I35 1 4 3 rfl rfl rfl (Nat.le_of_ble_eq_true rfl)) ?_
            refine sg_run (decide ((a5.1.Op.toNat : Int) = (a21.1.Op.toNat : Int))) rfl b41 ?_
            refine sp (.blk r31 4) rfl rfl ?_
            refine sg_run (decide ((a5.1.Op.toNat : Int) = (a21.1.Op.toNat : Int))) rfl b41 ?_
            refine sp (.agg [u8 a21.1.M.Key, u8 a21.1.M.Sign, .int .i64 a21.1.M.N]) rfl (e_loads I35 0 4 3 rfl rfl rfl (Nat.le_of_ble_eq_true rfl)) ?_
            refine sg_run (decide ((a5.1.Op.toNat : Int) = (a21.1.Op.toNat : Int))) rfl b41 ?_
            refine sp (.bool (decide ((a5.1.M.Key.toNat : Int) = (a21.1.M.Key.toNat : Int)) && (decide ((a5.1.M.Sign.toNat : Int) = (a21.1.M.Sign.toNat : Int)) && (decide (a5.1.M.N = a21.1.M.N) && true)))) rfl rfl ?_
            refine sp (.bool (decide ((a5.1.M.Key.toNat : Int) = (a21.1.M.Key.toNat : Int)) && (decide ((a5.1.M.Sign.toNat : Int) = (a21.1.M.Sign.toNat : Int)) && (decide (a5.1.M.N = a21.1.M.N) && true)))) rfl (e_pick_t rfl b41 rfl) ?_
            refine sp (.bool (decide ((a5.1.M.Key.toNat : Int) = (a21.1.M.Key.toNat : Int)) && (decide ((a5.1.M.Sign.toNat : Int) = (a21.1.M.Sign.toNat : Int)) && (decide (a5.1.M.N = a21.1.M.N) && true)))) rfl rfl ?_
            rcases bool_tf (decide ((a5.1.M.Key.toNat : Int) = (a21.1.M.Key.toNat : Int)) && (decide ((a5.1.M.Sign.toNat : Int) = (a21.1.M.Sign.toNat : Int)) && (decide (a5.1.M.N = a21.1.M.N) && true))) with b42 | b42
            · have h := ite_t h b42
              refine sg_run (decide ((a5.1.M.Key.toNat : Int) = (a21.1.M.Key.toNat : Int)) && (decide ((a5.1.M.Sign.toNat : Int) = (a21.1.M.Sign.toNat : Int)) && (decide (a5.1.M.N = a21.1.M.N) && true))) rfl b42 ?_
              refine sp (.blk r15 7) rfl rfl ?_
              refine sg_run (decide ((a5.1.M.Key.toNat : Int) = (a21.1.M.Key.toNat : Int)) && (decide ((a5.1.M.Sign.toNat : Int) = (a21.1.M.Sign.toNat : Int)) && (decide (a5.1.M.N = a21.1.M.N) && true))) rfl b42 ?_
              refine sp (u8 a5.1.Key) rfl (e_load I35 1 7 rfl rfl rfl) ?_
              refine sg_run (decide ((a5.1.M.Key.toNat : Int) = (a21.1.M.Key.toNat : Int)) && (decide ((a5.1.M.Sign.toNat : Int) = (a21.1.M.Sign.toNat : Int)) && (decide (a5.1.M.N = a21.1.M.N) && true))) rfl b42 ?_
              refine sp (.blk r31 7) rfl rfl ?_
              refine sg_run (decide ((a5.1.M.Key.toNat : Int) = (a21.1.M.Key.toNat : Int)) && (decide ((a5.1.M.Sign.toNat : Int) = (a21.1.M.Sign.toNat : Int)) && (decide (a5.1.M.N = a21.1.M.N) && true))) rfl b42 ?_
              refine sp (u8 a21.1.Key) rfl (e_load I35 0 7 rfl rfl rfl) ?_
              refine sg_run (decide ((a5.1.M.Key.toNat : Int) = (a21.1.M.Key.toNat : Int)) && (decide ((a5.1.M.Sign.toNat : Int) = (a21.1.M.Sign.toNat : Int)) && (decide (a5.1.M.N = a21.1.M.N) && true))) rfl b42 ?_
              refine sp (.bool (decide ((a5.1.Key.toNat : Int) = (a21.1.Key.toNat : Int)))) rfl rfl ?_
              refine sp (.bool (decide ((a5.1.Key.toNat : Int) = (a21.1.Key.toNat : Int)))) rfl (e_pick_t rfl b42 rfl) ?_
              refine sp (.bool (decide ((a5.1.Key.toNat : Int) = (a21.1.Key.toNat : Int)))) rfl rfl ?_
              rcases bool_tf (decide ((a5.1.Key.toNat : Int) = (a21.1.Key.toNat : Int))) with b43 | b43
              · have h := ite_t h b43
                refine sg_run (decide ((a5.1.Key.toNat : Int) = (a21.1.Key.toNat : Int))) rfl b43 ?_
                refine sp (.blk r15 8) rfl rfl ?_
                refine sg_run (decide ((a5.1.Key.toNat : Int) = (a21.1.Key.toNat : Int))) rfl b43 ?_
                refine sp (u8 a5.1.Sign) rfl (e_load I35 1 8 rfl rfl rfl) ?_
                refine sg_run (decide ((a5.1.Key.toNat : Int) = (a21.1.Key.toNat : Int))) rfl b43 ?_
                refine sp (.blk r31 8) rfl rfl ?_
                refine sg_run (decide ((a5.1.Key.toNat : Int) = (a21.1.Key.toNat : Int))) rfl b43 ?_
                refine sp (u8 a21.1.Sign) rfl (e_load I35 0 8 rfl rfl rfl) ?_
                refine sg_run (decide ((a5.1.Key.toNat : Int) = (a21.1.Key.toNat : Int))) rfl b43 ?_
                refine sp (.bool (decide ((a5.1.Sign.toNat : Int) = (a21.1.Sign.toNat : Int)))) rfl rfl ?_
                refine sp (.bool (decide ((a5.1.Sign.toNat : Int) = (a21.1.Sign.toNat : Int)))) rfl (e_pick_t rfl b43 rfl) ?_
                refine sp (.bool (decide ((a5.1.Sign.toNat : Int) = (a21.1.Sign.toNat : Int)))) rfl rfl ?_
                refine sx ?_
                refine cn ?_
                refine c_ret ?_
                obtain rfl := some_eq h
                exact rr (vs := [.bool (decide ((a5.1.Sign.toNat : Int) = (a21.1.Sign.toNat : Int)))]) (res_c (resp_t rfl) res_nil) ⟨_, rfl, rfl⟩
              · have h := ite_f h b43
                refine sg_skip (decide ((a5.1.Key.toNat : Int) = (a21.1.Key.toNat : Int))) rfl b43 ?_
                refine sg_skip (decide ((a5.1.Key.toNat : Int) = (a21.1.Key.toNat : Int))) rfl b43 ?_
                refine sg_skip (decide ((a5.1.Key.toNat : Int) = (a21.1.Key.toNat : Int))) rfl b43 ?_
                refine sg_skip (decide ((a5.1.Key.toNat : Int) = (a21.1.Key.toNat : Int))) rfl b43 ?_
                refine sg_skip (decide ((a5.1.Key.toNat : Int) = (a21.1.Key.toNat : Int))) rfl b43 ?_
                refine sp (.bool false) rfl (e_pick_f rfl b43 rfl) ?_
                refine sp (.bool false) rfl rfl ?_
                refine sx ?_
                refine cn ?_
                refine c_ret ?_
                obtain rfl := some_eq h
                exact rr (vs := [.bool false]) (res_c (resp_t rfl) res_nil) ⟨_, rfl, rfl⟩
            · have h := ite_f h b42
              refine sg_skip (decide ((a5.1.M.Key.toNat : Int) = (a21.1.M.Key.toNat : Int)) && (decide ((a5.1.M.Sign.toNat : Int) = (a21.1.M.Sign.toNat : Int)) && (decide (a5.1.M.N = a21.1.M.N) && true))) rfl b42 ?_
              refine sg_skip (decide ((a5.1.M.Key.toNat : Int) = (a21.1.M.Key.toNat : Int)) && (decide ((a5.1.M.Sign.toNat : Int) = (a21.1.M.Sign.toNat : Int)) && (decide (a5.1.M.N = a21.1.M.N) && true))) rfl b42 ?_
              refine sg_skip (decide ((a5.1.M.Key.toNat : Int) = (a21.1.M.Key.toNat : Int)) && (decide ((a5.1.M.Sign.toNat : Int) = (a21.1.M.Sign.toNat : Int)) && (decide (a5.1.M.N = a21.1.M.N) && true))) rfl b42 ?_
              refine sg_skip (decide ((a5.1.M.Key.toNat : Int) = (a21.1.M.Key.toNat : Int)) && (decide ((a5.1.M.Sign.toNat : Int) = (a21.1.M.Sign.toNat : Int)) && (decide (a5.1.M.N = a21.1.M.N) && true))) rfl b42 ?_
              refine sg_skip (decide ((a5.1.M.Key.toNat : Int) = (a21.1.M.Key.toNat : Int)) && (decide ((a5.1.M.Sign.toNat : Int) = (a21.1.M.Sign.toNat : Int)) && (decide (a5.1.M.N = a21.1.M.N) && true))) rfl b42 ?_
              refine sp (.bool false) rfl (e_pick_f rfl b42 rfl) ?_
              refine sp (.bool false) rfl rfl ?_
              refine sg_skip false rfl rfl ?_
              refine sg_skip false rfl rfl ?_
              refine sg_skip false rfl rfl ?_
              refine sg_skip false rfl rfl ?_
              refine sg_skip false rfl rfl ?_
              refine sp (.bool false) rfl (e_pick_f rfl rfl rfl) ?_
              refine sp (.bool false) rfl rfl ?_
              refine sx ?_
              refine cn ?_
              refine c_ret ?_
              obtain rfl := some_eq h
              exact rr (vs := [.bool false]) (res_c (resp_t rfl) res_nil) ⟨_, rfl, rfl⟩
          · have h := ite_f h b41
            refine sg_skip (decide ((a5.1.Op.toNat : Int) = (a21.1.Op.toNat : Int))) rfl b41 ?_
            refine sg_skip (decide ((a5.1.Op.toNat : Int) = (a21.1.Op.toNat : Int))) rfl b41 ?_
            refine sg_skip (decide ((a5.1.Op.toNat : Int) = (a21.1.Op.toNat : Int))) rfl b41 ?_
            refine sg_skip (decide ((a5.1.Op.toNat : Int) = (a21.1.Op.toNat : Int))) rfl b41 ?_
            refine sg_skip (decide ((a5.1.Op.toNat : Int) = (a21.1.Op.toNat : Int))) rfl b41 ?_
            refine sp (.bool false) rfl (e_pick_f rfl b41 rfl) ?_
            refine sp (.bool false) rfl rfl ?_
            refine sg_skip false rfl rfl ?_
            refine sg_skip false rfl rfl ?_
            refine sg_skip false rfl rfl ?_
            refine sg_skip false rfl rfl ?_
            refine sg_skip false rfl rfl ?_
            refine sp (.bool false) rfl (e_pick_f rfl rfl rfl) ?_
            refine sp (.bool false) rfl rfl ?_
            refine sg_skip false rfl rfl ?_
            refine sg_skip false rfl rfl ?_
            refine sg_skip false rfl rfl ?_
            refine sg_skip false rfl rfl ?_
            refine sg_skip false rfl rfl ?_
            refine sp (.bool false) rfl (e_pick_f rfl rfl rfl) ?_
            refine sp (.bool false) rfl rfl ?_
            refine sx ?_
            refine cn ?_
            refine c_ret ?_
            obtain rfl := some_eq h
            exact rr (vs := [.bool false]) (res_c (resp_t rfl) res_nil) ⟨_, rfl, rfl⟩
        · have h := ite_f h b40
          refine sg_skip (decide (a5.1.N = a21.1.N)) rfl b40 ?_
          refine sg_skip (decide (a5.1.N = a21.1.N)) rfl b40 ?_
          refine sg_skip (decide (a5.1.N = a21.1.N)) rfl b40 ?_
          refine sg_skip (decide (a5.1.N = a21.1.N)) rfl b40 ?_
          refine sg_skip (decide (a5.1.N = a21.1.N)) rfl b40 ?_
          refine sp (.bool false) rfl (e_pick_f rfl b40 rfl) ?_
          refine sp (.bool false) rfl rfl ?_
          refine sg_skip false rfl rfl ?_
          refine sg_skip false rfl rfl ?_
          refine sg_skip false rfl rfl ?_
          refine sg_skip false rfl rfl ?_
          refine sg_skip false rfl rfl ?_
          refine sp (.bool false) rfl (e_pick_f rfl rfl rfl) ?_
          refine sp (.bool false) rfl rfl ?_
          refine sg_skip false rfl rfl ?_
          refine sg_skip false rfl rfl ?_
          refine sg_skip false rfl rfl ?_
          refine sg_skip false rfl rfl ?_
          refine sg_skip false rfl rfl ?_
          refine sp (.bool false) rfl (e_pick_f rfl rfl rfl) ?_
          refine sp (.bool false) rfl rfl ?_
          refine sg_skip false rfl rfl ?_
          refine sg_skip false rfl rfl ?_
          refine sg_skip false rfl rfl ?_
          refine sg_skip false rfl rfl ?_
          refine sg_skip false rfl rfl ?_
          refine sp (.bool false) rfl (e_pick_f rfl rfl rfl) ?_
          refine sp (.bool false) rfl rfl ?_
          refine sx ?_
          refine cn ?_
          refine c_ret ?_
          obtain rfl := some_eq h
          exact rr (vs := [.bool false]) (res_c (resp_t rfl) res_nil) ⟨_, rfl, rfl⟩
      · have h := ite_f h b39
        refine sg_skip (decide ((a5.1.Reg.toNat : Int) = (a21.1.Reg.toNat : Int))) rfl b39 ?_
        refine sg_skip (decide ((a5.1.Reg.toNat : Int) = (a21.1.Reg.toNat : Int))) rfl b39 ?_
        refine sg_skip (decide ((a5.1.Reg.toNat : Int) = (a21.1.Reg.toNat : Int))) rfl b39 ?_
        refine sg_skip (decide ((a5.1.Reg.toNat : Int) = (a21.1.Reg.toNat : Int))) rfl b39 ?_
        refine sg_skip (decide ((a5.1.Reg.toNat : Int) = (a21.1.Reg.toNat : Int))) rfl b39 ?_
        refine sp (.bool false) rfl (e_pick_f rfl b39 rfl) ?_
        refine sp (.bool false) rfl rfl ?_
        refine sg_skip false rfl rfl ?_
        refine sg_skip false rfl rfl ?_
        refine sg_skip false rfl rfl ?_
        refine sg_skip false rfl rfl ?_
        refine sg_skip false rfl rfl ?_
        refine sp (.bool false) rfl (e_pick_f rfl rfl rfl) ?_
        refine sp (.bool false) rfl rfl ?_
        refine sg_skip false rfl rfl ?_
        refine sg_skip false rfl rfl ?_
        refine sg_skip false rfl rfl ?_
        refine sg_skip false rfl rfl ?_
        refine sg_skip false rfl rfl ?_
        refine sp (.bool false) rfl (e_pick_f rfl rfl rfl) ?_
        refine sp (.bool false) rfl rfl ?_
        refine sg_skip false rfl rfl ?_
        refine sg_skip false rfl rfl ?_
        refine sg_skip false rfl rfl ?_
        refine sg_skip false rfl rfl ?_
        refine sg_skip false rfl rfl ?_
        refine sp (.bool false) rfl (e_pick_f rfl rfl rfl) ?_
        refine sp (.bool false) rfl rfl ?_
        refine sg_skip false rfl rfl ?_
        refine sg_skip false rfl rfl ?_
        refine sg_skip false rfl rfl ?_
        refine sg_skip false rfl rfl ?_
        refine sg_skip false rfl rfl ?_
        refine sp (.bool false) rfl (e_pick_f rfl rfl rfl) ?_
        refine sp (.bool false) rfl rfl ?_
        refine sx ?_
        refine cn ?_
        refine c_ret ?_
        obtain rfl := some_eq h
        exact rr (vs := [.bool false]) (res_c (resp_t rfl) res_nil) ⟨_, rfl, rfl⟩
    · have h := ite_f h b38
      refine sg_skip (decide ((a5.1.Kind.toNat : Int) = (a21.1.Kind.toNat : Int))) rfl b38 ?_
      refine sg_skip (decide ((a5.1.Kind.toNat : Int) = (a21.1.Kind.toNat : Int))) rfl b38 ?_
      refine sg_skip (decide ((a5.1.Kind.toNat : Int) = (a21.1.Kind.toNat : Int))) rfl b38 ?_
      refine sg_skip (decide ((a5.1.Kind.toNat : Int) = (a21.1.Kind.toNat : Int))) rfl b38 ?_
      refine sg_skip (decide ((a5.1.Kind.toNat : Int) = (a21.1.Kind.toNat : Int))) rfl b38 ?_
      refine sp (.bool false) rfl (e_pick_f rfl b38 rfl) ?_
      refine sp (.bool false) rfl rfl ?_
      refine sg_skip false rfl rfl ?_
      refine sg_skip false rfl rfl ?_
      refine sg_skip false rfl rfl ?_
      refine sg_skip false rfl rfl ?_
      refine sg_skip false rfl rfl ?_
      refine sp (.bool false) rfl (e_pick_f rfl rfl rfl) ?_
      refine sp (.bool false) rfl rfl ?_
      refine sg_skip false rfl rfl ?_
      refine sg_skip false rfl rfl ?_
      refine sg_skip false rfl rfl ?_
      refine sg_skip false rfl rfl ?_
      refine sg_skip false rfl rfl ?_
      refine sp (.bool false) rfl (e_pick_f rfl rfl rfl) ?_
      refine sp (.bool false) rfl rfl ?_
      refine sg_skip false rfl rfl ?_
      refine sg_skip false rfl rfl ?_
      refine sg_skip false rfl rfl ?_
      refine sg_skip false rfl rfl ?_
      refine sg_skip false rfl rfl ?_
      refine sp (.bool false) rfl (e_pick_f rfl rfl rfl) ?_
      refine sp (.bool false) rfl rfl ?_
      refine sg_skip false rfl rfl ?_
      refine sg_skip false rfl rfl ?_
      refine sg_skip false rfl rfl ?_
      refine sg_skip false rfl rfl ?_
      refine sg_skip false rfl rfl ?_
      refine sp (.bool false) rfl (e_pick_f rfl rfl rfl) ?_
      refine sp (.bool false) rfl rfl ?_
      refine sg_skip false rfl rfl ?_
      refine sg_skip false rfl rfl ?_
      refine sg_skip false rfl rfl ?_
      refine sg_skip false rfl rfl ?_
      refine sg_skip false rfl rfl ?_
      refine sp (.bool false) rfl (e_pick_f rfl rfl rfl) ?_
      refine sp (.bool false) rfl rfl ?_
      refine sx ?_
      refine cn ?_
      refine c_ret ?_
      obtain rfl := some_eq h
      exact rr (vs := [.bool false]) (res_c (resp_t rfl) res_nil) ⟨_, rfl, rfl⟩
  · have h := ite_f h b37
    refine sg_skip (decide (a5.2 = a21.2)) rfl b37 ?_
    refine sg_skip (decide (a5.2 = a21.2)) rfl b37 ?_
    refine sg_skip (decide (a5.2 = a21.2)) rfl b37 ?_
    refine sg_skip (decide (a5.2 = a21.2)) rfl b37 ?_
    refine sg_skip (decide (a5.2 = a21.2)) rfl b37 ?_
    refine sp (.bool false) rfl (e_pick_f rfl b37 rfl) ?_
    refine sp (.bool false) rfl rfl ?_
    refine sg_skip false rfl rfl ?_
    refine sg_skip false rfl rfl ?_
    refine sg_skip false rfl rfl ?_
    refine sg_skip false rfl rfl ?_
    refine sg_skip false rfl rfl ?_
    refine sp (.bool false) rfl (e_pick_f rfl rfl rfl) ?_
    refine sp (.bool false) rfl rfl ?_
    refine sg_skip false rfl rfl ?_
    refine sg_skip false rfl rfl ?_
    refine sg_skip false rfl rfl ?_
    refine sg_skip false rfl rfl ?_
    refine sg_skip false rfl rfl ?_
    refine sp (.bool false) rfl (e_pick_f rfl rfl rfl) ?_
    refine sp (.bool false) rfl rfl ?_
    refine sg_skip false rfl rfl ?_
    refine sg_skip false rfl rfl ?_
    refine sg_skip false rfl rfl ?_
    refine sg_skip false rfl rfl ?_
    refine sg_skip false rfl rfl ?_
    refine sp (.bool false) rfl (e_pick_f rfl rfl rfl) ?_
    refine sp (.bool false) rfl rfl ?_
    refine sg_skip false rfl rfl ?_
    refine sg_skip false rfl rfl ?_
    refine sg_skip false rfl rfl ?_
    refine sg_skip false rfl rfl ?_
    refine sg_skip false rfl rfl ?_
    refine sp (.bool false) rfl (e_pick_f rfl rfl rfl) ?_
    refine sp (.bool false) rfl rfl ?_
    refine sg_skip false rfl rfl ?_
    refine sg_skip false rfl rfl ?_
    refine sg_skip false rfl rfl ?_
    refine sg_skip false rfl rfl ?_
    refine sg_skip false rfl rfl ?_
    refine sp (.bool false) rfl (e_pick_f rfl rfl rfl) ?_
    refine sp (.bool false) rfl rfl ?_
    refine sg_skip false rfl rfl ?_
    refine sg_skip false rfl rfl ?_
    refine sg_skip false rfl rfl ?_
    refine sg_skip false rfl rfl ?_
    refine sg_skip false rfl rfl ?_
    refine sp (.bool false) rfl (e_pick_f rfl rfl rfl) ?_
    refine sp (.bool false) rfl rfl ?_
    refine sx ?_
    refine cn ?_
    refine c_ret ?_
    obtain rfl := some_eq h
    exact rr (vs := [.bool false]) (res_c (resp_t rfl) res_nil) ⟨_, rfl, rfl⟩
/- platen.platenlaw21.KeysReads -/
def platenlaw21_KeysReads_j5 (k : Nat) (x1 : List UInt8) (x4 : Bool) (x10 : Bool) : Option Bool :=
  if x10 then ((platenlaw21_two k).bind fun a12 => some a12) else ((platenlaw21_same k x1 x4).bind fun a16 => some a16)
def platenlaw21_KeysReads (k : Nat) (x1 : List UInt8) (x4 : Bool) : Option Bool :=
  (platenlaw21_two k).bind fun a5 => if !a5 then (platenlaw21_KeysReads_j5 k x1 x4 true) else (platenlaw21_KeysReads_j5 k x1 x4 (decide (60 < (x1.length : Int))))
theorem platenlaw21_KeysReads_j5_ok (k : Nat) (x1 : List UInt8) (x4 : Bool) (x10 : Bool) {r : Bool} {v2 : AV} {tm : List (Nat × AV)} {σ : St} {B : List (Nat × Blk)} {O : List AV}
    (h : platenlaw21_KeysReads_j5 k x1 x4 x10 = some r)
    (e0 : lk tm 0 = some (v2))
    (e1 : lk tm 1 = some (.bool x4))
    (e11 : lk tm 11 = some (.bool x10))
    (s3 : SL RU8 1 x1 v2)
    (I : Inv σ (B) (O)) :
    RunC kE k3c5 ⟨tm, σ⟩ (Cont kE k3c10 (ResP (E := kE) k3.res (fun v σ' => ∃ v', close v = some v' ∧ v' = .bool r))) := by
  unfold platenlaw21_KeysReads_j5 at h
  refine c_keep (keep_cons e0 (keep_cons e1 (keep_cons e11 keep_nil))) ?_
  rcases bool_tf x10 with b11 | b11
  · have h := ite_t h b11
    refine c_cond_t x10 rfl b11 ?_
    refine c_seq ?_
    refine c_reg ?_
    obtain ⟨a12, g13, h⟩ := bind_some h
    refine st_callc (platenlaw21_two_ok k  _ g13 ) rfl ?_
    intro v14 q15
    obtain rfl := q15
    refine sp (.bool a12) rfl rfl ?_
    refine sx ?_
    refine cn ?_
    refine c_ret ?_
    refine cr ?_
    obtain rfl := some_eq h
    exact rr (vs := [.bool a12]) (res_c (resp_t rfl) res_nil) ⟨_, rfl, rfl⟩
  · have h := ite_f h b11
    refine c_cond_f x10 rfl b11 ?_
    refine c_skip ?_
    refine cn ?_
    refine c_keep (keep_cons rfl (keep_cons rfl keep_nil)) ?_
    refine c_seq ?_
    refine c_reg ?_
    refine sp (v2) rfl rfl ?_
    refine sp (.bool x4) rfl rfl ?_
    obtain ⟨a16, g17, h⟩ := bind_some h
    refine st_callc (platenlaw21_same_ok k _ _ _ g17 s3) rfl ?_
    intro v18 q19
    obtain rfl := q19
    refine sp (.bool a16) rfl rfl ?_
    refine sx ?_
    refine cn ?_
    refine c_ret ?_
    obtain rfl := some_eq h
    exact rr (vs := [.bool a16]) (res_c (resp_t rfl) res_nil) ⟨_, rfl, rfl⟩
theorem platenlaw21_KeysReads_ok (k : Nat) (x1 : List UInt8) (x4 : Bool) (r : Bool) {v2 : AV}  {σ : St}
    (h : platenlaw21_KeysReads k x1 x4 = some r)
    (s3 : SL RU8 1 x1 v2) :
    RunF kE 3 [v2, .bool x4] σ (fun v σ' => σ' = σ ∧ v = .bool r) := by
  obtain ⟨v2, k0, s3⟩ := s3.close
  refine f_closed rfl rfl rfl (cl_cons k0 (cl_cons rfl cl_nil)) rfl ?_
  have I0 : Inv .zero [] [] := Inv.zero
  unfold platenlaw21_KeysReads at h
  refine c_seq ?_
  refine c_reg ?_
  refine sp (.bool false) rfl rfl ?_
  refine sx ?_
  refine cn ?_
  refine c_keep (keep_cons rfl (keep_cons rfl keep_nil)) ?_
  refine c_seq ?_
  refine c_seq ?_
  refine c_reg ?_
  obtain ⟨a5, g6, h⟩ := bind_some h
  refine st_callc (platenlaw21_two_ok k  _ g6 ) rfl ?_
  intro v7 q8
  obtain rfl := q8
  refine sp (.bool (!a5)) rfl rfl ?_
  refine sp (.bool (!a5)) rfl rfl ?_
  rcases bool_tf (!a5) with b9 | b9
  · have h := ite_t h b9
    refine sg_skip (!a5) rfl b9 ?_
    refine sg_skip (!a5) rfl b9 ?_
    refine sg_skip (!a5) rfl b9 ?_
    refine sp (.bool true) rfl (e_pick_t rfl b9 rfl) ?_
    refine sx ?_
    refine cn ?_
    exact platenlaw21_KeysReads_j5_ok k x1 x4 true h rfl rfl rfl s3  I0
  · have h := ite_f h b9
    refine sg_run (!a5) rfl b9 ?_
    refine sp (v2) rfl rfl ?_
    refine sg_run (!a5) rfl b9 ?_
    refine sp (.int .i64 (x1.length : Int)) rfl (e_len rfl s3 (Nat.le_of_ble_eq_true rfl)) ?_
    refine sg_run (!a5) rfl b9 ?_
    refine sp (.bool (decide (60 < (x1.length : Int)))) rfl rfl ?_
    refine sp (.bool (decide (60 < (x1.length : Int)))) rfl (e_pick_f rfl b9 rfl) ?_
    refine sx ?_
    refine cn ?_
    exact platenlaw21_KeysReads_j5_ok k x1 x4 (decide (60 < (x1.length : Int))) h rfl rfl rfl s3  I0
/- platen.platenlaw21.text -/
def platenlaw21_text_l8 (x1 : List UInt8) : Nat → (List UInt8) → Int → Option (List UInt8)
  | 0, _, _ => none
  | k + 1, x4, x7 => if decide (x7 < (x1.length : Int)) then ((lIdx x1 x7).bind fun a9 => (iRem (a9.toNat : Int) 47).bind fun a17 => (lIdx ((34 :: 97 :: 48 :: 49 :: 50 :: 51 :: 52 :: 53 :: 57 :: 100 :: 99 :: 121 :: 60 :: 62 :: 61 :: 103 :: 113 :: 119 :: 105 :: 112 :: 108 :: 102 :: 116 :: 120 :: 96 :: 104 :: 106 :: 107 :: 101 :: 71 :: 123 :: 125 :: 36 :: 94 :: 46 :: 117 :: 74 :: 58 :: 118 :: 86 :: 109 :: 114 :: 65 :: 27 :: 18 :: 10 :: 233 :: []) : List UInt8) a17).bind fun a19 => (lApp 1 x4 ([a19] : List UInt8)).bind fun a23 => platenlaw21_text_l8 x1 k a23 (IntKind.i64.wrap (x7 + 1))) else (some x4)
def platenlaw21_text (k : Nat) (x1 : List UInt8) : Option (List UInt8) :=
  (platenlaw21_text_l8 x1 k [] 0).bind fun x29 => some x29
theorem platenlaw21_text_l8_ok (x1 : List UInt8) {out : List UInt8} {v2 : AV} {Q : Ex → M → Prop} {B : List (Nat × Blk)} {O : List AV}
    (s3 : SL RU8 1 x1 v2)
    (hL0 : ∀ (x29 : List UInt8) (v30 : AV) (tm : List (Nat × AV)) (σ : St), lk tm 3 = some (v30) → SL RU8 1 x29 v30 → Inv σ (B) (v30 :: O) → x29 = out → Q (.exit 0) ⟨tm, σ⟩) :
    ∀ (k : Nat) (x4 : List UInt8) (x7 : Int) (v5 : AV) (tm : List (Nat × AV)) (σ : St), platenlaw21_text_l8 x1 k x4 x7 = some out →
    lk tm 0 = some (v2) →
    lk tm 3 = some (v5) →
    lk tm 4 = some (.int .i64 x7) →
    SL RU8 1 x4 v5 →
    Inv σ (B) (v5 :: O) → RunC kE (.loop k11l8) ⟨tm, σ⟩ Q := by
  intro k
  induction k with
  | zero => intros; exact none_eq ‹platenlaw21_text_l8 x1 0 _ _ = some out›
  | succ k ih =>
    intro x4 x7 v5 tm σ h e0 e3 e4 s6 I
    rw [platenlaw21_text_l8] at h
    refine c_loop ?_
    refine c_keep (keep_cons e0 (keep_cons e3 (keep_cons e4 keep_nil))) ?_
    refine c_seq ?_
    refine c_seq ?_
    refine c_reg ?_
    refine sp (.int .i64 x7) rfl rfl ?_
    refine sp (v2) rfl rfl ?_
    refine sp (.int .i64 (x1.length : Int)) rfl (e_len rfl s3 (Nat.le_of_ble_eq_true rfl)) ?_
    refine sp (.bool (decide (x7 < (x1.length : Int)))) rfl rfl ?_
    refine sx ?_
    refine cn ?_
    refine c_keep (keep_cons rfl (keep_cons rfl (keep_cons rfl (keep_cons rfl keep_nil)))) ?_
    rcases bool_tf (decide (x7 < (x1.length : Int))) with b8 | b8
    · have h := ite_t h b8
      refine c_cond_t (decide (x7 < (x1.length : Int))) rfl b8 ?_
      refine c_skip ?_
      refine cn ?_
      refine c_keep (keep_cons rfl (keep_cons rfl (keep_cons rfl keep_nil))) ?_
      refine c_seq ?_
      refine c_block ?_
      refine c_reg ?_
      refine sp (v5) rfl rfl ?_
      refine sp (v2) rfl rfl ?_
      refine sp (.int .i64 x7) rfl rfl ?_
      obtain ⟨a9, g10, h⟩ := bind_some h
      refine st_idxa rfl s3 rfl (Nat.le_of_ble_eq_true rfl) g10 ?_
      intro c11 o12 d13 q14 z15 l16
      obtain rfl := q14
      clear z15
      refine sp (u8 a9) rfl (e_load_elem 0 rfl l16 rfl) ?_
      refine spe (.int .i64 (a9.toNat : Int)) rfl rfl (u8_to .i64 _ rfl) ?_
      obtain ⟨a17, g18, h⟩ := bind_some h
      refine sp (.int .i64 a17) rfl (e_rem rfl rfl g18) ?_
      obtain ⟨a19, g20, h⟩ := bind_some h
      refine sp (u8 a19) rfl (e_idxs rfl rfl g20) ?_
      refine sp (.list .own 1 [u8 a19]) rfl rfl ?_
      have s22 : SL RU8 1 ([a19] : List UInt8) (.list .own 1 [u8 a19]) := SL.mk (RL.cons [u8 a19] rfl rfl RL.nil)
      obtain ⟨a23, g24, h⟩ := bind_some h
      refine st_app I rfl s6 rfl (MC.list s22) (Nat.le_of_ble_eq_true rfl) g24 ?_
      intro v25 σ27 s26 I28
      refine sp (v25) rfl rfl ?_
      refine sx ?_
      refine bn ?_
      refine cn ?_
      refine c_keep (keep_cons rfl (keep_cons rfl (keep_cons rfl keep_nil))) ?_
      refine c_reg ?_
      refine sp (.int .i64 x7) rfl rfl ?_
      refine sp (.int .i64 (IntKind.i64.wrap (x7 + 1))) rfl rfl ?_
      refine sp (.int .i64 (IntKind.i64.wrap (x7 + 1))) rfl rfl ?_
      refine sx ?_
      refine cn ?_
      exact ih a23 (IntKind.i64.wrap (x7 + 1)) _ _ _ h rfl rfl rfl s26 I28
    · have h := ite_f h b8
      refine c_cond_f (decide (x7 < (x1.length : Int))) rfl b8 ?_
      refine c_exit ?_
      refine cx ?_
      refine cx ?_
      exact hL0 x4 _ _ _ rfl s6 I (some_eq h)
theorem platenlaw21_text_ok (k : Nat) (x1 : List UInt8) (r : List UInt8) {v2 : AV}  {σ : St}
    (h : platenlaw21_text k x1 = some r)
    (s3 : SL RU8 1 x1 v2) :
    RunF kE 11 [v2] σ (fun v σ' => σ' = σ ∧ SL RU8 1 r v) := by
  obtain ⟨v2, k0, s3⟩ := s3.close
  refine f_closed rfl rfl rfl (cl_cons k0 cl_nil) rfl ?_
  have I0 : Inv .zero [] [] := Inv.zero
  unfold platenlaw21_text at h
  refine c_seq ?_
  refine c_reg ?_
  refine sp (.nils) rfl rfl ?_
  refine sx ?_
  refine cn ?_
  refine c_keep (keep_cons rfl keep_nil) ?_
  refine c_seq ?_
  refine c_reg ?_
  refine sp (.nils) rfl rfl ?_
  refine sx ?_
  refine cn ?_
  refine c_keep (keep_cons rfl (keep_cons rfl keep_nil)) ?_
  refine c_seq ?_
  refine c_seq ?_
  refine c_reg ?_
  refine sp (.int .i64 0) rfl rfl ?_
  refine sx ?_
  refine cn ?_
  refine c_keep (keep_cons rfl (keep_cons rfl (keep_cons rfl keep_nil))) ?_
  refine c_block ?_
  have I32 : Inv _ ([]) (AV.nils :: []) := I0.onil
  obtain ⟨a33, g34, h⟩ := bind_some h
  refine platenlaw21_text_l8_ok x1 s3 ?_ k [] 0 _ _ _ g34 rfl rfl rfl SL.nil I32
  · intro x29 v30 tm35 σ36 e39 s31 I37 ho38
    subst ho38
    refine bx ?_
    refine cn ?_
    refine c_keep (keep_cons e39 keep_nil) ?_
    refine c_seq ?_
    refine c_reg ?_
    refine sp (v30) rfl rfl ?_
    refine sp (v30) rfl rfl ?_
    refine sx ?_
    refine cn ?_
    refine c_ret ?_
    obtain rfl := some_eq h
    obtain ⟨w40, k41, s42⟩ := s31.close
    exact rr (vs := [v30]) (res_c (resp_t rfl) res_nil) ⟨_, k41, s42⟩
/- platen.platenlaw21.KeysWords -/
def platenlaw21_KeysWords_j5 (k : Nat) (x1 : List UInt8) (x4 : Bool) (x10 : Bool) : Option Bool :=
  if x10 then ((platenlaw21_two k).bind fun a12 => some a12) else ((platenlaw21_text k x1).bind fun a16 => (platenlaw21_same k a16 x4).bind fun a20 => some a20)
def platenlaw21_KeysWords (k : Nat) (x1 : List UInt8) (x4 : Bool) : Option Bool :=
  (platenlaw21_two k).bind fun a5 => if !a5 then (platenlaw21_KeysWords_j5 k x1 x4 true) else (platenlaw21_KeysWords_j5 k x1 x4 (decide (20 < (x1.length : Int))))
theorem platenlaw21_KeysWords_j5_ok (k : Nat) (x1 : List UInt8) (x4 : Bool) (x10 : Bool) {r : Bool} {v2 : AV} {tm : List (Nat × AV)} {σ : St} {B : List (Nat × Blk)} {O : List AV}
    (h : platenlaw21_KeysWords_j5 k x1 x4 x10 = some r)
    (e0 : lk tm 0 = some (v2))
    (e1 : lk tm 1 = some (.bool x4))
    (e11 : lk tm 11 = some (.bool x10))
    (s3 : SL RU8 1 x1 v2)
    (I : Inv σ (B) (O)) :
    RunC kE k4c5 ⟨tm, σ⟩ (Cont kE k4c10 (ResP (E := kE) k4.res (fun v σ' => ∃ v', close v = some v' ∧ v' = .bool r))) := by
  unfold platenlaw21_KeysWords_j5 at h
  refine c_keep (keep_cons e0 (keep_cons e1 (keep_cons e11 keep_nil))) ?_
  rcases bool_tf x10 with b11 | b11
  · have h := ite_t h b11
    refine c_cond_t x10 rfl b11 ?_
    refine c_seq ?_
    refine c_reg ?_
    obtain ⟨a12, g13, h⟩ := bind_some h
    refine st_callc (platenlaw21_two_ok k  _ g13 ) rfl ?_
    intro v14 q15
    obtain rfl := q15
    refine sp (.bool a12) rfl rfl ?_
    refine sx ?_
    refine cn ?_
    refine c_ret ?_
    refine cr ?_
    obtain rfl := some_eq h
    exact rr (vs := [.bool a12]) (res_c (resp_t rfl) res_nil) ⟨_, rfl, rfl⟩
  · have h := ite_f h b11
    refine c_cond_f x10 rfl b11 ?_
    refine c_skip ?_
    refine cn ?_
    refine c_keep (keep_cons rfl (keep_cons rfl keep_nil)) ?_
    refine c_seq ?_
    refine c_reg ?_
    refine sp (v2) rfl rfl ?_
    obtain ⟨a16, g17, h⟩ := bind_some h
    refine st_callc (platenlaw21_text_ok k _ _ g17 s3) rfl ?_
    intro v18 q19
    refine sp (.bool x4) rfl rfl ?_
    obtain ⟨a20, g21, h⟩ := bind_some h
    refine st_callc (platenlaw21_same_ok k _ _ _ g21 q19) rfl ?_
    intro v22 q23
    obtain rfl := q23
    refine sp (.bool a20) rfl rfl ?_
    refine sx ?_
    refine cn ?_
    refine c_ret ?_
    obtain rfl := some_eq h
    exact rr (vs := [.bool a20]) (res_c (resp_t rfl) res_nil) ⟨_, rfl, rfl⟩
theorem platenlaw21_KeysWords_ok (k : Nat) (x1 : List UInt8) (x4 : Bool) (r : Bool) {v2 : AV}  {σ : St}
    (h : platenlaw21_KeysWords k x1 x4 = some r)
    (s3 : SL RU8 1 x1 v2) :
    RunF kE 4 [v2, .bool x4] σ (fun v σ' => σ' = σ ∧ v = .bool r) := by
  obtain ⟨v2, k0, s3⟩ := s3.close
  refine f_closed rfl rfl rfl (cl_cons k0 (cl_cons rfl cl_nil)) rfl ?_
  have I0 : Inv .zero [] [] := Inv.zero
  unfold platenlaw21_KeysWords at h
  refine c_seq ?_
  refine c_reg ?_
  refine sp (.bool false) rfl rfl ?_
  refine sx ?_
  refine cn ?_
  refine c_keep (keep_cons rfl (keep_cons rfl keep_nil)) ?_
  refine c_seq ?_
  refine c_seq ?_
  refine c_reg ?_
  obtain ⟨a5, g6, h⟩ := bind_some h
  refine st_callc (platenlaw21_two_ok k  _ g6 ) rfl ?_
  intro v7 q8
  obtain rfl := q8
  refine sp (.bool (!a5)) rfl rfl ?_
  refine sp (.bool (!a5)) rfl rfl ?_
  rcases bool_tf (!a5) with b9 | b9
  · have h := ite_t h b9
    refine sg_skip (!a5) rfl b9 ?_
    refine sg_skip (!a5) rfl b9 ?_
    refine sg_skip (!a5) rfl b9 ?_
    refine sp (.bool true) rfl (e_pick_t rfl b9 rfl) ?_
    refine sx ?_
    refine cn ?_
    exact platenlaw21_KeysWords_j5_ok k x1 x4 true h rfl rfl rfl s3  I0
  · have h := ite_f h b9
    refine sg_run (!a5) rfl b9 ?_
    refine sp (v2) rfl rfl ?_
    refine sg_run (!a5) rfl b9 ?_
    refine sp (.int .i64 (x1.length : Int)) rfl (e_len rfl s3 (Nat.le_of_ble_eq_true rfl)) ?_
    refine sg_run (!a5) rfl b9 ?_
    refine sp (.bool (decide (20 < (x1.length : Int)))) rfl rfl ?_
    refine sp (.bool (decide (20 < (x1.length : Int)))) rfl (e_pick_f rfl b9 rfl) ?_
    refine sx ?_
    refine cn ?_
    exact platenlaw21_KeysWords_j5_ok k x1 x4 (decide (20 < (x1.length : Int))) h rfl rfl rfl s3  I0
/- platen.platenlaw21.digits -/
def platenlaw21_digits_l6  : Nat → Int → (List UInt8) → Option (List UInt8)
  | 0, _, _ => none
  | k + 1, x2, x3 => if decide (0 < x2) then ((iRem x2 10).bind fun a7 => (lApp 1 ([(toB (IntKind.i64.wrap (48 + a7)))] : List UInt8) x3).bind fun a12 => (iQuo .i64 x2 10).bind fun a18 => platenlaw21_digits_l6  k a18 a12) else (some x3)
def platenlaw21_digits (k : Nat) (x1 : Int) : Option (List UInt8) :=
  (platenlaw21_digits_l6  k x1 []).bind fun x21 => some x21
theorem platenlaw21_digits_l6_ok  {out : List UInt8}  {Q : Ex → M → Prop} {B : List (Nat × Blk)} {O : List AV}
    (hL0 : ∀ (x21 : List UInt8) (v22 : AV) (tm : List (Nat × AV)) (σ : St), lk tm 3 = some (v22) → SL RU8 1 x21 v22 → Inv σ (B) (v22 :: O) → x21 = out → Q (.exit 0) ⟨tm, σ⟩) :
    ∀ (k : Nat) (x2 : Int) (x3 : List UInt8) (v4 : AV) (tm : List (Nat × AV)) (σ : St), platenlaw21_digits_l6  k x2 x3 = some out →
    lk tm 0 = some (.int .i64 x2) →
    lk tm 3 = some (v4) →
    SL RU8 1 x3 v4 →
    Inv σ (B) (v4 :: O) → RunC kE (.loop k12l6) ⟨tm, σ⟩ Q := by
  intro k
  induction k with
  | zero => intros; exact none_eq ‹platenlaw21_digits_l6  0 _ _ = some out›
  | succ k ih =>
    intro x2 x3 v4 tm σ h e0 e3 s5 I
    rw [platenlaw21_digits_l6] at h
    refine c_loop ?_
    refine c_keep (keep_cons e0 (keep_cons e3 keep_nil)) ?_
    refine c_seq ?_
    refine c_seq ?_
    refine c_reg ?_
    refine sp (.int .i64 x2) rfl rfl ?_
    refine sp (.bool (decide (0 < x2))) rfl rfl ?_
    refine sx ?_
    refine cn ?_
    refine c_keep (keep_cons rfl (keep_cons rfl (keep_cons rfl keep_nil))) ?_
    rcases bool_tf (decide (0 < x2)) with b6 | b6
    · have h := ite_t h b6
      refine c_cond_t (decide (0 < x2)) rfl b6 ?_
      refine c_skip ?_
      refine cn ?_
      refine c_keep (keep_cons rfl (keep_cons rfl keep_nil)) ?_
      refine c_seq ?_
      refine c_block ?_
      refine c_reg ?_
      refine sp (.int .i64 x2) rfl rfl ?_
      obtain ⟨a7, g8, h⟩ := bind_some h
      refine sp (.int .i64 a7) rfl (e_rem rfl rfl g8) ?_
      refine sp (.int .i64 (IntKind.i64.wrap (48 + a7))) rfl rfl ?_
      refine spe (u8 (toB (IntKind.i64.wrap (48 + a7)))) rfl rfl (u8_wrap _) ?_
      refine sp (.list .own 1 [u8 (toB (IntKind.i64.wrap (48 + a7)))]) rfl rfl ?_
      have s10 : SL RU8 1 ([(toB (IntKind.i64.wrap (48 + a7)))] : List UInt8) (.list .own 1 [u8 (toB (IntKind.i64.wrap (48 + a7)))]) := SL.mk (RL.cons [u8 (toB (IntKind.i64.wrap (48 + a7)))] rfl rfl RL.nil)
      refine sp (v4) rfl rfl ?_
      have I11 : Inv _ (B) ((.list .own 1 [u8 (toB (IntKind.i64.wrap (48 + a7)))]) :: v4 :: O) := I.oown
      obtain ⟨a12, g13, h⟩ := bind_some h
      refine st_app I11 rfl s10 rfl (MC.list s5) (Nat.le_of_ble_eq_true rfl) g13 ?_
      intro v14 σ16 s15 I17
      refine sp (v14) rfl rfl ?_
      refine sx ?_
      refine bn ?_
      refine cn ?_
      refine c_keep (keep_cons rfl (keep_cons rfl keep_nil)) ?_
      refine c_reg ?_
      refine sp (.int .i64 x2) rfl rfl ?_
      obtain ⟨a18, g19, h⟩ := bind_some h
      refine sp (.int .i64 a18) rfl (e_quo rfl rfl g19) ?_
      refine sp (.int .i64 a18) rfl rfl ?_
      refine sx ?_
      refine cn ?_
      have I20 : Inv _ (B) (v14 :: O) := (I17.ofront 1 rfl).odrop
      exact ih a18 a12 _ _ _ h rfl rfl s15 I20
    · have h := ite_f h b6
      refine c_cond_f (decide (0 < x2)) rfl b6 ?_
      refine c_exit ?_
      refine cx ?_
      refine cx ?_
      exact hL0 x3 _ _ _ rfl s5 I (some_eq h)
theorem platenlaw21_digits_ok (k : Nat) (x1 : Int) (r : List UInt8)   {σ : St}
    (h : platenlaw21_digits k x1 = some r) :
    RunF kE 12 [.int .i64 x1] σ (fun v σ' => σ' = σ ∧ SL RU8 1 r v) := by
  refine f_closed rfl rfl rfl (cl_cons rfl cl_nil) rfl ?_
  have I0 : Inv .zero [] [] := Inv.zero
  unfold platenlaw21_digits at h
  refine c_seq ?_
  refine c_reg ?_
  refine sp (.nils) rfl rfl ?_
  refine sx ?_
  refine cn ?_
  refine c_keep (keep_cons rfl keep_nil) ?_
  refine c_seq ?_
  refine c_reg ?_
  refine sp (.nils) rfl rfl ?_
  refine sx ?_
  refine cn ?_
  refine c_keep (keep_cons rfl (keep_cons rfl keep_nil)) ?_
  refine c_seq ?_
  refine c_block ?_
  have I24 : Inv _ ([]) (AV.nils :: []) := I0.onil
  obtain ⟨a25, g26, h⟩ := bind_some h
  refine platenlaw21_digits_l6_ok   ?_ k x1 [] _ _ _ g26 rfl rfl SL.nil I24
  · intro x21 v22 tm27 σ28 e31 s23 I29 ho30
    subst ho30
    refine bx ?_
    refine cn ?_
    refine c_keep (keep_cons e31 keep_nil) ?_
    refine c_seq ?_
    refine c_reg ?_
    refine sp (v22) rfl rfl ?_
    refine sp (v22) rfl rfl ?_
    refine sx ?_
    refine cn ?_
    refine c_ret ?_
    obtain rfl := some_eq h
    obtain ⟨w32, k33, s34⟩ := s23.close
    exact rr (vs := [v22]) (res_c (resp_t rfl) res_nil) ⟨_, k33, s34⟩
/- platen.platenlaw21.KeysParts -/
def platenlaw21_KeysParts_j32 (k : Nat) (x8 : Bool) (x89 : List UInt8) : Option Bool :=
  (platenlaw21_same k x89 x8).bind fun a92 => some a92
def platenlaw21_KeysParts_j29 (k : Nat) (x7 : UInt8) (x8 : Bool) (x76 : List UInt8) (x79 : Bool) : Option Bool :=
  if x79 then ((lApp 1 x76 ([x7] : List UInt8)).bind fun a83 => platenlaw21_KeysParts_j32 k x8 a83) else (platenlaw21_KeysParts_j32 k x8 x76)
def platenlaw21_KeysParts_j18 (k : Nat) (x3 : Int) (x4 : Int) (x5 : UInt8) (x6 : UInt8) (x7 : UInt8) (x8 : Bool) (x26 : List UInt8) : Option Bool :=
  (iRem (IntKind.i64.wrap x3) 11000).bind fun a29 => (platenlaw21_digits k a29).bind fun a31 => (lApp 1 x26 a31).bind fun a35 => (iRem (x5.toNat : Int) 9).bind fun a41 => (lIdx ([([100] : List UInt8), ([99] : List UInt8), ([121] : List UInt8), ([60] : List UInt8), ([62] : List UInt8), ([61] : List UInt8), ([103, 113] : List UInt8), ([] : List UInt8), ([] : List UInt8)] : List (List UInt8)) a41).bind fun a43 => (lApp 1 a35 a43).bind fun a45 => (iRem (IntKind.i64.wrap x4) 300).bind fun a51 => (platenlaw21_digits k a51).bind fun a53 => (lApp 1 a45 a53).bind fun a57 => (iRem (x6.toNat : Int) 24).bind fun a63 => (lIdx ([([104] : List UInt8), ([108] : List UInt8), ([106] : List UInt8), ([107] : List UInt8), ([48] : List UInt8), ([94] : List UInt8), ([36] : List UInt8), ([119] : List UInt8), ([98] : List UInt8), ([101] : List UInt8), ([123] : List UInt8), ([125] : List UInt8), ([71] : List UInt8), ([103, 103] : List UInt8), ([102] : List UInt8), ([116] : List UInt8), ([105, 119] : List UInt8), ([105, 112] : List UInt8), ([105, 108] : List UInt8), ([100] : List UInt8), ([113] : List UInt8), ([60] : List UInt8), ([120] : List UInt8), ([118] : List UInt8)] : List (List UInt8)) a63).bind fun a65 => (lApp 1 a57 a65).bind fun a67 => (iRem (x6.toNat : Int) 24).bind fun a73 => if decide ((((toB a73)).toNat : Int) = 14) then (platenlaw21_KeysParts_j29 k x7 x8 a67 true) else ((iRem (x6.toNat : Int) 24).bind fun a96 => platenlaw21_KeysParts_j29 k x7 x8 a67 (decide ((((toB a96)).toNat : Int) = 15)))
def platenlaw21_KeysParts (k : Nat) (x1 : UInt8) (x2 : Bool) (x3 : Int) (x4 : Int) (x5 : UInt8) (x6 : UInt8) (x7 : UInt8) (x8 : Bool) : Option Bool :=
  (platenlaw21_two k).bind fun a9 => if !a9 then (some false) else (if x2 then ((iRem (x1.toNat : Int) 26).bind fun a15 => (lApp 1 ([] : List UInt8) ([(34 : UInt8), (toB (97 + (((toB a15)).toNat : Int)))] : List UInt8)).bind fun a20 => platenlaw21_KeysParts_j18 k x3 x4 x5 x6 x7 x8 a20) else (platenlaw21_KeysParts_j18 k x3 x4 x5 x6 x7 x8 []))
theorem platenlaw21_KeysParts_j32_ok (k : Nat) (x8 : Bool) (x89 : List UInt8) {r : Bool} {v90 : AV} {tm : List (Nat × AV)} {σ : St} {B : List (Nat × Blk)} {O : List AV}
    (h : platenlaw21_KeysParts_j32 k x8 x89 = some r)
    (e7 : lk tm 7 = some (.bool x8))
    (e17 : lk tm 17 = some (v90))
    (s91 : SL RU8 1 x89 v90)
    (I : Inv σ (B) (v90 :: O)) :
    RunC kE k5c32 ⟨tm, σ⟩ (ResP (E := kE) k5.res (fun v σ' => ∃ v', close v = some v' ∧ v' = .bool r)) := by
  unfold platenlaw21_KeysParts_j32 at h
  refine c_keep (keep_cons e7 (keep_cons e17 keep_nil)) ?_
  refine c_seq ?_
  refine c_reg ?_
  refine sp (v90) rfl rfl ?_
  refine sp (.bool x8) rfl rfl ?_
  obtain ⟨a92, g93, h⟩ := bind_some h
  refine st_callc (platenlaw21_same_ok k _ _ _ g93 s91) rfl ?_
  intro v94 q95
  obtain rfl := q95
  refine sp (.bool a92) rfl rfl ?_
  refine sx ?_
  refine cn ?_
  refine c_ret ?_
  obtain rfl := some_eq h
  exact rr (vs := [.bool a92]) (res_c (resp_t rfl) res_nil) ⟨_, rfl, rfl⟩
theorem platenlaw21_KeysParts_j29_ok (k : Nat) (x7 : UInt8) (x8 : Bool) (x76 : List UInt8) (x79 : Bool) {r : Bool} {v77 : AV} {tm : List (Nat × AV)} {σ : St} {B : List (Nat × Blk)} {O : List AV}
    (h : platenlaw21_KeysParts_j29 k x7 x8 x76 x79 = some r)
    (e6 : lk tm 6 = some (u8 x7))
    (e7 : lk tm 7 = some (.bool x8))
    (e17 : lk tm 17 = some (v77))
    (e60 : lk tm 60 = some (.bool x79))
    (s78 : SL RU8 1 x76 v77)
    (I : Inv σ (B) (v77 :: O)) :
    RunC kE k5c29 ⟨tm, σ⟩ (Cont kE k5c32 (ResP (E := kE) k5.res (fun v σ' => ∃ v', close v = some v' ∧ v' = .bool r))) := by
  unfold platenlaw21_KeysParts_j29 at h
  refine c_keep (keep_cons e6 (keep_cons e7 (keep_cons e17 (keep_cons e60 keep_nil)))) ?_
  rcases bool_tf x79 with b80 | b80
  · have h := ite_t h b80
    refine c_cond_t x79 rfl b80 ?_
    refine c_reg ?_
    refine sp (v77) rfl rfl ?_
    refine sp (u8 x7) rfl rfl ?_
    refine sp (.list .own 1 [u8 x7]) rfl rfl ?_
    have s82 : SL RU8 1 ([x7] : List UInt8) (.list .own 1 [u8 x7]) := SL.mk (RL.cons [u8 x7] rfl rfl RL.nil)
    obtain ⟨a83, g84, h⟩ := bind_some h
    refine st_app I rfl s78 rfl (MC.list s82) (Nat.le_of_ble_eq_true rfl) g84 ?_
    intro v85 σ87 s86 I88
    refine sp (v85) rfl rfl ?_
    refine sx ?_
    refine cn ?_
    exact platenlaw21_KeysParts_j32_ok k x8 a83 h rfl rfl  s86 I88
  · have h := ite_f h b80
    refine c_cond_f x79 rfl b80 ?_
    refine c_skip ?_
    refine cn ?_
    exact platenlaw21_KeysParts_j32_ok k x8 x76 h rfl rfl  s78 I
theorem platenlaw21_KeysParts_j18_ok (k : Nat) (x3 : Int) (x4 : Int) (x5 : UInt8) (x6 : UInt8) (x7 : UInt8) (x8 : Bool) (x26 : List UInt8) {r : Bool} {v27 : AV} {tm : List (Nat × AV)} {σ : St} {B : List (Nat × Blk)} {O : List AV}
    (h : platenlaw21_KeysParts_j18 k x3 x4 x5 x6 x7 x8 x26 = some r)
    (e2 : lk tm 2 = some (.int .u16 x3))
    (e3 : lk tm 3 = some (.int .u16 x4))
    (e4 : lk tm 4 = some (u8 x5))
    (e5 : lk tm 5 = some (u8 x6))
    (e6 : lk tm 6 = some (u8 x7))
    (e7 : lk tm 7 = some (.bool x8))
    (e17 : lk tm 17 = some (v27))
    (s28 : SL RU8 1 x26 v27)
    (I : Inv σ (B) (v27 :: O)) :
    RunC kE k5c18 ⟨tm, σ⟩ (ResP (E := kE) k5.res (fun v σ' => ∃ v', close v = some v' ∧ v' = .bool r)) := by
  unfold platenlaw21_KeysParts_j18 at h
  refine c_keep (keep_cons e2 (keep_cons e3 (keep_cons e4 (keep_cons e5 (keep_cons e6 (keep_cons e7 (keep_cons e17 keep_nil))))))) ?_
  refine c_seq ?_
  refine c_reg ?_
  refine sp (v27) rfl rfl ?_
  refine sp (.int .u16 x3) rfl rfl ?_
  refine sp (.int .i64 (IntKind.i64.wrap x3)) rfl rfl ?_
  obtain ⟨a29, g30, h⟩ := bind_some h
  refine sp (.int .i64 a29) rfl (e_rem rfl rfl g30) ?_
  obtain ⟨a31, g32, h⟩ := bind_some h
  refine st_callc (platenlaw21_digits_ok k _ _ g32 ) rfl ?_
  intro v33 q34
  obtain ⟨a35, g36, h⟩ := bind_some h
  refine st_app I rfl s28 rfl (MC.list q34) (Nat.le_of_ble_eq_true rfl) g36 ?_
  intro v37 σ39 s38 I40
  refine sp (v37) rfl rfl ?_
  refine sx ?_
  refine cn ?_
  refine c_keep (keep_cons rfl (keep_cons rfl (keep_cons rfl (keep_cons rfl (keep_cons rfl (keep_cons rfl keep_nil)))))) ?_
  refine c_seq ?_
  refine c_reg ?_
  refine sp (v37) rfl rfl ?_
  refine sp (.agg [.str ([100] : List UInt8), .str ([99] : List UInt8), .str ([121] : List UInt8), .str ([60] : List UInt8), .str ([62] : List UInt8), .str ([61] : List UInt8), .str ([103, 113] : List UInt8), .str ([] : List UInt8), .str ([] : List UInt8)]) rfl rfl ?_
  refine sp (u8 x5) rfl rfl ?_
  refine spe (.int .i64 (x5.toNat : Int)) rfl rfl (u8_to .i64 _ rfl) ?_
  obtain ⟨a41, g42, h⟩ := bind_some h
  refine sp (.int .i64 a41) rfl (e_rem rfl rfl g42) ?_
  obtain ⟨a43, g44, h⟩ := bind_some h
  refine sp (.str a43) rfl (e_idxv (f := fun x => .str x) (xs := ([([100] : List UInt8), ([99] : List UInt8), ([121] : List UInt8), ([60] : List UInt8), ([62] : List UInt8), ([61] : List UInt8), ([103, 113] : List UInt8), ([] : List UInt8), ([] : List UInt8)] : List (List UInt8))) rfl rfl g44 rfl rfl) ?_
  obtain ⟨a45, g46, h⟩ := bind_some h
  refine st_app I40 rfl s38 rfl (MC.str a43) (Nat.le_of_ble_eq_true rfl) g46 ?_
  intro v47 σ49 s48 I50
  refine sp (v47) rfl rfl ?_
  refine sx ?_
  refine cn ?_
  refine c_keep (keep_cons rfl (keep_cons rfl (keep_cons rfl (keep_cons rfl (keep_cons rfl keep_nil))))) ?_
  refine c_seq ?_
  refine c_reg ?_
  refine sp (v47) rfl rfl ?_
  refine sp (.int .u16 x4) rfl rfl ?_
  refine sp (.int .i64 (IntKind.i64.wrap x4)) rfl rfl ?_
  obtain ⟨a51, g52, h⟩ := bind_some h
  refine sp (.int .i64 a51) rfl (e_rem rfl rfl g52) ?_
  obtain ⟨a53, g54, h⟩ := bind_some h
  refine st_callc (platenlaw21_digits_ok k _ _ g54 ) rfl ?_
  intro v55 q56
  obtain ⟨a57, g58, h⟩ := bind_some h
  refine st_app I50 rfl s48 rfl (MC.list q56) (Nat.le_of_ble_eq_true rfl) g58 ?_
  intro v59 σ61 s60 I62
  refine sp (v59) rfl rfl ?_
  refine sx ?_
  refine cn ?_
  refine c_keep (keep_cons rfl (keep_cons rfl (keep_cons rfl (keep_cons rfl keep_nil)))) ?_
  refine c_seq ?_
  refine c_reg ?_
  refine sp (v59) rfl rfl ?_
  refine sp (.agg [.str ([104] : List UInt8), .str ([108] : List UInt8), .str ([106] : List UInt8), .str ([107] : List UInt8), .str ([48] : List UInt8), .str ([94] : List UInt8), .str ([36] : List UInt8), .str ([119] : List UInt8), .str ([98] : List UInt8), .str ([101] : List UInt8), .str ([123] : List UInt8), .str ([125] : List UInt8), .str ([71] : List UInt8), .str ([103, 103] : List UInt8), .str ([102] : List UInt8), .str ([116] : List UInt8), .str ([105, 119] : List UInt8), .str ([105, 112] : List UInt8), .str ([105, 108] : List UInt8), .str ([100] : List UInt8), .str ([113] : List UInt8), .str ([60] : List UInt8), .str ([120] : List UInt8), .str ([118] : List UInt8)]) rfl rfl ?_
  refine sp (u8 x6) rfl rfl ?_
  refine spe (.int .i64 (x6.toNat : Int)) rfl rfl (u8_to .i64 _ rfl) ?_
  obtain ⟨a63, g64, h⟩ := bind_some h
  refine sp (.int .i64 a63) rfl (e_rem rfl rfl g64) ?_
  obtain ⟨a65, g66, h⟩ := bind_some h
  refine sp (.str a65) rfl (e_idxv (f := fun x => .str x) (xs := ([([104] : List UInt8), ([108] : List UInt8), ([106] : List UInt8), ([107] : List UInt8), ([48] : List UInt8), ([94] : List UInt8), ([36] : List UInt8), ([119] : List UInt8), ([98] : List UInt8), ([101] : List UInt8), ([123] : List UInt8), ([125] : List UInt8), ([71] : List UInt8), ([103, 103] : List UInt8), ([102] : List UInt8), ([116] : List UInt8), ([105, 119] : List UInt8), ([105, 112] : List UInt8), ([105, 108] : List UInt8), ([100] : List UInt8), ([113] : List UInt8), ([60] : List UInt8), ([120] : List UInt8), ([118] : List UInt8)] : List (List UInt8))) rfl rfl g66 rfl rfl) ?_
  obtain ⟨a67, g68, h⟩ := bind_some h
  refine st_app I62 rfl s60 rfl (MC.str a65) (Nat.le_of_ble_eq_true rfl) g68 ?_
  intro v69 σ71 s70 I72
  refine sp (v69) rfl rfl ?_
  refine sx ?_
  refine cn ?_
  refine c_keep (keep_cons rfl (keep_cons rfl (keep_cons rfl (keep_cons rfl keep_nil)))) ?_
  refine c_seq ?_
  refine c_seq ?_
  refine c_reg ?_
  refine sp (u8 x6) rfl rfl ?_
  obtain ⟨a73, g74, h⟩ := bind_some h
  refine spe (u8 (toB a73)) rfl (e_rem rfl rfl g74) (u8_rem x6 (24 : UInt8) g74) ?_
  refine sp (.bool (decide ((((toB a73)).toNat : Int) = 14))) rfl rfl ?_
  refine sp (.bool (decide ((((toB a73)).toNat : Int) = 14))) rfl rfl ?_
  rcases bool_tf (decide ((((toB a73)).toNat : Int) = 14)) with b75 | b75
  · have h := ite_t h b75
    refine sg_skip (decide ((((toB a73)).toNat : Int) = 14)) rfl b75 ?_
    refine sg_skip (decide ((((toB a73)).toNat : Int) = 14)) rfl b75 ?_
    refine sg_skip (decide ((((toB a73)).toNat : Int) = 14)) rfl b75 ?_
    refine sp (.bool true) rfl (e_pick_t rfl b75 rfl) ?_
    refine sx ?_
    refine cn ?_
    exact platenlaw21_KeysParts_j29_ok k x7 x8 a67 true h rfl rfl rfl rfl  s70 I72
  · have h := ite_f h b75
    refine sg_run (decide ((((toB a73)).toNat : Int) = 14)) rfl b75 ?_
    refine sp (u8 x6) rfl rfl ?_
    refine sg_run (decide ((((toB a73)).toNat : Int) = 14)) rfl b75 ?_
    obtain ⟨a96, g97, h⟩ := bind_some h
    refine spe (u8 (toB a96)) rfl (e_rem rfl rfl g97) (u8_rem x6 (24 : UInt8) g97) ?_
    refine sg_run (decide ((((toB a73)).toNat : Int) = 14)) rfl b75 ?_
    refine sp (.bool (decide ((((toB a96)).toNat : Int) = 15))) rfl rfl ?_
    refine sp (.bool (decide ((((toB a96)).toNat : Int) = 15))) rfl (e_pick_f rfl b75 rfl) ?_
    refine sx ?_
    refine cn ?_
    exact platenlaw21_KeysParts_j29_ok k x7 x8 a67 (decide ((((toB a96)).toNat : Int) = 15)) h rfl rfl rfl rfl  s70 I72
theorem platenlaw21_KeysParts_ok (k : Nat) (x1 : UInt8) (x2 : Bool) (x3 : Int) (x4 : Int) (x5 : UInt8) (x6 : UInt8) (x7 : UInt8) (x8 : Bool) (r : Bool)   {σ : St}
    (h : platenlaw21_KeysParts k x1 x2 x3 x4 x5 x6 x7 x8 = some r) :
    RunF kE 5 [u8 x1, .bool x2, .int .u16 x3, .int .u16 x4, u8 x5, u8 x6, u8 x7, .bool x8] σ (fun v σ' => σ' = σ ∧ v = .bool r) := by
  refine f_closed rfl rfl rfl (cl_cons rfl (cl_cons rfl (cl_cons rfl (cl_cons rfl (cl_cons rfl (cl_cons rfl (cl_cons rfl (cl_cons rfl cl_nil)))))))) rfl ?_
  have I0 : Inv .zero [] [] := Inv.zero
  unfold platenlaw21_KeysParts at h
  refine c_seq ?_
  refine c_reg ?_
  refine sp (.bool false) rfl rfl ?_
  refine sx ?_
  refine cn ?_
  refine c_keep (keep_cons rfl (keep_cons rfl (keep_cons rfl (keep_cons rfl (keep_cons rfl (keep_cons rfl (keep_cons rfl (keep_cons rfl keep_nil)))))))) ?_
  refine c_seq ?_
  refine c_seq ?_
  refine c_reg ?_
  obtain ⟨a9, g10, h⟩ := bind_some h
  refine st_callc (platenlaw21_two_ok k  _ g10 ) rfl ?_
  intro v11 q12
  obtain rfl := q12
  refine sp (.bool (!a9)) rfl rfl ?_
  refine sx ?_
  refine cn ?_
  refine c_keep (keep_cons rfl (keep_cons rfl (keep_cons rfl (keep_cons rfl (keep_cons rfl (keep_cons rfl (keep_cons rfl (keep_cons rfl (keep_cons rfl keep_nil))))))))) ?_
  rcases bool_tf (!a9) with b13 | b13
  · have h := ite_t h b13
    refine c_cond_t (!a9) rfl b13 ?_
    refine c_seq ?_
    refine c_reg ?_
    refine sp (.bool false) rfl rfl ?_
    refine sx ?_
    refine cn ?_
    refine c_ret ?_
    refine cr ?_
    obtain rfl := some_eq h
    exact rr (vs := [.bool false]) (res_c (resp_t rfl) res_nil) ⟨_, rfl, rfl⟩
  · have h := ite_f h b13
    refine c_cond_f (!a9) rfl b13 ?_
    refine c_skip ?_
    refine cn ?_
    refine c_keep (keep_cons rfl (keep_cons rfl (keep_cons rfl (keep_cons rfl (keep_cons rfl (keep_cons rfl (keep_cons rfl (keep_cons rfl keep_nil)))))))) ?_
    refine c_seq ?_
    refine c_reg ?_
    refine sp (.nils) rfl rfl ?_
    refine sx ?_
    refine cn ?_
    refine c_keep (keep_cons rfl (keep_cons rfl (keep_cons rfl (keep_cons rfl (keep_cons rfl (keep_cons rfl (keep_cons rfl (keep_cons rfl (keep_cons rfl keep_nil))))))))) ?_
    refine c_seq ?_
    refine c_seq ?_
    refine c_reg ?_
    refine sp (.bool x2) rfl rfl ?_
    refine sx ?_
    refine cn ?_
    refine c_keep (keep_cons rfl (keep_cons rfl (keep_cons rfl (keep_cons rfl (keep_cons rfl (keep_cons rfl (keep_cons rfl (keep_cons rfl (keep_cons rfl keep_nil))))))))) ?_
    rcases bool_tf x2 with b14 | b14
    · have h := ite_t h b14
      refine c_cond_t x2 rfl b14 ?_
      refine c_reg ?_
      refine sp (.nils) rfl rfl ?_
      refine sp (u8 x1) rfl rfl ?_
      obtain ⟨a15, g16, h⟩ := bind_some h
      refine spe (u8 (toB a15)) rfl (e_rem rfl rfl g16) (u8_rem x1 (26 : UInt8) g16) ?_
      refine spe (u8 (toB (97 + (((toB a15)).toNat : Int)))) rfl rfl (u8_wrap _) ?_
      refine sp (.list .own 1 [u8 (34 : UInt8), u8 (toB (97 + (((toB a15)).toNat : Int)))]) rfl rfl ?_
      have s18 : SL RU8 1 ([(34 : UInt8), (toB (97 + (((toB a15)).toNat : Int)))] : List UInt8) (.list .own 1 [u8 (34 : UInt8), u8 (toB (97 + (((toB a15)).toNat : Int)))]) := SL.mk (RL.cons [u8 (34 : UInt8)] rfl rfl (RL.cons [u8 (toB (97 + (((toB a15)).toNat : Int)))] rfl rfl RL.nil))
      have I19 : Inv _ ([]) (AV.nils :: []) := I0.onil
      obtain ⟨a20, g21, h⟩ := bind_some h
      refine st_app I19 rfl (SL.nil (R := RU8) (sz := 1)) rfl (MC.list s18) (Nat.le_of_ble_eq_true rfl) g21 ?_
      intro v22 σ24 s23 I25
      refine sp (v22) rfl rfl ?_
      refine sx ?_
      refine cn ?_
      exact platenlaw21_KeysParts_j18_ok k x3 x4 x5 x6 x7 x8 a20 h rfl rfl rfl rfl rfl rfl rfl  s23 I25
    · have h := ite_f h b14
      refine c_cond_f x2 rfl b14 ?_
      refine c_skip ?_
      refine cn ?_
      have I98 : Inv _ ([]) (AV.nils :: []) := I0.onil
      exact platenlaw21_KeysParts_j18_ok k x3 x4 x5 x6 x7 x8 [] h rfl rfl rfl rfl rfl rfl rfl  SL.nil I98
/- platen.platenlaw21.KeysOne -/
def platenlaw21_KeysOne_l44 (x4 : Bool) (x70 : List UInt8) : Nat → Int → Option ((Bool ⊕ Unit))
  | 0, _ => none
  | k + 1, x73 => if decide (x73 < (x70.length : Int)) then ((lSub x70 0 x73).bind fun a75 => (keys_Read k a75 x4).bind fun a79 => if !decide (a79.2 = 1) then (some (Sum.inl false)) else (platenlaw21_KeysOne_l44 x4 x70 k (IntKind.i64.wrap (x73 + 1)))) else (some (Sum.inr ()))
def platenlaw21_KeysOne_j5 (k : Nat) (x1 : List UInt8) (x4 : Bool) (x5 : UInt8) (x11 : Bool) : Option Bool :=
  if x11 then ((platenlaw21_two k).bind fun a13 => some a13) else ((platenlaw21_text k x1).bind fun a17 => (keys_Read k a17 x4).bind fun a21 => if decide (a21.2 = 1) then (some true) else ((lSub a17 0 (a17.length : Int)).bind fun a38 => (lApp 1 a38 ([x5] : List UInt8)).bind fun a46 => (keys_Read k a46 x4).bind fun a52 => if !decide (a52.2 = 2) then (some false) else (if decide (a21.2 = 2) then (some (decide (0 < (a17.length : Int)))) else ((platenlaw21_KeysOne_l44 x4 a17 k 0).bind fun a102 => (match a102 with | .inl x96 => (some x96) | .inr () => (some (decide (0 < (a17.length : Int)))))))))
def platenlaw21_KeysOne (k : Nat) (x1 : List UInt8) (x4 : Bool) (x5 : UInt8) : Option Bool :=
  (platenlaw21_two k).bind fun a6 => if !a6 then (platenlaw21_KeysOne_j5 k x1 x4 x5 true) else (platenlaw21_KeysOne_j5 k x1 x4 x5 (decide (20 < (x1.length : Int))))
theorem platenlaw21_KeysOne_l44_ok (x4 : Bool) (x70 : List UInt8) {out : (Bool ⊕ Unit)} {v71 : AV} {Q : Ex → M → Prop} {B : List (Nat × Blk)} {O : List AV}
    (s72 : SL RU8 1 x70 v71)
    (hL0 : ∀ (x96 : Bool) (tm : List (Nat × AV)) (σ : St), lk tm 6 = some (.bool x96) → Inv σ (B) (O) → (Sum.inl x96) = out → Q .ret ⟨tm, σ⟩)
    (hL1 : ∀  (tm : List (Nat × AV)) (σ : St), lk tm 7 = some (v71) → Inv σ (B) (O) → (Sum.inr ()) = out → Q (.exit 0) ⟨tm, σ⟩) :
    ∀ (k : Nat) (x73 : Int)  (tm : List (Nat × AV)) (σ : St), platenlaw21_KeysOne_l44 x4 x70 k x73 = some out →
    lk tm 1 = some (.bool x4) →
    lk tm 7 = some (v71) →
    lk tm 12 = some (.int .i64 x73) →
    Inv σ (B) (O) → RunC kE (.loop k6l44) ⟨tm, σ⟩ Q := by
  intro k
  induction k with
  | zero => intros; exact none_eq ‹platenlaw21_KeysOne_l44 x4 x70 0 _ = some out›
  | succ k ih =>
    intro x73 tm σ h e1 e7 e12  I
    rw [platenlaw21_KeysOne_l44] at h
    refine c_loop ?_
    refine c_keep (keep_cons e1 (keep_cons e7 (keep_cons e12 keep_nil))) ?_
    refine c_seq ?_
    refine c_seq ?_
    refine c_reg ?_
    refine sp (.int .i64 x73) rfl rfl ?_
    refine sp (v71) rfl rfl ?_
    refine sp (.int .i64 (x70.length : Int)) rfl (e_len rfl s72 (Nat.le_of_ble_eq_true rfl)) ?_
    refine sp (.bool (decide (x73 < (x70.length : Int)))) rfl rfl ?_
    refine sx ?_
    refine cn ?_
    refine c_keep (keep_cons rfl (keep_cons rfl (keep_cons rfl (keep_cons rfl keep_nil)))) ?_
    rcases bool_tf (decide (x73 < (x70.length : Int))) with b74 | b74
    · have h := ite_t h b74
      refine c_cond_t (decide (x73 < (x70.length : Int))) rfl b74 ?_
      refine c_skip ?_
      refine cn ?_
      refine c_keep (keep_cons rfl (keep_cons rfl (keep_cons rfl keep_nil))) ?_
      refine c_seq ?_
      refine c_block ?_
      refine c_seq ?_
      refine c_reg ?_
      refine sp (v71) rfl rfl ?_
      refine sp (.int .i64 x73) rfl rfl ?_
      obtain ⟨a75, g76, h⟩ := bind_some h
      refine st_sl 0 x73 rfl s72 rfl rfl rfl rfl (Nat.le_of_ble_eq_true rfl) g76 ?_
      intro v77 s78
      refine sp (.bool x4) rfl rfl ?_
      obtain ⟨a79, g80, h⟩ := bind_some h
      refine st_callc (keys_Read_ok k _ _ _ g80 s78) rfl ?_
      intro v81 q82
      obtain ⟨v83, v85, rfl, q84, q86⟩ := q82
      obtain ⟨c87, rfl, q88⟩ := q84
      obtain rfl := q88
      obtain rfl := q86
      refine sp (.tuple [.agg [u8 a79.1.Kind, u8 a79.1.Reg, .int .i64 a79.1.N, u8 a79.1.Op, u8 a79.1.M.Key, u8 a79.1.M.Sign, .int .i64 a79.1.M.N, u8 a79.1.Key, u8 a79.1.Sign], .int .i64 a79.2]) rfl rfl ?_
      refine sp (.agg [u8 a79.1.Kind, u8 a79.1.Reg, .int .i64 a79.1.N, u8 a79.1.Op, u8 a79.1.M.Key, u8 a79.1.M.Sign, .int .i64 a79.1.M.N, u8 a79.1.Key, u8 a79.1.Sign]) rfl rfl ?_
      refine sp (.int .i64 a79.2) rfl rfl ?_
      refine st_alloc I ?_
      intro r89 σ90 I91
      have I92 : Inv _ ((r89, .cells [u8 (0 : UInt8), u8 (0 : UInt8), .int .i64 0, u8 (0 : UInt8), u8 (0 : UInt8), u8 (0 : UInt8), .int .i64 0, u8 (0 : UInt8), u8 (0 : UInt8)]) :: B) (O) := I91
      refine st_store I92 0 0 (cs' := [u8 a79.1.Kind, u8 a79.1.Reg, .int .i64 a79.1.N, u8 a79.1.Op, u8 a79.1.M.Key, u8 a79.1.M.Sign, .int .i64 a79.1.M.N, u8 a79.1.Key, u8 a79.1.Sign]) (bs' := (r89, .cells [u8 a79.1.Kind, u8 a79.1.Reg, .int .i64 a79.1.N, u8 a79.1.Op, u8 a79.1.M.Key, u8 a79.1.M.Sign, .int .i64 a79.1.M.N, u8 a79.1.Key, u8 a79.1.Sign]) :: B) rfl rfl rfl rfl rfl (Nat.le_of_ble_eq_true rfl) rfl rfl ?_
      intro σ94 I93
      refine sp (.int .i64 a79.2) rfl rfl ?_
      refine sx ?_
      refine cn ?_
      refine c_keep (keep_cons rfl (keep_cons rfl (keep_cons rfl (keep_cons rfl keep_nil)))) ?_
      refine c_seq ?_
      refine c_reg ?_
      refine sp (.int .i64 a79.2) rfl rfl ?_
      refine sp (.bool (!decide (a79.2 = 1))) rfl rfl ?_
      refine sx ?_
      refine cn ?_
      refine c_keep (keep_cons rfl (keep_cons rfl (keep_cons rfl (keep_cons rfl keep_nil)))) ?_
      rcases bool_tf (!decide (a79.2 = 1)) with b95 | b95
      · have h := ite_t h b95
        refine c_cond_t (!decide (a79.2 = 1)) rfl b95 ?_
        refine c_seq ?_
        refine c_reg ?_
        refine sp (.bool false) rfl rfl ?_
        refine sx ?_
        refine cn ?_
        refine c_ret ?_
        refine br ?_
        refine cr ?_
        refine cr ?_
        have I97 : Inv _ (B) (O) := (I93.front 0 rfl).drop
        exact hL0 false  _ _ rfl  I97 (some_eq h)
      · have h := ite_f h b95
        refine c_cond_f (!decide (a79.2 = 1)) rfl b95 ?_
        refine c_skip ?_
        refine bn ?_
        refine cn ?_
        refine c_keep (keep_cons rfl (keep_cons rfl (keep_cons rfl keep_nil))) ?_
        refine c_reg ?_
        refine sp (.int .i64 x73) rfl rfl ?_
        refine sp (.int .i64 (IntKind.i64.wrap (x73 + 1))) rfl rfl ?_
        refine sp (.int .i64 (IntKind.i64.wrap (x73 + 1))) rfl rfl ?_
        refine sx ?_
        refine cn ?_
        have I98 : Inv _ (B) (O) := (I93.front 0 rfl).drop
        exact ih (IntKind.i64.wrap (x73 + 1))  _ _ h rfl rfl rfl  I98
    · have h := ite_f h b74
      refine c_cond_f (decide (x73 < (x70.length : Int))) rfl b74 ?_
      refine c_exit ?_
      refine cx ?_
      refine cx ?_
      exact hL1   _ _ rfl  I (some_eq h)
theorem platenlaw21_KeysOne_j5_ok (k : Nat) (x1 : List UInt8) (x4 : Bool) (x5 : UInt8) (x11 : Bool) {r : Bool} {v2 : AV} {tm : List (Nat × AV)} {σ : St} {B : List (Nat × Blk)} {O : List AV}
    (h : platenlaw21_KeysOne_j5 k x1 x4 x5 x11 = some r)
    (e0 : lk tm 0 = some (v2))
    (e1 : lk tm 1 = some (.bool x4))
    (e2 : lk tm 2 = some (u8 x5))
    (e21 : lk tm 21 = some (.bool x11))
    (s3 : SL RU8 1 x1 v2)
    (I : Inv σ (B) (O)) :
    RunC kE k6c5 ⟨tm, σ⟩ (Cont kE k6c10 (ResP (E := kE) k6.res (fun v σ' => ∃ v', close v = some v' ∧ v' = .bool r))) := by
  unfold platenlaw21_KeysOne_j5 at h
  refine c_keep (keep_cons e0 (keep_cons e1 (keep_cons e2 (keep_cons e21 keep_nil)))) ?_
  rcases bool_tf x11 with b12 | b12
  · have h := ite_t h b12
    refine c_cond_t x11 rfl b12 ?_
    refine c_seq ?_
    refine c_reg ?_
    obtain ⟨a13, g14, h⟩ := bind_some h
    refine st_callc (platenlaw21_two_ok k  _ g14 ) rfl ?_
    intro v15 q16
    obtain rfl := q16
    refine sp (.bool a13) rfl rfl ?_
    refine sx ?_
    refine cn ?_
    refine c_ret ?_
    refine cr ?_
    obtain rfl := some_eq h
    exact rr (vs := [.bool a13]) (res_c (resp_t rfl) res_nil) ⟨_, rfl, rfl⟩
  · have h := ite_f h b12
    refine c_cond_f x11 rfl b12 ?_
    refine c_skip ?_
    refine cn ?_
    refine c_keep (keep_cons rfl (keep_cons rfl (keep_cons rfl keep_nil))) ?_
    refine c_seq ?_
    refine c_reg ?_
    refine sp (v2) rfl rfl ?_
    obtain ⟨a17, g18, h⟩ := bind_some h
    refine st_callc (platenlaw21_text_ok k _ _ g18 s3) rfl ?_
    intro v19 q20
    refine sp (v19) rfl rfl ?_
    refine sx ?_
    refine cn ?_
    refine c_keep (keep_cons rfl (keep_cons rfl (keep_cons rfl keep_nil))) ?_
    refine c_seq ?_
    refine c_reg ?_
    refine sp (v19) rfl rfl ?_
    refine sp (.bool x4) rfl rfl ?_
    obtain ⟨a21, g22, h⟩ := bind_some h
    refine st_callc (keys_Read_ok k _ _ _ g22 q20) rfl ?_
    intro v23 q24
    obtain ⟨v25, v27, rfl, q26, q28⟩ := q24
    obtain ⟨c29, rfl, q30⟩ := q26
    obtain rfl := q30
    obtain rfl := q28
    refine sp (.tuple [.agg [u8 a21.1.Kind, u8 a21.1.Reg, .int .i64 a21.1.N, u8 a21.1.Op, u8 a21.1.M.Key, u8 a21.1.M.Sign, .int .i64 a21.1.M.N, u8 a21.1.Key, u8 a21.1.Sign], .int .i64 a21.2]) rfl rfl ?_
    refine sp (.agg [u8 a21.1.Kind, u8 a21.1.Reg, .int .i64 a21.1.N, u8 a21.1.Op, u8 a21.1.M.Key, u8 a21.1.M.Sign, .int .i64 a21.1.M.N, u8 a21.1.Key, u8 a21.1.Sign]) rfl rfl ?_
    refine sp (.int .i64 a21.2) rfl rfl ?_
    refine st_alloc I ?_
    intro r31 σ32 I33
    have I34 : Inv _ ((r31, .cells [u8 (0 : UInt8), u8 (0 : UInt8), .int .i64 0, u8 (0 : UInt8), u8 (0 : UInt8), u8 (0 : UInt8), .int .i64 0, u8 (0 : UInt8), u8 (0 : UInt8)]) :: B) (O) := I33
    refine st_store I34 0 0 (cs' := [u8 a21.1.Kind, u8 a21.1.Reg, .int .i64 a21.1.N, u8 a21.1.Op, u8 a21.1.M.Key, u8 a21.1.M.Sign, .int .i64 a21.1.M.N, u8 a21.1.Key, u8 a21.1.Sign]) (bs' := (r31, .cells [u8 a21.1.Kind, u8 a21.1.Reg, .int .i64 a21.1.N, u8 a21.1.Op, u8 a21.1.M.Key, u8 a21.1.M.Sign, .int .i64 a21.1.M.N, u8 a21.1.Key, u8 a21.1.Sign]) :: B) rfl rfl rfl rfl rfl (Nat.le_of_ble_eq_true rfl) rfl rfl ?_
    intro σ36 I35
    refine sp (.int .i64 a21.2) rfl rfl ?_
    refine sx ?_
    refine cn ?_
    refine c_keep (keep_cons rfl (keep_cons rfl (keep_cons rfl (keep_cons rfl keep_nil)))) ?_
    refine c_seq ?_
    refine c_seq ?_
    refine c_reg ?_
    refine sp (.int .i64 a21.2) rfl rfl ?_
    refine sp (.bool (decide (a21.2 = 1))) rfl rfl ?_
    refine sx ?_
    refine cn ?_
    refine c_keep (keep_cons rfl (keep_cons rfl (keep_cons rfl (keep_cons rfl (keep_cons rfl keep_nil))))) ?_
    rcases bool_tf (decide (a21.2 = 1)) with b37 | b37
    · have h := ite_t h b37
      refine c_cond_t (decide (a21.2 = 1)) rfl b37 ?_
      refine c_seq ?_
      refine c_reg ?_
      refine sp (.bool true) rfl rfl ?_
      refine sx ?_
      refine cn ?_
      refine c_ret ?_
      refine cr ?_
      obtain rfl := some_eq h
      exact rr (vs := [.bool true]) (res_c (resp_t rfl) res_nil) ⟨_, rfl, rfl⟩
    · have h := ite_f h b37
      refine c_cond_f (decide (a21.2 = 1)) rfl b37 ?_
      refine c_skip ?_
      refine cn ?_
      refine c_keep (keep_cons rfl (keep_cons rfl (keep_cons rfl (keep_cons rfl keep_nil)))) ?_
      refine c_seq ?_
      refine c_reg ?_
      refine sp (v19) rfl rfl ?_
      refine sp (v19) rfl rfl ?_
      refine sp (.int .i64 (a17.length : Int)) rfl (e_len rfl q20 (Nat.le_of_ble_eq_true rfl)) ?_
      refine sp (v19) rfl rfl ?_
      refine sp (.int .i64 (a17.length : Int)) rfl (e_len rfl q20 (Nat.le_of_ble_eq_true rfl)) ?_
      obtain ⟨a38, g39, h⟩ := bind_some h
      refine st_sl3 0 (a17.length : Int) rfl q20 rfl rfl rfl rfl rfl (Nat.le_of_ble_eq_true rfl) g39 ?_
      intro v40 s41 f42
      have I43 : Inv _ ((r31, .cells [u8 a21.1.Kind, u8 a21.1.Reg, .int .i64 a21.1.N, u8 a21.1.Op, u8 a21.1.M.Key, u8 a21.1.M.Sign, .int .i64 a21.1.M.N, u8 a21.1.Key, u8 a21.1.Sign]) :: B) (v40 :: O) := f42 _ _ I35
      refine sp (u8 x5) rfl rfl ?_
      refine sp (.list .own 1 [u8 x5]) rfl rfl ?_
      have s45 : SL RU8 1 ([x5] : List UInt8) (.list .own 1 [u8 x5]) := SL.mk (RL.cons [u8 x5] rfl rfl RL.nil)
      obtain ⟨a46, g47, h⟩ := bind_some h
      refine st_app I43 rfl s41 rfl (MC.list s45) (Nat.le_of_ble_eq_true rfl) g47 ?_
      intro v48 σ50 s49 I51
      refine sp (.bool x4) rfl rfl ?_
      obtain ⟨a52, g53, h⟩ := bind_some h
      refine st_callc (keys_Read_ok k _ _ _ g53 s49) rfl ?_
      intro v54 q55
      obtain ⟨v56, v58, rfl, q57, q59⟩ := q55
      obtain ⟨c60, rfl, q61⟩ := q57
      obtain rfl := q61
      obtain rfl := q59
      refine sp (.tuple [.agg [u8 a52.1.Kind, u8 a52.1.Reg, .int .i64 a52.1.N, u8 a52.1.Op, u8 a52.1.M.Key, u8 a52.1.M.Sign, .int .i64 a52.1.M.N, u8 a52.1.Key, u8 a52.1.Sign], .int .i64 a52.2]) rfl rfl ?_
      refine sp (.agg [u8 a52.1.Kind, u8 a52.1.Reg, .int .i64 a52.1.N, u8 a52.1.Op, u8 a52.1.M.Key, u8 a52.1.M.Sign, .int .i64 a52.1.M.N, u8 a52.1.Key, u8 a52.1.Sign]) rfl rfl ?_
      refine sp (.int .i64 a52.2) rfl rfl ?_
      refine st_alloc I51 ?_
      intro r62 σ63 I64
      have I65 : Inv _ ((r62, .cells [u8 (0 : UInt8), u8 (0 : UInt8), .int .i64 0, u8 (0 : UInt8), u8 (0 : UInt8), u8 (0 : UInt8), .int .i64 0, u8 (0 : UInt8), u8 (0 : UInt8)]) :: (r31, .cells [u8 a21.1.Kind, u8 a21.1.Reg, .int .i64 a21.1.N, u8 a21.1.Op, u8 a21.1.M.Key, u8 a21.1.M.Sign, .int .i64 a21.1.M.N, u8 a21.1.Key, u8 a21.1.Sign]) :: B) (v48 :: O) := I64
      refine st_store I65 0 0 (cs' := [u8 a52.1.Kind, u8 a52.1.Reg, .int .i64 a52.1.N, u8 a52.1.Op, u8 a52.1.M.Key, u8 a52.1.M.Sign, .int .i64 a52.1.M.N, u8 a52.1.Key, u8 a52.1.Sign]) (bs' := (r62, .cells [u8 a52.1.Kind, u8 a52.1.Reg, .int .i64 a52.1.N, u8 a52.1.Op, u8 a52.1.M.Key, u8 a52.1.M.Sign, .int .i64 a52.1.M.N, u8 a52.1.Key, u8 a52.1.Sign]) :: (r31, .cells [u8 a21.1.Kind, u8 a21.1.Reg, .int .i64 a21.1.N, u8 a21.1.Op, u8 a21.1.M.Key, u8 a21.1.M.Sign, .int .i64 a21.1.M.N, u8 a21.1.Key, u8 a21.1.Sign]) :: B) rfl rfl rfl rfl rfl (Nat.le_of_ble_eq_true rfl) rfl rfl ?_
      intro σ67 I66
      refine sp (.int .i64 a52.2) rfl rfl ?_
      refine sx ?_
      refine cn ?_
      refine c_keep (keep_cons rfl (keep_cons rfl (keep_cons rfl (keep_cons rfl keep_nil)))) ?_
      refine c_seq ?_
      refine c_seq ?_
      refine c_reg ?_
      refine sp (.int .i64 a52.2) rfl rfl ?_
      refine sp (.bool (!decide (a52.2 = 2))) rfl rfl ?_
      refine sx ?_
      refine cn ?_
      refine c_keep (keep_cons rfl (keep_cons rfl (keep_cons rfl (keep_cons rfl keep_nil)))) ?_
      rcases bool_tf (!decide (a52.2 = 2)) with b68 | b68
      · have h := ite_t h b68
        refine c_cond_t (!decide (a52.2 = 2)) rfl b68 ?_
        refine c_seq ?_
        refine c_reg ?_
        refine sp (.bool false) rfl rfl ?_
        refine sx ?_
        refine cn ?_
        refine c_ret ?_
        refine cr ?_
        obtain rfl := some_eq h
        exact rr (vs := [.bool false]) (res_c (resp_t rfl) res_nil) ⟨_, rfl, rfl⟩
      · have h := ite_f h b68
        refine c_cond_f (!decide (a52.2 = 2)) rfl b68 ?_
        refine c_skip ?_
        refine cn ?_
        refine c_keep (keep_cons rfl (keep_cons rfl (keep_cons rfl keep_nil))) ?_
        refine c_seq ?_
        refine c_seq ?_
        refine c_reg ?_
        refine sp (.int .i64 a21.2) rfl rfl ?_
        refine sp (.bool (decide (a21.2 = 2))) rfl rfl ?_
        refine sx ?_
        refine cn ?_
        refine c_keep (keep_cons rfl (keep_cons rfl (keep_cons rfl keep_nil))) ?_
        rcases bool_tf (decide (a21.2 = 2)) with b69 | b69
        · have h := ite_t h b69
          refine c_cond_t (decide (a21.2 = 2)) rfl b69 ?_
          refine c_seq ?_
          refine c_reg ?_
          refine sp (v19) rfl rfl ?_
          refine sp (.int .i64 (a17.length : Int)) rfl (e_len rfl q20 (Nat.le_of_ble_eq_true rfl)) ?_
          refine sp (.bool (decide (0 < (a17.length : Int)))) rfl rfl ?_
          refine sp (.bool (decide (0 < (a17.length : Int)))) rfl rfl ?_
          refine sx ?_
          refine cn ?_
          refine c_ret ?_
          refine cr ?_
          obtain rfl := some_eq h
          exact rr (vs := [.bool (decide (0 < (a17.length : Int)))]) (res_c (resp_t rfl) res_nil) ⟨_, rfl, rfl⟩
        · have h := ite_f h b69
          refine c_cond_f (decide (a21.2 = 2)) rfl b69 ?_
          refine c_skip ?_
          refine cn ?_
          refine c_keep (keep_cons rfl (keep_cons rfl keep_nil)) ?_
          refine c_seq ?_
          refine c_seq ?_
          refine c_reg ?_
          refine sp (.int .i64 0) rfl rfl ?_
          refine sx ?_
          refine cn ?_
          refine c_keep (keep_cons rfl (keep_cons rfl (keep_cons rfl keep_nil))) ?_
          refine c_block ?_
          have I99 : Inv _ ((r31, .cells [u8 a21.1.Kind, u8 a21.1.Reg, .int .i64 a21.1.N, u8 a21.1.Op, u8 a21.1.M.Key, u8 a21.1.M.Sign, .int .i64 a21.1.M.N, u8 a21.1.Key, u8 a21.1.Sign]) :: B) (v48 :: O) := (I66.front 0 rfl).drop
          have I100 : Inv _ (B) (v48 :: O) := (I99.front 0 rfl).drop
          have I101 : Inv _ (B) (O) := (I100.ofront 0 rfl).odrop
          obtain ⟨a102, g103, h⟩ := bind_some h
          refine platenlaw21_KeysOne_l44_ok x4 a17 q20 ?_ ?_ k 0  _ _ g103 rfl rfl rfl  I101
          · intro x96 tm104 σ105 e108  I106 ho107
            subst ho107
            refine br ?_
            refine cr ?_
            obtain rfl := some_eq h
            exact rr (vs := [.bool x96]) (res_c (resp_t e108) res_nil) ⟨_, rfl, rfl⟩
          · intro  tm109 σ110 e113  I111 ho112
            subst ho112
            refine bx ?_
            refine cn ?_
            refine c_keep (keep_cons e113 keep_nil) ?_
            refine c_seq ?_
            refine c_reg ?_
            refine sp (v19) rfl rfl ?_
            refine sp (.int .i64 (a17.length : Int)) rfl (e_len rfl q20 (Nat.le_of_ble_eq_true rfl)) ?_
            refine sp (.bool (decide (0 < (a17.length : Int)))) rfl rfl ?_
            refine sp (.bool (decide (0 < (a17.length : Int)))) rfl rfl ?_
            refine sx ?_
            refine cn ?_
            refine c_ret ?_
            obtain rfl := some_eq h
            exact rr (vs := [.bool (decide (0 < (a17.length : Int)))]) (res_c (resp_t rfl) res_nil) ⟨_, rfl, rfl⟩
theorem platenlaw21_KeysOne_ok (k : Nat) (x1 : List UInt8) (x4 : Bool) (x5 : UInt8) (r : Bool) {v2 : AV}  {σ : St}
    (h : platenlaw21_KeysOne k x1 x4 x5 = some r)
    (s3 : SL RU8 1 x1 v2) :
    RunF kE 6 [v2, .bool x4, u8 x5] σ (fun v σ' => σ' = σ ∧ v = .bool r) := by
  obtain ⟨v2, k0, s3⟩ := s3.close
  refine f_closed rfl rfl rfl (cl_cons k0 (cl_cons rfl (cl_cons rfl cl_nil))) rfl ?_
  have I0 : Inv .zero [] [] := Inv.zero
  unfold platenlaw21_KeysOne at h
  refine c_seq ?_
  refine c_reg ?_
  refine sp (.bool false) rfl rfl ?_
  refine sx ?_
  refine cn ?_
  refine c_keep (keep_cons rfl (keep_cons rfl (keep_cons rfl keep_nil))) ?_
  refine c_seq ?_
  refine c_seq ?_
  refine c_reg ?_
  obtain ⟨a6, g7, h⟩ := bind_some h
  refine st_callc (platenlaw21_two_ok k  _ g7 ) rfl ?_
  intro v8 q9
  obtain rfl := q9
  refine sp (.bool (!a6)) rfl rfl ?_
  refine sp (.bool (!a6)) rfl rfl ?_
  rcases bool_tf (!a6) with b10 | b10
  · have h := ite_t h b10
    refine sg_skip (!a6) rfl b10 ?_
    refine sg_skip (!a6) rfl b10 ?_
    refine sg_skip (!a6) rfl b10 ?_
    refine sp (.bool true) rfl (e_pick_t rfl b10 rfl) ?_
    refine sx ?_
    refine cn ?_
    exact platenlaw21_KeysOne_j5_ok k x1 x4 x5 true h rfl rfl rfl rfl s3  I0
  · have h := ite_f h b10
    refine sg_run (!a6) rfl b10 ?_
    refine sp (v2) rfl rfl ?_
    refine sg_run (!a6) rfl b10 ?_
    refine sp (.int .i64 (x1.length : Int)) rfl (e_len rfl s3 (Nat.le_of_ble_eq_true rfl)) ?_
    refine sg_run (!a6) rfl b10 ?_
    refine sp (.bool (decide (20 < (x1.length : Int)))) rfl rfl ?_
    refine sp (.bool (decide (20 < (x1.length : Int)))) rfl (e_pick_f rfl b10 rfl) ?_
    refine sx ?_
    refine cn ?_
    exact platenlaw21_KeysOne_j5_ok k x1 x4 x5 (decide (20 < (x1.length : Int))) h rfl rfl rfl rfl s3  I0
/- platen.platenlaw21.KeysMore -/
def platenlaw21_KeysMore_l26 (x4 : Bool) (x37 : List UInt8) : Nat → Int → Option ((Bool ⊕ Unit))
  | 0, _ => none
  | k + 1, x40 => if decide (x40 < 5) then ((lSub x37 0 (x37.length : Int)).bind fun a42 => (lIdx ([([27] : List UInt8), ([97] : List UInt8), ([97, 119] : List UInt8), ([103] : List UInt8), ([119] : List UInt8)] : List (List UInt8)) x40).bind fun a48 => (lApp 1 a42 a48).bind fun a50 => (keys_Read k a50 x4).bind fun a56 => if decide (a56.2 = 0) then (some (Sum.inl true)) else (platenlaw21_KeysMore_l26 x4 x37 k (IntKind.i64.wrap (x40 + 1)))) else (some (Sum.inr ()))
def platenlaw21_KeysMore_j5 (k : Nat) (x1 : List UInt8) (x4 : Bool) (x10 : Bool) : Option Bool :=
  if x10 then ((platenlaw21_two k).bind fun a12 => some a12) else ((platenlaw21_text k x1).bind fun a16 => (keys_Read k a16 x4).bind fun a20 => if !decide (a20.2 = 1) then (some true) else ((platenlaw21_KeysMore_l26 x4 a16 k 0).bind fun a79 => (match a79 with | .inl x73 => (some x73) | .inr () => (some false))))
def platenlaw21_KeysMore (k : Nat) (x1 : List UInt8) (x4 : Bool) : Option Bool :=
  (platenlaw21_two k).bind fun a5 => if !a5 then (platenlaw21_KeysMore_j5 k x1 x4 true) else (platenlaw21_KeysMore_j5 k x1 x4 (decide (20 < (x1.length : Int))))
theorem platenlaw21_KeysMore_l26_ok (x4 : Bool) (x37 : List UInt8) {out : (Bool ⊕ Unit)} {v38 : AV} {Q : Ex → M → Prop} {B : List (Nat × Blk)} {O : List AV}
    (s39 : SL RU8 1 x37 v38)
    (hL0 : ∀ (x73 : Bool) (tm : List (Nat × AV)) (σ : St), lk tm 4 = some (.bool x73) → Inv σ (B) (O) → (Sum.inl x73) = out → Q .ret ⟨tm, σ⟩)
    (hL1 : ∀  (tm : List (Nat × AV)) (σ : St), Inv σ (B) (O) → (Sum.inr ()) = out → Q (.exit 0) ⟨tm, σ⟩) :
    ∀ (k : Nat) (x40 : Int)  (tm : List (Nat × AV)) (σ : St), platenlaw21_KeysMore_l26 x4 x37 k x40 = some out →
    lk tm 1 = some (.bool x4) →
    lk tm 5 = some (v38) →
    lk tm 8 = some (.int .i64 x40) →
    Inv σ (B) (O) → RunC kE (.loop k7l26) ⟨tm, σ⟩ Q := by
  intro k
  induction k with
  | zero => intros; exact none_eq ‹platenlaw21_KeysMore_l26 x4 x37 0 _ = some out›
  | succ k ih =>
    intro x40 tm σ h e1 e5 e8  I
    rw [platenlaw21_KeysMore_l26] at h
    refine c_loop ?_
    refine c_keep (keep_cons e1 (keep_cons e5 (keep_cons e8 keep_nil))) ?_
    refine c_seq ?_
    refine c_seq ?_
    refine c_reg ?_
    refine sp (.int .i64 x40) rfl rfl ?_
    refine sp (.bool (decide (x40 < 5))) rfl rfl ?_
    refine sx ?_
    refine cn ?_
    refine c_keep (keep_cons rfl (keep_cons rfl (keep_cons rfl (keep_cons rfl keep_nil)))) ?_
    rcases bool_tf (decide (x40 < 5)) with b41 | b41
    · have h := ite_t h b41
      refine c_cond_t (decide (x40 < 5)) rfl b41 ?_
      refine c_skip ?_
      refine cn ?_
      refine c_keep (keep_cons rfl (keep_cons rfl (keep_cons rfl keep_nil))) ?_
      refine c_seq ?_
      refine c_block ?_
      refine c_seq ?_
      refine c_reg ?_
      refine sp (v38) rfl rfl ?_
      refine sp (v38) rfl rfl ?_
      refine sp (.int .i64 (x37.length : Int)) rfl (e_len rfl s39 (Nat.le_of_ble_eq_true rfl)) ?_
      refine sp (v38) rfl rfl ?_
      refine sp (.int .i64 (x37.length : Int)) rfl (e_len rfl s39 (Nat.le_of_ble_eq_true rfl)) ?_
      obtain ⟨a42, g43, h⟩ := bind_some h
      refine st_sl3 0 (x37.length : Int) rfl s39 rfl rfl rfl rfl rfl (Nat.le_of_ble_eq_true rfl) g43 ?_
      intro v44 s45 f46
      have I47 : Inv _ (B) (v44 :: O) := f46 _ _ I
      refine sp (.agg [.str ([27] : List UInt8), .str ([97] : List UInt8), .str ([97, 119] : List UInt8), .str ([103] : List UInt8), .str ([119] : List UInt8)]) rfl rfl ?_
      refine sp (.int .i64 x40) rfl rfl ?_
      obtain ⟨a48, g49, h⟩ := bind_some h
      refine sp (.str a48) rfl (e_idxv (f := fun x => .str x) (xs := ([([27] : List UInt8), ([97] : List UInt8), ([97, 119] : List UInt8), ([103] : List UInt8), ([119] : List UInt8)] : List (List UInt8))) rfl rfl g49 rfl rfl) ?_
      obtain ⟨a50, g51, h⟩ := bind_some h
      refine st_app I47 rfl s45 rfl (MC.str a48) (Nat.le_of_ble_eq_true rfl) g51 ?_
      intro v52 σ54 s53 I55
      refine sp (v52) rfl rfl ?_
      refine sx ?_
      refine cn ?_
      refine c_keep (keep_cons rfl (keep_cons rfl (keep_cons rfl (keep_cons rfl keep_nil)))) ?_
      refine c_seq ?_
      refine c_reg ?_
      refine sp (v52) rfl rfl ?_
      refine sp (.bool x4) rfl rfl ?_
      obtain ⟨a56, g57, h⟩ := bind_some h
      refine st_callc (keys_Read_ok k _ _ _ g57 s53) rfl ?_
      intro v58 q59
      obtain ⟨v60, v62, rfl, q61, q63⟩ := q59
      obtain ⟨c64, rfl, q65⟩ := q61
      obtain rfl := q65
      obtain rfl := q63
      refine sp (.tuple [.agg [u8 a56.1.Kind, u8 a56.1.Reg, .int .i64 a56.1.N, u8 a56.1.Op, u8 a56.1.M.Key, u8 a56.1.M.Sign, .int .i64 a56.1.M.N, u8 a56.1.Key, u8 a56.1.Sign], .int .i64 a56.2]) rfl rfl ?_
      refine sp (.agg [u8 a56.1.Kind, u8 a56.1.Reg, .int .i64 a56.1.N, u8 a56.1.Op, u8 a56.1.M.Key, u8 a56.1.M.Sign, .int .i64 a56.1.M.N, u8 a56.1.Key, u8 a56.1.Sign]) rfl rfl ?_
      refine sp (.int .i64 a56.2) rfl rfl ?_
      refine st_alloc I55 ?_
      intro r66 σ67 I68
      have I69 : Inv _ ((r66, .cells [u8 (0 : UInt8), u8 (0 : UInt8), .int .i64 0, u8 (0 : UInt8), u8 (0 : UInt8), u8 (0 : UInt8), .int .i64 0, u8 (0 : UInt8), u8 (0 : UInt8)]) :: B) (v52 :: O) := I68
      refine st_store I69 0 0 (cs' := [u8 a56.1.Kind, u8 a56.1.Reg, .int .i64 a56.1.N, u8 a56.1.Op, u8 a56.1.M.Key, u8 a56.1.M.Sign, .int .i64 a56.1.M.N, u8 a56.1.Key, u8 a56.1.Sign]) (bs' := (r66, .cells [u8 a56.1.Kind, u8 a56.1.Reg, .int .i64 a56.1.N, u8 a56.1.Op, u8 a56.1.M.Key, u8 a56.1.M.Sign, .int .i64 a56.1.M.N, u8 a56.1.Key, u8 a56.1.Sign]) :: B) rfl rfl rfl rfl rfl (Nat.le_of_ble_eq_true rfl) rfl rfl ?_
      intro σ71 I70
      refine sp (.int .i64 a56.2) rfl rfl ?_
      refine sx ?_
      refine cn ?_
      refine c_keep (keep_cons rfl (keep_cons rfl (keep_cons rfl (keep_cons rfl keep_nil)))) ?_
      refine c_seq ?_
      refine c_reg ?_
      refine sp (.int .i64 a56.2) rfl rfl ?_
      refine sp (.bool (decide (a56.2 = 0))) rfl rfl ?_
      refine sx ?_
      refine cn ?_
      refine c_keep (keep_cons rfl (keep_cons rfl (keep_cons rfl (keep_cons rfl keep_nil)))) ?_
      rcases bool_tf (decide (a56.2 = 0)) with b72 | b72
      · have h := ite_t h b72
        refine c_cond_t (decide (a56.2 = 0)) rfl b72 ?_
        refine c_seq ?_
        refine c_reg ?_
        refine sp (.bool true) rfl rfl ?_
        refine sx ?_
        refine cn ?_
        refine c_ret ?_
        refine br ?_
        refine cr ?_
        refine cr ?_
        have I74 : Inv _ (B) (v52 :: O) := (I70.front 0 rfl).drop
        have I75 : Inv _ (B) (O) := (I74.ofront 0 rfl).odrop
        exact hL0 true  _ _ rfl  I75 (some_eq h)
      · have h := ite_f h b72
        refine c_cond_f (decide (a56.2 = 0)) rfl b72 ?_
        refine c_skip ?_
        refine bn ?_
        refine cn ?_
        refine c_keep (keep_cons rfl (keep_cons rfl (keep_cons rfl keep_nil))) ?_
        refine c_reg ?_
        refine sp (.int .i64 x40) rfl rfl ?_
        refine sp (.int .i64 (IntKind.i64.wrap (x40 + 1))) rfl rfl ?_
        refine sp (.int .i64 (IntKind.i64.wrap (x40 + 1))) rfl rfl ?_
        refine sx ?_
        refine cn ?_
        have I76 : Inv _ (B) (v52 :: O) := (I70.front 0 rfl).drop
        have I77 : Inv _ (B) (O) := (I76.ofront 0 rfl).odrop
        exact ih (IntKind.i64.wrap (x40 + 1))  _ _ h rfl rfl rfl  I77
    · have h := ite_f h b41
      refine c_cond_f (decide (x40 < 5)) rfl b41 ?_
      refine c_exit ?_
      refine cx ?_
      refine cx ?_
      exact hL1   _ _   I (some_eq h)
theorem platenlaw21_KeysMore_j5_ok (k : Nat) (x1 : List UInt8) (x4 : Bool) (x10 : Bool) {r : Bool} {v2 : AV} {tm : List (Nat × AV)} {σ : St} {B : List (Nat × Blk)} {O : List AV}
    (h : platenlaw21_KeysMore_j5 k x1 x4 x10 = some r)
    (e0 : lk tm 0 = some (v2))
    (e1 : lk tm 1 = some (.bool x4))
    (e18 : lk tm 18 = some (.bool x10))
    (s3 : SL RU8 1 x1 v2)
    (I : Inv σ (B) (O)) :
    RunC kE k7c5 ⟨tm, σ⟩ (Cont kE k7c10 (ResP (E := kE) k7.res (fun v σ' => ∃ v', close v = some v' ∧ v' = .bool r))) := by
  unfold platenlaw21_KeysMore_j5 at h
  refine c_keep (keep_cons e0 (keep_cons e1 (keep_cons e18 keep_nil))) ?_
  rcases bool_tf x10 with b11 | b11
  · have h := ite_t h b11
    refine c_cond_t x10 rfl b11 ?_
    refine c_seq ?_
    refine c_reg ?_
    obtain ⟨a12, g13, h⟩ := bind_some h
    refine st_callc (platenlaw21_two_ok k  _ g13 ) rfl ?_
    intro v14 q15
    obtain rfl := q15
    refine sp (.bool a12) rfl rfl ?_
    refine sx ?_
    refine cn ?_
    refine c_ret ?_
    refine cr ?_
    obtain rfl := some_eq h
    exact rr (vs := [.bool a12]) (res_c (resp_t rfl) res_nil) ⟨_, rfl, rfl⟩
  · have h := ite_f h b11
    refine c_cond_f x10 rfl b11 ?_
    refine c_skip ?_
    refine cn ?_
    refine c_keep (keep_cons rfl (keep_cons rfl keep_nil)) ?_
    refine c_seq ?_
    refine c_reg ?_
    refine sp (v2) rfl rfl ?_
    obtain ⟨a16, g17, h⟩ := bind_some h
    refine st_callc (platenlaw21_text_ok k _ _ g17 s3) rfl ?_
    intro v18 q19
    refine sp (v18) rfl rfl ?_
    refine sx ?_
    refine cn ?_
    refine c_keep (keep_cons rfl (keep_cons rfl keep_nil)) ?_
    refine c_seq ?_
    refine c_reg ?_
    refine sp (v18) rfl rfl ?_
    refine sp (.bool x4) rfl rfl ?_
    obtain ⟨a20, g21, h⟩ := bind_some h
    refine st_callc (keys_Read_ok k _ _ _ g21 q19) rfl ?_
    intro v22 q23
    obtain ⟨v24, v26, rfl, q25, q27⟩ := q23
    obtain ⟨c28, rfl, q29⟩ := q25
    obtain rfl := q29
    obtain rfl := q27
    refine sp (.tuple [.agg [u8 a20.1.Kind, u8 a20.1.Reg, .int .i64 a20.1.N, u8 a20.1.Op, u8 a20.1.M.Key, u8 a20.1.M.Sign, .int .i64 a20.1.M.N, u8 a20.1.Key, u8 a20.1.Sign], .int .i64 a20.2]) rfl rfl ?_
    refine sp (.agg [u8 a20.1.Kind, u8 a20.1.Reg, .int .i64 a20.1.N, u8 a20.1.Op, u8 a20.1.M.Key, u8 a20.1.M.Sign, .int .i64 a20.1.M.N, u8 a20.1.Key, u8 a20.1.Sign]) rfl rfl ?_
    refine sp (.int .i64 a20.2) rfl rfl ?_
    refine st_alloc I ?_
    intro r30 σ31 I32
    have I33 : Inv _ ((r30, .cells [u8 (0 : UInt8), u8 (0 : UInt8), .int .i64 0, u8 (0 : UInt8), u8 (0 : UInt8), u8 (0 : UInt8), .int .i64 0, u8 (0 : UInt8), u8 (0 : UInt8)]) :: B) (O) := I32
    refine st_store I33 0 0 (cs' := [u8 a20.1.Kind, u8 a20.1.Reg, .int .i64 a20.1.N, u8 a20.1.Op, u8 a20.1.M.Key, u8 a20.1.M.Sign, .int .i64 a20.1.M.N, u8 a20.1.Key, u8 a20.1.Sign]) (bs' := (r30, .cells [u8 a20.1.Kind, u8 a20.1.Reg, .int .i64 a20.1.N, u8 a20.1.Op, u8 a20.1.M.Key, u8 a20.1.M.Sign, .int .i64 a20.1.M.N, u8 a20.1.Key, u8 a20.1.Sign]) :: B) rfl rfl rfl rfl rfl (Nat.le_of_ble_eq_true rfl) rfl rfl ?_
    intro σ35 I34
    refine sp (.int .i64 a20.2) rfl rfl ?_
    refine sx ?_
    refine cn ?_
    refine c_keep (keep_cons rfl (keep_cons rfl (keep_cons rfl keep_nil))) ?_
    refine c_seq ?_
    refine c_seq ?_
    refine c_reg ?_
    refine sp (.int .i64 a20.2) rfl rfl ?_
    refine sp (.bool (!decide (a20.2 = 1))) rfl rfl ?_
    refine sx ?_
    refine cn ?_
    refine c_keep (keep_cons rfl (keep_cons rfl (keep_cons rfl keep_nil))) ?_
    rcases bool_tf (!decide (a20.2 = 1)) with b36 | b36
    · have h := ite_t h b36
      refine c_cond_t (!decide (a20.2 = 1)) rfl b36 ?_
      refine c_seq ?_
      refine c_reg ?_
      refine sp (.bool true) rfl rfl ?_
      refine sx ?_
      refine cn ?_
      refine c_ret ?_
      refine cr ?_
      obtain rfl := some_eq h
      exact rr (vs := [.bool true]) (res_c (resp_t rfl) res_nil) ⟨_, rfl, rfl⟩
    · have h := ite_f h b36
      refine c_cond_f (!decide (a20.2 = 1)) rfl b36 ?_
      refine c_skip ?_
      refine cn ?_
      refine c_keep (keep_cons rfl (keep_cons rfl keep_nil)) ?_
      refine c_seq ?_
      refine c_seq ?_
      refine c_reg ?_
      refine sp (.int .i64 0) rfl rfl ?_
      refine sx ?_
      refine cn ?_
      refine c_keep (keep_cons rfl (keep_cons rfl (keep_cons rfl keep_nil))) ?_
      refine c_block ?_
      have I78 : Inv _ (B) (O) := (I34.front 0 rfl).drop
      obtain ⟨a79, g80, h⟩ := bind_some h
      refine platenlaw21_KeysMore_l26_ok x4 a16 q19 ?_ ?_ k 0  _ _ g80 rfl rfl rfl  I78
      · intro x73 tm81 σ82 e85  I83 ho84
        subst ho84
        refine br ?_
        refine cr ?_
        obtain rfl := some_eq h
        exact rr (vs := [.bool x73]) (res_c (resp_t e85) res_nil) ⟨_, rfl, rfl⟩
      · intro  tm86 σ87   I88 ho89
        subst ho89
        refine bx ?_
        refine cn ?_
        refine c_keep keep_nil ?_
        refine c_seq ?_
        refine c_reg ?_
        refine sp (.bool false) rfl rfl ?_
        refine sx ?_
        refine cn ?_
        refine c_ret ?_
        obtain rfl := some_eq h
        exact rr (vs := [.bool false]) (res_c (resp_t rfl) res_nil) ⟨_, rfl, rfl⟩
theorem platenlaw21_KeysMore_ok (k : Nat) (x1 : List UInt8) (x4 : Bool) (r : Bool) {v2 : AV}  {σ : St}
    (h : platenlaw21_KeysMore k x1 x4 = some r)
    (s3 : SL RU8 1 x1 v2) :
    RunF kE 7 [v2, .bool x4] σ (fun v σ' => σ' = σ ∧ v = .bool r) := by
  obtain ⟨v2, k0, s3⟩ := s3.close
  refine f_closed rfl rfl rfl (cl_cons k0 (cl_cons rfl cl_nil)) rfl ?_
  have I0 : Inv .zero [] [] := Inv.zero
  unfold platenlaw21_KeysMore at h
  refine c_seq ?_
  refine c_reg ?_
  refine sp (.bool false) rfl rfl ?_
  refine sx ?_
  refine cn ?_
  refine c_keep (keep_cons rfl (keep_cons rfl keep_nil)) ?_
  refine c_seq ?_
  refine c_seq ?_
  refine c_reg ?_
  obtain ⟨a5, g6, h⟩ := bind_some h
  refine st_callc (platenlaw21_two_ok k  _ g6 ) rfl ?_
  intro v7 q8
  obtain rfl := q8
  refine sp (.bool (!a5)) rfl rfl ?_
  refine sp (.bool (!a5)) rfl rfl ?_
  rcases bool_tf (!a5) with b9 | b9
  · have h := ite_t h b9
    refine sg_skip (!a5) rfl b9 ?_
    refine sg_skip (!a5) rfl b9 ?_
    refine sg_skip (!a5) rfl b9 ?_
    refine sp (.bool true) rfl (e_pick_t rfl b9 rfl) ?_
    refine sx ?_
    refine cn ?_
    exact platenlaw21_KeysMore_j5_ok k x1 x4 true h rfl rfl rfl s3  I0
  · have h := ite_f h b9
    refine sg_run (!a5) rfl b9 ?_
    refine sp (v2) rfl rfl ?_
    refine sg_run (!a5) rfl b9 ?_
    refine sp (.int .i64 (x1.length : Int)) rfl (e_len rfl s3 (Nat.le_of_ble_eq_true rfl)) ?_
    refine sg_run (!a5) rfl b9 ?_
    refine sp (.bool (decide (20 < (x1.length : Int)))) rfl rfl ?_
    refine sp (.bool (decide (20 < (x1.length : Int)))) rfl (e_pick_f rfl b9 rfl) ?_
    refine sx ?_
    refine cn ?_
    exact platenlaw21_KeysMore_j5_ok k x1 x4 (decide (20 < (x1.length : Int))) h rfl rfl rfl s3  I0
/- platen.platenlaw21.KeysCounts -/
def platenlaw21_KeysCounts (k : Nat) (x1 : Int) (x2 : Int) : Option Bool :=
  (platenlaw21_two k).bind fun a3 => if !a3 then (some false) else ((iRem (IntKind.i64.wrap x1) 9999).bind fun a8 => (iRem (IntKind.i64.wrap x2) 9999).bind fun a10 => (platenlaw21_digits k (IntKind.i64.wrap (1 + a8))).bind fun a12 => (lApp 1 ([] : List UInt8) a12).bind fun a17 => (lApp 1 a17 ([(100 : UInt8)] : List UInt8)).bind fun a25 => (platenlaw21_digits k (IntKind.i64.wrap (1 + a10))).bind fun a31 => (lApp 1 a25 a31).bind fun a35 => (lApp 1 a35 ([(119 : UInt8)] : List UInt8)).bind fun a43 => (keys_Read k a43 false).bind fun a49 => if decide (9999 < (IntKind.i64.wrap ((IntKind.i64.wrap (1 + a8)) * (IntKind.i64.wrap (1 + a10))))) then (if decide (a49.2 = 2) then (some (decide ((a49.1.Kind.toNat : Int) = 0) && (decide ((a49.1.Reg.toNat : Int) = 0) && (decide (a49.1.N = 0) && (decide ((a49.1.Op.toNat : Int) = 0) && (decide ((a49.1.M.Key.toNat : Int) = 0) && (decide ((a49.1.M.Sign.toNat : Int) = 0) && (decide (a49.1.M.N = 0) && (decide ((a49.1.Key.toNat : Int) = 0) && (decide ((a49.1.Sign.toNat : Int) = 0) && true)))))))))) else (some false)) else (if decide (a49.2 = 0) then (if decide (a49.1.N = (IntKind.i64.wrap ((IntKind.i64.wrap (1 + a8)) * (IntKind.i64.wrap (1 + a10))))) then (if decide (a49.1.M.N = (IntKind.i64.wrap ((IntKind.i64.wrap (1 + a8)) * (IntKind.i64.wrap (1 + a10))))) then (if decide ((a49.1.Kind.toNat : Int) = 3) then ((platenlaw21_same k a43 false).bind fun a71 => some a71) else (some false)) else (some false)) else (some false)) else (some false)))
theorem platenlaw21_KeysCounts_ok (k : Nat) (x1 : Int) (x2 : Int) (r : Bool)   {σ : St}
    (h : platenlaw21_KeysCounts k x1 x2 = some r) :
    RunF kE 8 [.int .u16 x1, .int .u16 x2] σ (fun v σ' => σ' = σ ∧ v = .bool r) := by
  refine f_closed rfl rfl rfl (cl_cons rfl (cl_cons rfl cl_nil)) rfl ?_
  have I0 : Inv .zero [] [] := Inv.zero
  unfold platenlaw21_KeysCounts at h
  refine c_seq ?_
  refine c_reg ?_
  refine sp (.bool false) rfl rfl ?_
  refine sx ?_
  refine cn ?_
  refine c_keep (keep_cons rfl (keep_cons rfl keep_nil)) ?_
  refine c_seq ?_
  refine c_seq ?_
  refine c_reg ?_
  obtain ⟨a3, g4, h⟩ := bind_some h
  refine st_callc (platenlaw21_two_ok k  _ g4 ) rfl ?_
  intro v5 q6
  obtain rfl := q6
  refine sp (.bool (!a3)) rfl rfl ?_
  refine sx ?_
  refine cn ?_
  refine c_keep (keep_cons rfl (keep_cons rfl (keep_cons rfl keep_nil))) ?_
  rcases bool_tf (!a3) with b7 | b7
  · have h := ite_t h b7
    refine c_cond_t (!a3) rfl b7 ?_
    refine c_seq ?_
    refine c_reg ?_
    refine sp (.bool false) rfl rfl ?_
    refine sx ?_
    refine cn ?_
    refine c_ret ?_
    refine cr ?_
    obtain rfl := some_eq h
    exact rr (vs := [.bool false]) (res_c (resp_t rfl) res_nil) ⟨_, rfl, rfl⟩
  · have h := ite_f h b7
    refine c_cond_f (!a3) rfl b7 ?_
    refine c_skip ?_
    refine cn ?_
    refine c_keep (keep_cons rfl (keep_cons rfl keep_nil)) ?_
    refine c_seq ?_
    refine c_reg ?_
    refine sp (.int .u16 x1) rfl rfl ?_
    refine sp (.int .i64 (IntKind.i64.wrap x1)) rfl rfl ?_
    obtain ⟨a8, g9, h⟩ := bind_some h
    refine sp (.int .i64 a8) rfl (e_rem rfl rfl g9) ?_
    refine sp (.int .i64 (IntKind.i64.wrap (1 + a8))) rfl rfl ?_
    refine sp (.int .u16 x2) rfl rfl ?_
    refine sp (.int .i64 (IntKind.i64.wrap x2)) rfl rfl ?_
    obtain ⟨a10, g11, h⟩ := bind_some h
    refine sp (.int .i64 a10) rfl (e_rem rfl rfl g11) ?_
    refine sp (.int .i64 (IntKind.i64.wrap (1 + a10))) rfl rfl ?_
    refine sp (.int .i64 (IntKind.i64.wrap (1 + a8))) rfl rfl ?_
    refine sp (.int .i64 (IntKind.i64.wrap (1 + a10))) rfl rfl ?_
    refine sx ?_
    refine cn ?_
    refine c_keep (keep_cons rfl (keep_cons rfl keep_nil)) ?_
    refine c_seq ?_
    refine c_reg ?_
    refine sp (.nils) rfl rfl ?_
    refine sx ?_
    refine cn ?_
    refine c_keep (keep_cons rfl (keep_cons rfl (keep_cons rfl keep_nil))) ?_
    refine c_seq ?_
    refine c_reg ?_
    refine sp (.nils) rfl rfl ?_
    refine sp (.int .i64 (IntKind.i64.wrap (1 + a8))) rfl rfl ?_
    obtain ⟨a12, g13, h⟩ := bind_some h
    refine st_callc (platenlaw21_digits_ok k _ _ g13 ) rfl ?_
    intro v14 q15
    have I16 : Inv _ ([]) (AV.nils :: []) := I0.onil
    obtain ⟨a17, g18, h⟩ := bind_some h
    refine st_app I16 rfl (SL.nil (R := RU8) (sz := 1)) rfl (MC.list q15) (Nat.le_of_ble_eq_true rfl) g18 ?_
    intro v19 σ21 s20 I22
    refine sp (v19) rfl rfl ?_
    refine sx ?_
    refine cn ?_
    refine c_keep (keep_cons rfl (keep_cons rfl (keep_cons rfl keep_nil))) ?_
    refine c_seq ?_
    refine c_reg ?_
    refine sp (v19) rfl rfl ?_
    refine sp (.list .own 1 [u8 (100 : UInt8)]) rfl rfl ?_
    have s24 : SL RU8 1 ([(100 : UInt8)] : List UInt8) (.list .own 1 [u8 (100 : UInt8)]) := SL.mk (RL.cons [u8 (100 : UInt8)] rfl rfl RL.nil)
    obtain ⟨a25, g26, h⟩ := bind_some h
    refine st_app I22 rfl s20 rfl (MC.list s24) (Nat.le_of_ble_eq_true rfl) g26 ?_
    intro v27 σ29 s28 I30
    refine sp (v27) rfl rfl ?_
    refine sx ?_
    refine cn ?_
    refine c_keep (keep_cons rfl (keep_cons rfl (keep_cons rfl keep_nil))) ?_
    refine c_seq ?_
    refine c_reg ?_
    refine sp (v27) rfl rfl ?_
    refine sp (.int .i64 (IntKind.i64.wrap (1 + a10))) rfl rfl ?_
    obtain ⟨a31, g32, h⟩ := bind_some h
    refine st_callc (platenlaw21_digits_ok k _ _ g32 ) rfl ?_
    intro v33 q34
    obtain ⟨a35, g36, h⟩ := bind_some h
    refine st_app I30 rfl s28 rfl (MC.list q34) (Nat.le_of_ble_eq_true rfl) g36 ?_
    intro v37 σ39 s38 I40
    refine sp (v37) rfl rfl ?_
    refine sx ?_
    refine cn ?_
    refine c_keep (keep_cons rfl (keep_cons rfl (keep_cons rfl keep_nil))) ?_
    refine c_seq ?_
    refine c_reg ?_
    refine sp (v37) rfl rfl ?_
    refine sp (.list .own 1 [u8 (119 : UInt8)]) rfl rfl ?_
    have s42 : SL RU8 1 ([(119 : UInt8)] : List UInt8) (.list .own 1 [u8 (119 : UInt8)]) := SL.mk (RL.cons [u8 (119 : UInt8)] rfl rfl RL.nil)
    obtain ⟨a43, g44, h⟩ := bind_some h
    refine st_app I40 rfl s38 rfl (MC.list s42) (Nat.le_of_ble_eq_true rfl) g44 ?_
    intro v45 σ47 s46 I48
    refine sp (v45) rfl rfl ?_
    refine sx ?_
    refine cn ?_
    refine c_keep (keep_cons rfl (keep_cons rfl (keep_cons rfl keep_nil))) ?_
    refine c_seq ?_
    refine c_reg ?_
    refine sp (v45) rfl rfl ?_
    obtain ⟨a49, g50, h⟩ := bind_some h
    refine st_callc (keys_Read_ok k _ _ _ g50 s46) rfl ?_
    intro v51 q52
    obtain ⟨v53, v55, rfl, q54, q56⟩ := q52
    obtain ⟨c57, rfl, q58⟩ := q54
    obtain rfl := q58
    obtain rfl := q56
    refine sp (.tuple [.agg [u8 a49.1.Kind, u8 a49.1.Reg, .int .i64 a49.1.N, u8 a49.1.Op, u8 a49.1.M.Key, u8 a49.1.M.Sign, .int .i64 a49.1.M.N, u8 a49.1.Key, u8 a49.1.Sign], .int .i64 a49.2]) rfl rfl ?_
    refine sp (.agg [u8 a49.1.Kind, u8 a49.1.Reg, .int .i64 a49.1.N, u8 a49.1.Op, u8 a49.1.M.Key, u8 a49.1.M.Sign, .int .i64 a49.1.M.N, u8 a49.1.Key, u8 a49.1.Sign]) rfl rfl ?_
    refine sp (.int .i64 a49.2) rfl rfl ?_
    refine st_alloc I48 ?_
    intro r59 σ60 I61
    have I62 : Inv _ ((r59, .cells [u8 (0 : UInt8), u8 (0 : UInt8), .int .i64 0, u8 (0 : UInt8), u8 (0 : UInt8), u8 (0 : UInt8), .int .i64 0, u8 (0 : UInt8), u8 (0 : UInt8)]) :: []) (v45 :: []) := I61
    refine st_store I62 0 0 (cs' := [u8 a49.1.Kind, u8 a49.1.Reg, .int .i64 a49.1.N, u8 a49.1.Op, u8 a49.1.M.Key, u8 a49.1.M.Sign, .int .i64 a49.1.M.N, u8 a49.1.Key, u8 a49.1.Sign]) (bs' := (r59, .cells [u8 a49.1.Kind, u8 a49.1.Reg, .int .i64 a49.1.N, u8 a49.1.Op, u8 a49.1.M.Key, u8 a49.1.M.Sign, .int .i64 a49.1.M.N, u8 a49.1.Key, u8 a49.1.Sign]) :: []) rfl rfl rfl rfl rfl (Nat.le_of_ble_eq_true rfl) rfl rfl ?_
    intro σ64 I63
    refine sp (.int .i64 a49.2) rfl rfl ?_
    refine sx ?_
    refine cn ?_
    refine c_keep (keep_cons rfl (keep_cons rfl (keep_cons rfl (keep_cons rfl (keep_cons rfl keep_nil))))) ?_
    refine c_seq ?_
    refine c_seq ?_
    refine c_reg ?_
    refine sp (.int .i64 (IntKind.i64.wrap (1 + a8))) rfl rfl ?_
    refine sp (.int .i64 (IntKind.i64.wrap (1 + a10))) rfl rfl ?_
    refine sp (.int .i64 (IntKind.i64.wrap ((IntKind.i64.wrap (1 + a8)) * (IntKind.i64.wrap (1 + a10))))) rfl rfl ?_
    refine sp (.bool (decide (9999 < (IntKind.i64.wrap ((IntKind.i64.wrap (1 + a8)) * (IntKind.i64.wrap (1 + a10))))))) rfl rfl ?_
    refine sx ?_
    refine cn ?_
    refine c_keep (keep_cons rfl (keep_cons rfl (keep_cons rfl (keep_cons rfl (keep_cons rfl (keep_cons rfl keep_nil)))))) ?_
    rcases bool_tf (decide (9999 < (IntKind.i64.wrap ((IntKind.i64.wrap (1 + a8)) * (IntKind.i64.wrap (1 + a10)))))) with b65 | b65
    · have h := ite_t h b65
      refine c_cond_t (decide (9999 < (IntKind.i64.wrap ((IntKind.i64.wrap (1 + a8)) * (IntKind.i64.wrap (1 + a10)))))) rfl b65 ?_
      refine c_seq ?_
      refine c_reg ?_
      refine sp (.int .i64 a49.2) rfl rfl ?_
      refine sp (.bool (decide (a49.2 = 2))) rfl rfl ?_
      refine sp (.bool (decide (a49.2 = 2))) rfl rfl ?_
      rcases bool_tf (decide (a49.2 = 2)) with b66 | b66
      · have h := ite_t h b66
        refine sg_run (decide (a49.2 = 2)) rfl b66 ?_
        refine sp (.agg [u8 a49.1.Kind, u8 a49.1.Reg, .int .i64 a49.1.N, u8 a49.1.Op, u8 a49.1.M.Key, u8 a49.1.M.Sign, .int .i64 a49.1.M.N, u8 a49.1.Key, u8 a49.1.Sign]) rfl (e_loads I63 0 0 9 rfl rfl rfl (Nat.le_of_ble_eq_true rfl)) ?_
        refine sg_run (decide (a49.2 = 2)) rfl b66 ?_
        refine sp (.agg [u8 (0 : UInt8), u8 (0 : UInt8), .int .i64 0, u8 (0 : UInt8), u8 (0 : UInt8), u8 (0 : UInt8), .int .i64 0, u8 (0 : UInt8), u8 (0 : UInt8)]) rfl rfl ?_
        refine sg_run (decide (a49.2 = 2)) rfl b66 ?_
        refine sp (.bool (decide ((a49.1.Kind.toNat : Int) = 0) && (decide ((a49.1.Reg.toNat : Int) = 0) && (decide (a49.1.N = 0) && (decide ((a49.1.Op.toNat : Int) = 0) && (decide ((a49.1.M.Key.toNat : Int) = 0) && (decide ((a49.1.M.Sign.toNat : Int) = 0) && (decide (a49.1.M.N = 0) && (decide ((a49.1.Key.toNat : Int) = 0) && (decide ((a49.1.Sign.toNat : Int) = 0) && true)))))))))) rfl rfl ?_
        refine sp (.bool (decide ((a49.1.Kind.toNat : Int) = 0) && (decide ((a49.1.Reg.toNat : Int) = 0) && (decide (a49.1.N = 0) && (decide ((a49.1.Op.toNat : Int) = 0) && (decide ((a49.1.M.Key.toNat : Int) = 0) && (decide ((a49.1.M.Sign.toNat : Int) = 0) && (decide (a49.1.M.N = 0) && (decide ((a49.1.Key.toNat : Int) = 0) && (decide ((a49.1.Sign.toNat : Int) = 0) && true)))))))))) rfl (e_pick_t rfl b66 rfl) ?_
        refine sp (.bool (decide ((a49.1.Kind.toNat : Int) = 0) && (decide ((a49.1.Reg.toNat : Int) = 0) && (decide (a49.1.N = 0) && (decide ((a49.1.Op.toNat : Int) = 0) && (decide ((a49.1.M.Key.toNat : Int) = 0) && (decide ((a49.1.M.Sign.toNat : Int) = 0) && (decide (a49.1.M.N = 0) && (decide ((a49.1.Key.toNat : Int) = 0) && (decide ((a49.1.Sign.toNat : Int) = 0) && true)))))))))) rfl rfl ?_
        refine sx ?_
        refine cn ?_
        refine c_ret ?_
        refine cr ?_
        obtain rfl := some_eq h
        exact rr (vs := [.bool (decide ((a49.1.Kind.toNat : Int) = 0) && (decide ((a49.1.Reg.toNat : Int) = 0) && (decide (a49.1.N = 0) && (decide ((a49.1.Op.toNat : Int) = 0) && (decide ((a49.1.M.Key.toNat : Int) = 0) && (decide ((a49.1.M.Sign.toNat : Int) = 0) && (decide (a49.1.M.N = 0) && (decide ((a49.1.Key.toNat : Int) = 0) && (decide ((a49.1.Sign.toNat : Int) = 0) && true)))))))))]) (res_c (resp_t rfl) res_nil) ⟨_, rfl, rfl⟩
      · have h := ite_f h b66
        refine sg_skip (decide (a49.2 = 2)) rfl b66 ?_
        refine sg_skip (decide (a49.2 = 2)) rfl b66 ?_
        refine sg_skip (decide (a49.2 = 2)) rfl b66 ?_
        refine sp (.bool false) rfl (e_pick_f rfl b66 rfl) ?_
        refine sp (.bool false) rfl rfl ?_
        refine sx ?_
        refine cn ?_
        refine c_ret ?_
        refine cr ?_
        obtain rfl := some_eq h
        exact rr (vs := [.bool false]) (res_c (resp_t rfl) res_nil) ⟨_, rfl, rfl⟩
    · have h := ite_f h b65
      refine c_cond_f (decide (9999 < (IntKind.i64.wrap ((IntKind.i64.wrap (1 + a8)) * (IntKind.i64.wrap (1 + a10)))))) rfl b65 ?_
      refine c_skip ?_
      refine cn ?_
      refine c_keep (keep_cons rfl (keep_cons rfl (keep_cons rfl (keep_cons rfl (keep_cons rfl keep_nil))))) ?_
      refine c_seq ?_
      refine c_reg ?_
      refine sp (.int .i64 a49.2) rfl rfl ?_
      refine sp (.bool (decide (a49.2 = 0))) rfl rfl ?_
      refine sp (.bool (decide (a49.2 = 0))) rfl rfl ?_
      rcases bool_tf (decide (a49.2 = 0)) with b67 | b67
      · have h := ite_t h b67
        refine sg_run (decide (a49.2 = 0)) rfl b67 ?_
        refine sp (.blk r59 2) rfl rfl ?_
        refine sg_run (decide (a49.2 = 0)) rfl b67 ?_
        refine sp (.int .i64 a49.1.N) rfl (e_load I63 0 2 rfl rfl rfl) ?_
        refine sg_run (decide (a49.2 = 0)) rfl b67 ?_
        refine sp (.int .i64 (IntKind.i64.wrap (1 + a8))) rfl rfl ?_
        refine sg_run (decide (a49.2 = 0)) rfl b67 ?_
        refine sp (.int .i64 (IntKind.i64.wrap (1 + a10))) rfl rfl ?_
        refine sg_run (decide (a49.2 = 0)) rfl b67 ?_
        refine sp (.int .i64 (IntKind.i64.wrap ((IntKind.i64.wrap (1 + a8)) * (IntKind.i64.wrap (1 + a10))))) rfl rfl ?_
        refine sg_run (decide (a49.2 = 0)) rfl b67 ?_
        refine sp (.bool (decide (a49.1.N = (IntKind.i64.wrap ((IntKind.i64.wrap (1 + a8)) * (IntKind.i64.wrap (1 + a10))))))) rfl rfl ?_
        refine sp (.bool (decide (a49.1.N = (IntKind.i64.wrap ((IntKind.i64.wrap (1 + a8)) * (IntKind.i64.wrap (1 + a10))))))) rfl (e_pick_t rfl b67 rfl) ?_
        refine sp (.bool (decide (a49.1.N = (IntKind.i64.wrap ((IntKind.i64.wrap (1 + a8)) * (IntKind.i64.wrap (1 + a10))))))) rfl rfl ?_
        rcases bool_tf (decide (a49.1.N = (IntKind.i64.wrap ((IntKind.i64.wrap (1 + a8)) * (IntKind.i64.wrap (1 + a10)))))) with b68 | b68
        · have h := ite_t h b68
          refine sg_run (decide (a49.1.N = (IntKind.i64.wrap ((IntKind.i64.wrap (1 + a8)) * (IntKind.i64.wrap (1 + a10)))))) rfl b68 ?_
          refine sp (.blk r59 4) rfl rfl ?_
          refine sg_run (decide (a49.1.N = (IntKind.i64.wrap ((IntKind.i64.wrap (1 + a8)) * (IntKind.i64.wrap (1 + a10)))))) rfl b68 ?_
          refine sp (.blk r59 6) rfl rfl ?_
          refine sg_run (decide (a49.1.N = (IntKind.i64.wrap ((IntKind.i64.wrap (1 + a8)) * (IntKind.i64.wrap (1 + a10)))))) rfl b68 ?_
          refine sp (.int .i64 a49.1.M.N) rfl (e_load I63 0 6 rfl rfl rfl) ?_
          refine sg_run (decide (a49.1.N = (IntKind.i64.wrap ((IntKind.i64.wrap (1 + a8)) * (IntKind.i64.wrap (1 + a10)))))) rfl b68 ?_
          refine sp (.int .i64 (IntKind.i64.wrap (1 + a8))) rfl rfl ?_
          refine sg_run (decide (a49.1.N = (IntKind.i64.wrap ((IntKind.i64.wrap (1 + a8)) * (IntKind.i64.wrap (1 + a10)))))) rfl b68 ?_
          refine sp (.int .i64 (IntKind.i64.wrap (1 + a10))) rfl rfl ?_
          refine sg_run (decide (a49.1.N = (IntKind.i64.wrap ((IntKind.i64.wrap (1 + a8)) * (IntKind.i64.wrap (1 + a10)))))) rfl b68 ?_
          refine sp (.int .i64 (IntKind.i64.wrap ((IntKind.i64.wrap (1 + a8)) * (IntKind.i64.wrap (1 + a10))))) rfl rfl ?_
          refine sg_run (decide (a49.1.N = (IntKind.i64.wrap ((IntKind.i64.wrap (1 + a8)) * (IntKind.i64.wrap (1 + a10)))))) rfl b68 ?_
          refine sp (.bool (decide (a49.1.M.N = (IntKind.i64.wrap ((IntKind.i64.wrap (1 + a8)) * (IntKind.i64.wrap (1 + a10))))))) rfl rfl ?_
          refine sp (.bool (decide (a49.1.M.N = (IntKind.i64.wrap ((IntKind.i64.wrap (1 + a8)) * (IntKind.i64.wrap (1 + a10))))))) rfl (e_pick_t rfl b68 rfl) ?_
          refine sp (.bool (decide (a49.1.M.N = (IntKind.i64.wrap ((IntKind.i64.wrap (1 + a8)) * (IntKind.i64.wrap (1 + a10))))))) rfl rfl ?_
          rcases bool_tf (decide (a49.1.M.N = (IntKind.i64.wrap ((IntKind.i64.wrap (1 + a8)) * (IntKind.i64.wrap (1 + a10)))))) with b69 | b69
          · have h := ite_t h b69
            refine sg_run (decide (a49.1.M.N = (IntKind.i64.wrap ((IntKind.i64.wrap (1 + a8)) * (IntKind.i64.wrap (1 + a10)))))) rfl b69 ?_
            refine sp (.blk r59 0) rfl rfl ?_
            refine sg_run (decide (a49.1.M.N = (IntKind.i64.wrap ((IntKind.i64.wrap (1 + a8)) * (IntKind.i64.wrap (1 + a10)))))) rfl b69 ?_
            refine sp (u8 a49.1.Kind) rfl (e_load I63 0 0 rfl rfl rfl) ?_
            refine sg_run (decide (a49.1.M.N = (IntKind.i64.wrap ((IntKind.i64.wrap (1 + a8)) * (IntKind.i64.wrap (1 + a10)))))) rfl b69 ?_
            refine sp (.bool (decide ((a49.1.Kind.toNat : Int) = 3))) rfl rfl ?_
            refine sp (.bool (decide ((a49.1.Kind.toNat : Int) = 3))) rfl (e_pick_t rfl b69 rfl) ?_
            refine sp (.bool (decide ((a49.1.Kind.toNat : Int) = 3))) rfl rfl ?_
            rcases bool_tf (decide ((a49.1.Kind.toNat : Int) = 3)) with b70 | b70
            · have h := ite_t h b70
              refine sg_run (decide ((a49.1.Kind.toNat : Int) = 3)) rfl b70 ?_
              refine sp (v45) rfl rfl ?_
              refine sg_run (decide ((a49.1.Kind.toNat : Int) = 3)) rfl b70 ?_
              obtain ⟨a71, g72, h⟩ := bind_some h
              refine st_callc (platenlaw21_same_ok k _ _ _ g72 s46) rfl ?_
              intro v73 q74
              obtain rfl := q74
              refine sp (.bool a71) rfl (e_pick_t rfl b70 rfl) ?_
              refine sp (.bool a71) rfl rfl ?_
              refine sx ?_
              refine cn ?_
              refine c_ret ?_
              obtain rfl := some_eq h
              exact rr (vs := [.bool a71]) (res_c (resp_t rfl) res_nil) ⟨_, rfl, rfl⟩
            · have h := ite_f h b70
              refine sg_skip (decide ((a49.1.Kind.toNat : Int) = 3)) rfl b70 ?_
              refine sg_skip (decide ((a49.1.Kind.toNat : Int) = 3)) rfl b70 ?_
              refine sp (.bool false) rfl (e_pick_f rfl b70 rfl) ?_
              refine sp (.bool false) rfl rfl ?_
              refine sx ?_
              refine cn ?_
              refine c_ret ?_
              obtain rfl := some_eq h
              exact rr (vs := [.bool false]) (res_c (resp_t rfl) res_nil) ⟨_, rfl, rfl⟩
          · have h := ite_f h b69
            refine sg_skip (decide (a49.1.M.N = (IntKind.i64.wrap ((IntKind.i64.wrap (1 + a8)) * (IntKind.i64.wrap (1 + a10)))))) rfl b69 ?_
            refine sg_skip (decide (a49.1.M.N = (IntKind.i64.wrap ((IntKind.i64.wrap (1 + a8)) * (IntKind.i64.wrap (1 + a10)))))) rfl b69 ?_
            refine sg_skip (decide (a49.1.M.N = (IntKind.i64.wrap ((IntKind.i64.wrap (1 + a8)) * (IntKind.i64.wrap (1 + a10)))))) rfl b69 ?_
            refine sp (.bool false) rfl (e_pick_f rfl b69 rfl) ?_
            refine sp (.bool false) rfl rfl ?_
            refine sg_skip false rfl rfl ?_
            refine sg_skip false rfl rfl ?_
            refine sp (.bool false) rfl (e_pick_f rfl rfl rfl) ?_
            refine sp (.bool false) rfl rfl ?_
            refine sx ?_
            refine cn ?_
            refine c_ret ?_
            obtain rfl := some_eq h
            exact rr (vs := [.bool false]) (res_c (resp_t rfl) res_nil) ⟨_, rfl, rfl⟩
        · have h := ite_f h b68
          refine sg_skip (decide (a49.1.N = (IntKind.i64.wrap ((IntKind.i64.wrap (1 + a8)) * (IntKind.i64.wrap (1 + a10)))))) rfl b68 ?_
          refine sg_skip (decide (a49.1.N = (IntKind.i64.wrap ((IntKind.i64.wrap (1 + a8)) * (IntKind.i64.wrap (1 + a10)))))) rfl b68 ?_
          refine sg_skip (decide (a49.1.N = (IntKind.i64.wrap ((IntKind.i64.wrap (1 + a8)) * (IntKind.i64.wrap (1 + a10)))))) rfl b68 ?_
          refine sg_skip (decide (a49.1.N = (IntKind.i64.wrap ((IntKind.i64.wrap (1 + a8)) * (IntKind.i64.wrap (1 + a10)))))) rfl b68 ?_
          refine sg_skip (decide (a49.1.N = (IntKind.i64.wrap ((IntKind.i64.wrap (1 + a8)) * (IntKind.i64.wrap (1 + a10)))))) rfl b68 ?_
          refine sg_skip (decide (a49.1.N = (IntKind.i64.wrap ((IntKind.i64.wrap (1 + a8)) * (IntKind.i64.wrap (1 + a10)))))) rfl b68 ?_
          refine sg_skip (decide (a49.1.N = (IntKind.i64.wrap ((IntKind.i64.wrap (1 + a8)) * (IntKind.i64.wrap (1 + a10)))))) rfl b68 ?_
          refine sp (.bool false) rfl (e_pick_f rfl b68 rfl) ?_
          refine sp (.bool false) rfl rfl ?_
          refine sg_skip false rfl rfl ?_
          refine sg_skip false rfl rfl ?_
          refine sg_skip false rfl rfl ?_
          refine sp (.bool false) rfl (e_pick_f rfl rfl rfl) ?_
          refine sp (.bool false) rfl rfl ?_
          refine sg_skip false rfl rfl ?_
          refine sg_skip false rfl rfl ?_
          refine sp (.bool false) rfl (e_pick_f rfl rfl rfl) ?_
          refine sp (.bool false) rfl rfl ?_
          refine sx ?_
          refine cn ?_
          refine c_ret ?_
          obtain rfl := some_eq h
          exact rr (vs := [.bool false]) (res_c (resp_t rfl) res_nil) ⟨_, rfl, rfl⟩
      · have h := ite_f h b67
        refine sg_skip (decide (a49.2 = 0)) rfl b67 ?_
        refine sg_skip (decide (a49.2 = 0)) rfl b67 ?_
        refine sg_skip (decide (a49.2 = 0)) rfl b67 ?_
        refine sg_skip (decide (a49.2 = 0)) rfl b67 ?_
        refine sg_skip (decide (a49.2 = 0)) rfl b67 ?_
        refine sg_skip (decide (a49.2 = 0)) rfl b67 ?_
        refine sp (.bool false) rfl (e_pick_f rfl b67 rfl) ?_
        refine sp (.bool false) rfl rfl ?_
        refine sg_skip false rfl rfl ?_
        refine sg_skip false rfl rfl ?_
        refine sg_skip false rfl rfl ?_
        refine sg_skip false rfl rfl ?_
        refine sg_skip false rfl rfl ?_
        refine sg_skip false rfl rfl ?_
        refine sg_skip false rfl rfl ?_
        refine sp (.bool false) rfl (e_pick_f rfl rfl rfl) ?_
        refine sp (.bool false) rfl rfl ?_
        refine sg_skip false rfl rfl ?_
        refine sg_skip false rfl rfl ?_
        refine sg_skip false rfl rfl ?_
        refine sp (.bool false) rfl (e_pick_f rfl rfl rfl) ?_
        refine sp (.bool false) rfl rfl ?_
        refine sg_skip false rfl rfl ?_
        refine sg_skip false rfl rfl ?_
        refine sp (.bool false) rfl (e_pick_f rfl rfl rfl) ?_
        refine sp (.bool false) rfl rfl ?_
        refine sx ?_
        refine cn ?_
        refine c_ret ?_
        obtain rfl := some_eq h
        exact rr (vs := [.bool false]) (res_c (resp_t rfl) res_nil) ⟨_, rfl, rfl⟩
end Go.Pv
