/- The machine of keys, in plain words; it is the reader. -/
import Derived.Test.YtbfochidbpdniaaPvKP
namespace Go.Pv
set_option linter.all false

abbrev Mc := S_platenref21_machine

theorem in_loop {c : UInt8} {s : List UInt8} (hs : s.length ≤ 1000) : ∀ (d k i : Nat), s.length - i = d → i ≤ s.length → d < k →
    platenref21_in_l6 c s k (i : Int) = some (if c ∈ s.drop i then .inl true else .inr ()) := by
  intro d
  induction d with
  | zero =>
    intro k i hd hi hk
    obtain ⟨k, rfl⟩ : ∃ m, k = m + 1 := ⟨k - 1, by omega⟩
    have : ¬ (i : Int) < (s.length : Int) := by omega
    simp only [platenref21_in_l6, this, decide_true, decide_false, if_true, if_false, Bool.false_eq_true, Option.bind_some, Bool.not_true, Bool.not_false, ite_true, ite_false, Bool.true_eq_false, not_true_eq_false, not_false_eq_true]
    rw [List.drop_of_length_le (by omega)]
    simp
  | succ d ih =>
    intro k i hd hi hk
    obtain ⟨k, rfl⟩ : ∃ m, k = m + 1 := ⟨k - 1, by omega⟩
    have hlt : i < s.length := by omega
    have h1 : (i : Int) < (s.length : Int) := by omega
    have h2 : lIdx s (i : Int) = some s[i] := by
      unfold lIdx; rw [if_pos (by omega)]; simp [hlt]
    have h3 : IntKind.i64.wrap ((i : Int) + 1) = ((i + 1 : Nat) : Int) := by rw [wr (by omega) (by omega)]; omega
    simp only [platenref21_in_l6, h1, h2, h3, decide_true, decide_false, if_true, if_false, Bool.false_eq_true, Option.bind_some, Bool.not_true, Bool.not_false, ite_true, ite_false, Bool.true_eq_false, not_true_eq_false, not_false_eq_true]
    rw [ih k (i + 1) (by omega) (by omega) (by omega), List.drop_eq_getElem_cons hlt]
    by_cases h : s[i] = c
    · simp [h]
    · have h' : ¬ c = s[i] := fun e => h e.symm
      have h'' : ¬ ((s[i].toNat : Int) = (c.toNat : Int)) := by
        intro e; apply h; apply UInt8.toNat_inj.1; omega
      simp only [h'', decide_true, decide_false, if_true, if_false, Bool.false_eq_true, Option.bind_some, Bool.not_true, Bool.not_false, ite_true, ite_false, Bool.true_eq_false, not_true_eq_false, not_false_eq_true, List.mem_cons, h', false_or]
theorem in_eq {c : UInt8} {s : List UInt8} {k : Nat} (hs : s.length ≤ 1000) (hk : s.length < k) : platenref21_in k c s = some (decide (0 ≤ Lib.indexByte s c)) := by
  unfold platenref21_in
  have this : platenref21_in_l6 c s k 0 = some (if c ∈ s then .inl true else .inr ()) := by
    have := in_loop (c := c) hs s.length k 0 (by omega) (by omega) hk
    simpa using this
  rw [this]
  by_cases h : c ∈ s
  · have := (mem_index s c).2 h
    simp [h, this]
  · have : ¬ 0 ≤ Lib.indexByte s c := fun e => h ((mem_index s c).1 e)
    simp [h, this]

def mMot (m : Mc) (x kind : UInt8) : Int × Mc :=
  if 0 ≤ Lib.indexByte hl x then (0, { m with c := { m.c with Kind := kind, M := ⟨x, m.c.M.Sign, m.c.N⟩ } })
  else if (x.toNat : Int) = 102 ∨ (x.toNat : Int) = 116 ∨ (x.toNat : Int) = 96 then (1, { m with state := 7, c := { m.c with Kind := kind, M := ⟨x, m.c.M.Sign, m.c.N⟩ } })
  else (2, { m with c := { m.c with Kind := kind, M := ⟨x, m.c.M.Sign, m.c.N⟩ } })
def mOp (m : Mc) (x : UInt8) : Int × Mc :=
  if m.chosen = true then (0, { m with c := { m.c with Kind := 7, Op := x } }) else (1, { m with state := 3, c := { m.c with Op := x } })
def mKey (m : Mc) (x : UInt8) : Int × Mc :=
  if (x.toNat : Int) = 27 then (0, { m with c := C0 })
  else if 0 ≤ Lib.indexByte ops x then mOp { m with c := { m.c with N := m.n } } x
  else if (x.toNat : Int) = 103 then (1, { m with state := 4, c := { m.c with N := m.n } })
  else if (x.toNat : Int) = 120 ∧ m.chosen = true then mOp { m with c := { m.c with N := m.n } } 100
  else if (x.toNat : Int) = 118 ∨ (x.toNat : Int) = 86 ∨ (m.chosen = false ∧ (0 ≤ Lib.indexByte sim x ∨ (x.toNat : Int) = 18)) then (0, { m with c := { m.c with N := m.n, Kind := 5, Key := x } })
  else if (x.toNat : Int) = 109 ∨ ((x.toNat : Int) = 114 ∧ m.chosen = false) then (1, { m with state := 8, c := { m.c with N := m.n, Kind := 6, Key := x } })
  else mMot { m with c := { m.c with N := m.n } } x 1
def mBeh2 (m : Mc) (x : UInt8) : Int × Mc :=
  if (x.toNat : Int) = 27 then (0, { m with c := C0 })
  else if (x.toNat : Int) = (m.c.Op.toNat : Int) then (0, { m with c := { m.c with Kind := 2 } })
  else if (x.toNat : Int) = 105 then (1, { m with state := 6 })
  else if (x.toNat : Int) = 103 then (1, { m with state := 5 })
  else mMot m x 3
def mBeh (m : Mc) (x : UInt8) : Int × Mc := mBeh2 (if 0 < m.k then { m with c := { m.c with N := if 0 < m.n then m.k * m.n else m.k } } else m) x
def mLast (m : Mc) (x : UInt8) : Int × Mc :=
  if (m.state.toNat : Int) = 4 then
    (if (x.toNat : Int) = 113 then mOp m 113 else (if (x.toNat : Int) = 103 then 0 else 2, { m with c := { m.c with Kind := 1, M := ⟨103, 0, m.c.N⟩ } }))
  else if (m.state.toNat : Int) = 5 then (if (x.toNat : Int) = 103 then 0 else 2, { m with c := { m.c with Kind := 3, M := ⟨103, 0, m.c.N⟩ } })
  else if (m.state.toNat : Int) = 6 then (if 0 ≤ Lib.indexByte wpl x then 0 else 2, { m with c := { m.c with Kind := 4, Sign := x } })
  else if (m.state.toNat : Int) = 7 then (if 32 ≤ (x.toNat : Int) ∧ (¬ (m.c.M.Key.toNat : Int) = 96 ∨ ltr x = true) then 0 else 2, { m with c := { m.c with M := ⟨m.c.M.Key, x, m.c.M.N⟩ } })
  else if (m.state.toNat : Int) = 8 then (if 32 ≤ (x.toNat : Int) ∧ (¬ (m.c.Key.toNat : Int) = 109 ∨ ltr x = true) then 0 else 2, { m with c := { m.c with Sign := x } })
  else (2, m)
def dig (n : Int) (x : UInt8) : Int := 10 * n + ((x.toNat : Int) - 48)
def num (x : UInt8) : Prop := 49 ≤ (x.toNat : Int) ∧ (x.toNat : Int) ≤ 57
instance (x : UInt8) : Decidable (num x) := inferInstanceAs (Decidable (_ ∧ _))
def feed (m : Mc) (x : UInt8) : Int × Mc :=
  if (m.state.toNat : Int) = 0 ∨ (m.state.toNat : Int) = 2 then
    (if (x.toNat : Int) = 34 ∧ (m.state.toNat : Int) = 0 then (1, { m with state := 1 })
    else if num x ∨ ((x.toNat : Int) = 48 ∧ 0 < m.n) then (if 9999 < dig m.n x then (2, { m with n := dig m.n x }) else (1, { m with n := dig m.n x, state := 2 }))
    else mKey m x)
  else if (m.state.toNat : Int) = 1 then (if ltr x = true then (1, { m with state := 2, c := { m.c with Reg := x } }) else (2, { m with c := { m.c with Reg := x } }))
  else if (m.state.toNat : Int) = 3 then
    (if num x ∨ ((x.toNat : Int) = 48 ∧ 0 < m.k) then (if 9999 < dig m.k x ∨ (0 < m.n ∧ 9999 < dig m.k x * m.n) then (2, { m with k := dig m.k x }) else (1, { m with k := dig m.k x }))
    else mBeh m x)
  else mLast m x

/-- What is kept of a machine. -/
structure MOk (m : Mc) : Prop where
  n0 : 0 ≤ m.n
  n1 : m.n ≤ 9999
  k0 : 0 ≤ m.k
  k1 : m.k ≤ 9999

theorem mMot_eq {k : Nat} {m : Mc} {x y : UInt8} (hk : 100 < k) : platenref21_machine_motion k m x y = some (mMot m x y) := by
  unfold platenref21_machine_motion platenref21_machine_motion_j14 platenref21_machine_more mMot
  rw [in_eq (by simp) (by simp; omega)]
  simp only [hl, Option.bind_some]
  grind
theorem mOp_eq {k : Nat} {m : Mc} {x : UInt8} : platenref21_machine_operator k m x = some (mOp m x) := by
  unfold platenref21_machine_operator platenref21_machine_more mOp
  grind
theorem mKey_eq {k : Nat} {m : Mc} {x : UInt8} (hk : 100 < k) : platenref21_machine_key k m x = some (mKey m x) := by
  unfold platenref21_machine_key platenref21_machine_key_j26 platenref21_machine_key_j32 platenref21_machine_key_j40 platenref21_machine_escape platenref21_machine_more mKey
  simp only [mOp_eq, mMot_eq hk, Option.bind_some, ops, sim]
  rw [in_eq (by simp) (by simp; omega), in_eq (by simp) (by simp; omega)]
  simp only [Option.bind_some]
  grind (splits := 40)
theorem mBeh_eq {k : Nat} {m : Mc} {x : UInt8} (hk : 100 < k) (hm : MOk m) : platenref21_machine_behind k m x = some (mBeh m x) := by
  have h4 := prod_le hm.k0 hm.k1 hm.n0 hm.n1
  unfold platenref21_machine_behind platenref21_machine_behind_j14 platenref21_machine_more platenref21_machine_escape mBeh mBeh2
  simp only [mMot_eq hk, Option.bind_some, wr (n := m.k * m.n) (by omega) (by omega)]
  grind (splits := 40)
theorem mLast_eq {k : Nat} {m : Mc} {x : UInt8} (hk : 100 < k) : platenref21_machine_last k m x = some (mLast m x) := by
  unfold platenref21_machine_last platenref21_machine_last_j39 platenref21_machine_last_j45 platenref21_machine_last_j47 mLast
  rw [in_eq (by simp) (by simp; omega)]
  simp only [mOp_eq, letter_eq', Option.bind_some, wpl]
  grind (splits := 40)
theorem digit_eq {k : Nat} {n : Int} {x : UInt8} (h0 : 0 ≤ n) (h1 : n ≤ 9999) (hx : 48 ≤ (x.toNat : Int) ∧ (x.toNat : Int) ≤ 57) : platenref21_digit k n x = some (dig n x, decide (dig n x ≤ 9999)) := by
  unfold platenref21_digit dig
  rw [toB_id (by omega) (by omega), wr (n := 10 * n) (by omega) (by omega), wr (by omega) (by omega)]
theorem feed_eq {k : Nat} {m : Mc} {x : UInt8} (hk : 100 < k) (hm : MOk m) : platenref21_machine_feed k m x = some (feed m x) := by
  have hx := x.toNat_lt
  obtain ⟨n0, n1, k0, k1⟩ := hm
  unfold platenref21_machine_feed platenref21_machine_feed_j6 platenref21_machine_feed_j16 platenref21_machine_feed_j20 platenref21_machine_feed_j28 platenref21_machine_feed_j68 platenref21_machine_more feed
  simp only [mKey_eq hk, mBeh_eq hk ⟨n0, n1, k0, k1⟩, mLast_eq hk, letter_eq', Option.bind_some]
  by_cases hd : 48 ≤ (x.toNat : Int) ∧ (x.toNat : Int) ≤ 57
  · have e1 := digit_eq (k := k) n0 n1 hd
    have e2 := digit_eq (k := k) k0 k1 hd
    have e3 : dig m.k x ≤ 9999 → IntKind.i64.wrap (dig m.k x * m.n) = dig m.k x * m.n := by
      intro h
      have := prod_le (show 0 ≤ dig m.k x by unfold dig; omega) h n0 n1
      exact wr (by omega) (by omega)
    simp only [e1, e2, Option.bind_some, num]
    grind (splits := 40)
  · simp only [num]
    grind (splits := 40)

/-! ### The machine's run -/

def run : Int → Mc → List UInt8 → S_keys_Cmd × Int
  | e, m, [] => if e = 0 then (m.c, 0) else (C0, e)
  | e, m, x :: l => if e = 1 then run (feed m x).1 (feed m x).2 l else (C0, 2)

def fin (q : S_keys_Cmd × Int × List UInt8) : S_keys_Cmd × Int := if q.2.1 = 0 then (if q.2.2 = [] then (q.1, 0) else (C0, 2)) else (C0, q.2.1)

theorem feed_ok {m : Mc} {x : UInt8} (hm : MOk m) (h : (feed m x).1 = 1) : MOk (feed m x).2 := by
  have hx := x.toNat_lt
  obtain ⟨n0, n1, k0, k1⟩ := hm
  revert h
  unfold feed mKey mBeh mBeh2 mLast mOp mMot dig num
  intro h
  constructor <;> grind (splits := 40)

theorem run_loop {p : List UInt8} (hp : p.length ≤ 1000) : ∀ (d k i : Nat) (e : Int) (m : Mc) (z : S_keys_Cmd), p.length - i = d → i ≤ p.length → d + 100 < k → (e = 1 → MOk m) →
    ∃ q, platenref21_Read_l10 p k e (i : Int) z m = some q ∧ (match q with | .inl (x, y) => (y, x) | .inr (x, _, y) => if x = 0 then (y.c, 0) else (C0, x)) = run e m (p.drop i) := by
  intro d
  induction d with
  | zero =>
    intro k i e m z hd hi hk hm
    obtain ⟨k, rfl⟩ : ∃ m, k = m + 1 := ⟨k - 1, by omega⟩
    have : ¬ (i : Int) < (p.length : Int) := by omega
    simp only [platenref21_Read_l10, this, decide_true, decide_false, if_true, if_false, Bool.false_eq_true, Option.bind_some, Bool.not_true, Bool.not_false, ite_true, ite_false, Bool.true_eq_false, not_true_eq_false, not_false_eq_true]
    refine ⟨_, rfl, ?_⟩
    rw [List.drop_of_length_le (by omega)]
    simp only [run]
  | succ d ih =>
    intro k i e m z hd hi hk hm
    obtain ⟨k, rfl⟩ : ∃ m, k = m + 1 := ⟨k - 1, by omega⟩
    have hlt : i < p.length := by omega
    have h1 : (i : Int) < (p.length : Int) := by omega
    have h2 : lIdx p (i : Int) = some p[i] := by
      unfold lIdx; rw [if_pos (by omega)]; simp [hlt]
    have h3 : IntKind.i64.wrap ((i : Int) + 1) = ((i + 1 : Nat) : Int) := by rw [wr (by omega) (by omega)]; omega
    simp only [platenref21_Read_l10, h1, decide_true, decide_false, if_true, if_false, Bool.false_eq_true, Option.bind_some, Bool.not_true, Bool.not_false, ite_true, ite_false, Bool.true_eq_false, not_true_eq_false, not_false_eq_true]
    rw [List.drop_eq_getElem_cons hlt]
    simp only [run]
    by_cases he : e = 1
    · simp only [he, decide_true, decide_false, if_true, if_false, Bool.false_eq_true, Option.bind_some, Bool.not_true, Bool.not_false, ite_true, ite_false, Bool.true_eq_false, not_true_eq_false, not_false_eq_true, h2, feed_eq (k := k) (by omega) (hm he), h3]
      exact ih k (i + 1) _ _ z (by omega) (by omega) (by omega) (fun h => feed_ok (hm he) h)
    · simp only [he, decide_true, decide_false, if_true, if_false, Bool.false_eq_true, Option.bind_some, Bool.not_true, Bool.not_false, ite_true, ite_false, Bool.true_eq_false, not_true_eq_false, not_false_eq_true]
      exact ⟨_, rfl, rfl⟩

theorem ref_eq {k : Nat} {p : List UInt8} {ch : Bool} (hp : p.length ≤ 1000) (hk : p.length + 100 < k) : platenref21_Read k p ch = some (run 1 ⟨0, ch, C0, 0, 0⟩ p) := by
  unfold platenref21_Read
  obtain ⟨q, h1, h2⟩ := run_loop hp p.length k 0 1 ⟨0, ch, C0, 0, 0⟩ C0 (by omega) (by omega) hk (fun _ => ⟨by simp, by simp, by simp, by simp⟩)
  simp only [List.drop_zero] at h2
  have h1' : platenref21_Read_l10 p k 1 0 C0 ⟨0, ch, C0, 0, 0⟩ = some q := h1
  rw [h1', ← h2]
  cases q with
  | inl q => obtain ⟨x, y⟩ := q; rfl
  | inr q =>
    obtain ⟨x, y, z⟩ := q
    by_cases h : x = 0 <;> simp [h]

/-! ### It is the reader -/

theorem run_end {e : Int} {m : Mc} {l : List UInt8} (h : ¬ e = 1) (h2 : e = 0 ∨ e = 2) : run e m l = fin (m.c, e, l) := by
  cases l with
  | nil => simp only [run, fin]; grind
  | cons x l => simp only [run, fin]; grind

theorem run_target {m : Mc} {l : List UInt8} (hs : (m.state.toNat : Int) = 7) : run 1 m l = fin (match l with
    | [] => (m.c, 1, [])
    | s :: l => if 32 ≤ (s.toNat : Int) ∧ (¬ (m.c.M.Key.toNat : Int) = 96 ∨ ltr s = true) then ({ m.c with M := ⟨m.c.M.Key, s, m.c.M.N⟩ }, 0, l) else (C0, 2, l)) := by
  cases l with
  | nil => simp only [run, fin]; grind
  | cons x l =>
    simp only [run, if_true]
    simp only [feed, mLast, hs]
    simp only [Int.reduceEq, or_self, if_false, if_true]
    rw [run_end (by grind) (by grind)]
    unfold fin
    grind
theorem run_mark {m : Mc} {l : List UInt8} (hs : (m.state.toNat : Int) = 8) : run 1 m l = fin (match l with
    | [] => (m.c, 1, [])
    | s :: l => if 32 ≤ (s.toNat : Int) ∧ (¬ (m.c.Key.toNat : Int) = 109 ∨ ltr s = true) then ({ m.c with Sign := s }, 0, l) else (C0, 2, l)) := by
  cases l with
  | nil => simp only [run, fin]; grind
  | cons x l =>
    simp only [run, if_true]
    simp only [feed, mLast, hs]
    simp only [Int.reduceEq, or_self, if_false, if_true]
    rw [run_end (by grind) (by grind)]
    unfold fin
    grind
theorem run_object {m : Mc} {l : List UInt8} (hs : (m.state.toNat : Int) = 6) : run 1 m l = fin (match l with
    | [] => (m.c, 1, [])
    | s :: l => if 0 ≤ Lib.indexByte wpl s then ({ m.c with Kind := 4, Sign := s }, 0, l) else (C0, 2, l)) := by
  cases l with
  | nil => simp only [run, fin]; grind
  | cons x l =>
    simp only [run, if_true]
    simp only [feed, mLast, hs]
    simp only [Int.reduceEq, or_self, if_false, if_true]
    rw [run_end (by grind) (by grind)]
    unfold fin
    grind
theorem run_g {m : Mc} {l : List UInt8} (hs : (m.state.toNat : Int) = 5) : run 1 m l = fin (match l with
    | [] => (m.c, 1, [])
    | s :: l => if (s.toNat : Int) = 103 then ({ m.c with Kind := 3, M := ⟨103, 0, m.c.N⟩ }, 0, l) else (C0, 2, l)) := by
  cases l with
  | nil => simp only [run, fin]; grind
  | cons x l =>
    simp only [run, if_true]
    simp only [feed, mLast, hs]
    simp only [Int.reduceEq, or_self, if_false, if_true]
    rw [run_end (by grind) (by grind)]
    unfold fin
    grind
theorem run_mot {m : Mc} {x y : UInt8} {l : List UInt8} (hs : m.c.M.Sign = 0) (hx : ¬ (x.toNat : Int) = 103) : run (mMot m x y).1 (mMot m x y).2 l = fin ({ m.c with Kind := y, M := (mot x m.c.N l).1 }, (mot x m.c.N l).2.1, (mot x m.c.N l).2.2) := by
  unfold mMot mot
  by_cases h1 : 0 ≤ Lib.indexByte hl x
  · have h2 : ¬ ((x.toNat : Int) = 102 ∨ (x.toNat : Int) = 116 ∨ (x.toNat : Int) = 96) := by
      have := (mem_index hl x).1 h1
      simp [hl] at this
      rcases this with h | h | h | h | h | h | h | h | h | h | h | h | h <;> subst h <;> decide
    simp only [h1, h2, hx, decide_true, decide_false, if_true, if_false, Bool.false_eq_true, Option.bind_some, Bool.not_true, Bool.not_false, ite_true, ite_false, Bool.true_eq_false, not_true_eq_false, not_false_eq_true]
    rw [run_end (by decide) (by decide), hs]
  · by_cases h2 : (x.toNat : Int) = 102 ∨ (x.toNat : Int) = 116 ∨ (x.toNat : Int) = 96
    · simp only [h1, h2, decide_true, decide_false, if_true, if_false, Bool.false_eq_true, Option.bind_some, Bool.not_true, Bool.not_false, ite_true, ite_false, Bool.true_eq_false, not_true_eq_false, not_false_eq_true]
      rw [run_target (by simp)]
      cases l with
      | nil => unfold fin; grind
      | cons s l => unfold fin; cases ltr s <;> grind
    · simp only [h1, h2, hx, decide_true, decide_false, if_true, if_false, Bool.false_eq_true, Option.bind_some, Bool.not_true, Bool.not_false, ite_true, ite_false, Bool.true_eq_false, not_true_eq_false, not_false_eq_true]
      rw [run_end (by decide) (by decide)]
      unfold fin; grind
end Go.Pv
