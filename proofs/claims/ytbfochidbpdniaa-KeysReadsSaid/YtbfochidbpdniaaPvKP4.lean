/- The laws of keys, in plain words. -/
import Derived.Test.YtbfochidbpdniaaPvKP3
namespace Go.Pv
set_option linter.all false

theorem two_eq {k : Nat} (hk : 10 < k) : platenlaw21_two k = some true := by
  unfold platenlaw21_two
  rw [read_eq (by simp) (by simp; omega), read_eq (by simp) (by simp; omega), read_eq (by simp) (by simp; omega)]
  rfl

theorem sames {k : Nat} {p : List UInt8} {ch : Bool} (hp : p.length ≤ 1000) (hk : p.length + 100 < k) : platenlaw21_same k p ch = some true := by
  unfold platenlaw21_same
  rw [read_eq hp (by omega), ref_eq hp hk, same_eq]
  simp

theorem keysReads (p : List UInt8) (ch : Bool) : platenlaw21_KeysReads 2000 p ch = some true := by
  unfold platenlaw21_KeysReads platenlaw21_KeysReads_j5
  rw [two_eq (by omega)]
  by_cases h : (60 : Int) < (p.length : Int)
  · simp only [h, decide_true, decide_false, if_true, if_false, Bool.false_eq_true, Option.bind_some, Bool.not_true, Bool.not_false, ite_true, ite_false, Bool.true_eq_false, not_true_eq_false, not_false_eq_true]
  · have := sames (k := 2000) (p := p) (ch := ch) (by omega) (by omega)
    simp only [h, decide_true, decide_false, if_true, if_false, Bool.false_eq_true, Option.bind_some, Bool.not_true, Bool.not_false, ite_true, ite_false, Bool.true_eq_false, not_true_eq_false, not_false_eq_true, this]

/-! ### Texts -/

def sgn : List UInt8 := (34 :: 97 :: 48 :: 49 :: 50 :: 51 :: 52 :: 53 :: 57 :: 100 :: 99 :: 121 :: 60 :: 62 :: 61 :: 103 :: 113 :: 119 :: 105 :: 112 :: 108 :: 102 :: 116 :: 120 :: 96 :: 104 :: 106 :: 107 :: 101 :: 71 :: 123 :: 125 :: 36 :: 94 :: 46 :: 117 :: 74 :: 58 :: 118 :: 86 :: 109 :: 114 :: 65 :: 27 :: 18 :: 10 :: 233 :: [])

theorem lIdx_nat {α : Type} {l : List α} {i : Nat} (h : i < l.length) : lIdx l (i : Int) = some l[i] := by
  unfold lIdx; rw [if_pos (by omega)]; simp [h]
theorem lIdx_some {α : Type} {l : List α} {i : Int} (h0 : 0 ≤ i) (h : i < (l.length : Int)) : ∃ a, lIdx l i = some a := by
  obtain ⟨n, rfl⟩ : ∃ n : Nat, i = (n : Int) := ⟨i.toNat, by omega⟩
  exact ⟨_, lIdx_nat (by omega)⟩
theorem lApp_some {α : Type} {b : Nat} {xs ys : List α} (hb : b ≤ 1000) (h : xs.length + ys.length ≤ 100000) : lApp b xs ys = some (xs ++ ys) := by
  unfold lApp
  rw [if_pos]
  have : (xs.length + ys.length) * b ≤ 100000 * 1000 := Nat.mul_le_mul h hb
  exact ⟨by unfold room; omega, by unfold room; omega⟩
theorem iRem_some {x y : Int} (hx : 0 ≤ x) (hy : 0 < y) : iRem x y = some (x % y) := by
  unfold iRem
  rw [if_neg (by omega), Int.tmod_eq_emod_of_nonneg hx]

theorem text_loop {l : List UInt8} (hl : l.length ≤ 1000) : ∀ (d k i : Nat) (t : List UInt8), l.length - i = d → i ≤ l.length → d < k → t.length = i → ∃ u, platenlaw21_text_l8 l k t (i : Int) = some u ∧ u.length = l.length := by
  intro d
  induction d with
  | zero =>
    intro k i t hd hi hk ht
    obtain ⟨k, rfl⟩ : ∃ m, k = m + 1 := ⟨k - 1, by omega⟩
    have : ¬ (i : Int) < (l.length : Int) := by omega
    simp only [platenlaw21_text_l8, this, decide_true, decide_false, if_true, if_false, Bool.false_eq_true, Option.bind_some, Bool.not_true, Bool.not_false, ite_true, ite_false, Bool.true_eq_false, not_true_eq_false, not_false_eq_true]
    exact ⟨t, rfl, by omega⟩
  | succ d ih =>
    intro k i t hd hi hk ht
    obtain ⟨k, rfl⟩ : ∃ m, k = m + 1 := ⟨k - 1, by omega⟩
    have hlt : i < l.length := by omega
    have h1 : (i : Int) < (l.length : Int) := by omega
    have h3 : IntKind.i64.wrap ((i : Int) + 1) = ((i + 1 : Nat) : Int) := by rw [wr (by omega) (by omega)]; omega
    have h4 := iRem_some (x := (l[i].toNat : Int)) (y := 47) (by omega) (by omega)
    obtain ⟨a, ha⟩ := lIdx_some (l := sgn) (i := (l[i].toNat : Int) % 47) (by omega) (by simp [sgn]; omega)
    unfold sgn at ha
    have h5 := lApp_some (b := 1) (xs := t) (ys := [a]) (by omega) (by simp; omega)
    simp only [platenlaw21_text_l8, h1, lIdx_nat hlt, h3, h4, ha, h5, decide_true, decide_false, if_true, if_false, Bool.false_eq_true, Option.bind_some, Bool.not_true, Bool.not_false, ite_true, ite_false, Bool.true_eq_false, not_true_eq_false, not_false_eq_true]
    exact ih k (i + 1) (t ++ [a]) (by omega) (by omega) (by omega) (by simp [ht])
theorem text_eq {k : Nat} {l : List UInt8} (hl : l.length ≤ 1000) (hk : l.length < k) : ∃ u, platenlaw21_text k l = some u ∧ u.length = l.length := by
  obtain ⟨u, h1, h2⟩ := text_loop hl l.length k 0 [] (by omega) (by omega) hk rfl
  refine ⟨u, ?_, h2⟩
  unfold platenlaw21_text
  have h1' : platenlaw21_text_l8 l k [] 0 = some u := h1
  rw [h1']; rfl

theorem keysWords (l : List UInt8) (ch : Bool) : platenlaw21_KeysWords 2000 l ch = some true := by
  unfold platenlaw21_KeysWords platenlaw21_KeysWords_j5
  rw [two_eq (by omega)]
  by_cases h : (20 : Int) < (l.length : Int)
  · simp only [h, decide_true, decide_false, if_true, if_false, Bool.false_eq_true, Option.bind_some, Bool.not_true, Bool.not_false, ite_true, ite_false, Bool.true_eq_false, not_true_eq_false, not_false_eq_true]
  · obtain ⟨u, h1, h2⟩ := text_eq (k := 2000) (l := l) (by omega) (by omega)
    have := sames (k := 2000) (p := u) (ch := ch) (by omega) (by omega)
    simp only [h, decide_true, decide_false, if_true, if_false, Bool.false_eq_true, Option.bind_some, Bool.not_true, Bool.not_false, ite_true, ite_false, Bool.true_eq_false, not_true_eq_false, not_false_eq_true, this, h1]

/-! ### Key by key -/

theorem run_snoc : ∀ (l : List UInt8) (e : Int) (m : Mc) (x : UInt8), ¬ (run e m l).2 = 1 → run e m (l ++ [x]) = (C0, 2)
  | [], e, m, x, h => by
    have he : ¬ e = 1 := by
      intro he; apply h; simp [run, he]
    simp [run, he]
  | y :: l, e, m, x, h => by
    simp only [run, List.cons_append] at h ⊢
    split
    · rename_i he
      rw [if_pos he] at h
      exact run_snoc l _ _ x h
    · rfl
theorem run_take : ∀ (l : List UInt8) (e : Int) (m : Mc) (i : Nat), (run e m l).2 = 0 → i < l.length → (run e m (l.take i)).2 = 1
  | [], e, m, i, h, hi => by simp at hi
  | y :: l, e, m, 0, h, hi => by
    simp only [run] at h
    split at h
    · rename_i he; simp [run, he]
    · simp at h
  | y :: l, e, m, i + 1, h, hi => by
    simp only [run, List.take_succ_cons] at h ⊢
    split at h
    · rename_i he
      rw [if_pos he]
      exact run_take l _ _ i h (by simpa using hi)
    · simp at h
theorem read_snoc {ch : Bool} {l : List UInt8} {x : UInt8} (h : ¬ (readM ch l).2 = 1) : (readM ch (l ++ [x])).2 = 2 := by
  rw [← same_eq] at h ⊢
  rw [run_snoc l _ _ x h]
theorem read_take {ch : Bool} {l : List UInt8} {i : Nat} (h : (readM ch l).2 = 0) (hi : i < l.length) : (readM ch (l.take i)).2 = 1 := by
  rw [← same_eq] at h ⊢
  exact run_take l _ _ i h hi
theorem read_nil {ch : Bool} : (readM ch []).2 = 1 := by rw [← same_eq]; rfl

theorem lSub_some {α : Type} {xs : List α} {i : Nat} (h : i ≤ xs.length) : lSub xs 0 (i : Int) = some (xs.take i) := by
  unfold lSub
  rw [if_pos ⟨by omega, by omega, by omega⟩]
  simp

theorem one_loop {ch : Bool} {t : List UInt8} (ht : t.length ≤ 100) (h0 : (readM ch t).2 = 0) : ∀ (d k i : Nat), t.length - i = d → i ≤ t.length → d + 200 < k → platenlaw21_KeysOne_l44 ch t k (i : Int) = some (.inr ()) := by
  intro d
  induction d with
  | zero =>
    intro k i hd hi hk
    obtain ⟨k, rfl⟩ : ∃ m, k = m + 1 := ⟨k - 1, by omega⟩
    have : ¬ (i : Int) < (t.length : Int) := by omega
    simp only [platenlaw21_KeysOne_l44, this, decide_true, decide_false, if_true, if_false, Bool.false_eq_true, Option.bind_some, Bool.not_true, Bool.not_false, ite_true, ite_false, Bool.true_eq_false, not_true_eq_false, not_false_eq_true]
  | succ d ih =>
    intro k i hd hi hk
    obtain ⟨k, rfl⟩ : ∃ m, k = m + 1 := ⟨k - 1, by omega⟩
    have h1 : (i : Int) < (t.length : Int) := by omega
    have h3 : IntKind.i64.wrap ((i : Int) + 1) = ((i + 1 : Nat) : Int) := by rw [wr (by omega) (by omega)]; omega
    have h4 : keys_Read k (t.take i) ch = some (readM ch (t.take i)) := read_eq (by simp; omega) (by simp; omega)
    have h5 := read_take (ch := ch) (l := t) (i := i) h0 (by omega)
    simp only [platenlaw21_KeysOne_l44, h1, lSub_some (show i ≤ t.length by omega), h3, h4, h5, decide_true, decide_false, if_true, if_false, Bool.false_eq_true, Option.bind_some, Bool.not_true, Bool.not_false, ite_true, ite_false, Bool.true_eq_false, not_true_eq_false, not_false_eq_true]
    exact ih k (i + 1) (by omega) (by omega) (by omega)

theorem feed_range (m : Mc) (x : UInt8) : (feed m x).1 = 0 ∨ (feed m x).1 = 1 ∨ (feed m x).1 = 2 := by
  unfold feed mKey mBeh mBeh2 mLast mOp mMot
  grind (splits := 40)
theorem run_range : ∀ (l : List UInt8) (e : Int) (m : Mc), (e = 0 ∨ e = 1 ∨ e = 2) → ((run e m l).2 = 0 ∨ (run e m l).2 = 1 ∨ (run e m l).2 = 2)
  | [], e, m, h => by simp only [run]; grind
  | x :: l, e, m, h => by
    simp only [run]
    split
    · exact run_range l _ _ (feed_range m x)
    · simp
theorem read_range (ch : Bool) (l : List UInt8) : (readM ch l).2 = 0 ∨ (readM ch l).2 = 1 ∨ (readM ch l).2 = 2 := by
  rw [← same_eq]; exact run_range _ _ _ (by simp)

theorem keysOne (l : List UInt8) (ch : Bool) (x : UInt8) : platenlaw21_KeysOne 2000 l ch x = some true := by
  unfold platenlaw21_KeysOne platenlaw21_KeysOne_j5
  rw [two_eq (by omega)]
  by_cases h : (20 : Int) < (l.length : Int)
  · simp only [h, decide_true, decide_false, if_true, if_false, Bool.false_eq_true, Option.bind_some, Bool.not_true, Bool.not_false, ite_true, ite_false, Bool.true_eq_false, not_true_eq_false, not_false_eq_true]
  · obtain ⟨u, h1, h2⟩ := text_eq (k := 2000) (l := l) (by omega) (by omega)
    have h3 : keys_Read 2000 u ch = some (readM ch u) := read_eq (by omega) (by omega)
    simp only [h, decide_true, decide_false, if_true, if_false, Bool.false_eq_true, Option.bind_some, Bool.not_true, Bool.not_false, ite_true, ite_false, Bool.true_eq_false, not_true_eq_false, not_false_eq_true, h1, h3]
    by_cases e1 : (readM ch u).2 = 1
    · simp only [e1, decide_true, decide_false, if_true, if_false, Bool.false_eq_true, Option.bind_some, Bool.not_true, Bool.not_false, ite_true, ite_false, Bool.true_eq_false, not_true_eq_false, not_false_eq_true]
    · have h4 := lSub_some (xs := u) (Nat.le_refl _)
      rw [List.take_length] at h4
      have h5 := lApp_some (b := 1) (xs := u) (ys := [x]) (by omega) (by simp; omega)
      have h6 : keys_Read 2000 (u ++ [x]) ch = some (readM ch (u ++ [x])) := read_eq (by simp; omega) (by simp; omega)
      have h7 := read_snoc (x := x) e1
      have h8 : (0 : Int) < (u.length : Int) := by
        have : u ≠ [] := by intro e; rw [e] at e1; exact e1 read_nil
        have := List.length_pos_iff.2 this
        omega
      simp only [e1, h4, h5, h6, h7, h8, decide_true, decide_false, if_true, if_false, Bool.false_eq_true, Option.bind_some, Bool.not_true, Bool.not_false, ite_true, ite_false, Bool.true_eq_false, not_true_eq_false, not_false_eq_true]
      by_cases e2 : (readM ch u).2 = 2
      · simp only [e2, decide_true, decide_false, if_true, if_false, Bool.false_eq_true, Option.bind_some, Bool.not_true, Bool.not_false, ite_true, ite_false, Bool.true_eq_false, not_true_eq_false, not_false_eq_true]
      · have e3 : (readM ch u).2 = 0 := by
          rcases read_range ch u with h | h | h
          · exact h
          · exact absurd h e1
          · exact absurd h e2
        have := one_loop (by omega) e3 u.length 2000 0 (by omega) (by omega) (by omega)
        have this' : platenlaw21_KeysOne_l44 ch u 2000 0 = some (.inr ()) := this
        simp only [e2, this', decide_true, decide_false, if_true, if_false, Bool.false_eq_true, Option.bind_some, Bool.not_true, Bool.not_false, ite_true, ite_false, Bool.true_eq_false, not_true_eq_false, not_false_eq_true]

/-! ### What may become a command -/

theorem feed_state (m : Mc) (x : UInt8) : (feed m x).2.state = m.state ∨ (feed m x).2.state = 1 ∨ (feed m x).2.state = 2 ∨ (feed m x).2.state = 3 ∨ (feed m x).2.state = 4 ∨ (feed m x).2.state = 5 ∨ (feed m x).2.state = 6 ∨ (feed m x).2.state = 7 ∨ (feed m x).2.state = 8 := by
  have mot : ∀ (m : Mc) (x y : UInt8), (mMot m x y).2.state = m.state ∨ (mMot m x y).2.state = 7 := by
    intro m x y; unfold mMot; split
    · simp
    · split <;> simp
  have op : ∀ (m : Mc) (x : UInt8), (mOp m x).2.state = m.state ∨ (mOp m x).2.state = 3 := by
    intro m x; unfold mOp; split <;> simp
  have beh2 : ∀ (m : Mc) (x : UInt8), (mBeh2 m x).2.state = m.state ∨ (mBeh2 m x).2.state = 5 ∨ (mBeh2 m x).2.state = 6 ∨ (mBeh2 m x).2.state = 7 := by
    intro m x; unfold mBeh2
    repeat' split
    all_goals first
      | simp; done
      | (rcases mot m x 3 with e | e <;> simp [e]; done)
  have beh : (mBeh m x).2.state = m.state ∨ (mBeh m x).2.state = 5 ∨ (mBeh m x).2.state = 6 ∨ (mBeh m x).2.state = 7 := by
    unfold mBeh
    have hs : (if 0 < m.k then { m with c := { m.c with N := if 0 < m.n then m.k * m.n else m.k } } else m).state = m.state := by split <;> rfl
    rcases beh2 (if 0 < m.k then { m with c := { m.c with N := if 0 < m.n then m.k * m.n else m.k } } else m) x with e | e | e | e
    · rw [e, hs]; simp
    · simp [e]
    · simp [e]
    · simp [e]
  unfold feed mKey mLast
  repeat' split
  all_goals first
    | simp; done
    | grind

/-- The state behind keys that may become a command. -/
theorem run_state : ∀ (l : List UInt8) (m : Mc), MOk m → m.state.toNat ≤ 8 → (run 1 m l).2 = 1 → ∃ m', MOk m' ∧ m'.state.toNat ≤ 8 ∧ ∀ r, run 1 m (l ++ r) = run 1 m' r
  | [], m, hm, hs, _ => ⟨m, hm, hs, fun r => rfl⟩
  | x :: l, m, hm, hs, h => by
    simp only [run, if_true] at h
    have he : (feed m x).1 = 1 := by
      rcases feed_range m x with e | e | e
      · exfalso
        rw [e] at h
        cases l with
        | nil => simp [run] at h
        | cons y l => simp [run] at h
      · exact e
      · exfalso
        rw [e] at h
        cases l with
        | nil => simp [run] at h
        | cons y l => simp [run] at h
    rw [he] at h
    have h8 : (feed m x).2.state.toNat ≤ 8 := by
      have := feed_state m x
      rcases this with e | e | e | e | e | e | e | e | e <;> rw [e]
      · exact hs
      all_goals decide
    obtain ⟨m', h1, h2, h3⟩ := run_state l (feed m x).2 (feed_ok hm he) h8 h
    exact ⟨m', h1, h2, fun r => by simp only [List.cons_append, run, if_true, he]; exact h3 r⟩

theorem can_end {m : Mc} (hm : MOk m) (hs : m.state.toNat ≤ 8) : (run 1 m [27]).2 = 0 ∨ (run 1 m [97]).2 = 0 ∨ (run 1 m [97, 119]).2 = 0 ∨ (run 1 m [103]).2 = 0 ∨ (run 1 m [119]).2 = 0 := by
  have h : m.state.toNat = 0 ∨ m.state.toNat = 1 ∨ m.state.toNat = 2 ∨ m.state.toNat = 3 ∨ m.state.toNat = 4 ∨ m.state.toNat = 5 ∨ m.state.toNat = 6 ∨ m.state.toNat = 7 ∨ m.state.toNat = 8 := by omega
  have l97 : ltr 97 = true := rfl
  have w0 : 0 ≤ Lib.indexByte wpl 119 := by decide
  have w1 : 0 ≤ Lib.indexByte hl 119 := by decide
  have w2 : ¬ 0 ≤ Lib.indexByte ops 119 := by decide
  have w3 : ¬ 0 ≤ Lib.indexByte sim 119 := by decide
  rcases h with h | h | h | h | h | h | h | h | h
  · left; simp [run, feed, h, mKey, num]
  · right; right; left
    simp [run, feed, h, l97, mKey, num, mMot, w1, w2, w3]
  · left; simp [run, feed, h, mKey, num]
  · left; simp [run, feed, h, mBeh, mBeh2, num]
  · right; right; right; left; simp [run, feed, h, mLast]
  · right; right; right; left; simp [run, feed, h, mLast]
  · right; right; right; right; simp [run, feed, h, mLast, w0]
  · right; left; simp [run, feed, h, mLast, l97]
  · right; left; simp [run, feed, h, mLast, l97]

def five : List (List UInt8) := [[27], [97], [97, 119], [103], [119]]
theorem more_loop {ch : Bool} {t : List UInt8} (ht : t.length ≤ 100) : ∀ (d k i : Nat), 5 - i = d → i ≤ 5 → d + 200 < k → (∃ s ∈ five.drop i, (readM ch (t ++ s)).2 = 0) → platenlaw21_KeysMore_l26 ch t k (i : Int) = some (.inl true) := by
  intro d
  induction d with
  | zero =>
    intro k i hd hi hk h
    have : i = 5 := by omega
    subst this
    obtain ⟨s, hs, _⟩ := h
    simp [five] at hs
  | succ d ih =>
    intro k i hd hi hk h
    obtain ⟨k, rfl⟩ : ∃ m, k = m + 1 := ⟨k - 1, by omega⟩
    have hlt : i < five.length := by simp [five]; omega
    have h1 : (i : Int) < 5 := by omega
    have h3 : IntKind.i64.wrap ((i : Int) + 1) = ((i + 1 : Nat) : Int) := by rw [wr (by omega) (by omega)]; omega
    have h4 := lSub_some (xs := t) (Nat.le_refl _)
    rw [List.take_length] at h4
    have h5 := lIdx_nat hlt
    have h6 : five[i].length ≤ 2 := by
      have : ∀ s ∈ five, s.length ≤ 2 := by decide
      exact this _ (List.getElem_mem hlt)
    have h7 := lApp_some (b := 1) (xs := t) (ys := five[i]) (by omega) (by omega)
    have h8 : keys_Read k (t ++ five[i]) ch = some (readM ch (t ++ five[i])) := read_eq (by simp; omega) (by simp; omega)
    have h5' : lIdx [[27], [97], [97, 119], [103], [119]] (i : Int) = some five[i] := h5
    simp only [platenlaw21_KeysMore_l26, h1, h4, h5', h7, h8, h3, decide_true, decide_false, if_true, if_false, Bool.false_eq_true, Option.bind_some, Bool.not_true, Bool.not_false, ite_true, ite_false, Bool.true_eq_false, not_true_eq_false, not_false_eq_true]
    by_cases e : (readM ch (t ++ five[i])).2 = 0
    · simp only [e, decide_true, decide_false, if_true, if_false, Bool.false_eq_true, Option.bind_some, Bool.not_true, Bool.not_false, ite_true, ite_false, Bool.true_eq_false, not_true_eq_false, not_false_eq_true]
    · simp only [e, decide_true, decide_false, if_true, if_false, Bool.false_eq_true, Option.bind_some, Bool.not_true, Bool.not_false, ite_true, ite_false, Bool.true_eq_false, not_true_eq_false, not_false_eq_true]
      refine ih k (i + 1) (by omega) (by omega) (by omega) ?_
      obtain ⟨s, hs, h0⟩ := h
      rw [List.drop_eq_getElem_cons hlt] at hs
      rcases List.mem_cons.1 hs with rfl | hs
      · exact absurd h0 e
      · exact ⟨s, hs, h0⟩

theorem keysMore (l : List UInt8) (ch : Bool) : platenlaw21_KeysMore 2000 l ch = some true := by
  unfold platenlaw21_KeysMore platenlaw21_KeysMore_j5
  rw [two_eq (by omega)]
  by_cases h : (20 : Int) < (l.length : Int)
  · simp only [h, decide_true, decide_false, if_true, if_false, Bool.false_eq_true, Option.bind_some, Bool.not_true, Bool.not_false, ite_true, ite_false, Bool.true_eq_false, not_true_eq_false, not_false_eq_true]
  · obtain ⟨u, h1, h2⟩ := text_eq (k := 2000) (l := l) (by omega) (by omega)
    have h3 : keys_Read 2000 u ch = some (readM ch u) := read_eq (by omega) (by omega)
    simp only [h, decide_true, decide_false, if_true, if_false, Bool.false_eq_true, Option.bind_some, Bool.not_true, Bool.not_false, ite_true, ite_false, Bool.true_eq_false, not_true_eq_false, not_false_eq_true, h1, h3]
    by_cases e1 : (readM ch u).2 = 1
    · have h4 : ∃ s ∈ five.drop 0, (readM ch (u ++ s)).2 = 0 := by
        rw [← same_eq] at e1
        obtain ⟨m', a1, a2, a3⟩ := run_state u _ ⟨by simp, by simp, by simp, by simp⟩ (by simp) e1
        have := can_end a1 a2
        simp only [← a3, same_eq] at this
        rcases this with h | h | h | h | h
        · exact ⟨_, by simp [five], h⟩
        · exact ⟨_, by simp [five], h⟩
        · exact ⟨_, by simp [five], h⟩
        · exact ⟨_, by simp [five], h⟩
        · exact ⟨_, by simp [five], h⟩
      have h5 := more_loop (ch := ch) (t := u) (by omega) 5 2000 0 (by omega) (by omega) (by omega) h4
      have h5' : platenlaw21_KeysMore_l26 ch u 2000 0 = some (.inl true) := h5
      simp only [e1, h5', decide_true, decide_false, if_true, if_false, Bool.false_eq_true, Option.bind_some, Bool.not_true, Bool.not_false, ite_true, ite_false, Bool.true_eq_false, not_true_eq_false, not_false_eq_true]
    · simp only [e1, decide_true, decide_false, if_true, if_false, Bool.false_eq_true, Option.bind_some, Bool.not_true, Bool.not_false, ite_true, ite_false, Bool.true_eq_false, not_true_eq_false, not_false_eq_true]

/-! ### Counts -/

theorem digits_any : ∀ (d : Nat) (k : Nat) (n : Int) (acc : List UInt8), 0 ≤ n → n ≤ 99999 → n < 10 ^ d → d < k → acc.length + d ≤ 1000 → ∃ u, platenlaw21_digits_l6 k n acc = some (u ++ acc) ∧ u.length ≤ d ∧ ∀ r, n ≤ 9999 → (0 < n → cnt (u ++ r) 0 = cnt r n) ∧ (n = 0 → u = []) := by
  intro d
  induction d with
  | zero =>
    intro k n acc h0 hb h1 hk ha
    obtain ⟨k, rfl⟩ : ∃ m, k = m + 1 := ⟨k - 1, by omega⟩
    have : n = 0 := by simp at h1; omega
    subst this
    exact ⟨[], by simp [platenlaw21_digits_l6], by simp, fun r _ => ⟨by omega, fun _ => rfl⟩⟩
  | succ d ih =>
    intro k n acc h0 hb h1 hk ha
    obtain ⟨k, rfl⟩ : ∃ m, k = m + 1 := ⟨k - 1, by omega⟩
    by_cases hn : 0 < n
    · have e1 := iRem_some (x := n) (y := 10) h0 (by omega)
      have e2 : iQuo .i64 n 10 = some (n / 10) := by
        unfold iQuo
        rw [if_neg (by omega), Int.tdiv_eq_ediv_of_nonneg h0]
        rw [wr (by omega) (by omega)]
      have e3 : IntKind.i64.wrap (48 + n % 10) = 48 + n % 10 := wr (by omega) (by omega)
      have e4 := lApp_some (b := 1) (xs := [toB (48 + n % 10)]) (ys := acc) (by omega) (by simp; omega)
      have e5 : ((toB (48 + n % 10)).toNat : Int) = 48 + n % 10 := toB_id (by omega) (by omega)
      obtain ⟨u, h2, h3, h4⟩ := ih k (n / 10) (toB (48 + n % 10) :: acc) (by omega) (by omega) (by rw [Int.pow_succ] at h1; omega) (by omega) (by simp; omega)
      simp only [platenlaw21_digits_l6, hn, e1, e2, e3, e4, decide_true, decide_false, if_true, if_false, Bool.false_eq_true, Option.bind_some, Bool.not_true, Bool.not_false, ite_true, ite_false, Bool.true_eq_false, not_true_eq_false, not_false_eq_true]
      refine ⟨u ++ [toB (48 + n % 10)], by rw [show [toB (48 + n % 10)] ++ acc = toB (48 + n % 10) :: acc from rfl, h2]; simp, by simp; omega, fun r hr => ⟨fun _ => ?_, by omega⟩⟩
      rw [List.append_assoc]
      have h5 := h4 ([toB (48 + n % 10)] ++ r) (by omega)
      have hlast : ∀ m, m = n / 10 → cnt ([toB (48 + n % 10)] ++ r) m = cnt r n := by
        intro m hm
        have hc : (48 < ((toB (48 + n % 10)).toNat : Int) ∨ (0 < m ∧ ((toB (48 + n % 10)).toNat : Int) = 48)) ∧ ((toB (48 + n % 10)).toNat : Int) ≤ 57 := by rw [e5]; omega
        show cnt (toB (48 + n % 10) :: r) m = _
        rw [cnt, if_pos hc, if_neg (by rw [e5]; omega), e5]
        congr 1; omega
      by_cases hq : 0 < n / 10
      · rw [h5.1 hq, hlast _ rfl]
      · have hz : n / 10 = 0 := by omega
        rw [h5.2 hz, List.nil_append, hlast 0 (by omega)]
    · have : n = 0 := by omega
      subst this
      exact ⟨[], by simp [platenlaw21_digits_l6], by simp, fun r _ => ⟨by omega, fun _ => rfl⟩⟩

theorem digits_eq {k : Nat} {n : Int} (h0 : 0 ≤ n) (h1 : n ≤ 99999) (hk : 10 < k) : ∃ u, platenlaw21_digits k n = some u ∧ u.length ≤ 5 ∧ ∀ r, n ≤ 9999 → (0 < n → cnt (u ++ r) 0 = cnt r n) ∧ (n = 0 → u = []) := by
  obtain ⟨u, a1, a2, a3⟩ := digits_any 5 k n [] h0 h1 (by simp; omega) (by omega) (by simp)
  refine ⟨u, ?_, a2, a3⟩
  unfold platenlaw21_digits
  rw [a1]; simp

theorem keysParts (reg : UInt8) (told : Bool) (n m : Int) (op key sign : UInt8) (ch : Bool) (n0 : 0 ≤ n) (n1 : n ≤ 65535) (m0 : 0 ≤ m) (m1 : m ≤ 65535) : platenlaw21_KeysParts 2000 reg told n m op key sign ch = some true := by
  have j32 : ∀ t : List UInt8, t.length ≤ 100 → platenlaw21_KeysParts_j32 2000 ch t = some true := by
    intro t ht
    unfold platenlaw21_KeysParts_j32
    rw [sames (by omega) (by omega)]; rfl
  have j29 : ∀ (t : List UInt8) (b : Bool), t.length ≤ 90 → platenlaw21_KeysParts_j29 2000 sign ch t b = some true := by
    intro t b ht
    unfold platenlaw21_KeysParts_j29
    cases b with
    | false => simp only [decide_true, decide_false, if_true, if_false, Bool.false_eq_true, Option.bind_some, Bool.not_true, Bool.not_false, ite_true, ite_false, Bool.true_eq_false, not_true_eq_false, not_false_eq_true]; exact j32 t (by omega)
    | true =>
      simp only [lApp_some (b := 1) (xs := t) (ys := [sign]) (by omega) (by simp; omega), decide_true, decide_false, if_true, if_false, Bool.false_eq_true, Option.bind_some, Bool.not_true, Bool.not_false, ite_true, ite_false, Bool.true_eq_false, not_true_eq_false, not_false_eq_true]
      exact j32 _ (by simp; omega)
  have j18 : ∀ t : List UInt8, t.length ≤ 2 → platenlaw21_KeysParts_j18 2000 n m op key sign ch t = some true := by
    intro t ht
    unfold platenlaw21_KeysParts_j18
    have hop := op.toNat_lt
    have hkey := key.toNat_lt
    have e1 := iRem_some (x := n) (y := 11000) n0 (by omega)
    have e2 := iRem_some (x := m) (y := 300) m0 (by omega)
    have e3 := iRem_some (x := (op.toNat : Int)) (y := 9) (by omega) (by omega)
    have e4 := iRem_some (x := (key.toNat : Int)) (y := 24) (by omega) (by omega)
    obtain ⟨u, a1, a2, _⟩ := digits_eq (k := 2000) (n := n % 11000) (by omega) (by omega) (by omega)
    obtain ⟨v, b1, b2, _⟩ := digits_eq (k := 2000) (n := m % 300) (by omega) (by omega) (by omega)
    obtain ⟨x, hx⟩ := lIdx_some (l := ([[100], [99], [121], [60], [62], [61], [103, 113], [], []] : List (List UInt8))) (i := (op.toNat : Int) % 9) (by omega) (by simp; omega)
    obtain ⟨y, hy⟩ := lIdx_some (l := ([[104], [108], [106], [107], [48], [94], [36], [119], [98], [101], [123], [125], [71], [103, 103], [102], [116], [105, 119], [105, 112], [105, 108], [100], [113], [60], [120], [118]] : List (List UInt8))) (i := (key.toNat : Int) % 24) (by omega) (by simp; omega)
    have memof : ∀ {l : List (List UInt8)} {i : Int} {a : List UInt8}, lIdx l i = some a → a ∈ l := by
      intro l i a h
      unfold lIdx at h
      split at h
      · exact List.mem_of_getElem? h
      · simp at h
    have hx2 : x.length ≤ 2 := by
      have : ∀ s ∈ ([[100], [99], [121], [60], [62], [61], [103, 113], [], []] : List (List UInt8)), s.length ≤ 2 := by decide
      exact this _ (memof hx)
    have hy2 : y.length ≤ 2 := by
      have : ∀ s ∈ ([[104], [108], [106], [107], [48], [94], [36], [119], [98], [101], [123], [125], [71], [103, 103], [102], [116], [105, 119], [105, 112], [105, 108], [100], [113], [60], [120], [118]] : List (List UInt8)), s.length ≤ 2 := by decide
      exact this _ (memof hy)
    have f1 := lApp_some (b := 1) (xs := t) (ys := u) (by omega) (by omega)
    have f2 := lApp_some (b := 1) (xs := t ++ u) (ys := x) (by omega) (by simp; omega)
    have f3 := lApp_some (b := 1) (xs := t ++ u ++ x) (ys := v) (by omega) (by simp; omega)
    have f4 := lApp_some (b := 1) (xs := t ++ u ++ x ++ v) (ys := y) (by omega) (by simp; omega)
    have g := fun b => j29 (t ++ u ++ x ++ v ++ y) b (by simp; omega)
    rw [wr (n := n) (by omega) (by omega), wr (n := m) (by omega) (by omega)]
    simp only [e1, e2, e3, e4, a1, b1, hx, hy, f1, f2, f3, f4, Option.bind_some, g]
    simp
  unfold platenlaw21_KeysParts
  rw [two_eq (by omega)]
  simp only [decide_true, decide_false, if_true, if_false, Bool.false_eq_true, Option.bind_some, Bool.not_true, Bool.not_false, ite_true, ite_false, Bool.true_eq_false, not_true_eq_false, not_false_eq_true]
  cases told with
  | false => simp only [decide_true, decide_false, if_true, if_false, Bool.false_eq_true, Option.bind_some, Bool.not_true, Bool.not_false, ite_true, ite_false, Bool.true_eq_false, not_true_eq_false, not_false_eq_true]; exact j18 [] (by simp)
  | true =>
    have e := iRem_some (x := (reg.toNat : Int)) (y := 26) (by omega) (by omega)
    simp only [e, lApp_some (b := 1) (xs := ([] : List UInt8)) (ys := [34, toB (97 + ((toB ((reg.toNat : Int) % 26)).toNat : Int))]) (by omega) (by simp), decide_true, decide_false, if_true, if_false, Bool.false_eq_true, Option.bind_some, Bool.not_true, Bool.not_false, ite_true, ite_false, Bool.true_eq_false, not_true_eq_false, not_false_eq_true]
    exact j18 _ (by simp)

theorem keysCounts (a b : Int) (a0 : 0 ≤ a) (a1 : a ≤ 65535) (b0 : 0 ≤ b) (b1 : b ≤ 65535) : platenlaw21_KeysCounts 2000 a b = some true := by
  unfold platenlaw21_KeysCounts
  rw [two_eq (by omega), wr (n := a) (by omega) (by omega), wr (n := b) (by omega) (by omega), iRem_some a0 (by omega), iRem_some b0 (by omega)]
  simp only [decide_true, decide_false, if_true, if_false, Bool.false_eq_true, Option.bind_some, Bool.not_true, Bool.not_false, ite_true, ite_false, Bool.true_eq_false, not_true_eq_false, not_false_eq_true]
  rw [wr (n := 1 + a % 9999) (by omega) (by omega), wr (n := 1 + b % 9999) (by omega) (by omega)]
  generalize hx : 1 + a % 9999 = x
  generalize hy : 1 + b % 9999 = y
  have x0 : 1 ≤ x ∧ x ≤ 9999 := by omega
  have y0 : 1 ≤ y ∧ y ≤ 9999 := by omega
  obtain ⟨u, p1, p2, p3⟩ := digits_eq (k := 2000) (n := x) (by omega) (by omega) (by omega)
  obtain ⟨v, q1, q2, q3⟩ := digits_eq (k := 2000) (n := y) (by omega) (by omega) (by omega)
  have f1 := lApp_some (b := 1) (xs := ([] : List UInt8)) (ys := u) (by omega) (by simp; omega)
  have f2 := lApp_some (b := 1) (xs := [] ++ u) (ys := [100]) (by omega) (by simp; omega)
  have f3 := lApp_some (b := 1) (xs := [] ++ u ++ [100]) (ys := v) (by omega) (by simp; omega)
  have f4 := lApp_some (b := 1) (xs := [] ++ u ++ [100] ++ v) (ys := [119]) (by omega) (by simp; omega)
  have hpr := prod_le (by omega : 0 ≤ x) x0.2 (by omega : 0 ≤ y) y0.2
  simp only [p1, q1, f1, f2, f3, f4, Option.bind_some, wr (n := x * y) (by omega) (by omega)]
  have hlen : ([] ++ u ++ [100] ++ v ++ [119]).length ≤ 20 := by simp; omega
  rw [read_eq (by omega) (by omega), sames (by omega) (by omega)]
  have hc1 : ∀ r, cnt (100 :: r) x = (x, true, 100 :: r) := fun r => by rw [cnt, if_neg (by simp)]
  have hc2 : ∀ r, cnt (119 :: r) y = (y, true, 119 :: r) := fun r => by rw [cnt, if_neg (by simp)]
  have hp : [] ++ u ++ [100] ++ v ++ [119] = u ++ (100 :: (v ++ [119])) := by simp
  have hcu : cnt (u ++ (100 :: (v ++ [119]))) 0 = (x, true, 100 :: (v ++ [119])) := by rw [(p3 _ x0.2).1 (by omega), hc1]
  have hcv : cnt (v ++ [119]) 0 = (y, true, [119]) := by rw [(q3 _ y0.2).1 (by omega), hc2]
  have hu : ∃ c r, u ++ (100 :: (v ++ [119])) = c :: r ∧ ¬ (c.toNat : Int) = 34 := by
    cases hu : u with
    | nil => exact ⟨100, _, rfl, by decide⟩
    | cons c r =>
      refine ⟨c, _, rfl, fun e => ?_⟩
      rw [hu] at hcu
      simp only [List.cons_append] at hcu
      rw [cnt, if_neg (by omega)] at hcu
      injection hcu with h1 _
      omega
  obtain ⟨c, r, hcr, hc⟩ := hu
  have hread : readM false ([] ++ u ++ [100] ++ v ++ [119]) = if 9999 < x * y then (C0, 2) else (⟨3, 0, x * y, 100, ⟨119, 0, x * y⟩, 0, 0⟩, 0) := by
    have hcmd : cmdM false (u ++ (100 :: (v ++ [119]))) = if 9999 < y * x then (⟨0, 0, x, 100, MO0, 0, 0⟩, 2, [119]) else (⟨3, 0, y * x, 100, ⟨119, 0, y * x⟩, 0, 0⟩, 0, []) := by
      rw [hcr]
      unfold cmdM
      simp only [if_neg hc]
      rw [← hcr]
      unfold cmdC
      simp only [hcu, Bool.true_eq_false, if_false]
      have o1 : 0 ≤ Lib.indexByte ops 100 := by decide
      have m1 : iMax x 1 = x := by unfold iMax; split <;> omega
      have m2 : iMax y 1 = y := by unfold iMax; split <;> omega
      have w1 : 0 ≤ Lib.indexByte hl 119 := by decide
      unfold keyM
      rw [if_neg (by decide), if_pos o1]
      unfold opr
      simp only [hcv, Bool.false_eq_true, Bool.true_eq_false, if_false, m1, m2]
      by_cases hb : 9999 < y * x
      · rw [if_pos hb, if_pos hb]
      · rw [if_neg hb, if_neg hb, if_pos (by omega)]
        simp [opB, mot, w1]
    unfold readM
    rw [hp, hcmd, Int.mul_comm y x]
    by_cases hb : 9999 < x * y
    · simp [hb]
    · simp [hb]
  rw [hread]
  by_cases hb : 9999 < x * y
  · simp [hb]
  · simp [hb]
end Go.Pv
