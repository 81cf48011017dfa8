/- The machine of keys is the reader. -/
import Derived.Test.YtbfochidbpdniaaPvKP2
namespace Go.Pv
set_option linter.all false

theorem run_beh2 {m : Mc} {x : UInt8} {l : List UInt8} (hs : m.c.M.Sign = 0) : run (mBeh2 m x).1 (mBeh2 m x).2 l = fin (opB m.c.Op m.c (x :: l)) := by
  unfold mBeh2 opB
  by_cases h1 : (x.toNat : Int) = 27
  · rw [if_pos h1, run_end (by simp) (by simp)]
    simp only [if_pos h1]
  rw [if_neg h1]
  simp only [if_neg h1]
  by_cases h2 : (x.toNat : Int) = (m.c.Op.toNat : Int)
  · rw [if_pos h2, if_pos h2, run_end (by simp) (by simp)]
  rw [if_neg h2, if_neg h2]
  by_cases h3 : (x.toNat : Int) = 105
  · rw [if_pos h3, if_pos h3, run_object (by simp)]
    cases l with
    | nil => rfl
    | cons s l => simp only [wpl, fin]; grind
  rw [if_neg h3, if_neg h3]
  by_cases h4 : (x.toNat : Int) = 103
  · rw [if_pos h4, run_g (by simp)]
    have h5 : ¬ ((x.toNat : Int) = 102 ∨ (x.toNat : Int) = 116 ∨ (x.toNat : Int) = 96) := by omega
    cases l with
    | nil => simp only [mot, if_neg h5, if_pos h4, fin]; simp
    | cons s l => simp only [mot, if_neg h5, if_pos h4, fin]; grind
  rw [if_neg h4, run_mot (by exact hs) h4]

theorem cnt_mono : ∀ (l : List UInt8) (n : Int), 0 ≤ n → (cnt l n).2.1 = true → n ≤ (cnt l n).1
  | [], n, _, _ => by simp [cnt]
  | c :: l, n, h0, h => by
    simp only [cnt] at h ⊢
    split at h
    · rename_i hc
      rw [if_pos hc]
      split at h
      · simp at h
      · rename_i hb
        rw [if_neg hb]
        have := cnt_mono l _ (by omega) h
        omega
    · rename_i hc
      rw [if_neg hc]; simp

def opA (m : Mc) (l : List UInt8) : S_keys_Cmd × Int × List UInt8 :=
  if (cnt l m.k).2.1 = false then (m.c, 2, (cnt l m.k).2.2)
  else if 9999 < iMax (cnt l m.k).1 1 * iMax m.n 1 then (m.c, 2, (cnt l m.k).2.2)
  else if 0 < (cnt l m.k).1 then opB m.c.Op { m.c with N := (cnt l m.k).1 * iMax m.n 1 } (cnt l m.k).2.2
  else opB m.c.Op m.c (cnt l m.k).2.2

theorem fin_bad {c d : S_keys_Cmd} {r r' : List UInt8} : fin (c, 2, r) = fin (d, 2, r') := by unfold fin; simp

theorem run_after : ∀ (l : List UInt8) (m : Mc), (m.state.toNat : Int) = 3 → MOk m → m.c.N = m.n → m.c.M.Sign = 0 → (0 < m.n → m.k * m.n ≤ 9999) → run 1 m l = fin (opA m l) := by
  intro l
  induction l with
  | nil =>
    intro m hs hm hn hg hp
    obtain ⟨n0, n1, k0, k1⟩ := hm
    have h1 : iMax m.k 1 * iMax m.n 1 ≤ 9999 := by
      unfold iMax
      by_cases hk : 1 > m.k
      · rw [if_pos hk]; split <;> omega
      · rw [if_neg hk]
        split
        · omega
        · exact hp (by omega)
    have h2 : ¬ 9999 < iMax m.k 1 * iMax m.n 1 := by omega
    simp only [run, opA, cnt, h2, decide_true, decide_false, if_true, if_false, Bool.false_eq_true, Option.bind_some, Bool.not_true, Bool.not_false, ite_true, ite_false, Bool.true_eq_false, not_true_eq_false, not_false_eq_true, opB, fin]
    by_cases hk : 0 < m.k <;> simp [hk]
  | cons x l ih =>
    intro m hs hm hn hg hp
    have hx := x.toNat_lt
    have hm' := hm
    obtain ⟨n0, n1, k0, k1⟩ := hm
    have hfeed : feed m x = (if num x ∨ ((x.toNat : Int) = 48 ∧ 0 < m.k) then (if 9999 < dig m.k x ∨ (0 < m.n ∧ 9999 < dig m.k x * m.n) then (2, { m with k := dig m.k x }) else (1, { m with k := dig m.k x }))
    else mBeh m x) := by
      unfold feed; simp only [hs]; simp only [Int.reduceEq, or_self, if_false, if_true]
    simp only [run, if_true, hfeed]
    by_cases hd : num x ∨ ((x.toNat : Int) = 48 ∧ 0 < m.k)
    · have hd2 : (48 < (x.toNat : Int) ∨ (0 < m.k ∧ (x.toNat : Int) = 48)) ∧ (x.toNat : Int) ≤ 57 := by unfold num at hd; omega
      rw [if_pos hd]
      have hc : cnt (x :: l) m.k = if 9999 < dig m.k x then (0, false, x :: l) else cnt l (dig m.k x) := by
        rw [cnt, if_pos hd2]; rfl
      by_cases hb : 9999 < dig m.k x
      · rw [if_pos (.inl hb), run_end (by simp) (by simp)]
        simp only [opA, hc, if_pos hb, if_true]
        exact fin_bad
      · have hdig : 0 ≤ dig m.k x := by unfold dig; omega
        by_cases hb2 : 0 < m.n ∧ 9999 < dig m.k x * m.n
        · rw [if_pos (.inr hb2), run_end (by simp) (by simp)]
          simp only [opA, hc, if_neg hb]
          cases hok : (cnt l (dig m.k x)).2.1 with
          | false => simp only [if_true]; exact fin_bad
          | true =>
            have h1 := cnt_mono l _ hdig hok
            have h2 : 9999 < iMax (cnt l (dig m.k x)).1 1 * iMax m.n 1 := by
              have e1 : iMax m.n 1 = m.n := by unfold iMax; split <;> omega
              have e2 : dig m.k x ≤ iMax (cnt l (dig m.k x)).1 1 := by unfold iMax; split <;> omega
              rw [e1]
              have := Int.mul_le_mul_of_nonneg_right e2 n0
              omega
            simp only [h2, decide_true, decide_false, if_true, if_false, Bool.false_eq_true, Option.bind_some, Bool.not_true, Bool.not_false, ite_true, ite_false, Bool.true_eq_false, not_true_eq_false, not_false_eq_true]
            exact fin_bad
        · rw [if_neg (by omega)]
          have := ih { m with k := dig m.k x } hs ⟨n0, n1, hdig, by show dig m.k x ≤ 9999; omega⟩ hn hg (fun h => by have : ¬ 9999 < dig m.k x * m.n := fun h' => hb2 ⟨h, h'⟩; simp only; omega)
          rw [this]
          simp only [opA, hc, if_neg hb]
    · have hd2 : ¬ ((48 < (x.toNat : Int) ∨ (0 < m.k ∧ (x.toNat : Int) = 48)) ∧ (x.toNat : Int) ≤ 57) := by unfold num at hd; omega
      rw [if_neg hd]
      have hc : cnt (x :: l) m.k = (m.k, true, x :: l) := by simp only [cnt, if_neg hd2]
      have h1 : ¬ 9999 < iMax m.k 1 * iMax m.n 1 := by
        have : iMax m.k 1 * iMax m.n 1 ≤ 9999 := by
          unfold iMax
          by_cases hk : 1 > m.k
          · rw [if_pos hk]; split <;> omega
          · rw [if_neg hk]
            split
            · omega
            · exact hp (by omega)
        omega
      simp only [opA, hc, h1, decide_true, decide_false, if_true, if_false, Bool.false_eq_true, Option.bind_some, Bool.not_true, Bool.not_false, ite_true, ite_false, Bool.true_eq_false, not_true_eq_false, not_false_eq_true, mBeh]
      by_cases hk : 0 < m.k
      · rw [if_pos hk, if_pos hk, run_beh2 (by exact hg)]
        have e : (if 0 < m.n then m.k * m.n else m.k) = m.k * iMax m.n 1 := by
          unfold iMax
          split
          · rw [if_neg (by omega)]
          · rw [if_pos (by omega)]; omega
        rw [e]
      · rw [if_neg hk, if_neg hk, run_beh2 hg]

theorem run_op {m : Mc} {x : UInt8} {l : List UInt8} (hm : MOk m) (hk : m.k = 0) (hn : m.c.N = m.n) (hg : m.c.M.Sign = 0) : run (mOp m x).1 (mOp m x).2 l = fin (opr m.c x m.chosen l) := by
  unfold mOp opr
  cases hc : m.chosen with
  | true =>
    simp only [if_true]
    rw [run_end (by simp) (by simp)]
  | false =>
    simp only [Bool.false_eq_true, if_false]
    rw [run_after l { m with state := 3, chosen := false, c := { m.c with Op := x } } (by simp) ⟨hm.n0, hm.n1, by simp [hk], by simp [hk]⟩ (by exact hn) (by exact hg) (by simp [hk])]
    unfold opA
    simp only [hk, hn]

theorem run_lg {m : Mc} {l : List UInt8} (hs : (m.state.toNat : Int) = 4) (hm : MOk m) (hk : m.k = 0) (hn : m.c.N = m.n) (hg : m.c.M.Sign = 0) : run 1 m l = fin (match l with
    | [] => (m.c, 1, [])
    | g :: l => if (g.toNat : Int) = 113 then opr m.c 113 m.chosen l else if (g.toNat : Int) = 103 then ({ m.c with Kind := 1, M := ⟨103, 0, m.c.N⟩ }, 0, l) else (m.c, 2, l)) := by
  cases l with
  | nil => simp only [run, fin]; grind
  | cons x l =>
    simp only [run, if_true]
    simp only [feed, mLast, hs]
    simp only [Int.reduceEq, or_self, if_false, if_true]
    by_cases h1 : (x.toNat : Int) = 113
    · rw [if_pos h1, if_pos h1, run_op hm hk hn hg]
    · rw [if_neg h1, if_neg h1, run_end (by grind) (by grind)]
      unfold fin
      grind

theorem run_key {m : Mc} {x : UInt8} {l : List UInt8} (hm : MOk m) (hk : m.k = 0) (hg : m.c.M.Sign = 0) : run (mKey m x).1 (mKey m x).2 l = fin (keyM { m.c with N := m.n } x m.chosen l) := by
  have hm2 : MOk { m with c := { m.c with N := m.n } } := ⟨hm.n0, hm.n1, hm.k0, hm.k1⟩
  unfold mKey keyM
  by_cases h1 : (x.toNat : Int) = 27
  · simp only [h1, decide_true, decide_false, if_true, if_false, Bool.false_eq_true, Option.bind_some, Bool.not_true, Bool.not_false, ite_true, ite_false, Bool.true_eq_false, not_true_eq_false, not_false_eq_true]
    rw [run_end (by simp) (by simp)]
  rw [if_neg h1, if_neg h1]
  by_cases h2 : 0 ≤ Lib.indexByte ops x
  · rw [if_pos h2, if_pos h2, run_op hm2 (by exact hk) rfl (by exact hg)]
  rw [if_neg h2, if_neg h2]
  by_cases h3 : (x.toNat : Int) = 103
  · rw [if_pos h3, if_pos h3, run_lg (m := { m with state := 4, c := { m.c with N := m.n } }) (by simp) ⟨hm.n0, hm.n1, hm.k0, hm.k1⟩ (by exact hk) rfl (by exact hg)]
    cases l <;> rfl
  rw [if_neg h3, if_neg h3]
  by_cases h4 : (x.toNat : Int) = 120 ∧ m.chosen = true
  · rw [if_pos h4, if_pos h4, run_op hm2 (by exact hk) rfl (by exact hg)]
    simp only [opr, h4.2, if_true]
  rw [if_neg h4, if_neg h4]
  by_cases h5 : (x.toNat : Int) = 118 ∨ (x.toNat : Int) = 86 ∨ (m.chosen = false ∧ (0 ≤ Lib.indexByte sim x ∨ (x.toNat : Int) = 18))
  · rw [if_pos h5, if_pos h5, run_end (by simp) (by simp)]
  rw [if_neg h5, if_neg h5]
  by_cases h6 : (x.toNat : Int) = 109 ∨ ((x.toNat : Int) = 114 ∧ m.chosen = false)
  · rw [if_pos h6, if_pos h6, run_mark (by simp)]
    cases l with
    | nil => unfold fin; grind
    | cons s l =>
      have hl : ltr s = true → 32 ≤ (s.toNat : Int) := by unfold ltr; intro h; simp at h; omega
      unfold fin
      cases hq : ltr s <;> grind
  rw [if_neg h6, if_neg h6, run_mot (by exact hg) h3]

theorem run_cnt : ∀ (l : List UInt8) (m : Mc), (m.state.toNat : Int) = 2 → MOk m → m.k = 0 → m.c.M.Sign = 0 → m.c.N = 0 → run 1 m l = fin (if (cnt l m.n).2.1 = false then (m.c, 2, []) else match (cnt l m.n).2.2 with
    | [] => (m.c, 1, [])
    | x :: l2 => keyM { m.c with N := (cnt l m.n).1 } x m.chosen l2) := by
  intro l
  induction l with
  | nil =>
    intro m hs hm hk hg hn
    simp only [run, cnt, fin]; simp
  | cons x l ih =>
    intro m hs hm hk hg hn
    have hx := x.toNat_lt
    have hm' := hm
    obtain ⟨n0, n1, k0, k1⟩ := hm
    have hfeed : feed m x = (if num x ∨ ((x.toNat : Int) = 48 ∧ 0 < m.n) then (if 9999 < dig m.n x then (2, { m with n := dig m.n x }) else (1, { m with n := dig m.n x, state := 2 })) else mKey m x) := by
      unfold feed; simp only [hs]; simp only [Int.reduceEq, or_true, false_or, if_false, if_true, and_false]
    simp only [run, if_true, hfeed]
    by_cases hd : num x ∨ ((x.toNat : Int) = 48 ∧ 0 < m.n)
    · have hd2 : (48 < (x.toNat : Int) ∨ (0 < m.n ∧ (x.toNat : Int) = 48)) ∧ (x.toNat : Int) ≤ 57 := by unfold num at hd; omega
      rw [if_pos hd]
      have hc : cnt (x :: l) m.n = if 9999 < dig m.n x then (0, false, x :: l) else cnt l (dig m.n x) := by
        rw [cnt, if_pos hd2]; rfl
      by_cases hb : 9999 < dig m.n x
      · rw [if_pos hb, run_end (by simp) (by simp)]
        simp only [hc, if_pos hb, if_true]
        exact fin_bad
      · rw [if_neg hb]
        have hdig : 0 ≤ dig m.n x := by unfold dig; omega
        have := ih { m with n := dig m.n x, state := 2 } (by simp) ⟨hdig, by show dig m.n x ≤ 9999; omega, k0, k1⟩ hk hg hn
        rw [this]
        simp only [hc, if_neg hb]
    · have hd2 : ¬ ((48 < (x.toNat : Int) ∨ (0 < m.n ∧ (x.toNat : Int) = 48)) ∧ (x.toNat : Int) ≤ 57) := by unfold num at hd; omega
      rw [if_neg hd]
      have hc : cnt (x :: l) m.n = (m.n, true, x :: l) := by simp only [cnt, if_neg hd2]
      simp only [hc]
      rw [run_key hm' hk hg]
      simp

/-- The machine is the reader. -/
theorem same_eq (ch : Bool) (l : List UInt8) : run 1 ⟨0, ch, C0, 0, 0⟩ l = readM ch l := by
  have hr : readM ch l = fin (cmdM ch l) := rfl
  rw [hr]
  have ok0 : ∀ (s : UInt8) (c : S_keys_Cmd), MOk ⟨s, ch, c, 0, 0⟩ := fun s c => ⟨by simp, by simp, by simp, by simp⟩
  cases l with
  | nil => simp only [run, cmdM, cmdC, cnt, fin]; simp
  | cons x l =>
    have hx := x.toNat_lt
    simp only [run, if_true, cmdM]
    by_cases h1 : (x.toNat : Int) = 34
    · have hf : feed ⟨0, ch, C0, 0, 0⟩ x = (1, ⟨1, ch, C0, 0, 0⟩) := by unfold feed; simp [h1]
      rw [hf, if_pos h1]
      cases l with
      | nil => simp only [run, fin]; simp
      | cons r l =>
        have hf2 : feed ⟨1, ch, C0, 0, 0⟩ r = if ltr r = true then (1, ⟨2, ch, { C0 with Reg := r }, 0, 0⟩) else (2, ⟨1, ch, { C0 with Reg := r }, 0, 0⟩) := by unfold feed; simp
        simp only [run, if_true, hf2]
        cases hq : ltr r with
        | false =>
          simp only [Bool.false_eq_true, if_false, if_true]
          rw [run_end (by simp) (by simp)]
          exact fin_bad
        | true =>
          simp only [if_true, Bool.true_eq_false, if_false]
          rw [run_cnt _ _ (by simp) (ok0 _ _) rfl rfl rfl]
          unfold cmdC
          cases hok : (cnt l 0).2.1 with
          | false => simp only [if_true]; exact fin_bad
          | true =>
            simp only [Bool.true_eq_false, if_false]
            cases (cnt l 0).2.2 <;> rfl
    · rw [if_neg h1]
      have hf : feed ⟨0, ch, C0, 0, 0⟩ x = feed ⟨2, ch, C0, 0, 0⟩ x ∨ True := .inr trivial
      have h2 := run_cnt (x :: l) ⟨2, ch, C0, 0, 0⟩ (by simp) (ok0 _ _) rfl rfl rfl
      have h3 : run 1 ⟨2, ch, C0, 0, 0⟩ (x :: l) = run (feed ⟨0, ch, C0, 0, 0⟩ x).1 (feed ⟨0, ch, C0, 0, 0⟩ x).2 l := by
        simp only [run, if_true]
        have e1 : feed ⟨2, ch, C0, 0, 0⟩ x = (if num x ∨ ((x.toNat : Int) = 48 ∧ (0 : Int) < 0) then (if 9999 < dig 0 x then (2, ⟨2, ch, C0, dig 0 x, 0⟩) else (1, ⟨2, ch, C0, dig 0 x, 0⟩)) else mKey ⟨2, ch, C0, 0, 0⟩ x) := by
          unfold feed; simp
        have e2 : feed ⟨0, ch, C0, 0, 0⟩ x = (if num x ∨ ((x.toNat : Int) = 48 ∧ (0 : Int) < 0) then (if 9999 < dig 0 x then (2, ⟨0, ch, C0, dig 0 x, 0⟩) else (1, ⟨2, ch, C0, dig 0 x, 0⟩)) else mKey ⟨0, ch, C0, 0, 0⟩ x) := by
          unfold feed; simp [h1]
        rw [e1, e2]
        by_cases hd : num x ∨ ((x.toNat : Int) = 48 ∧ (0 : Int) < 0)
        · rw [if_pos hd, if_pos hd]
          by_cases hb : 9999 < dig 0 x
          · rw [if_pos hb, if_pos hb, run_end (by simp) (by simp), run_end (by simp) (by simp)]
          · rw [if_neg hb, if_neg hb]
        · rw [if_neg hd, if_neg hd, run_key (ok0 _ _) rfl rfl, run_key (ok0 _ _) rfl rfl]
      rw [← h3, h2]
      unfold cmdC
      cases hok : (cnt (x :: l) 0).2.1 with
      | false => simp only [if_true]; exact fin_bad
      | true =>
        simp only [Bool.true_eq_false, if_false]
        cases (cnt (x :: l) 0).2.2 <;> rfl
end Go.Pv
