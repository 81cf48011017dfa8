/- The reader of keys, in plain words. -/
import Derived.Test.YtbfochidbpdniaaPvK1d
namespace Go.Pv
set_option linter.all false

theorem wr {n : Int} (h0 : -9000000000000000000 ≤ n) (h1 : n ≤ 9000000000000000000) : IntKind.i64.wrap n = n := by
  unfold IntKind.wrap; simp [IntKind.signed, IntKind.bits]; omega
theorem toB_id {n : Int} (h0 : 0 ≤ n) (h1 : n < 256) : ((toB n).toNat : Int) = n := by rw [toB_nat]; omega

theorem mem_index (s : List UInt8) (c : UInt8) : 0 ≤ Lib.indexByte s c ↔ c ∈ s := by
  induction s with
  | nil => simp [Lib.indexByte]
  | cons b l ih =>
    have := Lib.indexByte_ge l c
    simp only [Lib.indexByte, List.mem_cons]
    by_cases h : b = c
    · simp [h]
    · have h' : ¬ c = b := fun e => h e.symm
      simp only [beq_iff_eq, h, if_false, h', false_or]
      rw [← ih]
      split
      · omega
      · omega

/-- A reader behind which so much is left. -/
def rs (p l : List UInt8) : S_keys_reader := ⟨p, (p.length : Int) - (l.length : Int)⟩
structure Sm (p l : List UInt8) : Prop where
  suf : l <:+ p
  len : p.length ≤ 1000
theorem Sm.le {p l : List UInt8} (h : Sm p l) : l.length ≤ p.length := h.suf.length_le
theorem Sm.tail {p l : List UInt8} {c : UInt8} (h : Sm p (c :: l)) : Sm p l := ⟨(List.suffix_cons c l).trans h.suf, h.len⟩
theorem Sm.idx {p l : List UInt8} {c : UInt8} (h : Sm p (c :: l)) : lIdx p ((p.length : Int) - ((c :: l).length : Int)) = some c := by
  obtain ⟨q, hq⟩ := h.suf
  unfold lIdx
  have : (p.length : Int) - ((c :: l).length : Int) = (q.length : Int) := by rw [← hq, List.length_append]; omega
  rw [this, if_pos (by omega), ← hq, Int.toNat_natCast, List.getElem?_append_right (Nat.le_refl _)]
  simp

theorem more_nil {k : Nat} {p : List UInt8} : keys_reader_more k (rs p []) = some false := by simp [keys_reader_more, rs]
theorem more_cons {k : Nat} {p l : List UInt8} {c : UInt8} : keys_reader_more k (rs p (c :: l)) = some true := by
  have : (rs p (c :: l)).at_ < ((rs p (c :: l)).p.length : Int) := by
    show (p.length : Int) - ((c :: l).length : Int) < (p.length : Int)
    simp only [List.length_cons]; omega
  simp only [keys_reader_more, this, decide_true]
theorem next_nil {k : Nat} {p : List UInt8} : keys_reader_next k (rs p []) = some (0, false, rs p []) := by simp [keys_reader_next, more_nil]
theorem rs_step {p l : List UInt8} {c : UInt8} (h : Sm p (c :: l)) : (⟨(rs p (c :: l)).p, IntKind.i64.wrap ((rs p (c :: l)).at_ + 1)⟩ : S_keys_reader) = rs p l := by
  have h1 := h.le; have h2 := h.len
  simp only [List.length_cons] at h1
  simp only [rs, List.length_cons]
  rw [wr (by omega) (by omega)]
  congr 1; omega
theorem next_cons {k : Nat} {p l : List UInt8} {c : UInt8} (h : Sm p (c :: l)) : keys_reader_next k (rs p (c :: l)) = some (c, true, rs p l) := by
  have h1 := h.le; have h2 := h.len
  simp only [List.length_cons] at h1
  simp only [keys_reader_next, more_cons, Option.bind_some, Bool.not_true, Bool.false_eq_true, if_false, rs_step h]
  have e : IntKind.i64.wrap (IntKind.i64.wrap ((rs p (c :: l)).at_ + 1) - 1) = (p.length : Int) - ((c :: l).length : Int) := by
    simp only [rs, List.length_cons]
    rw [wr (n := _ + 1) (by omega) (by omega), wr (by omega) (by omega)]; omega
  rw [e]
  show (lIdx p _).bind _ = _
  rw [h.idx]; rfl

/-- A count: how much; false: too much; what is left. -/
def cnt : List UInt8 → Int → Int × Bool × List UInt8
  | [], n => (n, true, [])
  | c :: l, n =>
    if (48 < (c.toNat : Int) ∨ (0 < n ∧ (c.toNat : Int) = 48)) ∧ (c.toNat : Int) ≤ 57 then
      (if 9999 < 10 * n + ((c.toNat : Int) - 48) then (0, false, c :: l) else cnt l (10 * n + ((c.toNat : Int) - 48)))
    else (n, true, c :: l)

theorem count_loop {p : List UInt8} : ∀ (l : List UInt8) (n : Int) (k : Nat), Sm p l → 0 ≤ n → n ≤ 9999 → l.length < k →
    keys_reader_count_l6 k n (rs p l) = some (if (cnt l n).2.1 = true then .inr ((cnt l n).1, rs p (cnt l n).2.2) else .inl (0, false, rs p (cnt l n).2.2)) := by
  intro l
  induction l with
  | nil =>
    intro n k hs h0 h1 hk
    obtain ⟨k, rfl⟩ : ∃ m, k = m + 1 := ⟨k - 1, by omega⟩
    simp [keys_reader_count_l6, more_nil, cnt]
  | cons c l ih =>
    intro n k hs h0 h1 hk
    obtain ⟨k, rfl⟩ : ∃ m, k = m + 1 := ⟨k - 1, by omega⟩
    have hi : lIdx (rs p (c :: l)).p (rs p (c :: l)).at_ = some c := hs.idx
    have hb := c.toNat_lt
    simp only [keys_reader_count_l6, more_cons, hi, Option.bind_some, keys_reader_count_j13, if_true, rs_step hs]
    have hk' : l.length < k := by simp at hk; omega
    by_cases hd : (48 < (c.toNat : Int) ∨ (0 < n ∧ (c.toNat : Int) = 48)) ∧ (c.toNat : Int) ≤ 57
    · have e1 : ((toB ((c.toNat : Int) - 48)).toNat : Int) = (c.toNat : Int) - 48 := toB_id (by omega) (by omega)
      have e2 : IntKind.i64.wrap (10 * n) = 10 * n := wr (by omega) (by omega)
      have e3 : IntKind.i64.wrap (10 * n + ((c.toNat : Int) - 48)) = 10 * n + ((c.toNat : Int) - 48) := wr (by omega) (by omega)
      simp only [e1, e2, e3, cnt, if_pos hd]
      by_cases hbig : 9999 < 10 * n + ((c.toNat : Int) - 48)
      · by_cases h48 : 48 < (c.toNat : Int)
        · simp [h48, hd.2, hbig]
        · have h3 : 0 < n ∧ (c.toNat : Int) = 48 := by omega
          have hq : decide ((c.toNat : Int) = 48) = true := by simp [h3.2]
          simp only [h48, hd.2, hbig, h3.1, hq, decide_true, decide_false, if_true, if_false, Bool.false_eq_true]
      · have := ih (10 * n + ((c.toNat : Int) - 48)) k hs.tail (by omega) (by omega) hk'
        by_cases h48 : 48 < (c.toNat : Int)
        · simp only [h48, hd.2, hbig, decide_true, decide_false, if_true, if_false, Bool.false_eq_true, this]
        · have h3 : 0 < n ∧ (c.toNat : Int) = 48 := by omega
          have hq : decide ((c.toNat : Int) = 48) = true := by simp [h3.2]
          simp only [h48, hd.2, hbig, h3.1, hq, decide_true, decide_false, if_true, if_false, Bool.false_eq_true, this]
    · simp only [cnt, if_neg hd]
      by_cases h48 : 48 < (c.toNat : Int)
      · have : ¬ (c.toNat : Int) ≤ 57 := by omega
        simp [h48, this]
      · by_cases h3 : 0 < n
        · have : ¬ (c.toNat : Int) = 48 := by omega
          simp [h48, h3, this]
        · simp [h48, h3]

theorem count_eq {p l : List UInt8} {k : Nat} (hs : Sm p l) (hk : l.length < k) : keys_reader_count k (rs p l) = some ((if (cnt l 0).2.1 = true then (cnt l 0).1 else 0), (cnt l 0).2.1, rs p (cnt l 0).2.2) := by
  simp only [keys_reader_count, count_loop l 0 k hs (by omega) (by omega) hk, Option.bind_some]
  cases h : (cnt l 0).2.1 <;> simp


/-! ### What a key begins -/

abbrev MO0 : S_api_Motion := ⟨0, 0, 0⟩
abbrev C0 : S_keys_Cmd := ⟨0, 0, 0, 0, MO0, 0, 0⟩

def ltr (c : UInt8) : Bool := decide (97 ≤ (c.toNat : Int)) && decide ((c.toNat : Int) ≤ 122)
theorem letter_eq {k : Nat} {c : UInt8} : keys_letter k c = some (ltr c) := by
  unfold keys_letter ltr
  by_cases h : 97 ≤ (c.toNat : Int) <;> simp only [h, decide_true, decide_false, if_true, if_false, Bool.false_eq_true, Option.bind_some, Bool.not_true, Bool.not_false, ite_true, ite_false, Bool.true_eq_false, not_true_eq_false, not_false_eq_true, Bool.true_and, Bool.false_and]
theorem letter_eq' {k : Nat} {c : UInt8} : platenref21_letter k c = some (ltr c) := by
  unfold platenref21_letter ltr
  by_cases h : 97 ≤ (c.toNat : Int) <;> simp only [h, decide_true, decide_false, if_true, if_false, Bool.false_eq_true, Option.bind_some, Bool.not_true, Bool.not_false, ite_true, ite_false, Bool.true_eq_false, not_true_eq_false, not_false_eq_true, Bool.true_and, Bool.false_and]
theorem index_eq {k : Nat} {s : List UInt8} {c : UInt8} : strings_IndexByte k s c = some (Lib.indexByte s c) := rfl

def hl : List UInt8 := [104, 108, 106, 107, 48, 94, 36, 119, 98, 101, 71, 123, 125]
def wpl : List UInt8 := [119, 112, 108]
def ops : List UInt8 := [100, 99, 121, 60, 62, 61]
def sim : List UInt8 := [120, 112, 80, 105, 97, 73, 65, 111, 79, 117, 46, 74, 58]

/-- A motion: what it is; how reading ends; what is left. -/
def mot (c : UInt8) (n : Int) (l : List UInt8) : S_api_Motion × Int × List UInt8 :=
  if (c.toNat : Int) = 102 ∨ (c.toNat : Int) = 116 ∨ (c.toNat : Int) = 96 then
    match l with
    | [] => (MO0, 1, [])
    | s :: l => if (s.toNat : Int) < 32 ∨ ((c.toNat : Int) = 96 ∧ ltr s = false) then (MO0, 2, l) else (⟨c, s, n⟩, 0, l)
  else if (c.toNat : Int) = 103 then
    match l with
    | [] => (MO0, 1, [])
    | s :: l => if (s.toNat : Int) = 103 then (⟨103, 0, n⟩, 0, l) else (MO0, 2, l)
  else if 0 ≤ Lib.indexByte hl c then (⟨c, 0, n⟩, 0, l) else (MO0, 2, l)

def wp {α : Type} (p : List UInt8) (x : α × Int × List UInt8) : α × Int × S_keys_reader := (x.1, x.2.1, rs p x.2.2)

theorem motion_eq {k : Nat} {p l : List UInt8} {c : UInt8} {n : Int} (hs : Sm p l) : keys_reader_motion k (rs p l) c n = some (wp p (mot c n l)) := by
  unfold keys_reader_motion mot keys_reader_motion_j6 keys_reader_motion_j20
  cases l with
  | nil => simp only [next_nil, Option.bind_some, index_eq, letter_eq, hl, wp]; grind
  | cons s l => simp only [next_cons hs, Option.bind_some, index_eq, letter_eq, hl, wp]; grind

theorem cnt_suf : ∀ (l : List UInt8) (n : Int), (cnt l n).2.2 <:+ l
  | [], n => by simp [cnt]
  | c :: l, n => by
    simp only [cnt]
    split
    · split
      · exact List.suffix_refl _
      · exact (cnt_suf l _).trans (List.suffix_cons c l)
    · exact List.suffix_refl _
theorem Sm.cnt {p l : List UInt8} (h : Sm p l) (n : Int) : Sm p (Go.Pv.cnt l n).2.2 := ⟨(cnt_suf l n).trans h.suf, h.len⟩
theorem cnt_le : ∀ (l : List UInt8) (n : Int), 0 ≤ n → n ≤ 9999 → 0 ≤ (cnt l n).1 ∧ (cnt l n).1 ≤ 9999
  | [], n, h0, h1 => ⟨h0, h1⟩
  | c :: l, n, h0, h1 => by
    simp only [cnt]
    split
    · split
      · exact ⟨by simp, by simp⟩
      · exact cnt_le l _ (by omega) (by omega)
    · exact ⟨h0, h1⟩

theorem prod_le {a b : Int} (a0 : 0 ≤ a) (a1 : a ≤ 9999) (b0 : 0 ≤ b) (b1 : b ≤ 9999) : 0 ≤ a * b ∧ a * b ≤ 99980001 :=
  ⟨Int.mul_nonneg a0 b0, Int.le_trans (Int.mul_le_mul a1 b1 b0 (by omega)) (by omega)⟩
theorem max_le {a : Int} (a0 : 0 ≤ a) (a1 : a ≤ 9999) : 1 ≤ iMax a 1 ∧ iMax a 1 ≤ 9999 := by unfold iMax; split <;> omega

/-- Behind an operator and its count. -/
def opB (op : UInt8) (c : S_keys_Cmd) (l : List UInt8) : S_keys_Cmd × Int × List UInt8 :=
  match l with
  | [] => (c, 1, [])
  | x :: l =>
    if (x.toNat : Int) = 27 then (C0, 0, l)
    else if (x.toNat : Int) = (op.toNat : Int) then ({ c with Kind := 2 }, 0, l)
    else if (x.toNat : Int) = 105 then
      (match l with
      | [] => (c, 1, [])
      | s :: l => if Lib.indexByte wpl s < 0 then (c, 2, l) else ({ c with Kind := 4, Sign := s }, 0, l))
    else ({ c with Kind := 3, M := (mot x c.N l).1 }, (mot x c.N l).2.1, (mot x c.N l).2.2)

def opr (c : S_keys_Cmd) (op : UInt8) (ch : Bool) (l : List UInt8) : S_keys_Cmd × Int × List UInt8 :=
  if ch = true then ({ c with Kind := 7, Op := op }, 0, l)
  else if (cnt l 0).2.1 = false then ({ c with Op := op }, 2, (cnt l 0).2.2)
  else if 9999 < iMax (cnt l 0).1 1 * iMax c.N 1 then ({ c with Op := op }, 2, (cnt l 0).2.2)
  else if 0 < (cnt l 0).1 then opB op { c with Op := op, N := (cnt l 0).1 * iMax c.N 1 } (cnt l 0).2.2
  else opB op { c with Op := op } (cnt l 0).2.2

theorem j30_eq {k : Nat} {p l : List UInt8} {op : UInt8} {c d : S_keys_Cmd} (hs : Sm p l) : keys_reader_operator_j30 k op (rs p l) c d = some (wp p (opB op c l)) := by
  unfold keys_reader_operator_j30 opB
  cases l with
  | nil => simp only [next_nil, Option.bind_some, wp]; grind
  | cons x l =>
    simp only [next_cons hs, Option.bind_some]
    cases l with
    | nil => simp only [next_nil, Option.bind_some, index_eq, motion_eq hs.tail, wpl, wp]; grind
    | cons s l => simp only [next_cons hs.tail, Option.bind_some, index_eq, motion_eq hs.tail, wpl, wp]; grind

theorem operator_eq {k : Nat} {p l : List UInt8} {op : UInt8} {c : S_keys_Cmd} {ch : Bool} (hs : Sm p l) (hk : l.length < k) (c0 : 0 ≤ c.N) (c1 : c.N ≤ 9999) : keys_reader_operator k (rs p l) c op ch = some (wp p (opr c op ch l)) := by
  unfold keys_reader_operator keys_reader_operator_j19 opr
  have h1 := cnt_le l 0 (by omega) (by omega)
  have h2 := max_le c0 c1
  have h3 := max_le h1.1 h1.2
  have h4 := prod_le (by omega) h3.2 (by omega) h2.2
  have h5 := prod_le h1.1 h1.2 (by omega : 0 ≤ iMax c.N 1) h2.2
  simp only [count_eq hs hk, Option.bind_some, j30_eq (hs.cnt 0)]
  cases hok : (cnt l 0).2.1 with
  | false => simp only [wp]; grind
  | true =>
    simp only [wr (n := iMax (cnt l 0).1 1 * iMax c.N 1) (by omega) (by omega), wr (n := (cnt l 0).1 * iMax c.N 1) (by omega) (by omega), wp, if_true]
    grind

/-- What a key tells. -/
def keyM (c : S_keys_Cmd) (x : UInt8) (ch : Bool) (l : List UInt8) : S_keys_Cmd × Int × List UInt8 :=
  if (x.toNat : Int) = 27 then (C0, 0, l)
  else if 0 ≤ Lib.indexByte ops x then opr c x ch l
  else if (x.toNat : Int) = 103 then
    (match l with
    | [] => (c, 1, [])
    | g :: l => if (g.toNat : Int) = 113 then opr c 113 ch l else if (g.toNat : Int) = 103 then ({ c with Kind := 1, M := ⟨103, 0, c.N⟩ }, 0, l) else (c, 2, l))
  else if (x.toNat : Int) = 120 ∧ ch = true then ({ c with Kind := 7, Op := 100 }, 0, l)
  else if (x.toNat : Int) = 118 ∨ (x.toNat : Int) = 86 ∨ (ch = false ∧ (0 ≤ Lib.indexByte sim x ∨ (x.toNat : Int) = 18)) then ({ c with Kind := 5, Key := x }, 0, l)
  else if (x.toNat : Int) = 109 ∨ ((x.toNat : Int) = 114 ∧ ch = false) then
    (match l with
    | [] => (c, 1, [])
    | s :: l => if ((x.toNat : Int) = 109 ∧ ltr s = false) ∨ ((x.toNat : Int) = 114 ∧ (s.toNat : Int) < 32) then (c, 2, l) else ({ c with Kind := 6, Key := x, Sign := s }, 0, l))
  else ({ c with Kind := 1, M := (mot x c.N l).1 }, (mot x c.N l).2.1, (mot x c.N l).2.2)

theorem j65_eq {k : Nat} {p l : List UInt8} {x : UInt8} {b : Bool} {c d : S_keys_Cmd} (hs : Sm p l) : keys_reader_key_j65 k x b (rs p l) c d = some (wp p (if b = true then
    (match l with
    | [] => (c, 1, [])
    | s :: l => if ((x.toNat : Int) = 109 ∧ ltr s = false) ∨ ((x.toNat : Int) = 114 ∧ (s.toNat : Int) < 32) then (c, 2, l) else ({ c with Kind := 6, Key := x, Sign := s }, 0, l))
    else ({ c with Kind := 1, M := (mot x c.N l).1 }, (mot x c.N l).2.1, (mot x c.N l).2.2))) := by
  unfold keys_reader_key_j65 keys_reader_key_j79
  cases l with
  | nil => simp only [next_nil, Option.bind_some, motion_eq hs, wp]; grind
  | cons s l => simp only [next_cons hs, Option.bind_some, letter_eq, motion_eq hs, wp]; grind

theorem key_eq {k : Nat} {p l : List UInt8} {x : UInt8} {c : S_keys_Cmd} {ch : Bool} (hs : Sm p l) (hk : l.length < k) (c0 : 0 ≤ c.N) (c1 : c.N ≤ 9999) : keys_reader_key k (rs p l) c x ch = some (wp p (keyM c x ch l)) := by
  unfold keys_reader_key keys_reader_key_j49 keys_reader_key_j57 keyM
  simp only [index_eq, Option.bind_some, operator_eq hs hk c0 c1, j65_eq hs, ops, sim]
  cases l with
  | nil => simp only [next_nil, Option.bind_some, wp]; grind (splits := 40)
  | cons s l =>
    simp only [next_cons hs, Option.bind_some, operator_eq hs.tail (show l.length < k by simp at hk; omega) c0 c1, wp]
    grind (splits := 40)

def cmdC (r : UInt8) (ch : Bool) (l : List UInt8) : S_keys_Cmd × Int × List UInt8 :=
  if (cnt l 0).2.1 = false then ({ C0 with Reg := r }, 2, (cnt l 0).2.2)
  else match (cnt l 0).2.2 with
    | [] => ({ C0 with Reg := r, N := (cnt l 0).1 }, 1, [])
    | x :: l2 => keyM { C0 with Reg := r, N := (cnt l 0).1 } x ch l2
def cmdM (ch : Bool) (l : List UInt8) : S_keys_Cmd × Int × List UInt8 :=
  match l with
  | [] => cmdC 0 ch []
  | q :: l => if (q.toNat : Int) = 34 then
      (match l with
      | [] => (C0, 1, [])
      | r :: l => if ltr r = false then (C0, 2, l) else cmdC r ch l)
    else cmdC 0 ch (q :: l)

theorem j30c_eq {k : Nat} {p l : List UInt8} {r : UInt8} {ch : Bool} {d : S_keys_Cmd} (hs : Sm p l) (hk : l.length < k) : keys_reader_command_j30 k ch (rs p l) d { C0 with Reg := r } = some (wp p (cmdC r ch l)) := by
  unfold keys_reader_command_j30 cmdC
  have h1 := cnt_le l 0 (by omega) (by omega)
  have h2 := (cnt_suf l 0).length_le
  have h3 := hs.cnt 0
  simp only [count_eq hs hk, Option.bind_some]
  cases hok : (cnt l 0).2.1 with
  | false => simp only [wp]; grind
  | true =>
    generalize (cnt l 0).2.2 = q at *
    cases q with
    | nil => simp only [next_nil, Option.bind_some, wp, if_true]; grind
    | cons x l2 =>
      simp only [next_cons h3, Option.bind_some, Bool.not_true, Bool.false_eq_true, if_false, if_true, wp]
      rw [key_eq h3.tail (by simp at h2; omega) h1.1 h1.2]
      rfl

theorem command_eq {k : Nat} {p l : List UInt8} {ch : Bool} (hs : Sm p l) (hk : l.length < k) : keys_reader_command k (rs p l) ch = some (wp p (cmdM ch l)) := by
  unfold keys_reader_command keys_reader_command_j7 cmdM
  cases l with
  | nil => simp only [more_nil, Option.bind_some, Bool.false_eq_true, if_false, j30c_eq (r := 0) hs hk]
  | cons q l =>
    have hi : lIdx (rs p (q :: l)).p (rs p (q :: l)).at_ = some q := hs.idx
    have hk2 : l.length < k := by simp at hk; omega
    simp only [more_cons, Option.bind_some, if_true, hi, rs_step hs, j30c_eq (r := 0) hs hk]
    cases l with
    | nil => simp only [next_nil, Option.bind_some, wp]; grind
    | cons r l =>
      have hk3 : l.length < k := by simp at hk2; omega
      simp only [next_cons hs.tail, Option.bind_some, letter_eq, Option.bind_some, j30c_eq (r := r) hs.tail.tail hk3, wp]
      grind

/-- The command that keys are. -/
def readM (ch : Bool) (l : List UInt8) : S_keys_Cmd × Int :=
  if (cmdM ch l).2.1 = 0 then (if (cmdM ch l).2.2 = [] then ((cmdM ch l).1, 0) else (C0, 2)) else (C0, (cmdM ch l).2.1)

theorem cmd_suf : True := trivial

theorem read_eq {k : Nat} {l : List UInt8} {ch : Bool} (hl : l.length ≤ 1000) (hk : l.length < k) : keys_Read k l ch = some (readM ch l) := by
  have h0 : (⟨l, 0⟩ : S_keys_reader) = rs l l := by simp [rs]
  unfold keys_Read keys_Read_j12 readM
  rw [h0, command_eq ⟨List.suffix_refl l, hl⟩ hk]
  simp only [wp, Option.bind_some]
  generalize cmdM ch l = q
  obtain ⟨c, e, r⟩ := q
  cases r with
  | nil => simp only [more_nil, Option.bind_some]; grind
  | cons x r => simp only [more_cons, Option.bind_some]; grind
end Go.Pv
