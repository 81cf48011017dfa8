/- Leaders of lines, in plain words. -/
import Derived.Test.YtkookjaafgkfnaaDoorPvB
import Derived.Test.YtkookjaafgkfnaaDoorPvC1d
namespace Go.Pv
set_option linter.all false

def bl (c : UInt8) : Bool := c == 32 || c == 9
def ind (l : List UInt8) : Nat := (l.takeWhile bl).length
theorem bl_eq (c : UInt8) : bl c = decide ((c.toNat : Int) = 32 ∨ (c.toNat : Int) = 9) := by
  unfold bl
  rw [Bool.eq_iff_iff]
  simp only [Bool.or_eq_true, beq_iff_eq, decide_eq_true_eq]
  constructor
  · rintro (rfl | rfl) <;> simp
  · rintro (h | h)
    · left; apply UInt8.toNat_inj.1; exact (by omega : c.toNat = 32)
    · right; apply UInt8.toNat_inj.1; exact (by omega : c.toNat = 9)
theorem blank_eq {k : Nat} {c : UInt8} : glyph_Blank k c = some (bl c) := by
  unfold glyph_Blank
  rw [bl_eq]
  by_cases h : (c.toNat : Int) = 32 <;> simp [h]
theorem blank_eq' {k : Nat} {c : UInt8} : platenref01_Blank k c = some (bl c) := by
  unfold platenref01_Blank
  rw [bl_eq]
  by_cases h : (c.toNat : Int) = 32 <;> simp [h]

theorem ind_le (l : List UInt8) : ind l ≤ l.length := by
  unfold ind
  have := (List.takeWhile_prefix (l := l) bl).length_le
  exact this
theorem ind_cons {c : UInt8} {l : List UInt8} : ind (c :: l) = if bl c = true then ind l + 1 else 0 := by
  unfold ind
  rw [List.takeWhile_cons]
  split <;> simp

theorem indent_loop {l : List UInt8} (hl : l.length ≤ 1000000) : ∀ (d k i : Nat), l.length - i = d → i ≤ l.length → d < k →
    lines_Indent_l6 l (l.length : Int) k (i : Int) = some (if i + ind (l.drop i) = l.length then .inr () else .inl ((i + ind (l.drop i) : Nat) : Int)) := by
  intro d
  induction d with
  | zero =>
    intro k i hd hi hk
    obtain ⟨k, rfl⟩ : ∃ m, k = m + 1 := ⟨k - 1, by omega⟩
    have : ¬ (i : Int) < (l.length : Int) := by omega
    have e : l.drop i = [] := List.drop_of_length_le (by omega)
    simp only [lines_Indent_l6, this, decide_true, decide_false, if_true, if_false, Bool.false_eq_true, Option.bind_some, Bool.not_true, Bool.not_false, ite_true, ite_false, Bool.true_eq_false, not_true_eq_false, not_false_eq_true, e]
    rw [if_pos (by simp [ind]; omega)]
  | succ d ih =>
    intro k i hd hi hk
    obtain ⟨k, rfl⟩ : ∃ m, k = m + 1 := ⟨k - 1, by omega⟩
    have hlt : i < l.length := by omega
    have h1 : (i : Int) < (l.length : Int) := by omega
    rw [List.drop_eq_getElem_cons hlt, ind_cons]
    simp only [lines_Indent_l6, h1, lIdx_nat hlt, blank_eq, wr1 (show i ≤ 1000000000 by omega), decide_true, decide_false, if_true, if_false, Bool.false_eq_true, Option.bind_some, Bool.not_true, Bool.not_false, ite_true, ite_false, Bool.true_eq_false, not_true_eq_false, not_false_eq_true]
    cases hb : bl l[i] with
    | false =>
      simp only [decide_true, decide_false, if_true, if_false, Bool.false_eq_true, Option.bind_some, Bool.not_true, Bool.not_false, ite_true, ite_false, Bool.true_eq_false, not_true_eq_false, not_false_eq_true]
      rw [if_neg (by omega)]; simp
    | true =>
      simp only [decide_true, decide_false, if_true, if_false, Bool.false_eq_true, Option.bind_some, Bool.not_true, Bool.not_false, ite_true, ite_false, Bool.true_eq_false, not_true_eq_false, not_false_eq_true]
      rw [ih k (i + 1) (by omega) (by omega) (by omega)]
      rw [show i + 1 + ind (l.drop (i + 1)) = i + (ind (l.drop (i + 1)) + 1) by omega]
theorem indent_eq {k : Nat} {l : List UInt8} (hl : l.length ≤ 1000000) (hk : l.length < k) : lines_Indent k l = some (ind l : Int) := by
  unfold lines_Indent
  have := indent_loop hl l.length k 0 (by omega) (by omega) hk
  simp only [List.drop_zero, Nat.zero_add] at this
  have this' : lines_Indent_l6 l (l.length : Int) k 0 = _ := this
  rw [this']
  by_cases h : ind l = l.length
  · simp [h]
  · simp [h]

theorem indent_loop' {l : List UInt8} (hl : l.length ≤ 1000000) : ∀ (d k i : Nat), l.length - i = d → i ≤ l.length → d < k → platenref03_Indent_l6 l k (i : Int) = some ((i + ind (l.drop i) : Nat) : Int) := by
  intro d
  induction d with
  | zero =>
    intro k i hd hi hk
    obtain ⟨k, rfl⟩ : ∃ m, k = m + 1 := ⟨k - 1, by omega⟩
    have : ¬ (i : Int) < (l.length : Int) := by omega
    have e : l.drop i = [] := List.drop_of_length_le (by omega)
    simp only [platenref03_Indent_l6, this, decide_true, decide_false, if_true, if_false, Bool.false_eq_true, Option.bind_some, Bool.not_true, Bool.not_false, ite_true, ite_false, Bool.true_eq_false, not_true_eq_false, not_false_eq_true, e]
    simp [ind]
  | succ d ih =>
    intro k i hd hi hk
    obtain ⟨k, rfl⟩ : ∃ m, k = m + 1 := ⟨k - 1, by omega⟩
    have hlt : i < l.length := by omega
    have h1 : (i : Int) < (l.length : Int) := by omega
    rw [List.drop_eq_getElem_cons hlt, ind_cons]
    simp only [platenref03_Indent_l6, h1, lIdx_nat hlt, blank_eq', wr1 (show i ≤ 1000000000 by omega), decide_true, decide_false, if_true, if_false, Bool.false_eq_true, Option.bind_some, Bool.not_true, Bool.not_false, ite_true, ite_false, Bool.true_eq_false, not_true_eq_false, not_false_eq_true]
    cases hb : bl l[i] with
    | false => simp
    | true =>
      simp only [decide_true, decide_false, if_true, if_false, Bool.false_eq_true, Option.bind_some, Bool.not_true, Bool.not_false, ite_true, ite_false, Bool.true_eq_false, not_true_eq_false, not_false_eq_true]
      rw [ih k (i + 1) (by omega) (by omega) (by omega)]
      rw [show i + 1 + ind (l.drop (i + 1)) = i + (ind (l.drop (i + 1)) + 1) by omega]
theorem indent_eq' {k : Nat} {l : List UInt8} (hl : l.length ≤ 1000000) (hk : l.length < k) : platenref03_Indent k l = some (ind l : Int) := by
  unfold platenref03_Indent
  have := indent_loop' hl l.length k 0 (by omega) (by omega) hk
  simp only [List.drop_zero, Nat.zero_add] at this
  have this' : platenref03_Indent_l6 l k 0 = _ := this
  rw [this']; rfl

/-! ### Marks -/

def mks : List (List UInt8) := [[47, 47], [45, 45], [59, 59], [35], [59], [42], [62], [37]]
theorem mark_loop {s : List UInt8} : ∀ (d k i : Nat), 8 - i = d → i ≤ 8 → d < k → leader_Mark_l6 s k (i : Int) = some (if s ∈ mks.drop i then .inl true else .inr ()) := by
  intro d
  induction d with
  | zero =>
    intro k i hd hi hk
    obtain ⟨k, rfl⟩ : ∃ m, k = m + 1 := ⟨k - 1, by omega⟩
    have : i = 8 := by omega
    subst this
    simp [leader_Mark_l6, mks]
  | succ d ih =>
    intro k i hd hi hk
    obtain ⟨k, rfl⟩ : ∃ m, k = m + 1 := ⟨k - 1, by omega⟩
    have hlt : i < mks.length := by simp [mks]; omega
    have h1 : (i : Int) < 8 := by omega
    have h2 := lIdx_nat hlt
    have h2' : lIdx ([([47, 47] : List UInt8), ([45, 45] : List UInt8), ([59, 59] : List UInt8), ([35] : List UInt8), ([59] : List UInt8), ([42] : List UInt8), ([62] : List UInt8), ([37] : List UInt8)] : List (List UInt8)) (i : Int) = some mks[i] := h2
    simp only [leader_Mark_l6, h1, h2', wr1 (show i ≤ 1000000000 by omega), decide_true, decide_false, if_true, if_false, Bool.false_eq_true, Option.bind_some, Bool.not_true, Bool.not_false, ite_true, ite_false, Bool.true_eq_false, not_true_eq_false, not_false_eq_true]
    rw [ih k (i + 1) (by omega) (by omega) (by omega), List.drop_eq_getElem_cons hlt]
    by_cases h : mks[i] = s
    · simp [h]
    · have h' : ¬ s = mks[i] := fun e => h e.symm
      simp only [h, decide_true, decide_false, if_true, if_false, Bool.false_eq_true, Option.bind_some, Bool.not_true, Bool.not_false, ite_true, ite_false, Bool.true_eq_false, not_true_eq_false, not_false_eq_true, List.mem_cons, h', false_or]
theorem mark_eq {k : Nat} {s : List UInt8} (hk : 8 < k) : leader_Mark k s = some (decide (s ∈ mks)) := by
  unfold leader_Mark
  have := mark_loop (s := s) 8 k 0 (by omega) (by omega) hk
  have this' : leader_Mark_l6 s k 0 = some (if s ∈ mks then .inl true else .inr ()) := this
  rw [this']
  by_cases h : s ∈ mks <;> simp [h]
theorem mark_eq' {k : Nat} {s : List UInt8} : platenref06_Mark k s = some (decide (s ∈ mks)) := by
  unfold platenref06_Mark
  simp only [mks, List.mem_cons, List.not_mem_nil, or_false]
  by_cases h1 : s = [47, 47]
  · simp [h1]
  by_cases h2 : s = [45, 45]
  · simp [h2]
  by_cases h3 : s = [59, 59]
  · simp [h3]
  by_cases h4 : s = [35]
  · simp [h4]
  by_cases h5 : s = [59]
  · simp [h5]
  by_cases h6 : s = [42]
  · simp [h6]
  by_cases h7 : s = [62]
  · simp [h7]
  simp [h1, h2, h3, h4, h5, h6, h7]

/-! ### Head, gap, rest -/

/-- A text's first piece without blanks. -/
def wd (l : List UInt8) : List UInt8 := l.takeWhile (fun c => !bl c)
def ofM (l : List UInt8) : List UInt8 × List UInt8 × List UInt8 :=
  let n := ind l
  let r := l.drop n
  if wd r ∈ mks then (l.take (n + (wd r).length), (r.drop (wd r).length).take (ind (r.drop (wd r).length)), (r.drop (wd r).length).drop (ind (r.drop (wd r).length)))
  else (l.take n, [], r)

theorem wd_le (l : List UInt8) : (wd l).length ≤ l.length := (List.takeWhile_prefix (l := l) _).length_le
theorem wd_take (l : List UInt8) : l.take (wd l).length = wd l := List.prefix_iff_eq_take.1 (List.takeWhile_prefix _) |>.symm

theorem wd_map : ∀ (l : List UInt8), (l.map (fun c => if c = 9 then 32 else c)).takeWhile (fun c => c != 32) = wd l
  | [] => rfl
  | c :: l => by
    unfold wd
    rw [List.map_cons, List.takeWhile_cons, List.takeWhile_cons, wd_map l]
    by_cases h1 : c = 9
    · subst h1; simp [bl]
    · by_cases h2 : c = 32
      · subst h2; simp [bl]
      · simp [bl, h1, h2, wd]

theorem of_eq {k : Nat} {l : List UInt8} (hl : l.length ≤ 100000) (hk : l.length + 10 < k) : leader_Of k l = some (ofM l) := by
  have hi := ind_le l
  have e1 : pRepl (l.drop (ind l)) [9] [32] = some ((l.drop (ind l)).map (fun c => if c = 9 then 32 else c)) := by
    unfold pRepl
    rw [if_pos ⟨by simp; omega, rfl, rfl⟩, replaceAll_map (by decide)]
  have e2 : pCut ((l.drop (ind l)).map (fun c => if c = 9 then 32 else c)) [32] = some (Lib.cut ((l.drop (ind l)).map (fun c => if c = 9 then 32 else c)) [32]) := by
    unfold pCut
    rw [if_pos (by simp; omega)]
  have e3 : (Lib.cut ((l.drop (ind l)).map (fun c => if c = 9 then 32 else c)) [32]).1 = wd (l.drop (ind l)) := by rw [cut_first, wd_map]
  have hw := wd_le (l.drop (ind l))
  have hn : ind l + (wd (l.drop (ind l))).length ≤ l.length := by simp at hw; omega
  have e4 : IntKind.i64.wrap ((ind l : Int) + ((wd (l.drop (ind l))).length : Int)) = ((ind l + (wd (l.drop (ind l))).length : Nat) : Int) := by rw [wr (by omega) (by omega)]; omega
  have hr := ind_le (l.drop (ind l + (wd (l.drop (ind l))).length))
  unfold leader_Of leader_Of_j18 ofM
  simp only [indent_eq (show l.length ≤ 1000000 by omega) (show l.length < k by omega), lSub_take hi, lSub_drop hi, e1, e2, e3, mark_eq (show 8 < k by omega), Option.bind_some]
  by_cases hm : wd (l.drop (ind l)) ∈ mks
  · simp only [hm, decide_true, decide_false, if_true, if_false, Bool.false_eq_true, Option.bind_some, Bool.not_true, Bool.not_false, ite_true, ite_false, Bool.true_eq_false, not_true_eq_false, not_false_eq_true, e4, lSub_take hn, lSub_drop hn, indent_eq (show (l.drop (ind l + (wd (l.drop (ind l))).length)).length ≤ 1000000 by simp; omega) (show (l.drop (ind l + (wd (l.drop (ind l))).length)).length < k by simp; omega), lSub_take hr, lSub_drop hr, List.drop_drop]
  · simp only [hm, decide_true, decide_false, if_true, if_false, Bool.false_eq_true, Option.bind_some, Bool.not_true, Bool.not_false, ite_true, ite_false, Bool.true_eq_false, not_true_eq_false, not_false_eq_true]

theorem word_loop {l : List UInt8} (hl : l.length ≤ 1000000) (n : Int) : ∀ (d k i : Nat), l.length - i = d → i ≤ l.length → d < k → platenref06_Of_l8 l n k (i : Int) = some ((i + (wd (l.drop i)).length : Nat) : Int) := by
  intro d
  induction d with
  | zero =>
    intro k i hd hi hk
    obtain ⟨k, rfl⟩ : ∃ m, k = m + 1 := ⟨k - 1, by omega⟩
    have : ¬ (i : Int) < (l.length : Int) := by omega
    have e : l.drop i = [] := List.drop_of_length_le (by omega)
    simp only [platenref06_Of_l8, this, decide_true, decide_false, if_true, if_false, Bool.false_eq_true, Option.bind_some, Bool.not_true, Bool.not_false, ite_true, ite_false, Bool.true_eq_false, not_true_eq_false, not_false_eq_true, e]
    simp [wd]
  | succ d ih =>
    intro k i hd hi hk
    obtain ⟨k, rfl⟩ : ∃ m, k = m + 1 := ⟨k - 1, by omega⟩
    have hlt : i < l.length := by omega
    have h1 : (i : Int) < (l.length : Int) := by omega
    have hb := bl_eq l[i]
    have hw : wd (l[i] :: l.drop (i + 1)) = if bl l[i] = true then [] else l[i] :: wd (l.drop (i + 1)) := by
      unfold wd; rw [List.takeWhile_cons]; cases bl l[i] <;> simp
    rw [List.drop_eq_getElem_cons hlt, hw]
    simp only [platenref06_Of_l8, h1, lIdx_nat hlt, wr1 (show i ≤ 1000000000 by omega), decide_true, decide_false, if_true, if_false, Bool.false_eq_true, Option.bind_some, Bool.not_true, Bool.not_false, ite_true, ite_false, Bool.true_eq_false, not_true_eq_false, not_false_eq_true]
    by_cases h2 : ((l[i].toNat : Nat) : Int) = 32
    · have : bl l[i] = true := by rw [hb]; simp [h2]
      simp [h2, this]
    · by_cases h3 : ((l[i].toNat : Nat) : Int) = 9
      · have : bl l[i] = true := by rw [hb]; simp [h3]
        simp [h3, this]
      · have : bl l[i] = false := by rw [hb]; simp only [h2, h3, or_self, decide_false]
        simp only [h2, h3, this, decide_true, decide_false, if_true, if_false, Bool.false_eq_true, Option.bind_some, Bool.not_true, Bool.not_false, ite_true, ite_false, Bool.true_eq_false, not_true_eq_false, not_false_eq_true]
        rw [ih k (i + 1) (by omega) (by omega) (by omega)]
        simp only [List.length_cons]
        rw [show i + 1 + (wd (l.drop (i + 1))).length = i + ((wd (l.drop (i + 1))).length + 1) by omega]
theorem of_eq' {k : Nat} {l : List UInt8} (hl : l.length ≤ 100000) (hk : l.length + 10 < k) : platenref06_Of k l = some (ofM l) := by
  have hi := ind_le l
  have hw := wd_le (l.drop (ind l))
  have hn : ind l + (wd (l.drop (ind l))).length ≤ l.length := by simp at hw; omega
  have e1 : ((l.take (ind l + (wd (l.drop (ind l))).length)).drop (ind l)) = wd (l.drop (ind l)) := by
    rw [List.drop_take, Nat.add_sub_cancel_left, wd_take]
  have hr := ind_le (l.drop (ind l + (wd (l.drop (ind l))).length))
  have hr2 : ind l + (wd (l.drop (ind l))).length + ind (l.drop (ind l + (wd (l.drop (ind l))).length)) ≤ l.length := by simp at hr; omega
  have e4 : IntKind.i64.wrap (((ind l + (wd (l.drop (ind l))).length : Nat) : Int) + (ind (l.drop (ind l + (wd (l.drop (ind l))).length)) : Int)) = ((ind l + (wd (l.drop (ind l))).length + ind (l.drop (ind l + (wd (l.drop (ind l))).length)) : Nat) : Int) := by rw [wr (by omega) (by omega)]; omega
  unfold platenref06_Of ofM
  simp only [indent_eq' (show l.length ≤ 1000000 by omega) (show l.length < k by omega), word_loop (show l.length ≤ 1000000 by omega) _ (l.length - ind l) k (ind l) rfl hi (by omega), lSub_nat (show ind l ≤ ind l + (wd (l.drop (ind l))).length by omega) hn, e1, mark_eq', Option.bind_some]
  by_cases hm : wd (l.drop (ind l)) ∈ mks
  · simp only [hm, decide_true, decide_false, if_true, if_false, Bool.false_eq_true, Option.bind_some, Bool.not_true, Bool.not_false, ite_true, ite_false, Bool.true_eq_false, not_true_eq_false, not_false_eq_true, lSub_take hn, lSub_drop hn, indent_eq' (show (l.drop (ind l + (wd (l.drop (ind l))).length)).length ≤ 1000000 by simp; omega) (show (l.drop (ind l + (wd (l.drop (ind l))).length)).length < k by simp; omega), e4,
      lSub_nat (show ind l + (wd (l.drop (ind l))).length ≤ ind l + (wd (l.drop (ind l))).length + ind (l.drop (ind l + (wd (l.drop (ind l))).length)) by omega) hr2, lSub_drop hr2, List.drop_drop]
    congr 3
    rw [List.drop_take, Nat.add_sub_cancel_left]
  · simp only [hm, decide_true, decide_false, if_true, if_false, Bool.false_eq_true, Option.bind_some, Bool.not_true, Bool.not_false, ite_true, ite_false, Bool.true_eq_false, not_true_eq_false, not_false_eq_true, lSub_take hi, lSub_drop hi]

theorem marked_eq {k : Nat} {l : List UInt8} (hl : l.length ≤ 1000000) (hk : l.length < k) : leader_Marked k l = some (decide (ind l < l.length)) := by
  unfold leader_Marked
  rw [indent_eq hl hk]; simp
theorem marked_eq' {k : Nat} {l : List UInt8} (hl : l.length ≤ 1000000) (hk : l.length < k) : platenref06_Marked k l = some (decide (ind l < l.length)) := by
  unfold platenref06_Marked platenref03_Bare
  rw [indent_eq' hl hk]
  have := ind_le l
  simp only [Option.bind_some, Option.some.injEq, decide_eq_decide]
  grind
end Go.Pv
