/- The laws on leaders, in plain words. -/
import Derived.Test.YtkookjaafgkfnaaDoorPvCL1
namespace Go.Pv
set_option linter.all false

theorem tw_all {α : Type} {p : α → Bool} : ∀ {u : List α}, (∀ x ∈ u, p x = true) → ∀ v, (u ++ v).takeWhile p = u ++ v.takeWhile p
  | [], _, v => by simp
  | a :: u, h, v => by
    have h1 := h a (by simp)
    simp only [List.cons_append, List.takeWhile_cons, h1, if_true]
    rw [tw_all (fun x hx => h x (by simp [hx])) v]
theorem dw_all {α : Type} {p : α → Bool} : ∀ {u : List α}, (∀ x ∈ u, p x = true) → ∀ v, (u ++ v).dropWhile p = v.dropWhile p
  | [], _, v => by simp
  | a :: u, h, v => by
    have h1 := h a (by simp)
    simp only [List.cons_append, List.dropWhile_cons, h1, if_true]
    rw [dw_all (fun x hx => h x (by simp [hx])) v]
theorem tw_mem {α : Type} {p : α → Bool} : ∀ {l : List α} {x}, x ∈ l.takeWhile p → p x = true
  | a :: l, x, h => by
    rw [List.takeWhile_cons] at h
    split at h
    · rcases List.mem_cons.1 h with rfl | h
      · assumption
      · exact tw_mem h
    · simp at h
theorem drop_tw {α : Type} {p : α → Bool} : ∀ (l : List α), l.drop (l.takeWhile p).length = l.dropWhile p
  | [] => rfl
  | a :: l => by
    rw [List.takeWhile_cons, List.dropWhile_cons]
    split
    · simpa using drop_tw l
    · rfl
theorem take_tw {α : Type} {p : α → Bool} (l : List α) : l.take (l.takeWhile p).length = l.takeWhile p := List.prefix_iff_eq_take.1 (List.takeWhile_prefix _) |>.symm

/-- The three parts in pieces: blanks, a first piece, the blanks behind it, the rest. -/
theorem ofM_eq (l : List UInt8) : ofM l = if wd (l.dropWhile bl) ∈ mks then (l.takeWhile bl ++ wd (l.dropWhile bl), ((l.dropWhile bl).dropWhile (fun c => !bl c)).takeWhile bl, ((l.dropWhile bl).dropWhile (fun c => !bl c)).dropWhile bl)
    else (l.takeWhile bl, [], l.dropWhile bl) := by
  unfold ofM ind wd
  simp only [drop_tw, take_tw]
  split
  · congr 1
    rw [List.take_add, take_tw, drop_tw, take_tw]
  · rfl
theorem wd_dw (l : List UInt8) : wd l ++ l.dropWhile (fun c => !bl c) = l := List.takeWhile_append_dropWhile
theorem mks_head {w : List UInt8} (h : w ∈ mks) : ∃ c r, w = c :: r ∧ bl c = false := by
  simp only [mks, List.mem_cons, List.not_mem_nil, or_false] at h
  rcases h with rfl | rfl | rfl | rfl | rfl | rfl | rfl | rfl <;> exact ⟨_, _, rfl, by decide⟩
theorem wd_nb {l : List UInt8} : ∀ x ∈ wd l, (fun c => !bl c) x = true := fun x h => tw_mem (p := fun c => !bl c) h
theorem tw_bl {l : List UInt8} : ∀ x ∈ l.takeWhile bl, bl x = true := fun x h => tw_mem h
theorem nil_mks : ([] : List UInt8) ∉ mks := by decide
theorem x_mks {l : List UInt8} : (120 :: l) ∉ mks := by
  simp [mks]

theorem parts_cat (l : List UInt8) : (ofM l).1 ++ (ofM l).2.1 ++ (ofM l).2.2 = l := by
  rw [ofM_eq]
  split
  · simp only
    rw [List.append_assoc, List.takeWhile_append_dropWhile, List.append_assoc, wd_dw, List.takeWhile_append_dropWhile]
  · simp [List.takeWhile_append_dropWhile]
theorem head_len (l : List UInt8) : (ofM l).1.length ≤ l.length := by
  have := congrArg List.length (parts_cat l); simp at this; omega
theorem hg_len (l : List UInt8) : (ofM l).1.length + (ofM l).2.1.length ≤ l.length := by
  have := congrArg List.length (parts_cat l); simp at this; omega
/-- blanks, a word that begins without a blank -/
theorem ofM_bw {u w g y : List UInt8} (hu : ∀ x ∈ u, bl x = true) (hw : w ∈ mks) (hn : ∀ x ∈ w, (fun c => !bl c) x = true) (hg : ∀ x ∈ g, bl x = true)
    (hy : y.takeWhile bl = []) (h : g ≠ [] ∨ y = []) : ofM (u ++ w ++ g ++ y) = (u ++ w, g, y) := by
  have hy' : y.dropWhile bl = y := by
    have := List.takeWhile_append_dropWhile (p := bl) (l := y); rw [hy] at this; simpa using this
  obtain ⟨c, r, rfl, hc⟩ := mks_head hw
  rw [ofM_eq]
  have e1 : (u ++ (c :: r) ++ g ++ y).takeWhile bl = u := by
    rw [List.append_assoc, List.append_assoc, tw_all hu]; simp [hc]
  have e2 : (u ++ (c :: r) ++ g ++ y).dropWhile bl = (c :: r) ++ (g ++ y) := by
    rw [List.append_assoc, List.append_assoc, dw_all hu]; simp [hc]
  have e3 : (g ++ y).takeWhile (fun c => !bl c) = [] := by
    cases g with
    | nil => rcases h with h | h
             · exact absurd rfl h
             · simp [h]
    | cons a g => simp [hg a (by simp)]
  have e3' : (g ++ y).dropWhile (fun c => !bl c) = g ++ y := by
    have := List.takeWhile_append_dropWhile (p := fun c => !bl c) (l := g ++ y); rw [e3] at this; simpa using this
  have e4 : wd ((c :: r) ++ (g ++ y)) = c :: r := by
    unfold wd; rw [tw_all hn, e3]; simp
  have e5 : ((c :: r) ++ (g ++ y)).dropWhile (fun c => !bl c) = g ++ y := by
    rw [dw_all hn, e3']
  rw [e1, e2, e4, e5, if_pos hw, tw_all hg, dw_all hg, hy, hy']; simp
theorem ofM_b {u y : List UInt8} (hu : ∀ x ∈ u, bl x = true) (hy : y.takeWhile bl = []) (hw : wd y ∉ mks) : ofM (u ++ y) = (u, [], y) := by
  have hy' : y.dropWhile bl = y := by
    have := List.takeWhile_append_dropWhile (p := bl) (l := y); rw [hy] at this; simpa using this
  rw [ofM_eq, tw_all hu, dw_all hu, hy, hy', if_neg hw]; simp
theorem again (l : List UInt8) : ofM (ofM l).1 = ((ofM l).1, [], []) := by
  rw [ofM_eq l]
  split
  · rename_i h
    have := ofM_bw (u := l.takeWhile bl) (w := wd (l.dropWhile bl)) (g := []) (y := []) tw_bl h wd_nb (by simp) (by simp) (.inr rfl)
    simpa using this
  · have := ofM_b (u := l.takeWhile bl) (y := []) tw_bl (by simp) (by simpa [wd] using nil_mks)
    simpa using this
theorem tw_x {l : List UInt8} : (120 :: l : List UInt8).takeWhile bl = [] := by
  rw [List.takeWhile_cons]; rfl
theorem wd_x {l : List UInt8} : wd (120 :: l : List UInt8) ∉ mks := by
  unfold wd
  rw [List.takeWhile_cons]
  have : (!bl 120) = true := by decide
  rw [if_pos this]; exact x_mks
theorem ind_app {u w : List UInt8} (hu : ∀ x ∈ u, bl x = true) (hw : w ∈ mks) : ind (u ++ w) < (u ++ w).length := by
  obtain ⟨c, r, rfl, hc⟩ := mks_head hw
  unfold ind
  rw [tw_all hu]; simp [hc]
theorem ind_blank {u : List UInt8} (hu : ∀ x ∈ u, bl x = true) : ind u = u.length := by
  unfold ind
  have := tw_all hu []
  simp at this; rw [this]
theorem stays (l y : List UInt8) (h : ¬ (ind (ofM l).1 < (ofM l).1.length ∧ (ofM l).2.1 = [])) : ofM ((ofM l).1 ++ (ofM l).2.1 ++ 120 :: y) = ((ofM l).1, (ofM l).2.1, 120 :: y) := by
  rw [ofM_eq l] at h ⊢
  split
  · rename_i hm
    rw [if_pos hm] at h
    refine ofM_bw tw_bl hm wd_nb tw_bl tw_x (.inl ?_)
    intro e
    exact h ⟨ind_app tw_bl hm, e⟩
  · have := ofM_b (u := l.takeWhile bl) (y := 120 :: y) tw_bl tw_x wd_x
    simpa using this
theorem marked_or (l : List UInt8) : ind (ofM l).1 < (ofM l).1.length ∨ (ofM l).2.1 = [] := by
  rw [ofM_eq l]
  split
  · rename_i hm; exact .inl (ind_app tw_bl hm)
  · exact .inr rfl

theorem example_eq {k : Nat} (hk : 1000 < k) : platenlaw06_marked k = some true := by
  unfold platenlaw06_marked
  rw [of_eq (by simp) (by simp; omega)]
  have e : ofM [32, 32, 47, 47, 32, 97, 32, 98] = ([32, 32, 47, 47], [32], [97, 32, 98]) := by decide
  rw [e]
  simp only [decide_true, decide_false, if_true, if_false, Bool.false_eq_true, Option.bind_some, Bool.not_true, Bool.not_false, ite_true, ite_false, Bool.true_eq_false, not_true_eq_false, not_false_eq_true]
  rw [marked_eq (by simp) (by simp; omega), mark_eq (by omega)]
  decide
theorem marks_law {k : Nat} (hk : 1000 < k) (x : List UInt8) : platenlaw06_LeaderMarks k x = some true := by
  unfold platenlaw06_LeaderMarks platenlaw06_LeaderMarks_j5
  simp only [example_eq hk, mark_eq (show 8 < k by omega), mark_eq', decide_true, decide_false, if_true, if_false, Bool.false_eq_true, Option.bind_some, Bool.not_true, Bool.not_false, ite_true, ite_false, Bool.true_eq_false, not_true_eq_false, not_false_eq_true]
  have e1 : ([59, 59] : List UInt8) ∈ mks := by decide
  have e2 := nil_mks
  by_cases h : 300 < (x.length : Int) <;> simp [h, e1, e2]
theorem parts_law {k : Nat} (hk : 1000 < k) (x : List UInt8) : platenlaw06_LeaderParts k x = some true := by
  unfold platenlaw06_LeaderParts platenlaw06_LeaderParts_j5
  simp only [example_eq hk, decide_true, decide_false, if_true, if_false, Bool.false_eq_true, Option.bind_some, Bool.not_true, Bool.not_false, ite_true, ite_false, Bool.true_eq_false, not_true_eq_false, not_false_eq_true]
  by_cases h : 300 < (x.length : Int)
  · simp [h]
  · have h2 := hg_len x
    have h3 := congrArg List.length (parts_cat x)
    simp only [List.length_append] at h3
    rw [of_eq (by omega) (by omega), of_eq' (by omega) (by omega)]
    simp only [h, decide_true, decide_false, if_true, if_false, Bool.false_eq_true, Option.bind_some, Bool.not_true, Bool.not_false, ite_true, ite_false, Bool.true_eq_false, not_true_eq_false, not_false_eq_true]
    rw [sAdd_some (by omega)]
    simp only [decide_true, decide_false, if_true, if_false, Bool.false_eq_true, Option.bind_some, Bool.not_true, Bool.not_false, ite_true, ite_false, Bool.true_eq_false, not_true_eq_false, not_false_eq_true]
    rw [sAdd_some (by simp only [List.length_append]; omega), parts_cat]
    simp
theorem marked_law {k : Nat} (hk : 1000 < k) (x : List UInt8) : platenlaw06_LeaderMarked k x = some true := by
  unfold platenlaw06_LeaderMarked platenlaw06_LeaderMarked_j5
  simp only [example_eq hk, decide_true, decide_false, if_true, if_false, Bool.false_eq_true, Option.bind_some, Bool.not_true, Bool.not_false, ite_true, ite_false, Bool.true_eq_false, not_true_eq_false, not_false_eq_true]
  by_cases h : 300 < (x.length : Int)
  · simp [h]
  · have h2 := head_len x
    rw [of_eq (by omega) (by omega)]
    simp only [h, decide_true, decide_false, if_true, if_false, Bool.false_eq_true, Option.bind_some, Bool.not_true, Bool.not_false, ite_true, ite_false, Bool.true_eq_false, not_true_eq_false, not_false_eq_true, marked_eq (show x.length ≤ 1000000 by omega) (show x.length < k by omega), marked_eq' (show x.length ≤ 1000000 by omega) (show x.length < k by omega), marked_eq (show (ofM x).1.length ≤ 1000000 by omega) (show (ofM x).1.length < k by omega), marked_eq' (show (ofM x).1.length ≤ 1000000 by omega) (show (ofM x).1.length < k by omega)]
    rcases marked_or x with e | e <;> simp [e]
theorem stays_law {k : Nat} (hk : 1000 < k) (x y : List UInt8) : platenlaw06_LeaderStays k x y = some true := by
  unfold platenlaw06_LeaderStays platenlaw06_LeaderStays_j5 platenlaw06_LeaderStays_j22
  simp only [example_eq hk, decide_true, decide_false, if_true, if_false, Bool.false_eq_true, Option.bind_some, Bool.not_true, Bool.not_false, ite_true, ite_false, Bool.true_eq_false, not_true_eq_false, not_false_eq_true]
  by_cases h : 200 < (x.length : Int)
  · simp [h]
  by_cases h' : 200 < (y.length : Int)
  · simp [h, h']
  · have h2 := head_len x
    have h3 := hg_len x
    rw [of_eq (l := x) (by omega) (by omega)]
    simp only [h, h', decide_true, decide_false, if_true, if_false, Bool.false_eq_true, Option.bind_some, Bool.not_true, Bool.not_false, ite_true, ite_false, Bool.true_eq_false, not_true_eq_false, not_false_eq_true]
    rw [sAdd_some (by simp; omega), sAdd_some (by omega)]
    simp only [decide_true, decide_false, if_true, if_false, Bool.false_eq_true, Option.bind_some, Bool.not_true, Bool.not_false, ite_true, ite_false, Bool.true_eq_false, not_true_eq_false, not_false_eq_true]
    rw [marked_eq' (by omega) (by omega)]
    simp only [decide_true, decide_false, if_true, if_false, Bool.false_eq_true, Option.bind_some, Bool.not_true, Bool.not_false, ite_true, ite_false, Bool.true_eq_false, not_true_eq_false, not_false_eq_true]
    have hl : ((ofM x).1 ++ (ofM x).2.1 ++ ([120] ++ y)).length ≤ 500 := by simp; omega
    rw [sAdd_some (by simp at hl ⊢; omega)]
    simp only [decide_true, decide_false, if_true, if_false, Bool.false_eq_true, Option.bind_some, Bool.not_true, Bool.not_false, ite_true, ite_false, Bool.true_eq_false, not_true_eq_false, not_false_eq_true]
    rw [of_eq (by omega) (by omega)]
    by_cases e : ind (ofM x).1 < (ofM x).1.length ∧ (ofM x).2.1 = []
    · simp [e.1, e.2]
    · have := stays x y e
      have e' : [120] ++ y = 120 :: y := rfl
      rw [e', this]
      simp
theorem again_law {k : Nat} (hk : 1000 < k) (x : List UInt8) : platenlaw06_LeaderAgain k x = some true := by
  unfold platenlaw06_LeaderAgain platenlaw06_LeaderAgain_j5
  simp only [example_eq hk, decide_true, decide_false, if_true, if_false, Bool.false_eq_true, Option.bind_some, Bool.not_true, Bool.not_false, ite_true, ite_false, Bool.true_eq_false, not_true_eq_false, not_false_eq_true]
  by_cases h : 300 < (x.length : Int)
  · simp [h]
  · have h2 := head_len x
    rw [of_eq (by omega) (by omega)]
    simp only [h, decide_true, decide_false, if_true, if_false, Bool.false_eq_true, Option.bind_some, Bool.not_true, Bool.not_false, ite_true, ite_false, Bool.true_eq_false, not_true_eq_false, not_false_eq_true]
    rw [of_eq (by omega) (by omega), again]
    simp
end Go.Pv
