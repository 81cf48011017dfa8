/- Small laws, for whatever program. -/
import Derived.Test.YtkookjaafgkfnaaDoorPvD
import Derived.Test.YtkookjaafgkfnaaDoorPvLib
namespace Go.Pv
set_option linter.all false

theorem wr {n : Int} (h0 : -9000000000000000000 ≤ n) (h1 : n ≤ 9000000000000000000) : IntKind.i64.wrap n = n := by
  unfold IntKind.wrap; simp [IntKind.signed, IntKind.bits]; omega
theorem wr1 {n : Nat} (h : n ≤ 1000000000) : IntKind.i64.wrap ((n : Int) + 1) = ((n + 1 : Nat) : Int) := by rw [wr (by omega) (by omega)]; omega
theorem toB_id {n : Int} (h0 : 0 ≤ n) (h1 : n < 256) : ((toB n).toNat : Int) = n := by rw [toB_nat]; omega
theorem lIdx_nat {α : Type} {l : List α} {i : Nat} (h : i < l.length) : lIdx l (i : Int) = some l[i] := by
  unfold lIdx; rw [if_pos (by omega)]; simp [h]
theorem lIdx_some {α : Type} {l : List α} {i : Int} (h0 : 0 ≤ i) (h : i < (l.length : Int)) : ∃ a, lIdx l i = some a := by
  obtain ⟨n, rfl⟩ : ∃ n : Nat, i = (n : Int) := ⟨i.toNat, by omega⟩
  exact ⟨_, lIdx_nat (by omega)⟩
theorem lIdx_mem {α : Type} {l : List α} {i : Int} {a : α} (h : lIdx l i = some a) : a ∈ l := by
  unfold lIdx at h
  split at h
  · exact List.mem_of_getElem? h
  · simp at h
theorem lApp_some {α : Type} {b : Nat} {xs ys : List α} (hb : b ≤ 1000) (h : xs.length + ys.length ≤ 10000000) : lApp b xs ys = some (xs ++ ys) := by
  unfold lApp
  rw [if_pos]
  have : (xs.length + ys.length) * b ≤ 10000000 * 1000 := Nat.mul_le_mul h hb
  exact ⟨by unfold room; omega, by unfold room; omega⟩
theorem sAdd_some {xs ys : List UInt8} (h : xs.length + ys.length ≤ 1000000000) : sAdd xs ys = some (xs ++ ys) := by
  unfold sAdd; rw [if_pos (by unfold strLim; omega)]
theorem iRem_some {x y : Int} (hx : 0 ≤ x) (hy : 0 < y) : iRem x y = some (x % y) := by
  unfold iRem
  rw [if_neg (by omega), Int.tmod_eq_emod_of_nonneg hx]
theorem lSub_nat {α : Type} {xs : List α} {i j : Nat} (h : i ≤ j) (hj : j ≤ xs.length) : lSub xs (i : Int) (j : Int) = some ((xs.take j).drop i) := by
  unfold lSub
  rw [if_pos ⟨by omega, by omega, by omega⟩]
  simp
theorem lSub_take {α : Type} {xs : List α} {i : Nat} (h : i ≤ xs.length) : lSub xs 0 (i : Int) = some (xs.take i) := by
  have := lSub_nat (Nat.zero_le i) h
  simpa using this
theorem lSub_drop {α : Type} {xs : List α} {i : Nat} (h : i ≤ xs.length) : lSub xs (i : Int) (xs.length : Int) = some (xs.drop i) := by
  have := lSub_nat h (Nat.le_refl _)
  simpa using this

/-! ### One byte in a text -/

theorem idx_split (a : UInt8) : ∀ s : List UInt8, (a ∉ s ∧ Lib.index s [a] = -1) ∨ ∃ u v, s = u ++ a :: v ∧ a ∉ u ∧ Lib.index s [a] = (u.length : Int)
  | [] => .inl ⟨by simp, rfl⟩
  | b :: l => by
    by_cases h : a = b
    · subst h
      right
      exact ⟨[], l, rfl, by simp, by simp [Lib.index, List.isPrefixOf]⟩
    · have hp : ([a] : List UInt8).isPrefixOf (b :: l) = false := by simp [List.isPrefixOf, h]
      rcases idx_split a l with ⟨h1, h2⟩ | ⟨u, v, h1, h2, h3⟩
      · left
        exact ⟨by simp [h, h1], by simp [Lib.index, hp, h2]⟩
      · right
        refine ⟨b :: u, v, by simp [h1], by simp [h, h2], ?_⟩
        have h4 : ¬ Lib.index l [a] = -1 := by omega
        simp [Lib.index, hp, h4, h3]

theorem repl_map {a b : UInt8} (hab : a ≠ b) : ∀ (n : Nat) (s : List UInt8), s.length ≤ n → Lib.replaceK [a] [b] (Lib.count s [a]) s = s.map (fun c => if c = a then b else c) := by
  intro n
  induction n with
  | zero =>
    intro s hs
    have : s = [] := List.length_eq_zero_iff.1 (by omega)
    subst this
    rcases idx_split a [] with ⟨_, h⟩ | ⟨u, v, h, _⟩
    · rw [Lib.count_miss h]; rfl
    · simp at h
  | succ n ih =>
    intro s hs
    rcases idx_split a s with ⟨h1, h2⟩ | ⟨u, v, h1, h2, h3⟩
    · rw [Lib.count_miss h2]
      have : s.map (fun c => if c = a then b else c) = s := by
        rw [List.map_congr_left (g := id)]
        · simp
        · intro c hc
          have : c ≠ a := fun e => h1 (e ▸ hc)
          simp [this]
      rw [this]; rfl
    · rw [Lib.count_hit (by simp) h3, Nat.add_comm, Lib.replaceK_hit _ _ _ _ _ h3]
      have hd : s.drop (u.length + ([a] : List UInt8).length) = v := by rw [h1]; simp
      have ht : s.take u.length = u := by rw [h1]; simp
      rw [hd, ht, ih v (by rw [h1] at hs; simp at hs; omega), h1]
      have : u.map (fun c => if c = a then b else c) = u := by
        rw [List.map_congr_left (g := id)]
        · simp
        · intro c hc
          have : c ≠ a := fun e => h2 (e ▸ hc)
          simp [this]
      simp [this]

theorem replaceAll_map {a b : UInt8} (hab : a ≠ b) (s : List UInt8) : Lib.replaceAll s [a] [b] = s.map (fun c => if c = a then b else c) := by
  unfold Lib.replaceAll Lib.replace
  have h1 : ([a] == [b]) = false := by simp [hab]
  have h2 : Lib.replaceNum s [a] (-1) = Lib.count s [a] := by unfold Lib.replaceNum; rw [if_pos (.inl (by omega))]
  rw [h1, h2]
  exact repl_map hab s.length s (Nat.le_refl _)

theorem takeWhile_stop {α : Type} {p : α → Bool} {u v : List α} {a : α} (hu : ∀ x ∈ u, p x = true) (ha : p a = false) : (u ++ a :: v).takeWhile p = u := by
  induction u with
  | nil => simp [ha]
  | cons x u ih =>
    simp only [List.cons_append, List.takeWhile_cons, hu x (by simp), if_true]
    rw [ih (fun y hy => hu y (by simp [hy]))]
theorem takeWhile_all {α : Type} {p : α → Bool} {u : List α} (hu : ∀ x ∈ u, p x = true) : u.takeWhile p = u := by
  induction u with
  | nil => rfl
  | cons x u ih =>
    simp only [List.takeWhile_cons, hu x (by simp), if_true]
    rw [ih (fun y hy => hu y (by simp [hy]))]
theorem cut_first (a : UInt8) (s : List UInt8) : (Lib.cut s [a]).1 = s.takeWhile (fun c => c != a) := by
  rcases idx_split a s with ⟨h1, h2⟩ | ⟨u, v, h1, h2, h3⟩
  · unfold Lib.cut
    rw [h2, if_neg (by omega)]
    exact (takeWhile_all (fun x hx => by simp; intro e; exact h1 (e ▸ hx))).symm
  · unfold Lib.cut
    rw [h3, if_pos (by omega)]
    have e : (u ++ a :: v).takeWhile (fun c => c != a) = u := takeWhile_stop (fun x hx => by simp; intro e; exact h2 (e ▸ hx)) (by simp)
    rw [h1, e]
    simp
end Go.Pv
