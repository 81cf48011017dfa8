/- From the abstract run of a law to its row's walk. -/
import Derived.Test.YtkookjaafgkfnaaDoorPvCall2
import Derived.Test.YtkookjaafgkfnaaDoorPvD
import Derived.OpenShut
import GoSem.ClaimWide
namespace Go.Pv
set_option linter.all false
open Go.RowKit

/-- What is there is never written. -/
def KW.old (w : World) : KW := ⟨w, fun b i => w.cell? ⟨b, i, none⟩, fun _ => none, fun _ => none, fun _ => none⟩

theorem R.old {E : Env} (w : World) (hg : ∀ g cs, E.glob g = some cs → (∀ c ∈ cs, c.one = true) ∧ ∃ us, VRs (KW.old w) cs us ∧ (KW.old w).Row g 0 us) : R E (KW.old w) .zero w where
  below := Below.refl _ _
  sealed b i u h := h
  size b n h := by simp [KW.old] at h
  sizelt b n h := by simp [KW.old] at h
  there id b h := by simp [KW.old] at h
  cells id cs h := by simp [St.get, St.zero, Heap.get] at h
  iter id s pos h := by simp [St.get, St.zero, Heap.get] at h
  inj i j b x y h := by simp [KW.old] at h
  tok t b o h := by simp [KW.old] at h
  live t b o h := by simp [St.zero] at h
  tinj t t' b o o' h := by simp [St.zero] at h
  ltok t h := by simp [St.zero] at h
  lid id x h := by simp [St.get, St.zero, Heap.get] at h
  glob := hg
  nodup := by simp [St.zero]

theorem law_calls {E : Env} {P : Program} (hE : EnvOk E P) {f : FuncId} {vs : List AV} {w : World} {us : List Value} (hp : E.prim f = none) (hF : RunF E f vs .zero (fun v σ' => σ' = .zero ∧ v = .bool true)) (hvs : VRs (KW.old w) vs us)
    (hg : ∀ g cs, E.glob g = some cs → (∀ c ∈ cs, c.one = true) ∧ ∃ us, VRs (KW.old w) cs us ∧ (KW.old w).Row g 0 us) :
    Calls P f us.toArray w fun e w' => e = .returned (.bool true) ∧ Below w.heap.size w w' := by
  obtain ⟨n, v, σ', h, rfl, rfl⟩ := hF
  refine (calls_of_ev hE hp h (R.old w hg) hvs).mono fun e w' hr => ?_
  obtain ⟨W', u, hle, hR, rfl, hv⟩ := hr
  cases hv
  have hb := hR.below
  rw [hle.w0] at hb
  exact ⟨rfl, hb⟩

/-- A slice of integers that came in. -/
def IsRow (k : IntKind) (w : World) (a : Option Addr) (len cap : Nat) (zs : List Int) : Prop :=
  (a = none ∧ len = 0 ∧ cap = 0 ∧ zs = []) ∨
  ∃ x, a = some x ∧ len ≤ cap ∧ cap ≤ maxLen ∧ zs.length = cap ∧ (∀ i, i < zs.length → w.cell? (x.add i) = some (.int k (zs.getD i 0))) ∧ ∀ n ∈ zs, (Lit.int k n).wf = true

theorem spot_none {P : Program} {w : World} {base : Nat} {t e : TypeId} {x : Addr} {len cap : Nat} (ht : P.underlying t = some (.slice e)) (h : Value.okWide P w .any base t (.slice (some x) len cap)) : x.spot = none := by
  unfold Value.okWide at h
  rw [ht] at h
  simp only [Cell.okWide, ht, Cell.ok] at h
  exact h.2.2.2.1

theorem rows_vr {k : IntKind} {w : World} {a : Option Addr} {len cap : Nat} {zs : List Int} {α : Type} (enc : α → AV) (f : Int → α) (h : IsRow k w a len cap zs) (hs : ∀ x, a = some x → x.spot = none)
    (hf : ∀ n : Int, (Lit.int k n).wf = true → enc (f n) = .int k n) : ∃ (p : List α) (v : AV), SL (fun x c => c = [enc x]) 1 p v ∧ VR (KW.old w) v (.slice a len cap) ∧ p.length = len ∧ len ≤ maxLen := by
  rcases h with ⟨rfl, rfl, rfl, rfl⟩ | ⟨x, rfl, hl, hm, hz, hcell, hwf⟩
  · exact ⟨[], .nils, SL.nil, .nils, rfl, by omega⟩
  · obtain ⟨b, o, s⟩ := x
    have : s = none := hs _ rfl
    subst this
    have hlen : (zs.take len).length = len := by simp; omega
    refine ⟨(zs.take len).map f, .list .no 1 (((zs.take len).map f).map enc), .mk (RL.map _), ?_, by simp; omega, by omega⟩
    have e : ((zs.take len).map f).map enc = (zs.take len).map (fun n => AV.int k n) := by
      rw [List.map_map]
      apply List.map_congr_left
      intro n hn
      exact hf n (hwf n (List.mem_of_mem_take hn))
    rw [e]
    refine VR.list (us := (zs.take len).map (fun n => Value.int k n)) (b := b) (o := o) ?_ ?_ ?_ (Nat.le_refl _) (by simp; omega) hl trivial
    · generalize zs.take len = l
      induction l with
      | nil => exact .nil
      | cons n l ih => exact .cons (.int k n) ih
    · intro c hc
      obtain ⟨n, _, rfl⟩ := List.mem_map.1 hc
      rfl
    · intro i hi
      have hi2 : i < len := by simp at hi; omega
      have := hcell i (by omega)
      show w.cell? ⟨b, o + i, none⟩ = _
      rw [show (⟨b, o, none⟩ : Addr).add i = ⟨b, o + i, none⟩ from by unfold Addr.add; split <;> simp_all] at this
      rw [this]
      simp only [List.getElem_map, List.getElem_take]
      rw [List.getD_eq_getElem?_getD, List.getElem?_eq_getElem (by omega)]
      rfl

theorem bytes_vr {w : World} {a : Option Addr} {len cap : Nat} {zs : List Int} (h : IsRow .u8 w a len cap zs) (hs : ∀ x, a = some x → x.spot = none) : ∃ (p : List UInt8) (v : AV), SL RU8 1 p v ∧ VR (KW.old w) v (.slice a len cap) ∧ p.length = len ∧ len ≤ maxLen :=
  rows_vr u8 toB h hs fun n hn => by
    have := bounds_u8 hn
    show AV.int .u8 _ = _
    rw [toB_nat]
    congr 1; omega

theorem u8_vr {W : KW} {n : Int} (h : (Lit.int .u8 n).wf = true) : VR W (u8 (toB n)) (.int .u8 n) := by
  have := bounds_u8 h
  have e : u8 (toB n) = .int .u8 n := by
    show AV.int .u8 _ = _
    rw [toB_nat]
    congr 1; omega
  rw [e]; exact .int _ _
theorem str_vr {W : KW} (s : ByteArray) : VR W (.str s.data.toList) (.string s) := by
  have := VR.str (W := W) s.data.toList
  simpa using this
end Go.Pv
