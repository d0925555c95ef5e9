/- The order of entries: no program in sight. -/
import Derived.Test.YtmgdcebbeglcmaaEnt
import Derived.Lib.Bytealg
import Derived.Laws.Cover1
namespace Go.Proofs.Ytmgdcebbeglcmaa.En
open Go.RowKit
open B
set_option linter.unusedVariables false

theorem cmp_range (a b : List UInt8) : Lib.compareBytes a b = -1 ∨ Lib.compareBytes a b = 0 ∨ Lib.compareBytes a b = 1 := by
  induction a generalizing b with
  | nil => cases b <;> simp [Lib.compareBytes]
  | cons x a ih =>
    cases b with
    | nil => simp [Lib.compareBytes]
    | cons y b =>
      unfold Lib.compareBytes
      split
      · exact .inl rfl
      · split
        · exact .inr (.inr rfl)
        · exact ih b
theorem cmp_eq0 (a b : List UInt8) : Lib.compareBytes a b = 0 ↔ a = b := by
  induction a generalizing b with
  | nil => cases b <;> simp [Lib.compareBytes]
  | cons x a ih =>
    cases b with
    | nil => simp [Lib.compareBytes]
    | cons y b =>
      unfold Lib.compareBytes
      by_cases h : x < y
      · rw [if_pos h]
        have : x ≠ y := fun e => by subst e; exact absurd h (UInt8.lt_irrefl x)
        simp [this]
      · rw [if_neg h]
        by_cases h2 : y < x
        · rw [if_pos h2]
          have : x ≠ y := fun e => by subst e; exact absurd h2 (UInt8.lt_irrefl x)
          simp [this]
        · rw [if_neg h2, ih]
          have : x = y := UInt8.le_antisymm (UInt8.not_lt.1 h2) (UInt8.not_lt.1 h)
          simp [this]
theorem cmp_neg (a b : List UInt8) : Lib.compareBytes b a = - Lib.compareBytes a b := by
  induction a generalizing b with
  | nil => cases b <;> simp [Lib.compareBytes]
  | cons x a ih =>
    cases b with
    | nil => simp [Lib.compareBytes]
    | cons y b =>
      unfold Lib.compareBytes
      by_cases h : x < y
      · have := UInt8.lt_asymm h
        simp [h, this]
      · by_cases h2 : y < x
        · simp [h, h2]
        · simp [h, h2, ih]
theorem cmp_trans (a b c : List UInt8) (h1 : Lib.compareBytes a b = -1) (h2 : Lib.compareBytes b c = -1) : Lib.compareBytes a c = -1 := by
  induction a generalizing b c with
  | nil =>
    cases b with
    | nil => simp [Lib.compareBytes] at h1
    | cons y b =>
      cases c with
      | nil => simp [Lib.compareBytes] at h2
      | cons z c => simp [Lib.compareBytes]
  | cons x a ih =>
    cases b with
    | nil => simp [Lib.compareBytes] at h1
    | cons y b =>
      cases c with
      | nil => simp [Lib.compareBytes] at h2
      | cons z c =>
        unfold Lib.compareBytes at h1 h2 ⊢
        by_cases hxy : x < y
        · by_cases hyz : y < z
          · rw [if_pos (UInt8.lt_trans hxy hyz)]
          · rw [if_neg hyz] at h2
            by_cases hzy : z < y
            · rw [if_pos hzy] at h2; simp at h2
            · have e : y = z := UInt8.le_antisymm (UInt8.not_lt.1 hzy) (UInt8.not_lt.1 hyz)
              rw [← e, if_pos hxy]
        · rw [if_neg hxy] at h1
          by_cases hyx : y < x
          · rw [if_pos hyx] at h1; simp at h1
          · rw [if_neg hyx] at h1
            have e : x = y := UInt8.le_antisymm (UInt8.not_lt.1 hyx) (UInt8.not_lt.1 hxy)
            subst e
            by_cases hxz : x < z
            · rw [if_pos hxz]
            · rw [if_neg hxz] at h2 ⊢
              by_cases hzx : z < x
              · rw [if_pos hzx] at h2; simp at h2
              · rw [if_neg hzx] at h2 ⊢
                exact ih b c h1 h2
theorem less_cmp (a b : List UInt8) : Op.bytesLess a b = decide (Lib.compareBytes a b < 0) := by
  induction a generalizing b with
  | nil => cases b <;> simp [Lib.compareBytes, Op.bytesLess]
  | cons x a ih =>
    cases b with
    | nil => simp [Lib.compareBytes, Op.bytesLess]
    | cons y b =>
      unfold Lib.compareBytes Op.bytesLess
      by_cases h : x < y
      · simp [h]
      · by_cases h2 : y < x
        · have hne : x ≠ y := fun e => by subst e; exact absurd h2 (UInt8.lt_irrefl x)
          simp [h, h2, hne]
        · have e : x = y := UInt8.le_antisymm (UInt8.not_lt.1 h2) (UInt8.not_lt.1 h)
          subst e
          simp [ih]

/-! keys, entries -/
def cmpK (a b : ByteArray) : Int := Lib.compareBytes a.data.toList b.data.toList
theorem cmpK_range (a b : ByteArray) : cmpK a b = -1 ∨ cmpK a b = 0 ∨ cmpK a b = 1 := cmp_range _ _
theorem ba_ext {a b : ByteArray} (h : a.data.toList = b.data.toList) : a = b := (str_toList a).symm.trans ((congrArg str h).trans (str_toList b))
theorem cmpK_0 (a b : ByteArray) : cmpK a b = 0 ↔ a = b := by
  unfold cmpK
  rw [cmp_eq0]
  exact ⟨ba_ext, fun h => by rw [h]⟩
theorem cmpK_neg (a b : ByteArray) : cmpK b a = - cmpK a b := cmp_neg _ _
theorem cmpK_trans {a b c : ByteArray} (h1 : cmpK a b < 0) (h2 : cmpK b c < 0) : cmpK a c < 0 := by
  have := cmp_trans a.data.toList b.data.toList c.data.toList (by have := cmpK_range a b; unfold cmpK at *; omega) (by have := cmpK_range b c; unfold cmpK at *; omega)
  unfold cmpK
  omega
/-- does one entry stand ahead of another? -/
def lessE (x y : Ent) : Bool := decide (cmpK x.key y.key < 0) || (decide (cmpK x.key y.key = 0) && decide (y.seq < x.seq))
theorem lessE_iff (x y : Ent) : lessE x y = true ↔ cmpK x.key y.key < 0 ∨ (x.key = y.key ∧ y.seq < x.seq) := by
  simp [lessE, cmpK_0]
theorem lessE_irrefl (x : Ent) : lessE x x = false := by
  have h : cmpK x.key x.key = 0 := (cmpK_0 _ _).2 rfl
  simp [lessE, h]
theorem lessE_trans {x y z : Ent} (h1 : lessE x y = true) (h2 : lessE y z = true) : lessE x z = true := by
  rw [lessE_iff] at *
  rcases h1 with h1 | ⟨h1, h1'⟩ <;> rcases h2 with h2 | ⟨h2, h2'⟩
  · exact .inl (cmpK_trans h1 h2)
  · rw [h2] at h1; exact .inl h1
  · rw [← h1] at h2; exact .inl h2
  · exact .inr ⟨h1.trans h2, by omega⟩
theorem lessE_total {x y : Ent} (h : x.key ≠ y.key ∨ x.seq ≠ y.seq) : lessE x y = true ∨ lessE y x = true := by
  have hr := cmpK_range x.key y.key
  have hn := cmpK_neg x.key y.key
  have h0 := cmpK_0 x.key y.key
  simp only [lessE_iff]
  rcases hr with hr | hr | hr
  · exact .inl (.inl (by omega))
  · have hk := h0.1 hr
    rcases h with h | h
    · exact absurd hk h
    · by_cases hs : y.seq < x.seq
      · exact .inl (.inr ⟨hk, hs⟩)
      · exact .inr (.inr ⟨hk.symm, by omega⟩)
  · exact .inr (.inl (by omega))
theorem lessE_asymm {x y : Ent} (h : lessE x y = true) : lessE y x = false := by
  cases h2 : lessE y x with
  | false => rfl
  | true => have := lessE_trans h h2; rw [lessE_irrefl] at this; cases this
/-- the order as a number -/
def cmpE (x y : Ent) : Int := if cmpK x.key y.key ≠ 0 then cmpK x.key y.key else if y.seq < x.seq then -1 else if x.seq < y.seq then 1 else 0
theorem cmpE_less (x y : Ent) : decide (cmpE x y < 0) = lessE x y := by
  have hr := cmpK_range x.key y.key
  unfold cmpE lessE
  by_cases h : cmpK x.key y.key = 0
  · rw [if_neg (by simp [h])]
    by_cases h2 : y.seq < x.seq
    · simp [h, h2]
    · by_cases h3 : x.seq < y.seq <;> simp [h, h2, h3]
  · rw [if_pos h]
    simp [h]
end Go.Proofs.Ytmgdcebbeglcmaa.En
