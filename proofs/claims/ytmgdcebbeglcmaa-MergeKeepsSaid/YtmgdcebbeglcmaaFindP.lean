/- The newest entry of a key up to a number: no program in sight. -/
import Derived.Test.YtmgdcebbeglcmaaBlockP
namespace Go.Proofs.Ytmgdcebbeglcmaa.En
open B Vp
set_option linter.unusedVariables false

/-- is it of this key, and not above this number? -/
def isK (key : ByteArray) (seq : Int) (e : Ent) : Bool := decide (e.key = key) && decide (e.seq ≤ seq)
def foundE (l : List Ent) (key : ByteArray) (seq : Int) : Ent × Bool := match l.find? (isK key seq) with | some e => (e, true) | none => (ent0, false)

theorem find_first (P : Ent → Bool) : ∀ (l : List Ent) (i : Nat), i < l.length → (∀ k, k < i → P (l.getD k ent0) = false) → P (l.getD i ent0) = true → l.find? P = some (l.getD i ent0)
  | [], i, h, _, _ => by simp at h
  | e :: t, 0, _, _, h => by simp only [List.getD_cons_zero] at h ⊢; rw [List.find?_cons, h]
  | e :: t, i + 1, h, h1, h2 => by
    have h0 := h1 0 (by omega)
    rw [List.getD_cons_zero] at h0
    rw [List.find?_cons, h0]
    rw [List.getD_cons_succ] at h2 ⊢
    exact find_first P t i (by simpa using h) (fun k hk => by have := h1 (k + 1) (by omega); rwa [List.getD_cons_succ] at this) h2
theorem find_none (P : Ent → Bool) (l : List Ent) (h : ∀ k, k < l.length → P (l.getD k ent0) = false) : l.find? P = none := by
  rw [List.find?_eq_none]
  intro x hx
  obtain ⟨j, hj, rfl⟩ := List.getElem_of_mem hx
  have := h j hj
  rw [List.getD_eq_getElem?_getD, List.getElem?_eq_getElem hj] at this
  simp only [Option.getD_some] at this
  simp [this]
theorem found_at {l : List Ent} {key : ByteArray} {seq : Int} (i : Nat) (h : i < l.length) (h1 : ∀ k, k < i → isK key seq (l.getD k ent0) = false) (h2 : isK key seq (l.getD i ent0) = true) : foundE l key seq = (l.getD i ent0, true) := by
  unfold foundE; rw [find_first _ l i h h1 h2]
theorem found_no {l : List Ent} {key : ByteArray} {seq : Int} (h : ∀ k, k < l.length → isK key seq (l.getD k ent0) = false) : foundE l key seq = (ent0, false) := by
  unfold foundE; rw [find_none _ l h]

/-- each stands ahead of all behind it -/
def Sorted (l : List Ent) : Prop := ∀ i j, i < j → j < l.length → lessE (l.getD i ent0) (l.getD j ent0) = true
theorem sorted_of {l : List Ent} (h : ∀ j, j < l.length → nextE (l.take j) (l.getD j ent0) = 0) : Sorted l := by
  have step : ∀ j, j + 1 < l.length → lessE (l.getD j ent0) (l.getD (j + 1) ent0) = true := fun j hj => by
    have := (nextE_0 (h (j + 1) hj)).2.2 (by rw [List.length_take]; omega)
    rwa [lastE_take l j (by omega)] at this
  intro i j hij
  induction j with
  | zero => omega
  | succ j ih =>
    intro hj
    by_cases h2 : i = j
    · subst h2; exact step i hj
    · exact lessE_trans (ih (by omega) (by omega)) (step j hj)
theorem not_less {x y z : Ent} (h : lessE x y = true) (hx : lessE x z = false) : lessE y z = false := by
  cases h2 : lessE y z with
  | false => rfl
  | true => rw [lessE_trans h h2] at hx; cases hx
theorem isK_less {key : ByteArray} {seq : Int} {e : Ent} {g : Bool} {v : ByteArray} {u : Int} (h : isK key seq e = true) : lessE e ⟨key, seq, g, v, u⟩ = false := by
  simp only [isK, Bool.and_eq_true, decide_eq_true_eq] at h
  obtain ⟨h1, h2⟩ := h
  cases h3 : lessE e ⟨key, seq, g, v, u⟩ with
  | false => rfl
  | true =>
    rw [lessE_iff] at h3
    rcases h3 with h3 | ⟨_, h3⟩
    · have := (cmpK_0 e.key key).2 h1
      simp only at h3; omega
    · simp only at h3; omega
/-- the first that does not stand ahead of what is asked for -/
theorem found_here {l : List Ent} {key : ByteArray} {seq : Int} {g : Bool} {v : ByteArray} {u : Int} (p : Nat) (hp : p < l.length) (h1 : ∀ k, k < p → lessE (l.getD k ent0) ⟨key, seq, g, v, u⟩ = true)
    (h2 : lessE (l.getD p ent0) ⟨key, seq, g, v, u⟩ = false) (hk : (l.getD p ent0).key = key) : foundE l key seq = (l.getD p ent0, true) := by
  refine found_at p hp (fun k hk => ?_) ?_
  · cases h : isK key seq (l.getD k ent0) with
    | false => rfl
    | true => have a := isK_less (g := g) (v := v) (u := u) h; rw [h1 k hk] at a; cases a
  · simp only [isK, Bool.and_eq_true, decide_eq_true_eq]
    refine ⟨hk, ?_⟩
    have : ¬ lessE (l.getD p ent0) ⟨key, seq, g, v, u⟩ = true := by rw [h2]; decide
    rw [lessE_iff] at this
    have h3 : ¬ (seq < (l.getD p ent0).seq) := fun h => this (.inr ⟨hk, h⟩)
    omega
theorem found_not {l : List Ent} (hs : Sorted l) {key : ByteArray} {seq : Int} {g : Bool} {v : ByteArray} {u : Int} (p : Nat) (h1 : ∀ k, k < p → k < l.length → lessE (l.getD k ent0) ⟨key, seq, g, v, u⟩ = true)
    (h2 : p < l.length → lessE (l.getD p ent0) ⟨key, seq, g, v, u⟩ = false ∧ (l.getD p ent0).key ≠ key) : foundE l key seq = (ent0, false) := by
  refine found_no fun k hk => ?_
  cases h : isK key seq (l.getD k ent0) with
  | false => rfl
  | true =>
    have a := isK_less (g := g) (v := v) (u := u) h
    have hkp : p ≤ k := by
      by_cases hlt : k < p
      · rw [h1 k hlt hk] at a; cases a
      · omega
    have hpl : p < l.length := by omega
    obtain ⟨b, c⟩ := h2 hpl
    simp only [isK, Bool.and_eq_true, decide_eq_true_eq] at h
    by_cases hpk : k = p
    · subst hpk; exact absurd h.1 c
    · have hl := hs p k (by omega) hk
      have hr := cmpK_range (l.getD p ent0).key key
      have hb : ¬ lessE (l.getD p ent0) ⟨key, seq, g, v, u⟩ = true := by rw [b]; decide
      rw [lessE_iff] at hb hl
      have h0 := cmpK_0 (l.getD p ent0).key key
      have e1 : cmpK (l.getD p ent0).key key = 1 := by
        rcases hr with hr | hr | hr
        · exact absurd (.inl (by simp only; omega)) hb
        · exact absurd (h0.1 hr) c
        · exact hr
      rw [h.1] at hl
      rcases hl with hl | ⟨hl, _⟩
      · omega
      · exact absurd hl c
end Go.Proofs.Ytmgdcebbeglcmaa.En
