/- Towers over entries in order: no program in sight. -/
import Derived.Test.YtdhnkalkfipmhaaFindP
namespace Go.Proofs.Ytdhnkalkfipmhaa.En
set_option linter.unusedVariables false

/-- a node: its block, that of its next ones, its height, its entry -/
structure Nd where
  b : Nat
  a : Nat
  h : Nat
  e : Ent
def nd0 : Nd := ⟨0, 0, 0, ent0⟩
/-- the first of at least this height -/
def nxt : List Nd → Nat → Option Nd
  | [], _ => none
  | n :: t, f => if f < n.h then some n else nxt t f
/-- on a floor the last place up to m that is so high (0: the head) -/
def lastIx (ns : List Nd) (f : Nat) : Nat → Nat
  | 0 => 0
  | m + 1 => if f < (ns.getD m nd0).h then m + 1 else lastIx ns f m
theorem lastIx_le (ns : List Nd) (f : Nat) : ∀ m, lastIx ns f m ≤ m
  | 0 => Nat.le_refl _
  | m + 1 => by
    have := lastIx_le ns f m
    simp only [lastIx]
    split <;> omega
theorem lastIx_is {ns : List Nd} {f p : Nat} : ∀ {m : Nat}, p ≤ m → (p = 0 ∨ f < (ns.getD (p - 1) nd0).h) → (∀ i, p ≤ i → i < m → (ns.getD i nd0).h ≤ f) → lastIx ns f m = p
  | 0, h, _, _ => by simp [lastIx]; omega
  | m + 1, h, h1, h2 => by
    simp only [lastIx]
    by_cases hp : p = m + 1
    · subst hp
      rw [if_pos (by rcases h1 with h1 | h1; · omega
                     · simpa using h1)]
    · have := h2 m (by omega) (by omega)
      rw [if_neg (by omega)]
      exact lastIx_is (by omega) h1 (fun i h3 h4 => h2 i h3 (by omega))
theorem lastIx_high {ns : List Nd} {f : Nat} : ∀ {m : Nat}, lastIx ns f m = 0 ∨ f < (ns.getD (lastIx ns f m - 1) nd0).h
  | 0 => .inl rfl
  | m + 1 => by
    simp only [lastIx]
    split
    · rename_i h; exact .inr (by simpa using h)
    · exact lastIx_high
theorem lastIx_low {ns : List Nd} {f : Nat} : ∀ {m : Nat} (i : Nat), lastIx ns f m ≤ i → i < m → (ns.getD i nd0).h ≤ f
  | 0, i, _, h => by omega
  | m + 1, i, h1, h2 => by
    simp only [lastIx] at h1
    by_cases hf : f < (ns.getD m nd0).h
    · rw [if_pos hf] at h1; omega
    · rw [if_neg hf] at h1
      by_cases hi : i = m
      · subst hi; omega
      · exact lastIx_low i h1 (by omega)
theorem nxt_some {f : Nat} {x : Nd} : ∀ {t : List Nd}, nxt t f = some x → ∃ j, j < t.length ∧ t.getD j nd0 = x ∧ f < x.h ∧ ∀ i, i < j → (t.getD i nd0).h ≤ f
  | [], h => by simp [nxt] at h
  | n :: t, h => by
    simp only [nxt] at h
    by_cases hf : f < n.h
    · rw [if_pos hf] at h
      cases h
      exact ⟨0, by simp, by simp, hf, fun i hi => by omega⟩
    · rw [if_neg hf] at h
      obtain ⟨j, h1, h2, h3, h4⟩ := nxt_some h
      refine ⟨j + 1, by simpa using h1, by simpa using h2, h3, fun i hi => ?_⟩
      cases i with
      | zero => simpa using Nat.le_of_not_lt hf
      | succ i => simpa using h4 i (by omega)
theorem nxt_none {f : Nat} : ∀ {t : List Nd}, nxt t f = none → ∀ i, i < t.length → (t.getD i nd0).h ≤ f
  | [], _, i, h => by simp at h
  | n :: t, h, i, hi => by
    simp only [nxt] at h
    by_cases hf : f < n.h
    · rw [if_pos hf] at h; cases h
    · rw [if_neg hf] at h
      cases i with
      | zero => simpa using Nat.le_of_not_lt hf
      | succ i => simpa using nxt_none h i (by simpa using hi)
theorem getD_drop (ns : List Nd) (p i : Nat) : (ns.drop p).getD i nd0 = ns.getD (p + i) nd0 := by simp [List.getD_eq_getElem?_getD, List.getElem?_drop]
theorem next_some {ns : List Nd} {p f : Nat} {x : Nd} (h : nxt (ns.drop p) f = some x) : ∃ j, p ≤ j ∧ j < ns.length ∧ ns.getD j nd0 = x ∧ f < x.h ∧ ∀ i, p ≤ i → i < j → (ns.getD i nd0).h ≤ f := by
  obtain ⟨j, h1, h2, h3, h4⟩ := nxt_some h
  rw [List.length_drop] at h1
  rw [getD_drop] at h2
  refine ⟨p + j, by omega, by omega, h2, h3, fun i h5 h6 => ?_⟩
  have := h4 (i - p) (by omega)
  rwa [getD_drop, show p + (i - p) = i from by omega] at this
theorem next_none {ns : List Nd} {p f : Nat} (h : nxt (ns.drop p) f = none) : ∀ i, p ≤ i → i < ns.length → (ns.getD i nd0).h ≤ f := fun i h1 h2 => by
  have := nxt_none h (i - p) (by rw [List.length_drop]; omega)
  rwa [getD_drop, show p + (i - p) = i from by omega] at this
theorem nxt_append (f : Nat) : ∀ (s t : List Nd), nxt (s ++ t) f = match nxt s f with | some x => some x | none => nxt t f
  | [], t => rfl
  | n :: s, t => by
    simp only [List.cons_append, nxt]
    split
    · rfl
    · exact nxt_append f s t
/-- the list with one node more -/
def ins (ns : List Nd) (m : Nat) (x : Nd) : List Nd := ns.take m ++ x :: ns.drop m
theorem ins_len {ns : List Nd} {m : Nat} (x : Nd) (hm : m ≤ ns.length) : (ins ns m x).length = ns.length + 1 := by
  unfold ins; rw [List.length_append, List.length_cons, List.length_take, List.length_drop]; omega
theorem ins_lt {ns : List Nd} {m : Nat} (x : Nd) (hm : m ≤ ns.length) {i : Nat} (hi : i < m) : (ins ns m x).getD i nd0 = ns.getD i nd0 := by
  unfold ins
  rw [List.getD_eq_getElem?_getD, List.getElem?_append_left (by rw [List.length_take]; omega), List.getElem?_take_of_lt hi, ← List.getD_eq_getElem?_getD]
theorem ins_at {ns : List Nd} {m : Nat} (x : Nd) (hm : m ≤ ns.length) : (ins ns m x).getD m nd0 = x := by
  unfold ins
  have hl : (ns.take m).length = m := by rw [List.length_take]; omega
  rw [List.getD_eq_getElem?_getD, List.getElem?_append_right (by omega), hl, Nat.sub_self]; rfl
theorem ins_gt {ns : List Nd} {m : Nat} (x : Nd) (hm : m ≤ ns.length) {i : Nat} (hi : m ≤ i) : (ins ns m x).getD (i + 1) nd0 = ns.getD i nd0 := by
  unfold ins
  have hl : (ns.take m).length = m := by rw [List.length_take]; omega
  rw [List.getD_eq_getElem?_getD, List.getElem?_append_right (by omega), hl, show i + 1 - m = (i - m) + 1 from by omega, List.getElem?_cons_succ, List.getElem?_drop, show m + (i - m) = i from by omega, ← List.getD_eq_getElem?_getD]
theorem ins_drop_gt {ns : List Nd} {m : Nat} (x : Nd) (hm : m ≤ ns.length) {p : Nat} (hp : m ≤ p) : (ins ns m x).drop (p + 1) = ns.drop p := by
  unfold ins
  have hl : (ns.take m).length = m := by rw [List.length_take]; omega
  rw [List.drop_append, hl, List.drop_of_length_le (by omega), List.nil_append, show p + 1 - m = (p - m) + 1 from by omega, List.drop_succ_cons, List.drop_drop, show m + (p - m) = p from by omega]
/-- what a place ahead of the new node points to -/
theorem ins_next {ns : List Nd} {m : Nat} (x : Nd) (hm : m ≤ ns.length) {p f : Nat} (hp : p ≤ m) (hh : p = 0 ∨ f < (ns.getD (p - 1) nd0).h) :
    nxt ((ins ns m x).drop p) f = if f < x.h ∧ lastIx ns f m = p then some x else nxt (ns.drop p) f := by
  have hl : (ns.take m).length = m := by rw [List.length_take]; omega
  have e1 : (ins ns m x).drop p = (ns.take m).drop p ++ x :: ns.drop m := by
    unfold ins
    rw [List.drop_append, hl, show p - m = 0 from by omega, List.drop_zero]
  have e2 : ns.drop p = (ns.take m).drop p ++ ns.drop m := by
    conv => lhs; rw [← List.take_append_drop m ns]
    rw [List.drop_append, hl, show p - m = 0 from by omega, List.drop_zero]
  rw [e1, e2, nxt_append, nxt_append]
  cases hq : nxt ((ns.take m).drop p) f with
  | some y =>
    obtain ⟨j, h1, h2, h3, h4, _⟩ := next_some hq
    rw [hl] at h2
    have : lastIx ns f m ≠ p := fun he => by
      have hlow := lastIx_low (ns := ns) (f := f) (m := m) j (by omega) h2
      have : (ns.take m).getD j nd0 = ns.getD j nd0 := by rw [List.getD_eq_getElem?_getD, List.getElem?_take_of_lt h2, ← List.getD_eq_getElem?_getD]
      rw [this] at h3
      subst h3
      omega
    rw [if_neg (fun hh => this hh.2)]
  | none =>
    have hn := next_none hq
    rw [hl] at hn
    have he : lastIx ns f m = p := lastIx_is hp hh (fun i h1 h2 => by
      have := hn i h1 h2
      rwa [show (ns.take m).getD i nd0 = ns.getD i nd0 from by rw [List.getD_eq_getElem?_getD, List.getElem?_take_of_lt h2, ← List.getD_eq_getElem?_getD]] at this)
    show nxt (x :: ns.drop m) f = _
    simp only [nxt]
    by_cases hx : f < x.h
    · rw [if_pos hx, if_pos ⟨hx, he⟩]
    · rw [if_neg hx, if_neg (fun hh => hx hh.1)]
end Go.Proofs.Ytdhnkalkfipmhaa.En
