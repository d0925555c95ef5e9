/- A sorted list to which entries are put: no program in sight. -/
import Derived.Test.YtdhnkalkfipmhaaSkipP
import Derived.Test.YtdhnkalkfipmhaaGoodI
namespace Go.Proofs.Ytdhnkalkfipmhaa.En
set_option linter.unusedVariables false

theorem goodE_sz6 {e : Ent} (h : goodE e = 0) : e.key.size ≤ 64 ∧ e.val.size ≤ 512 := by
  unfold goodE at h
  by_cases h1 : 64 < e.key.size ∨ 512 < e.val.size
  · rw [if_pos h1] at h; simp at h
  · omega
/-- how many stand ahead -/
def lessN (e : Ent) : List Ent → Nat
  | [] => 0
  | x :: t => if lessE x e = true then lessN e t + 1 else 0
def sameK (x e : Ent) : Bool := decide (x.key = e.key) && decide (x.seq = e.seq)
def thereE (L : List Ent) (e : Ent) : Bool := L.any (fun x => sameK x e)
/-- the list behind a put, and the answer -/
def skE (L : List Ent) (e : Ent) : List Ent × Int :=
  if goodE e ≠ 0 then (L, goodE e) else if thereE L e = true then (L, 11) else (L.take (lessN e L) ++ e :: L.drop (lessN e L), 0)

theorem lessN_le (e : Ent) : ∀ L : List Ent, lessN e L ≤ L.length
  | [] => Nat.le_refl _
  | x :: t => by have := lessN_le e t; simp only [lessN, List.length_cons]; split <;> omega
theorem lessN_lt (e : Ent) : ∀ (L : List Ent) (i : Nat), i < lessN e L → lessE (L.getD i ent0) e = true
  | [], i, h => by simp [lessN] at h
  | x :: t, i, h => by
    simp only [lessN] at h
    by_cases hx : lessE x e = true
    · rw [if_pos hx] at h
      cases i with
      | zero => simpa using hx
      | succ i => simpa using lessN_lt e t i (by omega)
    · rw [if_neg hx] at h; omega
theorem lessN_at (e : Ent) : ∀ (L : List Ent), lessN e L < L.length → lessE (L.getD (lessN e L) ent0) e = false
  | [], h => by simp at h
  | x :: t, h => by
    simp only [lessN, List.length_cons] at h ⊢
    by_cases hx : lessE x e = true
    · rw [if_pos hx] at h ⊢
      simpa using lessN_at e t (by omega)
    · rw [if_neg hx]
      simpa using hx
theorem lessN_ge {e : Ent} {L : List Ent} (hs : Sorted L) {i : Nat} (h1 : lessN e L ≤ i) (h2 : i < L.length) : lessE (L.getD i ent0) e = false := by
  have h3 := lessN_at e L (by omega)
  by_cases hi : i = lessN e L
  · subst hi; exact h3
  · exact not_less (hs _ _ (by omega) h2) h3
theorem lessE_of_same {x y z : Ent} (h : sameK y z = true) : lessE x y = lessE x z := by
  simp only [sameK, Bool.and_eq_true, decide_eq_true_eq] at h
  unfold lessE
  rw [h.1, h.2]
theorem lessE_same {x y : Ent} (h : sameK x y = true) : lessE x y = false := by
  rw [← lessE_of_same h]; exact lessE_irrefl x
theorem sameK_at {e : Ent} {L : List Ent} (hs : Sorted L) {i : Nat} (hi : i < L.length) (h : sameK (L.getD i ent0) e = true) : i = lessN e L := by
  have h1 := lessE_same h
  have h2 : lessN e L ≤ i := by
    by_cases hlt : i < lessN e L
    · rw [lessN_lt e L i hlt] at h1; cases h1
    · omega
  by_cases h3 : i = lessN e L
  · exact h3
  · have h4 := hs (lessN e L) i (by omega) hi
    rw [lessE_of_same h, lessN_at e L (by omega)] at h4
    cases h4
theorem there_is {e : Ent} {L : List Ent} (hs : Sorted L) : thereE L e = true ↔ lessN e L < L.length ∧ sameK (L.getD (lessN e L) ent0) e = true := by
  unfold thereE
  rw [List.any_eq_true]
  constructor
  · rintro ⟨x, hx, h⟩
    obtain ⟨j, hj, rfl⟩ := List.getElem_of_mem hx
    have e1 : L.getD j ent0 = L[j] := by rw [List.getD_eq_getElem?_getD, List.getElem?_eq_getElem hj]; rfl
    rw [← e1] at h
    have := sameK_at hs hj h
    exact ⟨by omega, by rw [← this]; exact h⟩
  · rintro ⟨h1, h2⟩
    rw [List.getD_eq_getElem?_getD, List.getElem?_eq_getElem h1] at h2
    exact ⟨_, List.getElem_mem h1, h2⟩
theorem not_there {e : Ent} {L : List Ent} (h : thereE L e = false) {i : Nat} (hi : i < L.length) : sameK (L.getD i ent0) e = false := by
  unfold thereE at h
  rw [List.any_eq_false] at h
  have := h _ (List.getElem_mem hi)
  rw [List.getD_eq_getElem?_getD, List.getElem?_eq_getElem hi]
  simpa using this
theorem cmpE_0 (x y : Ent) : cmpE x y = 0 ↔ sameK x y = true := by
  have h0 := cmpK_0 x.key y.key
  simp only [sameK, Bool.and_eq_true, decide_eq_true_eq]
  unfold cmpE
  by_cases h : cmpK x.key y.key = 0
  · rw [if_neg (by simp [h])]
    have := h0.1 h
    by_cases h2 : y.seq < x.seq
    · rw [if_pos h2]; constructor
      · intro h; omega
      · rintro ⟨_, h⟩; omega
    · rw [if_neg h2]
      by_cases h3 : x.seq < y.seq
      · rw [if_pos h3]; constructor
        · intro h; omega
        · rintro ⟨_, h⟩; omega
      · rw [if_neg h3]; constructor
        · intro _; exact ⟨this, by omega⟩
        · intro _; rfl
  · rw [if_pos h]
    constructor
    · intro hh; exact absurd hh h
    · rintro ⟨hk, _⟩; exact absurd (h0.2 hk) h
/-- a list with one more at a place -/
def insE (L : List Ent) (m : Nat) (e : Ent) : List Ent := L.take m ++ e :: L.drop m
theorem insE_len {L : List Ent} {m : Nat} (e : Ent) (hm : m ≤ L.length) : (insE L m e).length = L.length + 1 := by
  unfold insE; rw [List.length_append, List.length_cons, List.length_take, List.length_drop]; omega
theorem insE_getD {L : List Ent} {m : Nat} (e : Ent) (hm : m ≤ L.length) (i : Nat) : (insE L m e).getD i ent0 = if i < m then L.getD i ent0 else if i = m then e else L.getD (i - 1) ent0 := by
  unfold insE
  have hl : (L.take m).length = m := by rw [List.length_take]; omega
  by_cases h : i < m
  · rw [if_pos h, List.getD_eq_getElem?_getD, List.getElem?_append_left (by omega), List.getElem?_take_of_lt h, ← List.getD_eq_getElem?_getD]
  · rw [if_neg h]
    by_cases h2 : i = m
    · subst h2
      rw [if_pos rfl, List.getD_eq_getElem?_getD, List.getElem?_append_right (by omega), hl, Nat.sub_self]; rfl
    · rw [if_neg h2, List.getD_eq_getElem?_getD, List.getElem?_append_right (by omega), hl, show i - m = (i - 1 - m) + 1 from by omega, List.getElem?_cons_succ, List.getElem?_drop, show m + (i - 1 - m) = i - 1 from by omega, ← List.getD_eq_getElem?_getD]
theorem sorted_ins {L : List Ent} {e : Ent} (hs : Sorted L) (hn : thereE L e = false) : Sorted (insE L (lessN e L) e) := by
  have hm := lessN_le e L
  intro i j hij hj
  rw [insE_len e hm] at hj
  rw [insE_getD e hm, insE_getD e hm]
  have gt : ∀ k, lessN e L ≤ k → k < L.length → lessE e (L.getD k ent0) = true := fun k h1 h2 => by
    have h3 := lessN_ge hs h1 h2
    have h4 := not_there hn h2
    simp only [sameK, Bool.and_eq_false_iff, decide_eq_false_iff_not] at h4
    rcases lessE_total h4 with h5 | h5
    · rw [h3] at h5; cases h5
    · exact h5
  by_cases h1 : i < lessN e L
  · rw [if_pos h1]
    by_cases h2 : j < lessN e L
    · rw [if_pos h2]; exact hs i j hij (by omega)
    · rw [if_neg h2]
      by_cases h3 : j = lessN e L
      · rw [if_pos h3]; exact lessN_lt e L i h1
      · rw [if_neg h3]; exact lessE_trans (lessN_lt e L i h1) (gt (j - 1) (by omega) (by omega))
  · rw [if_neg h1, if_neg (show ¬ j < lessN e L by omega), if_neg (show ¬ j = lessN e L by omega)]
    by_cases h3 : i = lessN e L
    · rw [if_pos h3]; exact gt (j - 1) (by omega) (by omega)
    · rw [if_neg h3]; exact hs (i - 1) (j - 1) (by omega) (by omega)
theorem skE_sorted {L : List Ent} {e : Ent} (hs : Sorted L) : Sorted (skE L e).1 := by
  unfold skE
  split
  · exact hs
  · split
    · exact hs
    · rename_i h; exact sorted_ins hs (by simpa using h)
theorem skE_len (L : List Ent) (e : Ent) : (skE L e).1.length ≤ L.length + 1 := by
  unfold skE
  split
  · simp
  · split
    · simp
    · have := insE_len e (lessN_le e L); unfold insE at this; simp only; omega
theorem map_getD (ns : List Nd) (i : Nat) (hi : i < ns.length) : (ns.map Nd.e).getD i ent0 = (ns.getD i nd0).e := by
  rw [List.getD_eq_getElem?_getD, List.getElem?_map, List.getElem?_eq_getElem hi, List.getD_eq_getElem?_getD, List.getElem?_eq_getElem hi]; rfl
theorem map_ins (ns : List Nd) (m : Nat) (x : Nd) : (ins ns m x).map Nd.e = insE (ns.map Nd.e) m x.e := by unfold ins insE; simp [List.map_take, List.map_drop]
theorem lastIx_0 {ns : List Nd} (h : ∀ i, i < ns.length → 1 ≤ (ns.getD i nd0).h) {m : Nat} (hm : m ≤ ns.length) : lastIx ns 0 m = m := by
  refine lastIx_is (Nat.le_refl _) ?_ (fun i h1 h2 => by omega)
  by_cases h0 : m = 0
  · exact .inl h0
  · exact .inr (h (m - 1) (by omega))
theorem next_0 {ns : List Nd} (h : ∀ i, i < ns.length → 1 ≤ (ns.getD i nd0).h) {m : Nat} : nxt (ns.drop m) 0 = if m < ns.length then some (ns.getD m nd0) else none := by
  by_cases hm : m < ns.length
  · rw [if_pos hm]
    have h1 := h m hm
    rw [List.getD_eq_getElem?_getD, List.getElem?_eq_getElem hm] at h1 ⊢
    rw [List.drop_eq_getElem_cons hm]
    simp only [nxt, Option.getD_some] at h1 ⊢
    rw [if_pos (by omega)]
  · rw [if_neg hm, List.drop_of_length_le (by omega)]; rfl
/-- behind the last place ahead that is so high comes what comes behind all that are ahead -/
theorem next_last {ns : List Nd} {f m : Nat} (hm : m ≤ ns.length) : nxt (ns.drop (lastIx ns f m)) f = nxt (ns.drop m) f := by
  have hle := lastIx_le ns f m
  have hl : (ns.take m).length = m := by rw [List.length_take]; omega
  have e3 : ∀ p, p ≤ m → ns.drop p = (ns.take m).drop p ++ ns.drop m := fun p hp => by
    conv => lhs; rw [← List.take_append_drop m ns]
    rw [List.drop_append, hl, show p - m = 0 from by omega, List.drop_zero]
  have e2 := e3 _ hle
  rw [e2, nxt_append]
  cases hq : nxt ((ns.take m).drop (lastIx ns f m)) f with
  | none => rfl
  | some y =>
    obtain ⟨j, h1, h2, h3, h4, _⟩ := next_some hq
    rw [hl] at h2
    have hlow := lastIx_low (ns := ns) (f := f) (m := m) j h1 h2
    rw [show (ns.take m).getD j nd0 = ns.getD j nd0 from by rw [List.getD_eq_getElem?_getD, List.getElem?_take_of_lt h2, ← List.getD_eq_getElem?_getD]] at h3
    subst h3
    omega
end Go.Proofs.Ytdhnkalkfipmhaa.En
