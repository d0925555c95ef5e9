/- Lists in order: entries put into them, the newest up to a number, what is kept: no program in sight. -/
import Derived.Test.YtmgdcebbeglcmaaFindP
namespace Go.Proofs.Ytmgdcebbeglcmaa.En
set_option linter.unusedVariables false

/-- how many stand ahead -/
def lessN (e : Ent) : List Ent → Nat
  | [] => 0
  | x :: t => if lessE x e = true then lessN e t + 1 else 0
def sameK (x e : Ent) : Bool := decide (x.key = e.key) && decide (x.seq = e.seq)
def thereE (L : List Ent) (e : Ent) : Bool := L.any (fun x => sameK x e)
theorem lessN_le (e : Ent) : ∀ L : List Ent, lessN e L ≤ L.length
  | [] => Nat.le_refl _
  | x :: t => by have := lessN_le e t; simp only [lessN, List.length_cons]; split <;> omega
theorem lessN_lt (e : Ent) : ∀ (L : List Ent) (i : Nat), i < lessN e L → lessE (L.getD i ent0) e = true
  | [], i, h => by simp [lessN] at h
  | x :: t, i, h => by
    simp only [lessN] at h
    by_cases hx : lessE x e = true
    · rw [if_pos hx] at h
      cases i with
      | zero => simpa using hx
      | succ i => simpa using lessN_lt e t i (by omega)
    · rw [if_neg hx] at h; omega
theorem lessN_at (e : Ent) : ∀ (L : List Ent), lessN e L < L.length → lessE (L.getD (lessN e L) ent0) e = false
  | [], h => by simp at h
  | x :: t, h => by
    simp only [lessN, List.length_cons] at h ⊢
    by_cases hx : lessE x e = true
    · rw [if_pos hx] at h ⊢
      simpa using lessN_at e t (by omega)
    · rw [if_neg hx]
      simpa using hx
theorem lessN_ge {e : Ent} {L : List Ent} (hs : Sorted L) {i : Nat} (h1 : lessN e L ≤ i) (h2 : i < L.length) : lessE (L.getD i ent0) e = false := by
  have h3 := lessN_at e L (by omega)
  by_cases hi : i = lessN e L
  · subst hi; exact h3
  · exact not_less (hs _ _ (by omega) h2) h3
theorem lessE_of_same {x y z : Ent} (h : sameK y z = true) : lessE x y = lessE x z := by
  simp only [sameK, Bool.and_eq_true, decide_eq_true_eq] at h
  unfold lessE
  rw [h.1, h.2]
theorem lessE_same {x y : Ent} (h : sameK x y = true) : lessE x y = false := by
  rw [← lessE_of_same h]; exact lessE_irrefl x
theorem sameK_at {e : Ent} {L : List Ent} (hs : Sorted L) {i : Nat} (hi : i < L.length) (h : sameK (L.getD i ent0) e = true) : i = lessN e L := by
  have h1 := lessE_same h
  have h2 : lessN e L ≤ i := by
    by_cases hlt : i < lessN e L
    · rw [lessN_lt e L i hlt] at h1; cases h1
    · omega
  by_cases h3 : i = lessN e L
  · exact h3
  · have h4 := hs (lessN e L) i (by omega) hi
    rw [lessE_of_same h, lessN_at e L (by omega)] at h4
    cases h4
theorem there_is {e : Ent} {L : List Ent} (hs : Sorted L) : thereE L e = true ↔ lessN e L < L.length ∧ sameK (L.getD (lessN e L) ent0) e = true := by
  unfold thereE
  rw [List.any_eq_true]
  constructor
  · rintro ⟨x, hx, h⟩
    obtain ⟨j, hj, rfl⟩ := List.getElem_of_mem hx
    have e1 : L.getD j ent0 = L[j] := by rw [List.getD_eq_getElem?_getD, List.getElem?_eq_getElem hj]; rfl
    rw [← e1] at h
    have := sameK_at hs hj h
    exact ⟨by omega, by rw [← this]; exact h⟩
  · rintro ⟨h1, h2⟩
    rw [List.getD_eq_getElem?_getD, List.getElem?_eq_getElem h1] at h2
    exact ⟨_, List.getElem_mem h1, h2⟩
theorem not_there {e : Ent} {L : List Ent} (h : thereE L e = false) {i : Nat} (hi : i < L.length) : sameK (L.getD i ent0) e = false := by
  unfold thereE at h
  rw [List.any_eq_false] at h
  have := h _ (List.getElem_mem hi)
  rw [List.getD_eq_getElem?_getD, List.getElem?_eq_getElem hi]
  simpa using this
theorem cmpE_0 (x y : Ent) : cmpE x y = 0 ↔ sameK x y = true := by
  have h0 := cmpK_0 x.key y.key
  simp only [sameK, Bool.and_eq_true, decide_eq_true_eq]
  unfold cmpE
  by_cases h : cmpK x.key y.key = 0
  · rw [if_neg (by simp [h])]
    have := h0.1 h
    by_cases h2 : y.seq < x.seq
    · rw [if_pos h2]; constructor
      · intro h; omega
      · rintro ⟨_, h⟩; omega
    · rw [if_neg h2]
      by_cases h3 : x.seq < y.seq
      · rw [if_pos h3]; constructor
        · intro h; omega
        · rintro ⟨_, h⟩; omega
      · rw [if_neg h3]; constructor
        · intro _; exact ⟨this, by omega⟩
        · intro _; rfl
  · rw [if_pos h]
    constructor
    · intro hh; exact absurd hh h
    · rintro ⟨hk, _⟩; exact absurd (h0.2 hk) h
/-- a list with one more at a place -/
def insE (L : List Ent) (m : Nat) (e : Ent) : List Ent := L.take m ++ e :: L.drop m
theorem insE_len {L : List Ent} {m : Nat} (e : Ent) (hm : m ≤ L.length) : (insE L m e).length = L.length + 1 := by
  unfold insE; rw [List.length_append, List.length_cons, List.length_take, List.length_drop]; omega
theorem insE_getD {L : List Ent} {m : Nat} (e : Ent) (hm : m ≤ L.length) (i : Nat) : (insE L m e).getD i ent0 = if i < m then L.getD i ent0 else if i = m then e else L.getD (i - 1) ent0 := by
  unfold insE
  have hl : (L.take m).length = m := by rw [List.length_take]; omega
  by_cases h : i < m
  · rw [if_pos h, List.getD_eq_getElem?_getD, List.getElem?_append_left (by omega), List.getElem?_take_of_lt h, ← List.getD_eq_getElem?_getD]
  · rw [if_neg h]
    by_cases h2 : i = m
    · subst h2
      rw [if_pos rfl, List.getD_eq_getElem?_getD, List.getElem?_append_right (by omega), hl, Nat.sub_self]; rfl
    · rw [if_neg h2, List.getD_eq_getElem?_getD, List.getElem?_append_right (by omega), hl, show i - m = (i - 1 - m) + 1 from by omega, List.getElem?_cons_succ, List.getElem?_drop, show m + (i - 1 - m) = i - 1 from by omega, ← List.getD_eq_getElem?_getD]
theorem sorted_ins {L : List Ent} {e : Ent} (hs : Sorted L) (hn : thereE L e = false) : Sorted (insE L (lessN e L) e) := by
  have hm := lessN_le e L
  intro i j hij hj
  rw [insE_len e hm] at hj
  rw [insE_getD e hm, insE_getD e hm]
  have gt : ∀ k, lessN e L ≤ k → k < L.length → lessE e (L.getD k ent0) = true := fun k h1 h2 => by
    have h3 := lessN_ge hs h1 h2
    have h4 := not_there hn h2
    simp only [sameK, Bool.and_eq_false_iff, decide_eq_false_iff_not] at h4
    rcases lessE_total h4 with h5 | h5
    · rw [h3] at h5; cases h5
    · exact h5
  by_cases h1 : i < lessN e L
  · rw [if_pos h1]
    by_cases h2 : j < lessN e L
    · rw [if_pos h2]; exact hs i j hij (by omega)
    · rw [if_neg h2]
      by_cases h3 : j = lessN e L
      · rw [if_pos h3]; exact lessN_lt e L i h1
      · rw [if_neg h3]; exact lessE_trans (lessN_lt e L i h1) (gt (j - 1) (by omega) (by omega))
  · rw [if_neg h1, if_neg (show ¬ j < lessN e L by omega), if_neg (show ¬ j = lessN e L by omega)]
    by_cases h3 : i = lessN e L
    · rw [if_pos h3]; exact gt (j - 1) (by omega) (by omega)
    · rw [if_neg h3]; exact hs (i - 1) (j - 1) (by omega) (by omega)

/-! ### an entry put into a list in order: the first of a key and number stays -/
def mpE (L : List Ent) (e : Ent) : List Ent := if thereE L e = true then L else insE L (lessN e L) e
def mpAll (L es : List Ent) : List Ent := es.foldl mpE L

theorem getD_mem {L : List Ent} {i : Nat} (h : i < L.length) : L.getD i ent0 ∈ L := by
  rw [List.getD_eq_getElem?_getD, List.getElem?_eq_getElem h]; exact List.getElem_mem h
theorem mem_getD {L : List Ent} {x : Ent} (h : x ∈ L) : ∃ i, i < L.length ∧ L.getD i ent0 = x := by
  obtain ⟨i, hi, rfl⟩ := List.getElem_of_mem h
  exact ⟨i, hi, by rw [List.getD_eq_getElem?_getD, List.getElem?_eq_getElem hi]; rfl⟩
theorem sorted_nil : Sorted [] := fun i j _ h => by simp at h
theorem mpE_sorted {L : List Ent} {e : Ent} (hs : Sorted L) : Sorted (mpE L e) := by
  unfold mpE
  split
  · exact hs
  · rename_i h; exact sorted_ins hs (by simpa using h)
theorem mpAll_sorted : ∀ (es : List Ent) {L : List Ent}, Sorted L → Sorted (mpAll L es)
  | [], _, h => h
  | e :: t, L, h => mpAll_sorted t (mpE_sorted (e := e) h)
theorem mem_ins {L : List Ent} {e x : Ent} (m : Nat) : x ∈ insE L m e ↔ x ∈ L ∨ x = e := by
  unfold insE
  rw [List.mem_append, List.mem_cons]
  conv => rhs; rw [← List.take_append_drop m L, List.mem_append]
  constructor
  · rintro (h | h | h)
    · exact .inl (.inl h)
    · exact .inr h
    · exact .inl (.inr h)
  · rintro ((h | h) | h)
    · exact .inl h
    · exact .inr (.inr h)
    · exact .inr (.inl h)
theorem mem_mpE {L : List Ent} {e x : Ent} : x ∈ mpE L e ↔ x ∈ L ∨ (x = e ∧ thereE L e = false) := by
  unfold mpE
  cases h : thereE L e with
  | true => rw [if_pos rfl]; simp
  | false => rw [if_neg (by decide), mem_ins]; simp
theorem thereE_put {L : List Ent} {a e : Ent} (h : sameK a e = false) : thereE (mpE L a) e = thereE L e := by
  rw [Bool.eq_iff_iff]
  unfold thereE
  rw [List.any_eq_true, List.any_eq_true]
  constructor
  · rintro ⟨x, hx, hk⟩
    rcases mem_mpE.1 hx with hx | ⟨rfl, _⟩
    · exact ⟨x, hx, hk⟩
    · rw [h] at hk; cases hk
  · rintro ⟨x, hx, hk⟩; exact ⟨x, mem_mpE.2 (.inl hx), hk⟩
/-- two lists in order with the same entries are one -/
theorem sorted_ext : ∀ (A B : List Ent), Sorted A → Sorted B → (∀ x, x ∈ A ↔ x ∈ B) → A = B
  | [], B, _, _, h => by
    cases B with
    | nil => rfl
    | cons b B => have := (h b).2 (List.mem_cons_self ..); simp at this
  | a :: A, [], _, _, h => by have := (h a).1 (List.mem_cons_self ..); simp at this
  | a :: A, b :: B, ha, hb, h => by
    have tl : ∀ {c : Ent} {C : List Ent}, Sorted (c :: C) → Sorted C := fun hc i j hij hj => by
      have := hc (i + 1) (j + 1) (by omega) (by simp; omega)
      rwa [List.getD_cons_succ, List.getD_cons_succ] at this
    have hd : ∀ {c : Ent} {C : List Ent} {x : Ent}, Sorted (c :: C) → x ∈ C → lessE c x = true := fun hc hx => by
      obtain ⟨i, hi, rfl⟩ := mem_getD hx
      have := hc 0 (i + 1) (by omega) (by simp; omega)
      rwa [List.getD_cons_zero, List.getD_cons_succ] at this
    have hab : a = b := by
      rcases List.mem_cons.1 ((h a).1 (List.mem_cons_self ..)) with e | e
      · exact e
      · rcases List.mem_cons.1 ((h b).2 (List.mem_cons_self ..)) with e2 | e2
        · exact e2.symm
        · have h1 := hd hb e
          have h2 := hd ha e2
          have := lessE_trans h1 h2
          rw [lessE_irrefl] at this; cases this
    subst hab
    have hnot : ∀ {C : List Ent}, Sorted (a :: C) → a ∉ C := fun hc hx => by have := hd hc hx; rw [lessE_irrefl] at this; cases this
    rw [sorted_ext A B (tl ha) (tl hb) fun x => ⟨fun hx => by
      rcases List.mem_cons.1 ((h x).1 (List.mem_cons_of_mem _ hx)) with e | e
      · subst e; exact absurd hx (hnot ha)
      · exact e, fun hx => by
      rcases List.mem_cons.1 ((h x).2 (List.mem_cons_of_mem _ hx)) with e | e
      · subst e; exact absurd hx (hnot hb)
      · exact e⟩]
theorem sameK_comm (a b : Ent) : sameK a b = sameK b a := by
  unfold sameK
  have h1 : decide (a.key = b.key) = decide (b.key = a.key) := by rw [Bool.eq_iff_iff]; simp [eq_comm]
  have h2 : decide (a.seq = b.seq) = decide (b.seq = a.seq) := by rw [Bool.eq_iff_iff]; simp [eq_comm]
  rw [h1, h2]
theorem mpE_comm {L : List Ent} {a e : Ent} (hs : Sorted L) (h : sameK a e = false) : mpE (mpE L a) e = mpE (mpE L e) a := by
  refine sorted_ext _ _ (mpE_sorted (mpE_sorted hs)) (mpE_sorted (mpE_sorted hs)) fun x => ?_
  rw [mem_mpE, mem_mpE, mem_mpE, mem_mpE, thereE_put h, thereE_put (by rw [sameK_comm]; exact h)]
  constructor
  · rintro ((h | h) | h)
    · exact .inl (.inl h)
    · exact .inr h
    · exact .inl (.inr h)
  · rintro ((h | h) | h)
    · exact .inl (.inl h)
    · exact .inr h
    · exact .inl (.inr h)
theorem mpAll_append (L A B : List Ent) : mpAll L (A ++ B) = mpAll (mpAll L A) B := by unfold mpAll; rw [List.foldl_append]
theorem mpAll_cons (L : List Ent) (a : Ent) (A : List Ent) : mpAll L (a :: A) = mpAll (mpE L a) A := rfl
theorem mpAll_snoc (L A : List Ent) (a : Ent) : mpAll L (A ++ [a]) = mpE (mpAll L A) a := by rw [mpAll_append]; rfl
/-- an entry that none ahead is the same as may be put first -/
theorem mpE_mpAll : ∀ (A : List Ent) {L : List Ent} {e : Ent}, Sorted L → (∀ a ∈ A, sameK a e = false) → mpE (mpAll L A) e = mpAll (mpE L e) A
  | [], _, _, _, _ => rfl
  | a :: A, L, e, hs, h => by
    rw [mpAll_cons, mpAll_cons, mpE_mpAll A (mpE_sorted hs) (fun b hb => h b (List.mem_cons_of_mem _ hb)), mpE_comm hs (h a (List.mem_cons_self ..))]
theorem mpAll_first {A B L : List Ent} {e : Ent} (hs : Sorted L) (h : ∀ a ∈ A, sameK a e = false) : mpAll L (A ++ e :: B) = mpAll (mpE L e) (A ++ B) := by
  rw [mpAll_append, mpAll_cons, mpE_mpAll A hs h, mpAll_append]
theorem not_same {x y : Ent} (h : lessE x y = true) : sameK y x = false := by
  cases hh : sameK y x with
  | false => rfl
  | true => have := lessE_same hh; rw [lessE_of_same (x := x) hh] at h; rw [lessE_irrefl] at h; cases h
theorem same_of {x y : Ent} (h1 : lessE x y = false) (h2 : lessE y x = false) : sameK x y = true := by
  cases hh : sameK x y with
  | true => rfl
  | false =>
    simp only [sameK, Bool.and_eq_false_iff, decide_eq_false_iff_not] at hh
    rcases lessE_total hh with h | h
    · rw [h1] at h; cases h
    · rw [h2] at h; cases h
theorem lessN_all {e : Ent} : ∀ {L : List Ent}, (∀ x ∈ L, lessE x e = true) → lessN e L = L.length
  | [], _ => rfl
  | a :: t, h => by simp only [lessN, List.length_cons]; rw [if_pos (h a (List.mem_cons_self ..)), lessN_all fun x hx => h x (List.mem_cons_of_mem _ hx)]
/-- what stands ahead of none in the list goes to its end, or is there -/
theorem mpE_last {L : List Ent} {e : Ent} (hs : Sorted L) (h : ∀ x ∈ L, lessE e x = false) : mpE L e = if L = [] ∨ lessE (L.getD (L.length - 1) ent0) e = true then L ++ [e] else L := by
  by_cases hc : L = [] ∨ lessE (L.getD (L.length - 1) ent0) e = true
  · rw [if_pos hc]
    have hall : ∀ x ∈ L, lessE x e = true := fun x hx => by
      obtain ⟨i, hi, rfl⟩ := mem_getD hx
      rcases hc with rfl | hc
      · simp at hi
      · by_cases hl : i = L.length - 1
        · rw [hl]; exact hc
        · exact lessE_trans (hs i (L.length - 1) (by omega) (by omega)) hc
    have hnt : thereE L e = false := by
      unfold thereE
      rw [List.any_eq_false]
      intro x hx
      have := not_same (hall x hx)
      rw [sameK_comm] at this
      simp [this]
    unfold mpE
    rw [if_neg (by simp [hnt]), lessN_all hall]
    unfold insE
    rw [List.take_length, List.drop_length]
  · rw [if_neg hc]
    have hne : L ≠ [] := fun e => hc (.inl e)
    have hl : 0 < L.length := List.length_pos_iff.2 hne
    have h1 : lessE (L.getD (L.length - 1) ent0) e = false := by
      cases hh : lessE (L.getD (L.length - 1) ent0) e with
      | false => rfl
      | true => exact absurd (.inr hh) hc
    have h2 := h _ (getD_mem (L := L) (i := L.length - 1) (by omega))
    have ht : thereE L e = true := by
      unfold thereE
      rw [List.any_eq_true]
      exact ⟨_, getD_mem (L := L) (i := L.length - 1) (by omega), same_of h1 h2⟩
    unfold mpE
    rw [if_pos ht]
theorem mpAll_fits (P : Ent → Prop) : ∀ (es : List Ent) {L : List Ent}, (∀ x ∈ L, P x) → (∀ x ∈ es, P x) → ∀ x ∈ mpAll L es, P x
  | [], _, h, _ => h
  | e :: t, L, h, he => mpAll_fits P t (fun x hx => by
      rcases mem_mpE.1 hx with hx | ⟨rfl, _⟩
      · exact h x hx
      · exact he x (List.mem_cons_self ..)) (fun x hx => he x (List.mem_cons_of_mem _ hx))
theorem mpE_len (L : List Ent) (e : Ent) : (mpE L e).length ≤ L.length + 1 := by
  unfold mpE
  split
  · omega
  · rw [insE_len e (lessN_le e L)]; omega
theorem mpAll_len : ∀ (es L : List Ent), (mpAll L es).length ≤ L.length + es.length
  | [], L => by show L.length ≤ _; simp
  | e :: t, L => by
    have h1 := mpAll_len t (mpE L e)
    have h2 := mpE_len L e
    rw [mpAll_cons, List.length_cons]; omega
/-- a list in order, put into an empty one, is itself -/
theorem mpAll_self : ∀ (B A : List Ent), Sorted (A ++ B) → mpAll A B = A ++ B
  | [], A, _ => by simp [mpAll]
  | e :: t, A, h => by
    have hA : Sorted A := fun i j hij hj => by
      have := h i j hij (by rw [List.length_append]; omega)
      rw [List.getD_eq_getElem?_getD, List.getElem?_append_left (by omega), List.getD_eq_getElem?_getD, List.getElem?_append_left hj] at this
      rwa [List.getD_eq_getElem?_getD, List.getD_eq_getElem?_getD]
    have hall : ∀ x ∈ A, lessE x e = true := fun x hx => by
      obtain ⟨i, hi, rfl⟩ := mem_getD hx
      have := h i A.length (by omega) (by simp)
      rw [List.getD_eq_getElem?_getD, List.getElem?_append_left hi, List.getD_eq_getElem?_getD, List.getElem?_append_right (Nat.le_refl _), Nat.sub_self] at this
      rw [List.getD_eq_getElem?_getD]
      exact this
    have hp : mpE A e = A ++ [e] := by
      rw [mpE_last hA (fun x hx => by
        cases hh : lessE e x with
        | false => rfl
        | true => have := lessE_trans (hall x hx) hh; rw [lessE_irrefl] at this; cases this)]
      rw [if_pos]
      by_cases he : A = []
      · exact .inl he
      · exact .inr (hall _ (getD_mem (by have := List.length_pos_iff.2 he; omega)))
    rw [mpAll_cons, hp, mpAll_self t (A ++ [e]) (by rw [List.append_assoc]; exact h), List.append_assoc]
    rfl
end Go.Proofs.Ytmgdcebbeglcmaa.En
