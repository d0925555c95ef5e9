/- What is kept, group by group: plain. -/
import Derived.Test.YtmgdcebbeglcmaaMrgV
namespace Go.Proofs.Ytmgdcebbeglcmaa.En
open B
set_option linter.unusedVariables false

def keptT (L : List Ent) (z : List Int) (q : Nat) : List Ent := (L.take q).filter (keepB L z)
def compT (L : List Ent) (z : List Int) (now : Int) (bot : Bool) (q : Nat) : List Ent := if bot then (keptT L z q).filter (lateB (keptE L z) now) else keptT L z q
theorem compT_all (L : List Ent) (z : List Int) (now : Int) (bot : Bool) : compT L z now bot L.length = compE L z now bot := by unfold compT compE keptT keptE; rw [List.take_length]
theorem compT_len (L : List Ent) (z : List Int) (now : Int) (bot : Bool) (q : Nat) : (compT L z now bot q).length ≤ q := by
  have h1 : (keptT L z q).length ≤ q := Nat.le_trans (List.length_filter_le _ _) (by rw [List.length_take]; omega)
  unfold compT
  split
  · exact Nat.le_trans (List.length_filter_le _ _) h1
  · exact h1
theorem compT_0 (L : List Ent) (z : List Int) (now : Int) (bot : Bool) : compT L z now bot 0 = [] := by unfold compT keptT; cases bot <;> simp
/-- of a group what is kept of its first m -/
def segK (L : List Ent) (z : List Int) (p m : Nat) : List Ent := ((L.drop p).take m).filter (keepB L z)
theorem segK_0 (L : List Ent) (z : List Int) (p : Nat) : segK L z p 0 = [] := by simp [segK]
theorem getD_drop (L : List Ent) (p m : Nat) : (L.drop p).getD m ent0 = L.getD (p + m) ent0 := by
  rw [List.getD_eq_getElem?_getD, List.getElem?_drop, ← List.getD_eq_getElem?_getD]
theorem segK_succ (L : List Ent) (z : List Int) (p m : Nat) (h : p + m < L.length) : segK L z p (m + 1) = segK L z p m ++ (if keepB L z (L.getD (p + m) ent0) = true then [L.getD (p + m) ent0] else []) := by
  unfold segK
  rw [filter_take_succ _ (L.drop p) m (by rw [List.length_drop]; omega), getD_drop]
theorem segK_len (L : List Ent) (z : List Int) (p m : Nat) : (segK L z p m).length ≤ m := by
  unfold segK
  exact Nat.le_trans (List.length_filter_le _ _) (by rw [List.length_take]; omega)
theorem keptT_add (L : List Ent) (z : List Int) (p m : Nat) : keptT L z (p + m) = keptT L z p ++ segK L z p m := by
  unfold keptT segK
  rw [List.take_add, List.filter_append]
theorem mem_seg {L : List Ent} {z : List Int} {p q : Nat} (g : Grp L p q) {x : Ent} (h : x ∈ segK L z p (q - p)) : ∃ j, p + j < q ∧ x = L.getD (p + j) ent0 := by
  unfold segK at h
  obtain ⟨i, hi, he⟩ := mem_getD (List.mem_filter.1 h).1
  rw [List.length_take] at hi
  have hi2 : i < q - p := by omega
  refine ⟨i, by omega, ?_⟩
  rw [← he, List.getD_eq_getElem?_getD, List.getElem?_take_of_lt hi2, ← List.getD_eq_getElem?_getD, getD_drop]
theorem seg_kept {L : List Ent} {z : List Int} {p q : Nat} (g : Grp L p q) {x : Ent} (hk : x.key = (L.getD p ent0).key) : x ∈ keptE L z ↔ x ∈ segK L z p (q - p) := by
  have hlt := g.lt
  have hle := g.le
  constructor
  · intro h
    obtain ⟨h1, h2⟩ := mem_kept.1 h
    obtain ⟨i, hi, rfl⟩ := mem_getD h1
    have a1 : p ≤ i := by
      by_cases hh : i < p
      · exact absurd hk (g.ahead i hh)
      · omega
    have a2 : i < q := by
      by_cases hh : q ≤ i
      · exact absurd hk (g.behind i hh hi)
      · omega
    unfold segK
    refine List.mem_filter.2 ⟨?_, h2⟩
    have e : (L.drop p).getD (i - p) ent0 = L.getD i ent0 := by rw [getD_drop, show p + (i - p) = i from by omega]
    rw [← e, List.getD_eq_getElem?_getD, ← List.getElem?_take_of_lt (show i - p < q - p by omega)]
    rw [← List.getD_eq_getElem?_getD]
    exact getD_mem (by rw [List.length_take, List.length_drop]; omega)
  · intro h
    unfold segK at h
    obtain ⟨h1, h2⟩ := List.mem_filter.1 h
    exact mem_kept.2 ⟨List.mem_of_mem_drop (List.mem_of_mem_take h1), h2⟩
theorem sorted_drop {L : List Ent} (hs : Sorted L) (p : Nat) : Sorted (L.drop p) := fun i j hij hj => by
  rw [getD_drop, getD_drop]
  rw [List.length_drop] at hj
  exact hs _ _ (by omega) (by omega)
theorem sorted_take {L : List Ent} (hs : Sorted L) (m : Nat) : Sorted (L.take m) := fun i j hij hj => by
  rw [List.length_take] at hj
  rw [List.getD_eq_getElem?_getD, List.getElem?_take_of_lt (by omega), List.getD_eq_getElem?_getD, List.getElem?_take_of_lt (by omega), ← List.getD_eq_getElem?_getD, ← List.getD_eq_getElem?_getD]
  exact hs i j hij (by omega)
theorem seg_sorted {L : List Ent} (hs : Sorted L) (z : List Int) (p m : Nat) : Sorted (segK L z p m) := sorted_filter _ (sorted_take (sorted_drop hs p) m)
theorem seg_late {L : List Ent} {z : List Int} {p q : Nat} (g : Grp L p q) {now : Int} {x : Ent} (hx : x.key = (L.getD p ent0).key) : lateB (keptE L z) now x = lateB (segK L z p (q - p)) now x := by
  rw [Bool.eq_iff_iff, lateB_iff, lateB_iff]
  constructor
  · rintro ⟨y, hy, yk, r⟩; exact ⟨y, (seg_kept g (yk.trans hx)).1 hy, yk, r⟩
  · rintro ⟨y, hy, yk, r⟩; exact ⟨y, (seg_kept g (yk.trans hx)).2 hy, yk, r⟩
/-- dead ones struck off the end -/
theorem strip_is {S : List Ent} (hs : Sorted S) (hk : ∀ i j, i < S.length → j < S.length → (S.getD i ent0).key = (S.getD j ent0).key) {now : Int} {m : Nat} (hm : m ≤ S.length) (hd : ∀ k, m ≤ k → k < S.length → aliveE (S.getD k ent0) now = false) (ha : m = 0 ∨ aliveE (S.getD (m - 1) ent0) now = true) :
    S.filter (lateB S now) = S.take m := by
  have h1 : ∀ i, i < S.length → (lateB S now (S.getD i ent0) = true ↔ i < m) := fun i hi => by
    rw [lateB_iff]
    constructor
    · rintro ⟨y, hy, yk, ys, ya⟩
      obtain ⟨j, hj, rfl⟩ := mem_getD hy
      by_cases hjm : m ≤ j
      · rw [hd j hjm hj] at ya; cases ya
      · by_cases hij : j < i
        · have := sorted_key hs hij hi yk; omega
        · omega
    · intro him
      rcases ha with ha | ha
      · omega
      · refine ⟨_, getD_mem (i := m - 1) (by omega), hk _ _ (by omega) hi, ?_, ha⟩
        by_cases he : i = m - 1
        · subst he; exact Int.le_refl _
        · have := sorted_key hs (i := i) (j := m - 1) (by omega) (by omega) (hk _ _ hi (by omega)); omega
  have h2 : ∀ k, k ≤ S.length → (S.take k).filter (lateB S now) = S.take (min k m) := by
    intro k
    induction k with
    | zero => intro _; simp
    | succ k ih =>
      intro hk2
      rw [filter_take_succ _ S k (by omega), ih (by omega)]
      have := h1 k (by omega)
      by_cases hkm : k < m
      · rw [if_pos (this.2 hkm), Nat.min_eq_left (by omega), Nat.min_eq_left (by omega), take_snoc S k ent0 (by omega)]
      · rw [if_neg (fun hh => hkm (this.1 hh)), Nat.min_eq_right (by omega), Nat.min_eq_right (by omega), List.append_nil]
  have := h2 S.length (Nat.le_refl _)
  rw [List.take_length, Nat.min_eq_right hm] at this
  exact this
theorem seg_key {L : List Ent} {z : List Int} {p q : Nat} (g : Grp L p q) {x : Ent} (h : x ∈ segK L z p (q - p)) : x.key = (L.getD p ent0).key := by
  obtain ⟨j, hj, rfl⟩ := mem_seg g h
  exact g.same _ (by omega) hj
/-- one group more: all that is kept; or, at the bottom, what is left of it when the dead at its end are struck off -/
theorem compT_false {L : List Ent} {z : List Int} {now : Int} {p q : Nat} (g : Grp L p q) : compT L z now false q = compT L z now false p ++ segK L z p (q - p) := by
  have hlt := g.lt
  show keptT L z q = keptT L z p ++ _
  rw [← keptT_add, show p + (q - p) = q from by omega]
theorem compT_true {L : List Ent} (hs : Sorted L) {z : List Int} {now : Int} {p q m : Nat} (g : Grp L p q) (hm : m ≤ (segK L z p (q - p)).length)
    (hd : ∀ k, m ≤ k → k < (segK L z p (q - p)).length → aliveE ((segK L z p (q - p)).getD k ent0) now = false) (ha : m = 0 ∨ aliveE ((segK L z p (q - p)).getD (m - 1) ent0) now = true) :
    compT L z now true q = compT L z now true p ++ (segK L z p (q - p)).take m := by
  have hlt := g.lt
  show (keptT L z q).filter _ = (keptT L z p).filter _ ++ _
  rw [show q = p + (q - p) from by omega, keptT_add, List.filter_append, show p + (q - p) = q from by omega]
  congr 1
  rw [← strip_is (seg_sorted hs z p (q - p)) (fun i j hi hj => by rw [seg_key g (getD_mem hi), seg_key g (getD_mem hj)]) hm hd ha]
  refine List.filter_congr fun x hx => ?_
  exact seg_late g (seg_key g hx)
/-- how often each place of the group was told -/
def Told (L : List Ent) (p q : Nat) (z : List Int) (k : Nat) (c : Nat → Int) : Prop := ∀ j, p + j < q → (0 ≤ c j ∧ c j ≤ k + 1) ∧ (0 < c j ↔ (j = 0 ∨ ∃ s ∈ z.take k, topB L s (L.getD (p + j) ent0) = true))
theorem told_0 (L : List Ent) (p q : Nat) (z : List Int) : Told L p q z 0 (fun i => if i = 0 then 1 else 0) := fun j hj => by
  by_cases h : j = 0
  · subst h; simp
  · simp [h]
def bump (c : Nat → Int) (r : Nat) : Nat → Int := fun i => if i = r then c r + 1 else c i
theorem take_mem {z : List Int} {k : Nat} (hk : k < z.length) {s : Int} : s ∈ z.take (k + 1) ↔ s ∈ z.take k ∨ s = z.getD k 0 := by
  rw [B.take_snoc z k 0 hk, List.mem_append, List.mem_singleton]
theorem told_no {L : List Ent} (hs : Sorted L) {p q : Nat} (g : Grp L p q) {z : List Int} {k : Nat} (hk : k < z.length) {c : Nat → Int} (h : Told L p q z k c) (hu : UpIs L p q (z.getD k 0) (-1)) : Told L p q z (k + 1) c := fun j hj => by
  obtain ⟨⟨a, b⟩, d⟩ := h j hj
  refine ⟨⟨a, by omega⟩, d.trans ⟨?_, ?_⟩⟩
  · rintro (h0 | ⟨s, hs, ht⟩)
    · exact .inl h0
    · exact .inr ⟨s, (take_mem hk).2 (.inl hs), ht⟩
  · rintro (h0 | ⟨s, hs2, ht⟩)
    · exact .inl h0
    · rcases (take_mem hk).1 hs2 with hs2 | rfl
      · exact .inr ⟨s, hs2, ht⟩
      · have := (up_top hs g hu hj).2 ht; omega
theorem told_up {L : List Ent} (hs : Sorted L) {p q : Nat} (g : Grp L p q) {z : List Int} {k : Nat} (hk : k < z.length) {c : Nat → Int} (h : Told L p q z k c) {r : Nat} (hu : UpIs L p q (z.getD k 0) (r : Int)) : Told L p q z (k + 1) (bump c r) := fun j hj => by
  obtain ⟨⟨a, b⟩, d⟩ := h j hj
  have ht := up_top hs g hu hj
  unfold bump
  by_cases hjr : j = r
  · subst hjr
    rw [if_pos rfl]
    refine ⟨⟨by omega, by omega⟩, ?_⟩
    constructor
    · intro _; exact .inr ⟨_, (take_mem hk).2 (.inr rfl), ht.1 rfl⟩
    · intro _; omega
  · rw [if_neg hjr]
    refine ⟨⟨a, by omega⟩, d.trans ⟨?_, ?_⟩⟩
    · rintro (h0 | ⟨s, hs, ht⟩)
      · exact .inl h0
      · exact .inr ⟨s, (take_mem hk).2 (.inl hs), ht⟩
    · rintro (h0 | ⟨s, hs2, ht2⟩)
      · exact .inl h0
      · rcases (take_mem hk).1 hs2 with hs2 | rfl
        · exact .inr ⟨s, hs2, ht2⟩
        · have := ht.2 ht2; omega
theorem told_keep {L : List Ent} (hs : Sorted L) {p q : Nat} (g : Grp L p q) {z : List Int} {c : Nat → Int} (h : Told L p q z z.length c) {j : Nat} (hj : p + j < q) : 0 < c j ↔ keepB L z (L.getD (p + j) ent0) = true := by
  rw [(h j hj).2, keepB_iff, head_top hs g hj, List.take_length]
theorem head_ref {L : List Ent} (hs : Sorted L) {i : Nat} (hi : i < L.length) : headB L (L.getD i ent0) = true ↔ (i = 0 ∨ (L.getD (i - 1) ent0).key ≠ (L.getD i ent0).key) := by
  rw [headB_iff]
  constructor
  · intro h
    by_cases h0 : i = 0
    · exact .inl h0
    · refine .inr fun hk => ?_
      have h1 := h _ (getD_mem (L := L) (i := i - 1) (by omega)) hk
      have h2 := sorted_key hs (i := i - 1) (j := i) (by omega) hi hk
      omega
  · intro h y hy hk
    obtain ⟨k, hkl, rfl⟩ := mem_getD hy
    by_cases h1 : k < i
    · exfalso
      rcases h with h | h
      · omega
      · by_cases h2 : k = i - 1
        · subst h2; exact h hk
        · by_cases h3 : (L.getD k ent0).key = (L.getD (i - 1) ent0).key
          · exact h (h3.symm.trans hk)
          · exact lt_keys hs (i := k) (j := i - 1) (k := i) (by omega) (by omega) hi h3 hk
    · by_cases h2 : k = i
      · subst h2; exact Int.le_refl _
      · have := sorted_key hs (i := i) (j := k) (by omega) hkl hk.symm; omega
/-- told anew, some snaps in -/
def kbT (L : List Ent) (z : List Int) (x : Ent) (k : Nat) : Bool := headB L x || (z.take k).any (fun s => topB L s x)
theorem kbT_0 (L : List Ent) (z : List Int) (x : Ent) : kbT L z x 0 = headB L x := by simp [kbT]
theorem kbT_succ (L : List Ent) (z : List Int) (x : Ent) (k : Nat) (hk : k < z.length) : kbT L z x (k + 1) = (kbT L z x k || topB L (z.getD k 0) x) := by
  unfold kbT
  rw [take_snoc z k 0 hk, List.any_append, Bool.or_assoc]
  simp
theorem kbT_all (L : List Ent) (z : List Int) (x : Ent) : kbT L z x z.length = keepB L z x := by unfold kbT keepB; rw [List.take_length]
theorem keptT_succ (L : List Ent) (z : List Int) (i : Nat) (h : i < L.length) : keptT L z (i + 1) = keptT L z i ++ (if keepB L z (L.getD i ent0) = true then [L.getD i ent0] else []) := filter_take_succ _ L i h
theorem keptT_len (L : List Ent) (z : List Int) (i : Nat) : (keptT L z i).length ≤ i := Nat.le_trans (List.length_filter_le _ _) (by rw [List.length_take]; omega)
theorem keptT_all (L : List Ent) (z : List Int) : keptT L z L.length = keptE L z := by unfold keptT keptE; rw [List.take_length]
/-- from i on, below k, is one of this key alive? -/
def laT (K : List Ent) (now : Int) (i k : Nat) : Prop := ∃ j, i ≤ j ∧ j < k ∧ (K.getD j ent0).key = (K.getD i ent0).key ∧ aliveE (K.getD j ent0) now = true
theorem late_ref {K : List Ent} (hs : Sorted K) {i : Nat} (hi : i < K.length) {now : Int} : lateB K now (K.getD i ent0) = true ↔ laT K now i K.length := by
  rw [lateB_iff]
  constructor
  · rintro ⟨y, hy, yk, ys, ya⟩
    obtain ⟨j, hj, rfl⟩ := mem_getD hy
    refine ⟨j, ?_, hj, yk, ya⟩
    by_cases h : j < i
    · have := sorted_key hs h hi yk; omega
    · omega
  · rintro ⟨j, h1, h2, h3, h4⟩
    refine ⟨_, getD_mem h2, h3, ?_, h4⟩
    by_cases h : j = i
    · subst h; exact Int.le_refl _
    · have := sorted_key hs (i := i) (j := j) (by omega) h2 h3.symm; omega
theorem laT_no (K : List Ent) (now : Int) (i : Nat) : ¬ laT K now i i := fun ⟨j, h1, h2, _⟩ => by omega
theorem laT_succ {K : List Ent} {now : Int} {i k : Nat} (hik : i ≤ k) : laT K now i (k + 1) ↔ (laT K now i k ∨ ((K.getD k ent0).key = (K.getD i ent0).key ∧ aliveE (K.getD k ent0) now = true)) := by
  constructor
  · rintro ⟨j, h1, h2, h3, h4⟩
    by_cases h : j = k
    · subst h; exact .inr ⟨h3, h4⟩
    · exact .inl ⟨j, h1, by omega, h3, h4⟩
  · rintro (⟨j, h1, h2, h3, h4⟩ | ⟨h3, h4⟩)
    · exact ⟨j, h1, by omega, h3, h4⟩
    · exact ⟨k, hik, by omega, h3, h4⟩
end Go.Proofs.Ytmgdcebbeglcmaa.En
