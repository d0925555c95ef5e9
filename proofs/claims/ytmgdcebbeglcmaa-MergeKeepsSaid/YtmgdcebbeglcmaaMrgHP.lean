/- A heap of runs: no program in sight. -/
import Derived.Test.YtmgdcebbeglcmaaMrgP
namespace Go.Proofs.Ytmgdcebbeglcmaa.En
open B
set_option linter.unusedVariables false

/-- what is left of a list: where it lies, which one it is, its entries -/
structure Run where
  a : Option Addr
  m : Nat
  c : Nat
  idx : Nat
  L : List Ent
def run0 : Run := ⟨none, 0, 0, 0, []⟩
def Run.hd (r : Run) : Ent := r.L.getD 0 ent0
def ltR (x y : Run) : Bool := if (lessE x.hd y.hd || lessE y.hd x.hd) = true then lessE x.hd y.hd else decide (x.idx < y.idx)
theorem ltR_iff (x y : Run) : ltR x y = true ↔ lessE x.hd y.hd = true ∨ (lessE x.hd y.hd = false ∧ lessE y.hd x.hd = false ∧ x.idx < y.idx) := by
  unfold ltR
  cases h1 : lessE x.hd y.hd with
  | true => simp
  | false =>
    cases h2 : lessE y.hd x.hd with
    | true => simp
    | false => simp
theorem less_co {a b c : Ent} (h : lessE a c = true) : lessE a b = true ∨ lessE b c = true := by
  cases h1 : lessE a b with
  | true => exact .inl rfl
  | false =>
    refine .inr ?_
    cases h2 : lessE b a with
    | true => exact lessE_trans h2 h
    | false =>
      have hs := same_of h1 h2
      have h3 : lessE c a = false := by
        cases h4 : lessE c a with
        | false => rfl
        | true => have := lessE_trans h h4; rw [lessE_irrefl] at this; cases this
      cases h4 : lessE b c with
      | true => rfl
      | false =>
        exfalso
        cases h5 : lessE c b with
        | true => rw [← lessE_of_same hs, h3] at h5; cases h5
        | false =>
          have hs2 := same_of h4 h5
          rw [← lessE_of_same hs2, h1] at h
          cases h
theorem ltR_co {a b c : Run} (h : ltR a c = true) : ltR a b = true ∨ ltR b c = true := by
  rw [ltR_iff] at h
  rcases h with h | ⟨h1, h2, h3⟩
  · rcases less_co (b := b.hd) h with h4 | h4
    · exact .inl ((ltR_iff _ _).2 (.inl h4))
    · exact .inr ((ltR_iff _ _).2 (.inl h4))
  · cases h4 : lessE a.hd b.hd with
    | true => exact .inl ((ltR_iff _ _).2 (.inl h4))
    | false =>
      cases h5 : lessE b.hd c.hd with
      | true => exact .inr ((ltR_iff _ _).2 (.inl h5))
      | false =>
        have h6 : lessE b.hd a.hd = false := by
          cases h7 : lessE b.hd a.hd with
          | false => rfl
          | true =>
            rcases less_co (b := c.hd) h7 with h8 | h8
            · rw [h5] at h8; cases h8
            · rw [h2] at h8; cases h8
        have h7 : lessE c.hd b.hd = false := by
          cases h8 : lessE c.hd b.hd with
          | false => rfl
          | true =>
            rcases less_co (b := a.hd) h8 with h9 | h9
            · rw [h2] at h9; cases h9
            · rw [h4] at h9; cases h9
        by_cases hi : a.idx < b.idx
        · exact .inl ((ltR_iff _ _).2 (.inr ⟨h4, h6, hi⟩))
        · exact .inr ((ltR_iff _ _).2 (.inr ⟨h5, h7, by omega⟩))
theorem ltR_irrefl (a : Run) : ltR a a = false := by
  cases h : ltR a a with
  | false => rfl
  | true =>
    rw [ltR_iff] at h
    rcases h with h | ⟨_, _, h⟩
    · rw [lessE_irrefl] at h; cases h
    · omega
theorem ltR_asymm {a b : Run} (h : ltR a b = true) : ltR b a = false := by
  cases h2 : ltR b a with
  | false => rfl
  | true =>
    rw [ltR_iff] at h h2
    rcases h with h | ⟨h3, h4, h5⟩
    · rcases h2 with h2 | ⟨h6, h7, _⟩
      · have := lessE_trans h h2; rw [lessE_irrefl] at this; cases this
      · rw [h] at h7; cases h7
    · rcases h2 with h2 | ⟨h6, h7, h8⟩
      · rw [h4] at h2; cases h2
      · omega
/-- not behind, and not behind: not behind -/
theorem nlt_trans {a b c : Run} (h1 : ltR b a = false) (h2 : ltR c b = false) : ltR c a = false := by
  cases h : ltR c a with
  | false => rfl
  | true =>
    rcases ltR_co (b := b) h with h3 | h3
    · rw [h2] at h3; cases h3
    · rw [h1] at h3; cases h3

def swapR (h : List Run) (i j : Nat) : List Run := (h.set i (h.getD j run0)).set j (h.getD i run0)
theorem swap_len (h : List Run) (i j : Nat) : (swapR h i j).length = h.length := by simp [swapR]
theorem getD_set (h : List Run) (i : Nat) (x : Run) (k : Nat) (hk : k < h.length) : (h.set i x).getD k run0 = if i = k then x else h.getD k run0 := by
  rw [List.getD_eq_getElem?_getD, List.getElem?_set]
  by_cases e : i = k
  · subst e; rw [if_pos rfl, if_pos hk, if_pos rfl]; rfl
  · rw [if_neg e, if_neg e, ← List.getD_eq_getElem?_getD]
theorem swap_getD (h : List Run) (i j k : Nat) (hi : i < h.length) (hj : j < h.length) (hk : k < h.length) : (swapR h i j).getD k run0 = if k = j then h.getD i run0 else if k = i then h.getD j run0 else h.getD k run0 := by
  unfold swapR
  rw [getD_set _ _ _ _ (by simpa using hk), getD_set _ _ _ _ hk]
  by_cases e : k = j
  · subst e; simp
  · rw [if_neg (fun h => e h.symm), if_neg e]
    by_cases e2 : k = i
    · subst e2; simp
    · rw [if_neg (fun h => e2 h.symm), if_neg e2]
theorem getR_mem {h : List Run} {i : Nat} (hi : i < h.length) : h.getD i run0 ∈ h := by
  rw [List.getD_eq_getElem?_getD, List.getElem?_eq_getElem hi]; exact List.getElem_mem hi
theorem memR_get {h : List Run} {x : Run} (hx : x ∈ h) : ∃ i, i < h.length ∧ h.getD i run0 = x := by
  obtain ⟨i, hi, rfl⟩ := List.getElem_of_mem hx
  exact ⟨i, hi, by rw [List.getD_eq_getElem?_getD, List.getElem?_eq_getElem hi]; rfl⟩
/-- of the first n no child is ahead of its parent, for parents from s on -/
def HeapFrom (h : List Run) (n s : Nat) : Prop := ∀ j, 1 ≤ j → j < n → s ≤ (j - 1) / 2 → ltR (h.getD j run0) (h.getD ((j - 1) / 2) run0) = false
theorem heap_half (h : List Run) (n : Nat) : HeapFrom h n (n / 2) := fun j h1 h2 h3 => by omega
theorem heap_min {h : List Run} {n : Nat} (hh : HeapFrom h n 0) : ∀ j, j < n → ltR (h.getD j run0) (h.getD 0 run0) = false := by
  intro j
  induction j using Nat.strongRecOn with
  | _ j ih =>
    intro hj
    by_cases h0 : j = 0
    · subst h0; exact ltR_irrefl _
    · exact nlt_trans (ih ((j - 1) / 2) (by omega) (by omega)) (hh j (by omega) hj (by omega))
/-- the first n have numbers of their own -/
def Dis (n : Nat) (h : List Run) : Prop := ∀ i k, i < n → k < n → (h.getD i run0).idx = (h.getD k run0).idx → i = k
/-- the same runs, those from n on in their places -/
structure Same (n : Nat) (h h' : List Run) : Prop where
  len : h'.length = h.length
  tail : ∀ j, n ≤ j → j < h.length → h'.getD j run0 = h.getD j run0
  fwd : ∀ j, j < n → ∃ k, k < n ∧ h'.getD j run0 = h.getD k run0
  bwd : ∀ j, j < n → ∃ k, k < n ∧ h'.getD k run0 = h.getD j run0
  dis : Dis n h → Dis n h'
theorem same_refl (n : Nat) (h : List Run) : Same n h h := ⟨rfl, fun _ _ _ => rfl, fun j hj => ⟨j, hj, rfl⟩, fun j hj => ⟨j, hj, rfl⟩, id⟩
theorem Same.trans {n : Nat} {a b c : List Run} (h : Same n a b) (k : Same n b c) : Same n a c :=
  ⟨k.len.trans h.len, fun j h1 h2 => (k.tail j h1 (by rw [h.len]; exact h2)).trans (h.tail j h1 h2), fun j hj => by
    obtain ⟨x, hx, e1⟩ := k.fwd j hj
    obtain ⟨y, hy, e2⟩ := h.fwd x hx
    exact ⟨y, hy, e1.trans e2⟩, fun j hj => by
    obtain ⟨x, hx, e1⟩ := h.bwd j hj
    obtain ⟨y, hy, e2⟩ := k.bwd x hx
    exact ⟨y, hy, e2.trans e1⟩, fun h0 => k.dis (h.dis h0)⟩
theorem same_swap {n : Nat} {h : List Run} {i j : Nat} (hn : n ≤ h.length) (hi : i < n) (hj : j < n) : Same n h (swapR h i j) where
  len := swap_len h i j
  tail := fun k h1 h2 => by rw [swap_getD h i j k (by omega) (by omega) h2, if_neg (by omega), if_neg (by omega)]
  fwd := fun k hk => by
    rw [swap_getD h i j k (by omega) (by omega) (by omega)]
    by_cases e : k = j
    · rw [if_pos e]; exact ⟨i, hi, rfl⟩
    · rw [if_neg e]
      by_cases e2 : k = i
      · rw [if_pos e2]; exact ⟨j, hj, rfl⟩
      · rw [if_neg e2]; exact ⟨k, hk, rfl⟩
  bwd := fun k hk => by
    by_cases e : k = i
    · exact ⟨j, hj, by rw [swap_getD h i j j (by omega) (by omega) (by omega), if_pos rfl, e]⟩
    · by_cases e2 : k = j
      · exact ⟨i, hi, by
          rw [swap_getD h i j i (by omega) (by omega) (by omega)]
          by_cases e3 : i = j
          · rw [if_pos e3, e2, e3]
          · rw [if_neg e3, if_pos rfl, e2]⟩
      · exact ⟨k, hk, by rw [swap_getD h i j k (by omega) (by omega) (by omega), if_neg e2, if_neg e]⟩
  dis := fun hd a b ha hb e => by
    rw [swap_getD h i j a (by omega) (by omega) (by omega), swap_getD h i j b (by omega) (by omega) (by omega)] at e
    by_cases a1 : a = j
    · rw [if_pos a1] at e
      by_cases b1 : b = j
      · omega
      · rw [if_neg b1] at e
        by_cases b2 : b = i
        · rw [if_pos b2] at e
          have := hd i j hi hj e
          omega
        · rw [if_neg b2] at e
          have := hd i b hi hb e
          omega
    · rw [if_neg a1] at e
      by_cases a2 : a = i
      · rw [if_pos a2] at e
        by_cases b1 : b = j
        · rw [if_pos b1] at e
          have := hd j i hj hi e
          omega
        · rw [if_neg b1] at e
          by_cases b2 : b = i
          · omega
          · rw [if_neg b2] at e
            have := hd j b hj hb e
            omega
      · rw [if_neg a2] at e
        by_cases b1 : b = j
        · rw [if_pos b1] at e
          have := hd a i ha hi e
          omega
        · rw [if_neg b1] at e
          by_cases b2 : b = i
          · rw [if_pos b2] at e
            have := hd a j ha hj e
            omega
          · rw [if_neg b2] at e
            exact hd a b ha hb e
/-- on the way down from i0 the place i may be out of order -/
structure Hole (h : List Run) (n i0 i : Nat) : Prop where
  ge : i0 ≤ i
  ok : ∀ j, 1 ≤ j → j < n → i0 ≤ (j - 1) / 2 → (j - 1) / 2 ≠ i → ltR (h.getD j run0) (h.getD ((j - 1) / 2) run0) = false
  over : ∀ c, 1 ≤ c → c < n → (c - 1) / 2 = i → 1 ≤ i → i0 ≤ (i - 1) / 2 → ltR (h.getD c run0) (h.getD ((i - 1) / 2) run0) = false
theorem hole_0 {h : List Run} {n i0 : Nat} (hh : HeapFrom h n (i0 + 1)) : Hole h n i0 i0 :=
  ⟨Nat.le_refl _, fun j h1 h2 h3 h4 => hh j h1 h2 (by omega), fun c h1 h2 h3 h4 h5 => by omega⟩
/-- no children: in order -/
theorem hole_leaf {h : List Run} {n i0 i : Nat} (hh : Hole h n i0 i) (hn : n ≤ 2 * i + 1) : HeapFrom h n i0 := fun j h1 h2 h3 => by
  by_cases e : (j - 1) / 2 = i
  · omega
  · exact hh.ok j h1 h2 h3 e
/-- no child ahead: in order -/
theorem hole_stop {h : List Run} {n i0 i j : Nat} (hh : Hole h n i0 i) (hj : j = 2 * i + 1 ∨ j = 2 * i + 2) (hjn : j < n) (hsm : ∀ c, c < n → (c = 2 * i + 1 ∨ c = 2 * i + 2) → ltR (h.getD c run0) (h.getD j run0) = false)
    (hle : ltR (h.getD j run0) (h.getD i run0) = false) : HeapFrom h n i0 := fun k h1 h2 h3 => by
  by_cases e : (k - 1) / 2 = i
  · rw [e]; exact nlt_trans hle (hsm k h2 (by omega))
  · exact hh.ok k h1 h2 h3 e
/-- a child ahead: it goes up, the hole goes down -/
theorem hole_down {h : List Run} {n i0 i j : Nat} (hn : n ≤ h.length) (hh : Hole h n i0 i) (hj : j = 2 * i + 1 ∨ j = 2 * i + 2) (hjn : j < n) (hsm : ∀ c, c < n → (c = 2 * i + 1 ∨ c = 2 * i + 2) → ltR (h.getD c run0) (h.getD j run0) = false)
    (hlt : ltR (h.getD j run0) (h.getD i run0) = true) : Hole (swapR h i j) n i0 j := by
  have hge := hh.ge
  have g : ∀ k, k < n → (swapR h i j).getD k run0 = if k = j then h.getD i run0 else if k = i then h.getD j run0 else h.getD k run0 := fun k hk => swap_getD h i j k (by omega) (by omega) (by omega)
  refine ⟨by omega, fun k h1 h2 h3 h4 => ?_, fun c h1 h2 h3 h4 h5 => ?_⟩
  · rw [g k h2, g ((k - 1) / 2) (by omega), if_neg h4]
    by_cases e1 : k = j
    · subst e1
      rw [if_pos rfl, if_pos (by omega)]
      exact ltR_asymm hlt
    · rw [if_neg e1]
      by_cases e2 : k = i
      · subst e2
        rw [if_pos rfl, if_neg (by omega)]
        exact hh.over j (by omega) hjn (by omega) h1 h3
      · rw [if_neg e2]
        by_cases e3 : (k - 1) / 2 = i
        · rw [if_pos e3]; exact hsm k h2 (by omega)
        · rw [if_neg e3]; exact hh.ok k h1 h2 h3 e3
  · have hp : (j - 1) / 2 = i := by omega
    rw [hp, g c h2, g i (by omega), if_neg (by omega), if_neg (by omega), if_neg (by omega), if_pos rfl]
    have := hh.ok c h1 h2 (by omega) (by omega)
    rw [h3] at this
    exact this
def rcells (h : List Run) : List Value := h.flatMap fun r => [.slice r.a r.m r.c, .int .i64 r.idx]
theorem rcells_len (h : List Run) : (rcells h).length = h.length * 2 := by
  induction h with
  | nil => rfl
  | cons r t ih => simp only [rcells, List.flatMap_cons, List.length_append, List.length_cons, List.length_nil] at ih ⊢; rw [ih]; omega
theorem rcells_append (h k : List Run) : rcells (h ++ k) = rcells h ++ rcells k := List.flatMap_append
theorem rcells_snoc (h : List Run) (r : Run) : rcells (h ++ [r]) = rcells h ++ [.slice r.a r.m r.c, .int .i64 r.idx] := by rw [rcells_append]; rfl
theorem rcells_at : ∀ (h : List Run) (i : Nat), i < h.length → (rcells h)[i * 2]? = some (.slice (h.getD i run0).a (h.getD i run0).m (h.getD i run0).c) ∧ (rcells h)[i * 2 + 1]? = some (.int .i64 (h.getD i run0).idx)
  | [], i, hi => by simp at hi
  | r :: t, 0, _ => ⟨rfl, rfl⟩
  | r :: t, i + 1, hi => by
    have ih := rcells_at t i (by simpa using hi)
    rw [List.getD_cons_succ, show (i + 1) * 2 = i * 2 + 1 + 1 from by omega]
    exact ih
theorem rcells_set : ∀ (h : List Run) (i : Nat) (r : Run), i < h.length → ((rcells h).set (i * 2) (.slice r.a r.m r.c)).set (i * 2 + 1) (.int .i64 r.idx) = rcells (h.set i r)
  | [], i, _, hi => by simp at hi
  | x :: t, 0, r, _ => rfl
  | x :: t, i + 1, r, hi => by
    have ih := rcells_set t i r (by simpa using hi)
    rw [List.set_cons_succ]
    show ((([Value.slice x.a x.m x.c, Value.int .i64 x.idx] ++ rcells t).set ((i + 1) * 2) _).set ((i + 1) * 2 + 1) _) = [Value.slice x.a x.m x.c, Value.int .i64 x.idx] ++ rcells (t.set i r)
    rw [← ih, show (i + 1) * 2 = i * 2 + 1 + 1 from by omega]
    rfl
theorem rcells_take (h : List Run) (n : Nat) : (rcells h).take (n * 2) = rcells (h.take n) := by
  induction h generalizing n with
  | nil => simp [rcells]
  | cons r t ih =>
    cases n with
    | zero => simp [rcells]
    | succ n =>
      show ([Value.slice r.a r.m r.c, Value.int .i64 r.idx] ++ rcells t).take ((n + 1) * 2) = [Value.slice r.a r.m r.c, Value.int .i64 r.idx] ++ rcells (t.take n)
      rw [show (n + 1) * 2 = n * 2 + 1 + 1 from by omega, ← ih]
      rfl
end Go.Proofs.Ytmgdcebbeglcmaa.En
