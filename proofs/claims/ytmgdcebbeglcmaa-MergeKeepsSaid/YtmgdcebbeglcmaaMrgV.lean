/- What is visible, what is kept: plain; groups of one key. No program in sight. -/
import Derived.Test.YtmgdcebbeglcmaaMrgP
namespace Go.Proofs.Ytmgdcebbeglcmaa.En
open B
set_option linter.unusedVariables false

def aliveE (e : Ent) (now : Int) : Bool := !e.gone && (decide (e.til = 0) || decide (now ≤ e.til))
/-- the newest of its key up to a number -/
def topB (L : List Ent) (s : Int) (x : Ent) : Bool := decide (x.seq ≤ s) && L.all (fun y => !(decide (y.key = x.key) && decide (y.seq ≤ s)) || decide (y.seq ≤ x.seq))
def visE (L : List Ent) (s now : Int) : List Ent := L.filter (fun x => topB L s x && aliveE x now)
def headB (L : List Ent) (x : Ent) : Bool := L.all (fun y => !(decide (y.key = x.key)) || decide (y.seq ≤ x.seq))
def keepB (L : List Ent) (z : List Int) (x : Ent) : Bool := headB L x || z.any (fun s => topB L s x)
def lateB (K : List Ent) (now : Int) (x : Ent) : Bool := K.any (fun y => decide (y.key = x.key) && decide (y.seq ≤ x.seq) && aliveE y now)
def keptE (L : List Ent) (z : List Int) : List Ent := L.filter (keepB L z)
def compE (L : List Ent) (z : List Int) (now : Int) (bot : Bool) : List Ent := if bot then (keptE L z).filter (lateB (keptE L z) now) else keptE L z

theorem topB_iff {L : List Ent} {s : Int} {x : Ent} : topB L s x = true ↔ x.seq ≤ s ∧ ∀ y ∈ L, y.key = x.key → y.seq ≤ s → y.seq ≤ x.seq := by
  unfold topB
  rw [Bool.and_eq_true, decide_eq_true_eq, List.all_eq_true]
  constructor
  · rintro ⟨h1, h2⟩
    refine ⟨h1, fun y hy hk hs => ?_⟩
    have := h2 y hy
    simpa [hk, hs] using this
  · rintro ⟨h1, h2⟩
    refine ⟨h1, fun y hy => ?_⟩
    by_cases hk : y.key = x.key
    · by_cases hs : y.seq ≤ s
      · simp [h2 y hy hk hs]
      · simp [hs]
    · simp [hk]
theorem headB_iff {L : List Ent} {x : Ent} : headB L x = true ↔ ∀ y ∈ L, y.key = x.key → y.seq ≤ x.seq := by
  unfold headB
  rw [List.all_eq_true]
  constructor
  · intro h y hy hk
    have := h y hy
    simpa [hk] using this
  · intro h y hy
    by_cases hk : y.key = x.key
    · simp [h y hy hk]
    · simp [hk]
theorem keepB_iff {L : List Ent} {z : List Int} {x : Ent} : keepB L z x = true ↔ headB L x = true ∨ ∃ s ∈ z, topB L s x = true := by
  unfold keepB; rw [Bool.or_eq_true, List.any_eq_true]
theorem lateB_iff {K : List Ent} {now : Int} {x : Ent} : lateB K now x = true ↔ ∃ y ∈ K, y.key = x.key ∧ y.seq ≤ x.seq ∧ aliveE y now = true := by
  unfold lateB
  rw [List.any_eq_true]
  constructor
  · rintro ⟨y, hy, h⟩; simp only [Bool.and_eq_true, decide_eq_true_eq] at h; exact ⟨y, hy, h.1.1, h.1.2, h.2⟩
  · rintro ⟨y, hy, h1, h2, h3⟩; exact ⟨y, hy, by simp [h1, h2, h3]⟩
theorem mem_kept {L : List Ent} {z : List Int} {x : Ent} : x ∈ keptE L z ↔ x ∈ L ∧ keepB L z x = true := by unfold keptE; rw [List.mem_filter]
theorem mem_comp {L : List Ent} {z : List Int} {now : Int} {bot : Bool} {x : Ent} : x ∈ compE L z now bot ↔ x ∈ keptE L z ∧ (bot = true → lateB (keptE L z) now x = true) := by
  unfold compE
  cases bot with
  | true => rw [if_pos rfl, List.mem_filter]; simp
  | false => rw [if_neg (by decide)]; simp
theorem comp_sub {L : List Ent} {z : List Int} {now : Int} {bot : Bool} {x : Ent} (h : x ∈ compE L z now bot) : x ∈ L := (mem_kept.1 (mem_comp.1 h).1).1
theorem comp_len (L : List Ent) (z : List Int) (now : Int) (bot : Bool) : (compE L z now bot).length ≤ L.length := by
  unfold compE
  split
  · exact Nat.le_trans (List.length_filter_le _ _) (List.length_filter_le _ _)
  · exact List.length_filter_le _ _
theorem vis_len (L : List Ent) (s now : Int) : (visE L s now).length ≤ L.length := List.length_filter_le _ _
theorem sorted_filter (p : Ent → Bool) : ∀ {L : List Ent}, Sorted L → Sorted (L.filter p)
  | [], h => h
  | a :: t, h => by
    have tl : Sorted t := fun i j hij hj => by
      have := h (i + 1) (j + 1) (by omega) (by simp; omega)
      rwa [List.getD_cons_succ, List.getD_cons_succ] at this
    have ih := sorted_filter p tl
    rw [List.filter_cons]
    split
    · intro i j hij hj
      cases i with
      | zero =>
        cases j with
        | zero => omega
        | succ j =>
          rw [List.getD_cons_zero, List.getD_cons_succ]
          have hm := getD_mem (L := t.filter p) (i := j) (by simpa using hj)
          obtain ⟨k, hk, he⟩ := mem_getD (List.mem_filter.1 hm).1
          have := h 0 (k + 1) (by omega) (by simp; omega)
          rw [List.getD_cons_zero, List.getD_cons_succ, he] at this
          exact this
      | succ i =>
        cases j with
        | zero => omega
        | succ j =>
          rw [List.getD_cons_succ, List.getD_cons_succ]
          exact ih i j (by omega) (by simpa using hj)
    · exact ih
theorem comp_sorted {L : List Ent} {z : List Int} {now : Int} {bot : Bool} (h : Sorted L) : Sorted (compE L z now bot) := by
  unfold compE
  split
  · exact sorted_filter _ (sorted_filter _ h)
  · exact sorted_filter _ h
/-- what was compacted stays as it is -/
theorem comp_twice (L : List Ent) (z : List Int) (now : Int) : compE (compE L z now false) z now false = compE L z now false := by
  show (keptE L z).filter (keepB (keptE L z) z) = keptE L z
  refine List.filter_eq_self.2 fun x hx => ?_
  obtain ⟨hl, hk⟩ := mem_kept.1 hx
  rw [keepB_iff] at hk ⊢
  rcases hk with hk | ⟨s, hs, hk⟩
  · exact .inl (headB_iff.2 fun y hy => headB_iff.1 hk y (mem_kept.1 hy).1)
  · rw [topB_iff] at hk
    exact .inr ⟨s, hs, topB_iff.2 ⟨hk.1, fun y hy => hk.2 y (mem_kept.1 hy).1⟩⟩
/-- the newest of those that are not above s -/
theorem newest (s : Int) (k : ByteArray) : ∀ (L : List Ent), (∃ x ∈ L, x.key = k ∧ x.seq ≤ s) → ∃ x ∈ L, x.key = k ∧ x.seq ≤ s ∧ ∀ y ∈ L, y.key = k → y.seq ≤ s → y.seq ≤ x.seq
  | [], ⟨x, hx, _⟩ => by simp at hx
  | a :: t, ⟨x, hx, hk, hs⟩ => by
    by_cases ht : ∃ x ∈ t, x.key = k ∧ x.seq ≤ s
    · obtain ⟨z, hz, zk, zs, zm⟩ := newest s k t ht
      by_cases ha : a.key = k ∧ a.seq ≤ s ∧ z.seq < a.seq
      · refine ⟨a, List.mem_cons_self .., ha.1, ha.2.1, fun y hy yk ys => ?_⟩
        rcases List.mem_cons.1 hy with rfl | hy
        · exact Int.le_refl _
        · have := zm y hy yk ys; omega
      · refine ⟨z, List.mem_cons_of_mem _ hz, zk, zs, fun y hy yk ys => ?_⟩
        rcases List.mem_cons.1 hy with rfl | hy
        · by_cases h2 : z.seq < y.seq
          · exact absurd ⟨yk, ys, h2⟩ ha
          · omega
        · exact zm y hy yk ys
    · rcases List.mem_cons.1 hx with rfl | hx
      · refine ⟨x, List.mem_cons_self .., hk, hs, fun y hy yk ys => ?_⟩
        rcases List.mem_cons.1 hy with rfl | hy
        · exact Int.le_refl _
        · exact absurd ⟨y, hy, yk, ys⟩ ht
      · exact absurd ⟨x, hx, hk, hs⟩ ht
theorem alive_mono {e : Ent} {a b : Int} (h : aliveE e b = true) (hab : a ≤ b) : aliveE e a = true := by
  unfold aliveE at h ⊢
  simp only [Bool.and_eq_true, Bool.or_eq_true, decide_eq_true_eq] at h ⊢
  exact ⟨h.1, h.2.imp id (fun h => by omega)⟩
/-- what is left shows a snap, or who reads all, the same, now and later -/
theorem vis_comp (L : List Ent) (z : List Int) (now : Int) (bot : Bool) (s t : Int) (hs : s ∈ z ∨ ∀ x ∈ L, x.seq ≤ s) (ht : now ≤ t) : visE (compE L z now bot) s t = visE L s t := by
  have hkeep : ∀ x ∈ L, topB L s x = true → x ∈ keptE L z := fun x hx h => by
    refine mem_kept.2 ⟨hx, keepB_iff.2 ?_⟩
    rcases hs with hs | hs
    · exact .inr ⟨s, hs, h⟩
    · exact .inl (headB_iff.2 fun y hy hk => (topB_iff.1 h).2 y hy hk (hs y hy))
  have key : ∀ x ∈ L, (x ∈ compE L z now bot ∧ topB (compE L z now bot) s x = true ∧ aliveE x t = true) ↔ (topB L s x = true ∧ aliveE x t = true) := fun x hx => by
    constructor
    · rintro ⟨h1, h2, h3⟩
      refine ⟨?_, h3⟩
      obtain ⟨w, hw, wk, ws, wm⟩ := newest s x.key L ⟨x, hx, rfl, (topB_iff.1 h2).1⟩
      have wt : topB L s w = true := topB_iff.2 ⟨ws, fun y hy yk ys => wm y hy (yk.trans wk) ys⟩
      have wK := hkeep w hw wt
      have hle : x.seq ≤ w.seq := wm x hx rfl (topB_iff.1 h2).1
      have wC : w ∈ compE L z now bot := by
        refine mem_comp.2 ⟨wK, fun hb => lateB_iff.2 ⟨x, (mem_comp.1 h1).1, wk.symm, hle, alive_mono h3 ht⟩⟩
      have hge : w.seq ≤ x.seq := (topB_iff.1 h2).2 w wC wk ws
      exact topB_iff.2 ⟨(topB_iff.1 h2).1, fun y hy yk ys => by have := wm y hy yk ys; omega⟩
    · rintro ⟨h1, h3⟩
      have hK := hkeep x hx h1
      refine ⟨mem_comp.2 ⟨hK, fun hb => lateB_iff.2 ⟨x, hK, rfl, Int.le_refl _, alive_mono h3 ht⟩⟩, topB_iff.2 ⟨(topB_iff.1 h1).1, fun y hy => (topB_iff.1 h1).2 y (comp_sub hy)⟩, h3⟩
  have hC : ∃ p : Ent → Bool, compE L z now bot = L.filter p ∧ ∀ x, x ∈ L → (p x = true ↔ x ∈ compE L z now bot) := by
    cases bot with
    | true =>
      refine ⟨fun x => keepB L z x && lateB (keptE L z) now x, ?_, fun x hx => ?_⟩
      · unfold compE keptE; rw [if_pos rfl, List.filter_filter]; congr 1; funext x; rw [Bool.and_comm]
      · rw [mem_comp, mem_kept, Bool.and_eq_true]; simp [hx]
    | false => exact ⟨keepB L z, rfl, fun x hx => by rw [mem_comp, mem_kept]; simp [hx]⟩
  obtain ⟨p, hp, hpm⟩ := hC
  show (compE L z now bot).filter (fun x => topB (compE L z now bot) s x && aliveE x t) = _
  conv => lhs; rw [hp]
  rw [List.filter_filter]
  unfold visE
  refine List.filter_congr fun x hx => ?_
  rw [Bool.eq_iff_iff]
  rw [← hp]
  simp only [Bool.and_eq_true]
  rw [hpm x hx]
  have := key x hx
  constructor
  · rintro ⟨⟨a, b⟩, c⟩; exact this.1 ⟨c, a, b⟩
  · intro h; obtain ⟨a, b, c⟩ := this.2 h; exact ⟨⟨b, c⟩, a⟩

/-! ### a list in order by places -/
theorem sorted_key {L : List Ent} (hs : Sorted L) {i j : Nat} (hij : i < j) (hj : j < L.length) (hk : (L.getD i ent0).key = (L.getD j ent0).key) : (L.getD j ent0).seq < (L.getD i ent0).seq := by
  have := hs i j hij hj
  rw [lessE_iff] at this
  rcases this with h | ⟨_, h⟩
  · have h0 := (cmpK_0 _ _).2 hk; omega
  · exact h
theorem lt_keys {L : List Ent} (hs : Sorted L) {i j k : Nat} (hij : i < j) (hjk : j < k) (hk : k < L.length) (hne : (L.getD i ent0).key ≠ (L.getD j ent0).key) : (L.getD i ent0).key ≠ (L.getD k ent0).key := by
  intro he
  have h1 := hs i j hij (by omega)
  have h2 := hs j k hjk hk
  rw [lessE_iff] at h1 h2
  have e1 : cmpK (L.getD i ent0).key (L.getD j ent0).key < 0 := by
    rcases h1 with h | ⟨h, _⟩
    · exact h
    · exact absurd h hne
  rw [← he] at h2
  have h3 := cmpK_neg (L.getD i ent0).key (L.getD j ent0).key
  have h0 := cmpK_0 (L.getD j ent0).key (L.getD i ent0).key
  rcases h2 with h | ⟨h, _⟩
  · omega
  · exact hne h.symm
/-- the place of the first of a key up to a number; -1: there is none -/
def FirstIs (L : List Ent) (key : ByteArray) (s : Int) (r : Int) : Prop :=
  (∃ i : Nat, r = (i : Int) ∧ i < L.length ∧ isK key s (L.getD i ent0) = true ∧ ∀ k, k < i → isK key s (L.getD k ent0) = false) ∨ (r = -1 ∧ ∀ k, k < L.length → isK key s (L.getD k ent0) = false)
theorem isK_iff {key : ByteArray} {s : Int} {e : Ent} : isK key s e = true ↔ e.key = key ∧ e.seq ≤ s := by simp [isK]
theorem first_top {L : List Ent} (hs : Sorted L) {i : Nat} (hi : i < L.length) {s r : Int} (h : FirstIs L (L.getD i ent0).key s r) : (r = (i : Int)) ↔ topB L s (L.getD i ent0) = true := by
  constructor
  · intro hr
    rcases h with ⟨j, hj, hl, hm, hb⟩ | ⟨hj, _⟩
    · obtain rfl : i = j := by omega
      obtain ⟨h1, h2⟩ := isK_iff.1 hm
      refine topB_iff.2 ⟨h2, fun y hy yk ys => ?_⟩
      obtain ⟨k, hk, rfl⟩ := mem_getD hy
      by_cases hki : k < i
      · have := hb k hki
        rw [Bool.eq_false_iff] at this
        exact absurd (isK_iff.2 ⟨yk, ys⟩) this
      · by_cases he : k = i
        · subst he; exact Int.le_refl _
        · have := sorted_key hs (i := i) (j := k) (by omega) hk yk.symm; omega
    · omega
  · intro ht
    obtain ⟨h1, h2⟩ := topB_iff.1 ht
    rcases h with ⟨j, hj, hl, hm, hb⟩ | ⟨_, hn⟩
    · obtain ⟨hk, hs2⟩ := isK_iff.1 hm
      have hle := h2 _ (getD_mem hl) hk hs2
      have hji : ¬ i < j := fun hlt => by
        have := hb i hlt
        rw [Bool.eq_false_iff] at this
        exact this (isK_iff.2 ⟨rfl, h1⟩)
      by_cases he : j = i
      · subst he; exact hj
      · have := sorted_key hs (i := j) (j := i) (by omega) hi hk; omega
    · have := hn i hi
      rw [Bool.eq_false_iff] at this
      exact absurd (isK_iff.2 ⟨rfl, h1⟩) this

/-- the entries of one key: from p on, below q -/
structure Grp (L : List Ent) (p q : Nat) : Prop where
  lt : p < q
  le : q ≤ L.length
  same : ∀ i, p ≤ i → i < q → (L.getD i ent0).key = (L.getD p ent0).key
  ahead : ∀ i, i < p → (L.getD i ent0).key ≠ (L.getD p ent0).key
  behind : ∀ i, q ≤ i → i < L.length → (L.getD i ent0).key ≠ (L.getD p ent0).key
/-- no key lies on both sides of p -/
def Cut (L : List Ent) (p : Nat) : Prop := ∀ i j, i < p → p ≤ j → j < L.length → (L.getD i ent0).key ≠ (L.getD j ent0).key
theorem cut_0 (L : List Ent) : Cut L 0 := fun i j h => by omega
theorem Grp.cut {L : List Ent} {p q : Nat} (g : Grp L p q) (h : Cut L p) : Cut L q := fun i j hi hj hl => by
  by_cases hip : i < p
  · exact h i j hip (by have := g.lt; omega) hl
  · intro e
    exact g.behind j hj hl (e.symm.trans (g.same i (by omega) hi))
theorem grp_of {L : List Ent} (hs : Sorted L) {p q : Nat} (hc : Cut L p) (hpq : p < q) (hq : q ≤ L.length) (hsame : ∀ i, p ≤ i → i < q → (L.getD i ent0).key = (L.getD p ent0).key) (hn : q < L.length → (L.getD q ent0).key ≠ (L.getD p ent0).key) : Grp L p q :=
  ⟨hpq, hq, hsame, fun i hi => hc i p hi (Nat.le_refl _) (by omega), fun i hi hl => by
    by_cases he : i = q
    · subst he; exact hn hl
    · exact (lt_keys hs (i := p) (j := q) (k := i) hpq (by omega) hl (fun e => hn (by omega) e.symm)).symm⟩
/-- in a group, from p on, the first up to a number -/
def UpIs (L : List Ent) (p q : Nat) (s : Int) (r : Int) : Prop :=
  (∃ i : Nat, r = (i : Int) ∧ p + i < q ∧ (L.getD (p + i) ent0).seq ≤ s ∧ ∀ k, k < i → s < (L.getD (p + k) ent0).seq) ∨ (r = -1 ∧ ∀ k, p + k < q → s < (L.getD (p + k) ent0).seq)
theorem up_top {L : List Ent} (hs : Sorted L) {p q : Nat} (g : Grp L p q) {s r : Int} (h : UpIs L p q s r) {j : Nat} (hj : p + j < q) : (r = (j : Int)) ↔ topB L s (L.getD (p + j) ent0) = true := by
  have hjl : p + j < L.length := by have := g.le; omega
  have hkj := g.same (p + j) (by omega) hj
  have hf : FirstIs L (L.getD (p + j) ent0).key s (if r = -1 then -1 else r + p) := by
    rcases h with ⟨i, rfl, hi, hle, hb⟩ | ⟨rfl, hn⟩
    · refine .inl ⟨p + i, by rw [if_neg (by omega)]; omega, by have := g.le; omega, isK_iff.2 ⟨(g.same (p + i) (by omega) hi).trans hkj.symm, hle⟩, fun k hk => ?_⟩
      rw [Bool.eq_false_iff]
      intro hh
      obtain ⟨h1, h2⟩ := isK_iff.1 hh
      by_cases hkp : k < p
      · exact g.ahead k hkp (h1.trans hkj)
      · have := hb (k - p) (by omega)
        rw [show p + (k - p) = k from by omega] at this
        omega
    · refine .inr ⟨by rw [if_pos rfl], fun k hk => ?_⟩
      rw [Bool.eq_false_iff]
      intro hh
      obtain ⟨h1, h2⟩ := isK_iff.1 hh
      by_cases hkp : k < p
      · exact g.ahead k hkp (h1.trans hkj)
      · by_cases hkq : k < q
        · have := hn (k - p) (by omega)
          rw [show p + (k - p) = k from by omega] at this
          omega
        · exact g.behind k (by omega) hk (h1.trans hkj)
  rw [← first_top hs hjl hf]
  rcases h with ⟨i, rfl, hi, hle, hb⟩ | ⟨rfl, hn⟩
  · rw [if_neg (by omega)]; omega
  · rw [if_pos rfl]; omega
theorem head_top {L : List Ent} (hs : Sorted L) {p q : Nat} (g : Grp L p q) {j : Nat} (hj : p + j < q) : headB L (L.getD (p + j) ent0) = true ↔ j = 0 := by
  have hjl : p + j < L.length := by have := g.le; omega
  rw [headB_iff]
  constructor
  · intro h
    by_cases h0 : j = 0
    · exact h0
    · have hp : p < L.length := by omega
      have h1 := h _ (getD_mem hp) (g.same (p + j) (by omega) hj).symm
      have h2 := sorted_key hs (i := p) (j := p + j) (by omega) hjl (g.same (p + j) (by omega) hj).symm
      omega
  · rintro rfl y hy hk
    obtain ⟨k, hkl, rfl⟩ := mem_getD hy
    rw [Nat.add_zero] at hk ⊢
    by_cases h1 : k < p
    · exact absurd hk (g.ahead k h1)
    · by_cases h2 : k = p
      · subst h2; exact Int.le_refl _
      · have := sorted_key hs (i := p) (j := k) (by omega) hkl hk.symm; omega
theorem filter_take_succ (P : Ent → Bool) (L : List Ent) (i : Nat) (h : i < L.length) : (L.take (i + 1)).filter P = (L.take i).filter P ++ (if P (L.getD i ent0) = true then [L.getD i ent0] else []) := by
  rw [take_snoc L i ent0 h, List.filter_append]
  congr 1
  rw [List.filter_cons]
  split <;> simp
/-- in a group only the one at r is told -/
theorem filter_one (P : Ent → Bool) (L : List Ent) (p : Nat) (r : Nat) : ∀ m, p + m ≤ L.length → (∀ k, k < m → k ≠ r → P (L.getD (p + k) ent0) = false) → (L.take (p + m)).filter P = (L.take p).filter P ++ (if r < m ∧ P (L.getD (p + r) ent0) = true then [L.getD (p + r) ent0] else [])
  | 0, _, _ => by simp
  | m + 1, hm, h => by
    rw [show p + (m + 1) = p + m + 1 from rfl, filter_take_succ P L (p + m) (by omega), filter_one P L p r m (by omega) (fun k hk => h k (by omega)), List.append_assoc]
    congr 1
    by_cases hr : r = m
    · subst hr
      rw [if_neg (by omega), List.nil_append]
      by_cases hP : P (L.getD (p + r) ent0) = true
      · rw [if_pos hP, if_pos ⟨by omega, hP⟩]
      · rw [if_neg hP, if_neg (fun hh => hP hh.2)]
    · rw [if_neg (show ¬ P (L.getD (p + m) ent0) = true by rw [h m (by omega) (fun e => hr e.symm)]; decide), List.append_nil]
      by_cases hP : r < m ∧ P (L.getD (p + r) ent0) = true
      · rw [if_pos hP, if_pos (show r < m + 1 ∧ P (L.getD (p + r) ent0) = true from ⟨by omega, hP.2⟩)]
      · rw [if_neg hP, if_neg (show ¬ (r < m + 1 ∧ P (L.getD (p + r) ent0) = true) from fun hh => hP ⟨by omega, hh.2⟩)]
/-- what is visible of a list's first q -/
def visT (L : List Ent) (s now : Int) (q : Nat) : List Ent := (L.take q).filter (fun x => topB L s x && aliveE x now)
theorem visT_all (L : List Ent) (s now : Int) : visT L s now L.length = visE L s now := by unfold visT visE; rw [List.take_length]
theorem visT_grp {L : List Ent} (hs : Sorted L) {p q : Nat} (g : Grp L p q) {s r now : Int} (h : UpIs L p q s r) :
    visT L s now q = visT L s now p ++ (if 0 ≤ r ∧ aliveE (L.getD (p + r.toNat) ent0) now = true then [L.getD (p + r.toNat) ent0] else []) := by
  have hpq := g.lt
  have hql := g.le
  have hq : q = p + (q - p) := by omega
  unfold visT
  conv => lhs; rw [hq]
  rw [filter_one _ L p (if r = -1 then q else r.toNat) (q - p) (by omega) (fun k hk hne => by
    have := (up_top hs g h (j := k) (by omega))
    rw [Bool.eq_false_iff]
    intro hh
    rw [Bool.and_eq_true] at hh
    have hr := this.2 hh.1
    rw [if_neg (by omega)] at hne
    omega)]
  congr 1
  rcases h with ⟨i, rfl, hi, hle, hb⟩ | ⟨rfl, hn⟩
  · have ht := (up_top hs g (.inl ⟨i, rfl, hi, hle, hb⟩) (j := i) (by omega)).1 rfl
    rw [if_neg (show ¬ (i : Int) = -1 by omega)]
    simp only [Int.toNat_natCast]
    by_cases ha : aliveE (L.getD (p + i) ent0) now = true
    · rw [if_pos ⟨by omega, by simp only [ht, ha]; rfl⟩, if_pos ⟨by omega, ha⟩]
    · rw [if_neg (fun hh => ha (by have := hh.2; rw [Bool.and_eq_true] at this; exact this.2)), if_neg (fun hh => ha hh.2)]
  · rw [if_pos rfl, if_neg (by omega), if_neg (by omega)]
end Go.Proofs.Ytmgdcebbeglcmaa.En
