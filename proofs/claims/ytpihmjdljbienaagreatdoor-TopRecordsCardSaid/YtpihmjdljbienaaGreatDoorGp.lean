/- Several texts in one: MrgV, MrgC, MrgHP, MrgI, TopY. -/
import Derived.Test.YtpihmjdljbienaaGreatDoorGa
/- What is visible, what is kept: plain; groups of one key. No program in sight. -/
namespace Go.Proofs.YtpihmjdljbienaaGreatDoor.En
open B
set_option linter.unusedVariables false

def aliveE (e : Ent) (now : Int) : Bool := !e.gone && (decide (e.til = 0) || decide (now ≤ e.til))
/-- the newest of its key up to a number -/
def topB (L : List Ent) (s : Int) (x : Ent) : Bool := decide (x.seq ≤ s) && L.all (fun y => !(decide (y.key = x.key) && decide (y.seq ≤ s)) || decide (y.seq ≤ x.seq))
def visE (L : List Ent) (s now : Int) : List Ent := L.filter (fun x => topB L s x && aliveE x now)
def headM (L : List Ent) (x : Ent) : Bool := L.all (fun y => !(decide (y.key = x.key)) || decide (y.seq ≤ x.seq))
def keepB (L : List Ent) (z : List Int) (x : Ent) : Bool := headM L x || z.any (fun s => topB L s x)
def lateB (K : List Ent) (now : Int) (x : Ent) : Bool := K.any (fun y => decide (y.key = x.key) && decide (y.seq ≤ x.seq) && aliveE y now)
def keptE (L : List Ent) (z : List Int) : List Ent := L.filter (keepB L z)
def compE (L : List Ent) (z : List Int) (now : Int) (bot : Bool) : List Ent := if bot then (keptE L z).filter (lateB (keptE L z) now) else keptE L z

theorem topB_iff {L : List Ent} {s : Int} {x : Ent} : topB L s x = true ↔ x.seq ≤ s ∧ ∀ y ∈ L, y.key = x.key → y.seq ≤ s → y.seq ≤ x.seq := by
  unfold topB
  rw [Bool.and_eq_true, decide_eq_true_eq, List.all_eq_true]
  constructor
  · rintro ⟨h1, h2⟩
    refine ⟨h1, fun y hy hk hs => ?_⟩
    have := h2 y hy
    simpa [hk, hs] using this
  · rintro ⟨h1, h2⟩
    refine ⟨h1, fun y hy => ?_⟩
    by_cases hk : y.key = x.key
    · by_cases hs : y.seq ≤ s
      · simp [h2 y hy hk hs]
      · simp [hs]
    · simp [hk]
theorem headB_iff {L : List Ent} {x : Ent} : headM L x = true ↔ ∀ y ∈ L, y.key = x.key → y.seq ≤ x.seq := by
  unfold headM
  rw [List.all_eq_true]
  constructor
  · intro h y hy hk
    have := h y hy
    simpa [hk] using this
  · intro h y hy
    by_cases hk : y.key = x.key
    · simp [h y hy hk]
    · simp [hk]
theorem keepB_iff {L : List Ent} {z : List Int} {x : Ent} : keepB L z x = true ↔ headM L x = true ∨ ∃ s ∈ z, topB L s x = true := by
  unfold keepB; rw [Bool.or_eq_true, List.any_eq_true]
theorem lateB_iff {K : List Ent} {now : Int} {x : Ent} : lateB K now x = true ↔ ∃ y ∈ K, y.key = x.key ∧ y.seq ≤ x.seq ∧ aliveE y now = true := by
  unfold lateB
  rw [List.any_eq_true]
  constructor
  · rintro ⟨y, hy, h⟩; simp only [Bool.and_eq_true, decide_eq_true_eq] at h; exact ⟨y, hy, h.1.1, h.1.2, h.2⟩
  · rintro ⟨y, hy, h1, h2, h3⟩; exact ⟨y, hy, by simp [h1, h2, h3]⟩
theorem mem_kept {L : List Ent} {z : List Int} {x : Ent} : x ∈ keptE L z ↔ x ∈ L ∧ keepB L z x = true := by unfold keptE; rw [List.mem_filter]
theorem mem_comp {L : List Ent} {z : List Int} {now : Int} {bot : Bool} {x : Ent} : x ∈ compE L z now bot ↔ x ∈ keptE L z ∧ (bot = true → lateB (keptE L z) now x = true) := by
  unfold compE
  cases bot with
  | true => rw [if_pos rfl, List.mem_filter]; simp
  | false => rw [if_neg (by decide)]; simp
theorem comp_sub {L : List Ent} {z : List Int} {now : Int} {bot : Bool} {x : Ent} (h : x ∈ compE L z now bot) : x ∈ L := (mem_kept.1 (mem_comp.1 h).1).1
theorem comp_len (L : List Ent) (z : List Int) (now : Int) (bot : Bool) : (compE L z now bot).length ≤ L.length := by
  unfold compE
  split
  · exact Nat.le_trans (List.length_filter_le _ _) (List.length_filter_le _ _)
  · exact List.length_filter_le _ _
theorem vis_len (L : List Ent) (s now : Int) : (visE L s now).length ≤ L.length := List.length_filter_le _ _
theorem sorted_filter (p : Ent → Bool) : ∀ {L : List Ent}, Sorted L → Sorted (L.filter p)
  | [], h => h
  | a :: t, h => by
    have tl : Sorted t := fun i j hij hj => by
      have := h (i + 1) (j + 1) (by omega) (by simp; omega)
      rwa [List.getD_cons_succ, List.getD_cons_succ] at this
    have ih := sorted_filter p tl
    rw [List.filter_cons]
    split
    · intro i j hij hj
      cases i with
      | zero =>
        cases j with
        | zero => omega
        | succ j =>
          rw [List.getD_cons_zero, List.getD_cons_succ]
          have hm := getD_mem (L := t.filter p) (i := j) (by simpa using hj)
          obtain ⟨k, hk, he⟩ := mem_getD (List.mem_filter.1 hm).1
          have := h 0 (k + 1) (by omega) (by simp; omega)
          rw [List.getD_cons_zero, List.getD_cons_succ, he] at this
          exact this
      | succ i =>
        cases j with
        | zero => omega
        | succ j =>
          rw [List.getD_cons_succ, List.getD_cons_succ]
          exact ih i j (by omega) (by simpa using hj)
    · exact ih
theorem comp_sorted {L : List Ent} {z : List Int} {now : Int} {bot : Bool} (h : Sorted L) : Sorted (compE L z now bot) := by
  unfold compE
  split
  · exact sorted_filter _ (sorted_filter _ h)
  · exact sorted_filter _ h
/-- what was compacted stays as it is -/
theorem comp_twice (L : List Ent) (z : List Int) (now : Int) : compE (compE L z now false) z now false = compE L z now false := by
  show (keptE L z).filter (keepB (keptE L z) z) = keptE L z
  refine List.filter_eq_self.2 fun x hx => ?_
  obtain ⟨hl, hk⟩ := mem_kept.1 hx
  rw [keepB_iff] at hk ⊢
  rcases hk with hk | ⟨s, hs, hk⟩
  · exact .inl (headB_iff.2 fun y hy => headB_iff.1 hk y (mem_kept.1 hy).1)
  · rw [topB_iff] at hk
    exact .inr ⟨s, hs, topB_iff.2 ⟨hk.1, fun y hy => hk.2 y (mem_kept.1 hy).1⟩⟩
/-- the newest of those that are not above s -/
theorem newest (s : Int) (k : ByteArray) : ∀ (L : List Ent), (∃ x ∈ L, x.key = k ∧ x.seq ≤ s) → ∃ x ∈ L, x.key = k ∧ x.seq ≤ s ∧ ∀ y ∈ L, y.key = k → y.seq ≤ s → y.seq ≤ x.seq
  | [], ⟨x, hx, _⟩ => by simp at hx
  | a :: t, ⟨x, hx, hk, hs⟩ => by
    by_cases ht : ∃ x ∈ t, x.key = k ∧ x.seq ≤ s
    · obtain ⟨z, hz, zk, zs, zm⟩ := newest s k t ht
      by_cases ha : a.key = k ∧ a.seq ≤ s ∧ z.seq < a.seq
      · refine ⟨a, List.mem_cons_self .., ha.1, ha.2.1, fun y hy yk ys => ?_⟩
        rcases List.mem_cons.1 hy with rfl | hy
        · exact Int.le_refl _
        · have := zm y hy yk ys; omega
      · refine ⟨z, List.mem_cons_of_mem _ hz, zk, zs, fun y hy yk ys => ?_⟩
        rcases List.mem_cons.1 hy with rfl | hy
        · by_cases h2 : z.seq < y.seq
          · exact absurd ⟨yk, ys, h2⟩ ha
          · omega
        · exact zm y hy yk ys
    · rcases List.mem_cons.1 hx with rfl | hx
      · refine ⟨x, List.mem_cons_self .., hk, hs, fun y hy yk ys => ?_⟩
        rcases List.mem_cons.1 hy with rfl | hy
        · exact Int.le_refl _
        · exact absurd ⟨y, hy, yk, ys⟩ ht
      · exact absurd ⟨x, hx, hk, hs⟩ ht
theorem alive_mono {e : Ent} {a b : Int} (h : aliveE e b = true) (hab : a ≤ b) : aliveE e a = true := by
  unfold aliveE at h ⊢
  simp only [Bool.and_eq_true, Bool.or_eq_true, decide_eq_true_eq] at h ⊢
  exact ⟨h.1, h.2.imp id (fun h => by omega)⟩
/-- what is left shows a snap, or who reads all, the same, now and later -/
theorem vis_comp (L : List Ent) (z : List Int) (now : Int) (bot : Bool) (s t : Int) (hs : s ∈ z ∨ ∀ x ∈ L, x.seq ≤ s) (ht : now ≤ t) : visE (compE L z now bot) s t = visE L s t := by
  have hkeep : ∀ x ∈ L, topB L s x = true → x ∈ keptE L z := fun x hx h => by
    refine mem_kept.2 ⟨hx, keepB_iff.2 ?_⟩
    rcases hs with hs | hs
    · exact .inr ⟨s, hs, h⟩
    · exact .inl (headB_iff.2 fun y hy hk => (topB_iff.1 h).2 y hy hk (hs y hy))
  have key : ∀ x ∈ L, (x ∈ compE L z now bot ∧ topB (compE L z now bot) s x = true ∧ aliveE x t = true) ↔ (topB L s x = true ∧ aliveE x t = true) := fun x hx => by
    constructor
    · rintro ⟨h1, h2, h3⟩
      refine ⟨?_, h3⟩
      obtain ⟨w, hw, wk, ws, wm⟩ := newest s x.key L ⟨x, hx, rfl, (topB_iff.1 h2).1⟩
      have wt : topB L s w = true := topB_iff.2 ⟨ws, fun y hy yk ys => wm y hy (yk.trans wk) ys⟩
      have wK := hkeep w hw wt
      have hle : x.seq ≤ w.seq := wm x hx rfl (topB_iff.1 h2).1
      have wC : w ∈ compE L z now bot := by
        refine mem_comp.2 ⟨wK, fun hb => lateB_iff.2 ⟨x, (mem_comp.1 h1).1, wk.symm, hle, alive_mono h3 ht⟩⟩
      have hge : w.seq ≤ x.seq := (topB_iff.1 h2).2 w wC wk ws
      exact topB_iff.2 ⟨(topB_iff.1 h2).1, fun y hy yk ys => by have := wm y hy yk ys; omega⟩
    · rintro ⟨h1, h3⟩
      have hK := hkeep x hx h1
      refine ⟨mem_comp.2 ⟨hK, fun hb => lateB_iff.2 ⟨x, hK, rfl, Int.le_refl _, alive_mono h3 ht⟩⟩, topB_iff.2 ⟨(topB_iff.1 h1).1, fun y hy => (topB_iff.1 h1).2 y (comp_sub hy)⟩, h3⟩
  have hC : ∃ p : Ent → Bool, compE L z now bot = L.filter p ∧ ∀ x, x ∈ L → (p x = true ↔ x ∈ compE L z now bot) := by
    cases bot with
    | true =>
      refine ⟨fun x => keepB L z x && lateB (keptE L z) now x, ?_, fun x hx => ?_⟩
      · unfold compE keptE; rw [if_pos rfl, List.filter_filter]; congr 1; funext x; rw [Bool.and_comm]
      · rw [mem_comp, mem_kept, Bool.and_eq_true]; simp [hx]
    | false => exact ⟨keepB L z, rfl, fun x hx => by rw [mem_comp, mem_kept]; simp [hx]⟩
  obtain ⟨p, hp, hpm⟩ := hC
  show (compE L z now bot).filter (fun x => topB (compE L z now bot) s x && aliveE x t) = _
  conv => lhs; rw [hp]
  rw [List.filter_filter]
  unfold visE
  refine List.filter_congr fun x hx => ?_
  rw [Bool.eq_iff_iff]
  rw [← hp]
  simp only [Bool.and_eq_true]
  rw [hpm x hx]
  have := key x hx
  constructor
  · rintro ⟨⟨a, b⟩, c⟩; exact this.1 ⟨c, a, b⟩
  · intro h; obtain ⟨a, b, c⟩ := this.2 h; exact ⟨⟨b, c⟩, a⟩

/-! ### a list in order by places -/
theorem sorted_key {L : List Ent} (hs : Sorted L) {i j : Nat} (hij : i < j) (hj : j < L.length) (hk : (L.getD i ent0).key = (L.getD j ent0).key) : (L.getD j ent0).seq < (L.getD i ent0).seq := by
  have := hs i j hij hj
  rw [lessE_iff] at this
  rcases this with h | ⟨_, h⟩
  · have h0 := (cmpK_0 _ _).2 hk; omega
  · exact h
theorem lt_keys {L : List Ent} (hs : Sorted L) {i j k : Nat} (hij : i < j) (hjk : j < k) (hk : k < L.length) (hne : (L.getD i ent0).key ≠ (L.getD j ent0).key) : (L.getD i ent0).key ≠ (L.getD k ent0).key := by
  intro he
  have h1 := hs i j hij (by omega)
  have h2 := hs j k hjk hk
  rw [lessE_iff] at h1 h2
  have e1 : cmpK (L.getD i ent0).key (L.getD j ent0).key < 0 := by
    rcases h1 with h | ⟨h, _⟩
    · exact h
    · exact absurd h hne
  rw [← he] at h2
  have h3 := cmpK_neg (L.getD i ent0).key (L.getD j ent0).key
  have h0 := cmpK_0 (L.getD j ent0).key (L.getD i ent0).key
  rcases h2 with h | ⟨h, _⟩
  · omega
  · exact hne h.symm
/-- the place of the first of a key up to a number; -1: there is none -/
def FirstIs (L : List Ent) (key : ByteArray) (s : Int) (r : Int) : Prop :=
  (∃ i : Nat, r = (i : Int) ∧ i < L.length ∧ isK key s (L.getD i ent0) = true ∧ ∀ k, k < i → isK key s (L.getD k ent0) = false) ∨ (r = -1 ∧ ∀ k, k < L.length → isK key s (L.getD k ent0) = false)
theorem isK_iff {key : ByteArray} {s : Int} {e : Ent} : isK key s e = true ↔ e.key = key ∧ e.seq ≤ s := by simp [isK]
theorem first_top {L : List Ent} (hs : Sorted L) {i : Nat} (hi : i < L.length) {s r : Int} (h : FirstIs L (L.getD i ent0).key s r) : (r = (i : Int)) ↔ topB L s (L.getD i ent0) = true := by
  constructor
  · intro hr
    rcases h with ⟨j, hj, hl, hm, hb⟩ | ⟨hj, _⟩
    · obtain rfl : i = j := by omega
      obtain ⟨h1, h2⟩ := isK_iff.1 hm
      refine topB_iff.2 ⟨h2, fun y hy yk ys => ?_⟩
      obtain ⟨k, hk, rfl⟩ := mem_getD hy
      by_cases hki : k < i
      · have := hb k hki
        rw [Bool.eq_false_iff] at this
        exact absurd (isK_iff.2 ⟨yk, ys⟩) this
      · by_cases he : k = i
        · subst he; exact Int.le_refl _
        · have := sorted_key hs (i := i) (j := k) (by omega) hk yk.symm; omega
    · omega
  · intro ht
    obtain ⟨h1, h2⟩ := topB_iff.1 ht
    rcases h with ⟨j, hj, hl, hm, hb⟩ | ⟨_, hn⟩
    · obtain ⟨hk, hs2⟩ := isK_iff.1 hm
      have hle := h2 _ (getD_mem hl) hk hs2
      have hji : ¬ i < j := fun hlt => by
        have := hb i hlt
        rw [Bool.eq_false_iff] at this
        exact this (isK_iff.2 ⟨rfl, h1⟩)
      by_cases he : j = i
      · subst he; exact hj
      · have := sorted_key hs (i := j) (j := i) (by omega) hi hk; omega
    · have := hn i hi
      rw [Bool.eq_false_iff] at this
      exact absurd (isK_iff.2 ⟨rfl, h1⟩) this

/-- the entries of one key: from p on, below q -/
structure Grp (L : List Ent) (p q : Nat) : Prop where
  lt : p < q
  le : q ≤ L.length
  same : ∀ i, p ≤ i → i < q → (L.getD i ent0).key = (L.getD p ent0).key
  ahead : ∀ i, i < p → (L.getD i ent0).key ≠ (L.getD p ent0).key
  behind : ∀ i, q ≤ i → i < L.length → (L.getD i ent0).key ≠ (L.getD p ent0).key
/-- no key lies on both sides of p -/
def Cut (L : List Ent) (p : Nat) : Prop := ∀ i j, i < p → p ≤ j → j < L.length → (L.getD i ent0).key ≠ (L.getD j ent0).key
theorem cut_0 (L : List Ent) : Cut L 0 := fun i j h => by omega
theorem Grp.cut {L : List Ent} {p q : Nat} (g : Grp L p q) (h : Cut L p) : Cut L q := fun i j hi hj hl => by
  by_cases hip : i < p
  · exact h i j hip (by have := g.lt; omega) hl
  · intro e
    exact g.behind j hj hl (e.symm.trans (g.same i (by omega) hi))
theorem grp_of {L : List Ent} (hs : Sorted L) {p q : Nat} (hc : Cut L p) (hpq : p < q) (hq : q ≤ L.length) (hsame : ∀ i, p ≤ i → i < q → (L.getD i ent0).key = (L.getD p ent0).key) (hn : q < L.length → (L.getD q ent0).key ≠ (L.getD p ent0).key) : Grp L p q :=
  ⟨hpq, hq, hsame, fun i hi => hc i p hi (Nat.le_refl _) (by omega), fun i hi hl => by
    by_cases he : i = q
    · subst he; exact hn hl
    · exact (lt_keys hs (i := p) (j := q) (k := i) hpq (by omega) hl (fun e => hn (by omega) e.symm)).symm⟩
/-- in a group, from p on, the first up to a number -/
def UpIs (L : List Ent) (p q : Nat) (s : Int) (r : Int) : Prop :=
  (∃ i : Nat, r = (i : Int) ∧ p + i < q ∧ (L.getD (p + i) ent0).seq ≤ s ∧ ∀ k, k < i → s < (L.getD (p + k) ent0).seq) ∨ (r = -1 ∧ ∀ k, p + k < q → s < (L.getD (p + k) ent0).seq)
theorem up_top {L : List Ent} (hs : Sorted L) {p q : Nat} (g : Grp L p q) {s r : Int} (h : UpIs L p q s r) {j : Nat} (hj : p + j < q) : (r = (j : Int)) ↔ topB L s (L.getD (p + j) ent0) = true := by
  have hjl : p + j < L.length := by have := g.le; omega
  have hkj := g.same (p + j) (by omega) hj
  have hf : FirstIs L (L.getD (p + j) ent0).key s (if r = -1 then -1 else r + p) := by
    rcases h with ⟨i, rfl, hi, hle, hb⟩ | ⟨rfl, hn⟩
    · refine .inl ⟨p + i, by rw [if_neg (by omega)]; omega, by have := g.le; omega, isK_iff.2 ⟨(g.same (p + i) (by omega) hi).trans hkj.symm, hle⟩, fun k hk => ?_⟩
      rw [Bool.eq_false_iff]
      intro hh
      obtain ⟨h1, h2⟩ := isK_iff.1 hh
      by_cases hkp : k < p
      · exact g.ahead k hkp (h1.trans hkj)
      · have := hb (k - p) (by omega)
        rw [show p + (k - p) = k from by omega] at this
        omega
    · refine .inr ⟨by rw [if_pos rfl], fun k hk => ?_⟩
      rw [Bool.eq_false_iff]
      intro hh
      obtain ⟨h1, h2⟩ := isK_iff.1 hh
      by_cases hkp : k < p
      · exact g.ahead k hkp (h1.trans hkj)
      · by_cases hkq : k < q
        · have := hn (k - p) (by omega)
          rw [show p + (k - p) = k from by omega] at this
          omega
        · exact g.behind k (by omega) hk (h1.trans hkj)
  rw [← first_top hs hjl hf]
  rcases h with ⟨i, rfl, hi, hle, hb⟩ | ⟨rfl, hn⟩
  · rw [if_neg (by omega)]; omega
  · rw [if_pos rfl]; omega
theorem head_top {L : List Ent} (hs : Sorted L) {p q : Nat} (g : Grp L p q) {j : Nat} (hj : p + j < q) : headM L (L.getD (p + j) ent0) = true ↔ j = 0 := by
  have hjl : p + j < L.length := by have := g.le; omega
  rw [headB_iff]
  constructor
  · intro h
    by_cases h0 : j = 0
    · exact h0
    · have hp : p < L.length := by omega
      have h1 := h _ (getD_mem hp) (g.same (p + j) (by omega) hj).symm
      have h2 := sorted_key hs (i := p) (j := p + j) (by omega) hjl (g.same (p + j) (by omega) hj).symm
      omega
  · rintro rfl y hy hk
    obtain ⟨k, hkl, rfl⟩ := mem_getD hy
    rw [Nat.add_zero] at hk ⊢
    by_cases h1 : k < p
    · exact absurd hk (g.ahead k h1)
    · by_cases h2 : k = p
      · subst h2; exact Int.le_refl _
      · have := sorted_key hs (i := p) (j := k) (by omega) hkl hk.symm; omega
theorem filter_take_succ (P : Ent → Bool) (L : List Ent) (i : Nat) (h : i < L.length) : (L.take (i + 1)).filter P = (L.take i).filter P ++ (if P (L.getD i ent0) = true then [L.getD i ent0] else []) := by
  rw [take_snoc L i ent0 h, List.filter_append]
  congr 1
  rw [List.filter_cons]
  split <;> simp
/-- in a group only the one at r is told -/
theorem filter_one (P : Ent → Bool) (L : List Ent) (p : Nat) (r : Nat) : ∀ m, p + m ≤ L.length → (∀ k, k < m → k ≠ r → P (L.getD (p + k) ent0) = false) → (L.take (p + m)).filter P = (L.take p).filter P ++ (if r < m ∧ P (L.getD (p + r) ent0) = true then [L.getD (p + r) ent0] else [])
  | 0, _, _ => by simp
  | m + 1, hm, h => by
    rw [show p + (m + 1) = p + m + 1 from rfl, filter_take_succ P L (p + m) (by omega), filter_one P L p r m (by omega) (fun k hk => h k (by omega)), List.append_assoc]
    congr 1
    by_cases hr : r = m
    · subst hr
      rw [if_neg (by omega), List.nil_append]
      by_cases hP : P (L.getD (p + r) ent0) = true
      · rw [if_pos hP, if_pos ⟨by omega, hP⟩]
      · rw [if_neg hP, if_neg (fun hh => hP hh.2)]
    · rw [if_neg (show ¬ P (L.getD (p + m) ent0) = true by rw [h m (by omega) (fun e => hr e.symm)]; decide), List.append_nil]
      by_cases hP : r < m ∧ P (L.getD (p + r) ent0) = true
      · rw [if_pos hP, if_pos (show r < m + 1 ∧ P (L.getD (p + r) ent0) = true from ⟨by omega, hP.2⟩)]
      · rw [if_neg hP, if_neg (show ¬ (r < m + 1 ∧ P (L.getD (p + r) ent0) = true) from fun hh => hP ⟨by omega, hh.2⟩)]
/-- what is visible of a list's first q -/
def visT (L : List Ent) (s now : Int) (q : Nat) : List Ent := (L.take q).filter (fun x => topB L s x && aliveE x now)
theorem visT_all (L : List Ent) (s now : Int) : visT L s now L.length = visE L s now := by unfold visT visE; rw [List.take_length]
theorem visT_grp {L : List Ent} (hs : Sorted L) {p q : Nat} (g : Grp L p q) {s r now : Int} (h : UpIs L p q s r) :
    visT L s now q = visT L s now p ++ (if 0 ≤ r ∧ aliveE (L.getD (p + r.toNat) ent0) now = true then [L.getD (p + r.toNat) ent0] else []) := by
  have hpq := g.lt
  have hql := g.le
  have hq : q = p + (q - p) := by omega
  unfold visT
  conv => lhs; rw [hq]
  rw [filter_one _ L p (if r = -1 then q else r.toNat) (q - p) (by omega) (fun k hk hne => by
    have := (up_top hs g h (j := k) (by omega))
    rw [Bool.eq_false_iff]
    intro hh
    rw [Bool.and_eq_true] at hh
    have hr := this.2 hh.1
    rw [if_neg (by omega)] at hne
    omega)]
  congr 1
  rcases h with ⟨i, rfl, hi, hle, hb⟩ | ⟨rfl, hn⟩
  · have ht := (up_top hs g (.inl ⟨i, rfl, hi, hle, hb⟩) (j := i) (by omega)).1 rfl
    rw [if_neg (show ¬ (i : Int) = -1 by omega)]
    simp only [Int.toNat_natCast]
    by_cases ha : aliveE (L.getD (p + i) ent0) now = true
    · rw [if_pos ⟨by omega, by simp only [ht, ha]; rfl⟩, if_pos ⟨by omega, ha⟩]
    · rw [if_neg (fun hh => ha (by have := hh.2; rw [Bool.and_eq_true] at this; exact this.2)), if_neg (fun hh => ha hh.2)]
  · rw [if_pos rfl, if_neg (by omega), if_neg (by omega)]
end Go.Proofs.YtpihmjdljbienaaGreatDoor.En

/- What is kept, group by group: plain. -/
namespace Go.Proofs.YtpihmjdljbienaaGreatDoor.En
open B
set_option linter.unusedVariables false

def keptT (L : List Ent) (z : List Int) (q : Nat) : List Ent := (L.take q).filter (keepB L z)
def compT (L : List Ent) (z : List Int) (now : Int) (bot : Bool) (q : Nat) : List Ent := if bot then (keptT L z q).filter (lateB (keptE L z) now) else keptT L z q
theorem compT_all (L : List Ent) (z : List Int) (now : Int) (bot : Bool) : compT L z now bot L.length = compE L z now bot := by unfold compT compE keptT keptE; rw [List.take_length]
theorem compT_len (L : List Ent) (z : List Int) (now : Int) (bot : Bool) (q : Nat) : (compT L z now bot q).length ≤ q := by
  have h1 : (keptT L z q).length ≤ q := Nat.le_trans (List.length_filter_le _ _) (by rw [List.length_take]; omega)
  unfold compT
  split
  · exact Nat.le_trans (List.length_filter_le _ _) h1
  · exact h1
theorem compT_0 (L : List Ent) (z : List Int) (now : Int) (bot : Bool) : compT L z now bot 0 = [] := by unfold compT keptT; cases bot <;> simp
/-- of a group what is kept of its first m -/
def segK (L : List Ent) (z : List Int) (p m : Nat) : List Ent := ((L.drop p).take m).filter (keepB L z)
theorem segK_0 (L : List Ent) (z : List Int) (p : Nat) : segK L z p 0 = [] := by simp [segK]
theorem getD_dropM (L : List Ent) (p m : Nat) : (L.drop p).getD m ent0 = L.getD (p + m) ent0 := by
  rw [List.getD_eq_getElem?_getD, List.getElem?_drop, ← List.getD_eq_getElem?_getD]
theorem segK_succ (L : List Ent) (z : List Int) (p m : Nat) (h : p + m < L.length) : segK L z p (m + 1) = segK L z p m ++ (if keepB L z (L.getD (p + m) ent0) = true then [L.getD (p + m) ent0] else []) := by
  unfold segK
  rw [filter_take_succ _ (L.drop p) m (by rw [List.length_drop]; omega), getD_dropM]
theorem segK_len (L : List Ent) (z : List Int) (p m : Nat) : (segK L z p m).length ≤ m := by
  unfold segK
  exact Nat.le_trans (List.length_filter_le _ _) (by rw [List.length_take]; omega)
theorem keptT_add (L : List Ent) (z : List Int) (p m : Nat) : keptT L z (p + m) = keptT L z p ++ segK L z p m := by
  unfold keptT segK
  rw [List.take_add, List.filter_append]
theorem mem_seg {L : List Ent} {z : List Int} {p q : Nat} (g : Grp L p q) {x : Ent} (h : x ∈ segK L z p (q - p)) : ∃ j, p + j < q ∧ x = L.getD (p + j) ent0 := by
  unfold segK at h
  obtain ⟨i, hi, he⟩ := mem_getD (List.mem_filter.1 h).1
  rw [List.length_take] at hi
  have hi2 : i < q - p := by omega
  refine ⟨i, by omega, ?_⟩
  rw [← he, List.getD_eq_getElem?_getD, List.getElem?_take_of_lt hi2, ← List.getD_eq_getElem?_getD, getD_dropM]
theorem seg_kept {L : List Ent} {z : List Int} {p q : Nat} (g : Grp L p q) {x : Ent} (hk : x.key = (L.getD p ent0).key) : x ∈ keptE L z ↔ x ∈ segK L z p (q - p) := by
  have hlt := g.lt
  have hle := g.le
  constructor
  · intro h
    obtain ⟨h1, h2⟩ := mem_kept.1 h
    obtain ⟨i, hi, rfl⟩ := mem_getD h1
    have a1 : p ≤ i := by
      by_cases hh : i < p
      · exact absurd hk (g.ahead i hh)
      · omega
    have a2 : i < q := by
      by_cases hh : q ≤ i
      · exact absurd hk (g.behind i hh hi)
      · omega
    unfold segK
    refine List.mem_filter.2 ⟨?_, h2⟩
    have e : (L.drop p).getD (i - p) ent0 = L.getD i ent0 := by rw [getD_dropM, show p + (i - p) = i from by omega]
    rw [← e, List.getD_eq_getElem?_getD, ← List.getElem?_take_of_lt (show i - p < q - p by omega)]
    rw [← List.getD_eq_getElem?_getD]
    exact getD_mem (by rw [List.length_take, List.length_drop]; omega)
  · intro h
    unfold segK at h
    obtain ⟨h1, h2⟩ := List.mem_filter.1 h
    exact mem_kept.2 ⟨List.mem_of_mem_drop (List.mem_of_mem_take h1), h2⟩
theorem sorted_drop {L : List Ent} (hs : Sorted L) (p : Nat) : Sorted (L.drop p) := fun i j hij hj => by
  rw [getD_dropM, getD_dropM]
  rw [List.length_drop] at hj
  exact hs _ _ (by omega) (by omega)
theorem sorted_take {L : List Ent} (hs : Sorted L) (m : Nat) : Sorted (L.take m) := fun i j hij hj => by
  rw [List.length_take] at hj
  rw [List.getD_eq_getElem?_getD, List.getElem?_take_of_lt (by omega), List.getD_eq_getElem?_getD, List.getElem?_take_of_lt (by omega), ← List.getD_eq_getElem?_getD, ← List.getD_eq_getElem?_getD]
  exact hs i j hij (by omega)
theorem seg_sorted {L : List Ent} (hs : Sorted L) (z : List Int) (p m : Nat) : Sorted (segK L z p m) := sorted_filter _ (sorted_take (sorted_drop hs p) m)
theorem seg_late {L : List Ent} {z : List Int} {p q : Nat} (g : Grp L p q) {now : Int} {x : Ent} (hx : x.key = (L.getD p ent0).key) : lateB (keptE L z) now x = lateB (segK L z p (q - p)) now x := by
  rw [Bool.eq_iff_iff, lateB_iff, lateB_iff]
  constructor
  · rintro ⟨y, hy, yk, r⟩; exact ⟨y, (seg_kept g (yk.trans hx)).1 hy, yk, r⟩
  · rintro ⟨y, hy, yk, r⟩; exact ⟨y, (seg_kept g (yk.trans hx)).2 hy, yk, r⟩
/-- dead ones struck off the end -/
theorem strip_is {S : List Ent} (hs : Sorted S) (hk : ∀ i j, i < S.length → j < S.length → (S.getD i ent0).key = (S.getD j ent0).key) {now : Int} {m : Nat} (hm : m ≤ S.length) (hd : ∀ k, m ≤ k → k < S.length → aliveE (S.getD k ent0) now = false) (ha : m = 0 ∨ aliveE (S.getD (m - 1) ent0) now = true) :
    S.filter (lateB S now) = S.take m := by
  have h1 : ∀ i, i < S.length → (lateB S now (S.getD i ent0) = true ↔ i < m) := fun i hi => by
    rw [lateB_iff]
    constructor
    · rintro ⟨y, hy, yk, ys, ya⟩
      obtain ⟨j, hj, rfl⟩ := mem_getD hy
      by_cases hjm : m ≤ j
      · rw [hd j hjm hj] at ya; cases ya
      · by_cases hij : j < i
        · have := sorted_key hs hij hi yk; omega
        · omega
    · intro him
      rcases ha with ha | ha
      · omega
      · refine ⟨_, getD_mem (i := m - 1) (by omega), hk _ _ (by omega) hi, ?_, ha⟩
        by_cases he : i = m - 1
        · subst he; exact Int.le_refl _
        · have := sorted_key hs (i := i) (j := m - 1) (by omega) (by omega) (hk _ _ hi (by omega)); omega
  have h2 : ∀ k, k ≤ S.length → (S.take k).filter (lateB S now) = S.take (min k m) := by
    intro k
    induction k with
    | zero => intro _; simp
    | succ k ih =>
      intro hk2
      rw [filter_take_succ _ S k (by omega), ih (by omega)]
      have := h1 k (by omega)
      by_cases hkm : k < m
      · rw [if_pos (this.2 hkm), Nat.min_eq_left (by omega), Nat.min_eq_left (by omega), take_snoc S k ent0 (by omega)]
      · rw [if_neg (fun hh => hkm (this.1 hh)), Nat.min_eq_right (by omega), Nat.min_eq_right (by omega), List.append_nil]
  have := h2 S.length (Nat.le_refl _)
  rw [List.take_length, Nat.min_eq_right hm] at this
  exact this
theorem seg_key {L : List Ent} {z : List Int} {p q : Nat} (g : Grp L p q) {x : Ent} (h : x ∈ segK L z p (q - p)) : x.key = (L.getD p ent0).key := by
  obtain ⟨j, hj, rfl⟩ := mem_seg g h
  exact g.same _ (by omega) hj
/-- one group more: all that is kept; or, at the bottom, what is left of it when the dead at its end are struck off -/
theorem compT_false {L : List Ent} {z : List Int} {now : Int} {p q : Nat} (g : Grp L p q) : compT L z now false q = compT L z now false p ++ segK L z p (q - p) := by
  have hlt := g.lt
  show keptT L z q = keptT L z p ++ _
  rw [← keptT_add, show p + (q - p) = q from by omega]
theorem compT_true {L : List Ent} (hs : Sorted L) {z : List Int} {now : Int} {p q m : Nat} (g : Grp L p q) (hm : m ≤ (segK L z p (q - p)).length)
    (hd : ∀ k, m ≤ k → k < (segK L z p (q - p)).length → aliveE ((segK L z p (q - p)).getD k ent0) now = false) (ha : m = 0 ∨ aliveE ((segK L z p (q - p)).getD (m - 1) ent0) now = true) :
    compT L z now true q = compT L z now true p ++ (segK L z p (q - p)).take m := by
  have hlt := g.lt
  show (keptT L z q).filter _ = (keptT L z p).filter _ ++ _
  rw [show q = p + (q - p) from by omega, keptT_add, List.filter_append, show p + (q - p) = q from by omega]
  congr 1
  rw [← strip_is (seg_sorted hs z p (q - p)) (fun i j hi hj => by rw [seg_key g (getD_mem hi), seg_key g (getD_mem hj)]) hm hd ha]
  refine List.filter_congr fun x hx => ?_
  exact seg_late g (seg_key g hx)
/-- how often each place of the group was told -/
def Told (L : List Ent) (p q : Nat) (z : List Int) (k : Nat) (c : Nat → Int) : Prop := ∀ j, p + j < q → (0 ≤ c j ∧ c j ≤ k + 1) ∧ (0 < c j ↔ (j = 0 ∨ ∃ s ∈ z.take k, topB L s (L.getD (p + j) ent0) = true))
theorem told_0 (L : List Ent) (p q : Nat) (z : List Int) : Told L p q z 0 (fun i => if i = 0 then 1 else 0) := fun j hj => by
  by_cases h : j = 0
  · subst h; simp
  · simp [h]
def bump (c : Nat → Int) (r : Nat) : Nat → Int := fun i => if i = r then c r + 1 else c i
theorem take_mem {z : List Int} {k : Nat} (hk : k < z.length) {s : Int} : s ∈ z.take (k + 1) ↔ s ∈ z.take k ∨ s = z.getD k 0 := by
  rw [B.take_snoc z k 0 hk, List.mem_append, List.mem_singleton]
theorem told_no {L : List Ent} (hs : Sorted L) {p q : Nat} (g : Grp L p q) {z : List Int} {k : Nat} (hk : k < z.length) {c : Nat → Int} (h : Told L p q z k c) (hu : UpIs L p q (z.getD k 0) (-1)) : Told L p q z (k + 1) c := fun j hj => by
  obtain ⟨⟨a, b⟩, d⟩ := h j hj
  refine ⟨⟨a, by omega⟩, d.trans ⟨?_, ?_⟩⟩
  · rintro (h0 | ⟨s, hs, ht⟩)
    · exact .inl h0
    · exact .inr ⟨s, (take_mem hk).2 (.inl hs), ht⟩
  · rintro (h0 | ⟨s, hs2, ht⟩)
    · exact .inl h0
    · rcases (take_mem hk).1 hs2 with hs2 | rfl
      · exact .inr ⟨s, hs2, ht⟩
      · have := (up_top hs g hu hj).2 ht; omega
theorem told_up {L : List Ent} (hs : Sorted L) {p q : Nat} (g : Grp L p q) {z : List Int} {k : Nat} (hk : k < z.length) {c : Nat → Int} (h : Told L p q z k c) {r : Nat} (hu : UpIs L p q (z.getD k 0) (r : Int)) : Told L p q z (k + 1) (bump c r) := fun j hj => by
  obtain ⟨⟨a, b⟩, d⟩ := h j hj
  have ht := up_top hs g hu hj
  unfold bump
  by_cases hjr : j = r
  · subst hjr
    rw [if_pos rfl]
    refine ⟨⟨by omega, by omega⟩, ?_⟩
    constructor
    · intro _; exact .inr ⟨_, (take_mem hk).2 (.inr rfl), ht.1 rfl⟩
    · intro _; omega
  · rw [if_neg hjr]
    refine ⟨⟨a, by omega⟩, d.trans ⟨?_, ?_⟩⟩
    · rintro (h0 | ⟨s, hs, ht⟩)
      · exact .inl h0
      · exact .inr ⟨s, (take_mem hk).2 (.inl hs), ht⟩
    · rintro (h0 | ⟨s, hs2, ht2⟩)
      · exact .inl h0
      · rcases (take_mem hk).1 hs2 with hs2 | rfl
        · exact .inr ⟨s, hs2, ht2⟩
        · have := ht.2 ht2; omega
theorem told_keep {L : List Ent} (hs : Sorted L) {p q : Nat} (g : Grp L p q) {z : List Int} {c : Nat → Int} (h : Told L p q z z.length c) {j : Nat} (hj : p + j < q) : 0 < c j ↔ keepB L z (L.getD (p + j) ent0) = true := by
  rw [(h j hj).2, keepB_iff, head_top hs g hj, List.take_length]
theorem head_ref {L : List Ent} (hs : Sorted L) {i : Nat} (hi : i < L.length) : headM L (L.getD i ent0) = true ↔ (i = 0 ∨ (L.getD (i - 1) ent0).key ≠ (L.getD i ent0).key) := by
  rw [headB_iff]
  constructor
  · intro h
    by_cases h0 : i = 0
    · exact .inl h0
    · refine .inr fun hk => ?_
      have h1 := h _ (getD_mem (L := L) (i := i - 1) (by omega)) hk
      have h2 := sorted_key hs (i := i - 1) (j := i) (by omega) hi hk
      omega
  · intro h y hy hk
    obtain ⟨k, hkl, rfl⟩ := mem_getD hy
    by_cases h1 : k < i
    · exfalso
      rcases h with h | h
      · omega
      · by_cases h2 : k = i - 1
        · subst h2; exact h hk
        · by_cases h3 : (L.getD k ent0).key = (L.getD (i - 1) ent0).key
          · exact h (h3.symm.trans hk)
          · exact lt_keys hs (i := k) (j := i - 1) (k := i) (by omega) (by omega) hi h3 hk
    · by_cases h2 : k = i
      · subst h2; exact Int.le_refl _
      · have := sorted_key hs (i := i) (j := k) (by omega) hkl hk.symm; omega
/-- told anew, some snaps in -/
def kbT (L : List Ent) (z : List Int) (x : Ent) (k : Nat) : Bool := headM L x || (z.take k).any (fun s => topB L s x)
theorem kbT_0 (L : List Ent) (z : List Int) (x : Ent) : kbT L z x 0 = headM L x := by simp [kbT]
theorem kbT_succ (L : List Ent) (z : List Int) (x : Ent) (k : Nat) (hk : k < z.length) : kbT L z x (k + 1) = (kbT L z x k || topB L (z.getD k 0) x) := by
  unfold kbT
  rw [take_snoc z k 0 hk, List.any_append, Bool.or_assoc]
  simp
theorem kbT_all (L : List Ent) (z : List Int) (x : Ent) : kbT L z x z.length = keepB L z x := by unfold kbT keepB; rw [List.take_length]
theorem keptT_succ (L : List Ent) (z : List Int) (i : Nat) (h : i < L.length) : keptT L z (i + 1) = keptT L z i ++ (if keepB L z (L.getD i ent0) = true then [L.getD i ent0] else []) := filter_take_succ _ L i h
theorem keptT_len (L : List Ent) (z : List Int) (i : Nat) : (keptT L z i).length ≤ i := Nat.le_trans (List.length_filter_le _ _) (by rw [List.length_take]; omega)
theorem keptT_all (L : List Ent) (z : List Int) : keptT L z L.length = keptE L z := by unfold keptT keptE; rw [List.take_length]
/-- from i on, below k, is one of this key alive? -/
def laT (K : List Ent) (now : Int) (i k : Nat) : Prop := ∃ j, i ≤ j ∧ j < k ∧ (K.getD j ent0).key = (K.getD i ent0).key ∧ aliveE (K.getD j ent0) now = true
theorem late_ref {K : List Ent} (hs : Sorted K) {i : Nat} (hi : i < K.length) {now : Int} : lateB K now (K.getD i ent0) = true ↔ laT K now i K.length := by
  rw [lateB_iff]
  constructor
  · rintro ⟨y, hy, yk, ys, ya⟩
    obtain ⟨j, hj, rfl⟩ := mem_getD hy
    refine ⟨j, ?_, hj, yk, ya⟩
    by_cases h : j < i
    · have := sorted_key hs h hi yk; omega
    · omega
  · rintro ⟨j, h1, h2, h3, h4⟩
    refine ⟨_, getD_mem h2, h3, ?_, h4⟩
    by_cases h : j = i
    · subst h; exact Int.le_refl _
    · have := sorted_key hs (i := i) (j := j) (by omega) h2 h3.symm; omega
theorem laT_no (K : List Ent) (now : Int) (i : Nat) : ¬ laT K now i i := fun ⟨j, h1, h2, _⟩ => by omega
theorem laT_succ {K : List Ent} {now : Int} {i k : Nat} (hik : i ≤ k) : laT K now i (k + 1) ↔ (laT K now i k ∨ ((K.getD k ent0).key = (K.getD i ent0).key ∧ aliveE (K.getD k ent0) now = true)) := by
  constructor
  · rintro ⟨j, h1, h2, h3, h4⟩
    by_cases h : j = k
    · subst h; exact .inr ⟨h3, h4⟩
    · exact .inl ⟨j, h1, by omega, h3, h4⟩
  · rintro (⟨j, h1, h2, h3, h4⟩ | ⟨h3, h4⟩)
    · exact ⟨j, h1, by omega, h3, h4⟩
    · exact ⟨k, hik, by omega, h3, h4⟩
end Go.Proofs.YtpihmjdljbienaaGreatDoor.En

/- A heap of runs: no program in sight. -/
namespace Go.Proofs.YtpihmjdljbienaaGreatDoor.En
open B
set_option linter.unusedVariables false

/-- what is left of a list: where it lies, which one it is, its entries -/
structure Run where
  a : Option Addr
  m : Nat
  c : Nat
  idx : Nat
  L : List Ent
def run0 : Run := ⟨none, 0, 0, 0, []⟩
def Run.hd (r : Run) : Ent := r.L.getD 0 ent0
def ltR (x y : Run) : Bool := if (lessE x.hd y.hd || lessE y.hd x.hd) = true then lessE x.hd y.hd else decide (x.idx < y.idx)
theorem ltR_iff (x y : Run) : ltR x y = true ↔ lessE x.hd y.hd = true ∨ (lessE x.hd y.hd = false ∧ lessE y.hd x.hd = false ∧ x.idx < y.idx) := by
  unfold ltR
  cases h1 : lessE x.hd y.hd with
  | true => simp
  | false =>
    cases h2 : lessE y.hd x.hd with
    | true => simp
    | false => simp
theorem less_co {a b c : Ent} (h : lessE a c = true) : lessE a b = true ∨ lessE b c = true := by
  cases h1 : lessE a b with
  | true => exact .inl rfl
  | false =>
    refine .inr ?_
    cases h2 : lessE b a with
    | true => exact lessE_trans h2 h
    | false =>
      have hs := same_of h1 h2
      have h3 : lessE c a = false := by
        cases h4 : lessE c a with
        | false => rfl
        | true => have := lessE_trans h h4; rw [lessE_irrefl] at this; cases this
      cases h4 : lessE b c with
      | true => rfl
      | false =>
        exfalso
        cases h5 : lessE c b with
        | true => rw [← lessE_of_same hs, h3] at h5; cases h5
        | false =>
          have hs2 := same_of h4 h5
          rw [← lessE_of_same hs2, h1] at h
          cases h
theorem ltR_co {a b c : Run} (h : ltR a c = true) : ltR a b = true ∨ ltR b c = true := by
  rw [ltR_iff] at h
  rcases h with h | ⟨h1, h2, h3⟩
  · rcases less_co (b := b.hd) h with h4 | h4
    · exact .inl ((ltR_iff _ _).2 (.inl h4))
    · exact .inr ((ltR_iff _ _).2 (.inl h4))
  · cases h4 : lessE a.hd b.hd with
    | true => exact .inl ((ltR_iff _ _).2 (.inl h4))
    | false =>
      cases h5 : lessE b.hd c.hd with
      | true => exact .inr ((ltR_iff _ _).2 (.inl h5))
      | false =>
        have h6 : lessE b.hd a.hd = false := by
          cases h7 : lessE b.hd a.hd with
          | false => rfl
          | true =>
            rcases less_co (b := c.hd) h7 with h8 | h8
            · rw [h5] at h8; cases h8
            · rw [h2] at h8; cases h8
        have h7 : lessE c.hd b.hd = false := by
          cases h8 : lessE c.hd b.hd with
          | false => rfl
          | true =>
            rcases less_co (b := a.hd) h8 with h9 | h9
            · rw [h2] at h9; cases h9
            · rw [h4] at h9; cases h9
        by_cases hi : a.idx < b.idx
        · exact .inl ((ltR_iff _ _).2 (.inr ⟨h4, h6, hi⟩))
        · exact .inr ((ltR_iff _ _).2 (.inr ⟨h5, h7, by omega⟩))
theorem ltR_irrefl (a : Run) : ltR a a = false := by
  cases h : ltR a a with
  | false => rfl
  | true =>
    rw [ltR_iff] at h
    rcases h with h | ⟨_, _, h⟩
    · rw [lessE_irrefl] at h; cases h
    · omega
theorem ltR_asymm {a b : Run} (h : ltR a b = true) : ltR b a = false := by
  cases h2 : ltR b a with
  | false => rfl
  | true =>
    rw [ltR_iff] at h h2
    rcases h with h | ⟨h3, h4, h5⟩
    · rcases h2 with h2 | ⟨h6, h7, _⟩
      · have := lessE_trans h h2; rw [lessE_irrefl] at this; cases this
      · rw [h] at h7; cases h7
    · rcases h2 with h2 | ⟨h6, h7, h8⟩
      · rw [h4] at h2; cases h2
      · omega
/-- not behind, and not behind: not behind -/
theorem nlt_trans {a b c : Run} (h1 : ltR b a = false) (h2 : ltR c b = false) : ltR c a = false := by
  cases h : ltR c a with
  | false => rfl
  | true =>
    rcases ltR_co (b := b) h with h3 | h3
    · rw [h2] at h3; cases h3
    · rw [h1] at h3; cases h3

def swapR (h : List Run) (i j : Nat) : List Run := (h.set i (h.getD j run0)).set j (h.getD i run0)
theorem swap_len (h : List Run) (i j : Nat) : (swapR h i j).length = h.length := by simp [swapR]
theorem getD_set (h : List Run) (i : Nat) (x : Run) (k : Nat) (hk : k < h.length) : (h.set i x).getD k run0 = if i = k then x else h.getD k run0 := by
  rw [List.getD_eq_getElem?_getD, List.getElem?_set]
  by_cases e : i = k
  · subst e; rw [if_pos rfl, if_pos hk, if_pos rfl]; rfl
  · rw [if_neg e, if_neg e, ← List.getD_eq_getElem?_getD]
theorem swap_getD (h : List Run) (i j k : Nat) (hi : i < h.length) (hj : j < h.length) (hk : k < h.length) : (swapR h i j).getD k run0 = if k = j then h.getD i run0 else if k = i then h.getD j run0 else h.getD k run0 := by
  unfold swapR
  rw [getD_set _ _ _ _ (by simpa using hk), getD_set _ _ _ _ hk]
  by_cases e : k = j
  · subst e; simp
  · rw [if_neg (fun h => e h.symm), if_neg e]
    by_cases e2 : k = i
    · subst e2; simp
    · rw [if_neg (fun h => e2 h.symm), if_neg e2]
theorem getR_mem {h : List Run} {i : Nat} (hi : i < h.length) : h.getD i run0 ∈ h := by
  rw [List.getD_eq_getElem?_getD, List.getElem?_eq_getElem hi]; exact List.getElem_mem hi
theorem memR_get {h : List Run} {x : Run} (hx : x ∈ h) : ∃ i, i < h.length ∧ h.getD i run0 = x := by
  obtain ⟨i, hi, rfl⟩ := List.getElem_of_mem hx
  exact ⟨i, hi, by rw [List.getD_eq_getElem?_getD, List.getElem?_eq_getElem hi]; rfl⟩
/-- of the first n no child is ahead of its parent, for parents from s on -/
def HeapFrom (h : List Run) (n s : Nat) : Prop := ∀ j, 1 ≤ j → j < n → s ≤ (j - 1) / 2 → ltR (h.getD j run0) (h.getD ((j - 1) / 2) run0) = false
theorem heap_half (h : List Run) (n : Nat) : HeapFrom h n (n / 2) := fun j h1 h2 h3 => by omega
theorem heap_min {h : List Run} {n : Nat} (hh : HeapFrom h n 0) : ∀ j, j < n → ltR (h.getD j run0) (h.getD 0 run0) = false := by
  intro j
  induction j using Nat.strongRecOn with
  | _ j ih =>
    intro hj
    by_cases h0 : j = 0
    · subst h0; exact ltR_irrefl _
    · exact nlt_trans (ih ((j - 1) / 2) (by omega) (by omega)) (hh j (by omega) hj (by omega))
/-- the first n have numbers of their own -/
def Dis (n : Nat) (h : List Run) : Prop := ∀ i k, i < n → k < n → (h.getD i run0).idx = (h.getD k run0).idx → i = k
/-- the same runs, those from n on in their places -/
structure Same (n : Nat) (h h' : List Run) : Prop where
  len : h'.length = h.length
  tail : ∀ j, n ≤ j → j < h.length → h'.getD j run0 = h.getD j run0
  fwd : ∀ j, j < n → ∃ k, k < n ∧ h'.getD j run0 = h.getD k run0
  bwd : ∀ j, j < n → ∃ k, k < n ∧ h'.getD k run0 = h.getD j run0
  dis : Dis n h → Dis n h'
theorem same_refl (n : Nat) (h : List Run) : Same n h h := ⟨rfl, fun _ _ _ => rfl, fun j hj => ⟨j, hj, rfl⟩, fun j hj => ⟨j, hj, rfl⟩, id⟩
theorem Same.trans {n : Nat} {a b c : List Run} (h : Same n a b) (k : Same n b c) : Same n a c :=
  ⟨k.len.trans h.len, fun j h1 h2 => (k.tail j h1 (by rw [h.len]; exact h2)).trans (h.tail j h1 h2), fun j hj => by
    obtain ⟨x, hx, e1⟩ := k.fwd j hj
    obtain ⟨y, hy, e2⟩ := h.fwd x hx
    exact ⟨y, hy, e1.trans e2⟩, fun j hj => by
    obtain ⟨x, hx, e1⟩ := h.bwd j hj
    obtain ⟨y, hy, e2⟩ := k.bwd x hx
    exact ⟨y, hy, e2.trans e1⟩, fun h0 => k.dis (h.dis h0)⟩
theorem same_swap {n : Nat} {h : List Run} {i j : Nat} (hn : n ≤ h.length) (hi : i < n) (hj : j < n) : Same n h (swapR h i j) where
  len := swap_len h i j
  tail := fun k h1 h2 => by rw [swap_getD h i j k (by omega) (by omega) h2, if_neg (by omega), if_neg (by omega)]
  fwd := fun k hk => by
    rw [swap_getD h i j k (by omega) (by omega) (by omega)]
    by_cases e : k = j
    · rw [if_pos e]; exact ⟨i, hi, rfl⟩
    · rw [if_neg e]
      by_cases e2 : k = i
      · rw [if_pos e2]; exact ⟨j, hj, rfl⟩
      · rw [if_neg e2]; exact ⟨k, hk, rfl⟩
  bwd := fun k hk => by
    by_cases e : k = i
    · exact ⟨j, hj, by rw [swap_getD h i j j (by omega) (by omega) (by omega), if_pos rfl, e]⟩
    · by_cases e2 : k = j
      · exact ⟨i, hi, by
          rw [swap_getD h i j i (by omega) (by omega) (by omega)]
          by_cases e3 : i = j
          · rw [if_pos e3, e2, e3]
          · rw [if_neg e3, if_pos rfl, e2]⟩
      · exact ⟨k, hk, by rw [swap_getD h i j k (by omega) (by omega) (by omega), if_neg e2, if_neg e]⟩
  dis := fun hd a b ha hb e => by
    rw [swap_getD h i j a (by omega) (by omega) (by omega), swap_getD h i j b (by omega) (by omega) (by omega)] at e
    by_cases a1 : a = j
    · rw [if_pos a1] at e
      by_cases b1 : b = j
      · omega
      · rw [if_neg b1] at e
        by_cases b2 : b = i
        · rw [if_pos b2] at e
          have := hd i j hi hj e
          omega
        · rw [if_neg b2] at e
          have := hd i b hi hb e
          omega
    · rw [if_neg a1] at e
      by_cases a2 : a = i
      · rw [if_pos a2] at e
        by_cases b1 : b = j
        · rw [if_pos b1] at e
          have := hd j i hj hi e
          omega
        · rw [if_neg b1] at e
          by_cases b2 : b = i
          · omega
          · rw [if_neg b2] at e
            have := hd j b hj hb e
            omega
      · rw [if_neg a2] at e
        by_cases b1 : b = j
        · rw [if_pos b1] at e
          have := hd a i ha hi e
          omega
        · rw [if_neg b1] at e
          by_cases b2 : b = i
          · rw [if_pos b2] at e
            have := hd a j ha hj e
            omega
          · rw [if_neg b2] at e
            exact hd a b ha hb e
/-- on the way down from i0 the place i may be out of order -/
structure Hole (h : List Run) (n i0 i : Nat) : Prop where
  ge : i0 ≤ i
  ok : ∀ j, 1 ≤ j → j < n → i0 ≤ (j - 1) / 2 → (j - 1) / 2 ≠ i → ltR (h.getD j run0) (h.getD ((j - 1) / 2) run0) = false
  over : ∀ c, 1 ≤ c → c < n → (c - 1) / 2 = i → 1 ≤ i → i0 ≤ (i - 1) / 2 → ltR (h.getD c run0) (h.getD ((i - 1) / 2) run0) = false
theorem hole_0 {h : List Run} {n i0 : Nat} (hh : HeapFrom h n (i0 + 1)) : Hole h n i0 i0 :=
  ⟨Nat.le_refl _, fun j h1 h2 h3 h4 => hh j h1 h2 (by omega), fun c h1 h2 h3 h4 h5 => by omega⟩
/-- no children: in order -/
theorem hole_leaf {h : List Run} {n i0 i : Nat} (hh : Hole h n i0 i) (hn : n ≤ 2 * i + 1) : HeapFrom h n i0 := fun j h1 h2 h3 => by
  by_cases e : (j - 1) / 2 = i
  · omega
  · exact hh.ok j h1 h2 h3 e
/-- no child ahead: in order -/
theorem hole_stop {h : List Run} {n i0 i j : Nat} (hh : Hole h n i0 i) (hj : j = 2 * i + 1 ∨ j = 2 * i + 2) (hjn : j < n) (hsm : ∀ c, c < n → (c = 2 * i + 1 ∨ c = 2 * i + 2) → ltR (h.getD c run0) (h.getD j run0) = false)
    (hle : ltR (h.getD j run0) (h.getD i run0) = false) : HeapFrom h n i0 := fun k h1 h2 h3 => by
  by_cases e : (k - 1) / 2 = i
  · rw [e]; exact nlt_trans hle (hsm k h2 (by omega))
  · exact hh.ok k h1 h2 h3 e
/-- a child ahead: it goes up, the hole goes down -/
theorem hole_down {h : List Run} {n i0 i j : Nat} (hn : n ≤ h.length) (hh : Hole h n i0 i) (hj : j = 2 * i + 1 ∨ j = 2 * i + 2) (hjn : j < n) (hsm : ∀ c, c < n → (c = 2 * i + 1 ∨ c = 2 * i + 2) → ltR (h.getD c run0) (h.getD j run0) = false)
    (hlt : ltR (h.getD j run0) (h.getD i run0) = true) : Hole (swapR h i j) n i0 j := by
  have hge := hh.ge
  have g : ∀ k, k < n → (swapR h i j).getD k run0 = if k = j then h.getD i run0 else if k = i then h.getD j run0 else h.getD k run0 := fun k hk => swap_getD h i j k (by omega) (by omega) (by omega)
  refine ⟨by omega, fun k h1 h2 h3 h4 => ?_, fun c h1 h2 h3 h4 h5 => ?_⟩
  · rw [g k h2, g ((k - 1) / 2) (by omega), if_neg h4]
    by_cases e1 : k = j
    · subst e1
      rw [if_pos rfl, if_pos (by omega)]
      exact ltR_asymm hlt
    · rw [if_neg e1]
      by_cases e2 : k = i
      · subst e2
        rw [if_pos rfl, if_neg (by omega)]
        exact hh.over j (by omega) hjn (by omega) h1 h3
      · rw [if_neg e2]
        by_cases e3 : (k - 1) / 2 = i
        · rw [if_pos e3]; exact hsm k h2 (by omega)
        · rw [if_neg e3]; exact hh.ok k h1 h2 h3 e3
  · have hp : (j - 1) / 2 = i := by omega
    rw [hp, g c h2, g i (by omega), if_neg (by omega), if_neg (by omega), if_neg (by omega), if_pos rfl]
    have := hh.ok c h1 h2 (by omega) (by omega)
    rw [h3] at this
    exact this
def rcells (h : List Run) : List Value := h.flatMap fun r => [.slice r.a r.m r.c, .int .i64 r.idx]
theorem rcells_len (h : List Run) : (rcells h).length = h.length * 2 := by
  induction h with
  | nil => rfl
  | cons r t ih => simp only [rcells, List.flatMap_cons, List.length_append, List.length_cons, List.length_nil] at ih ⊢; rw [ih]; omega
theorem rcells_append (h k : List Run) : rcells (h ++ k) = rcells h ++ rcells k := List.flatMap_append
theorem rcells_snoc (h : List Run) (r : Run) : rcells (h ++ [r]) = rcells h ++ [.slice r.a r.m r.c, .int .i64 r.idx] := by rw [rcells_append]; rfl
theorem rcells_at : ∀ (h : List Run) (i : Nat), i < h.length → (rcells h)[i * 2]? = some (.slice (h.getD i run0).a (h.getD i run0).m (h.getD i run0).c) ∧ (rcells h)[i * 2 + 1]? = some (.int .i64 (h.getD i run0).idx)
  | [], i, hi => by simp at hi
  | r :: t, 0, _ => ⟨rfl, rfl⟩
  | r :: t, i + 1, hi => by
    have ih := rcells_at t i (by simpa using hi)
    rw [List.getD_cons_succ, show (i + 1) * 2 = i * 2 + 1 + 1 from by omega]
    exact ih
theorem rcells_set : ∀ (h : List Run) (i : Nat) (r : Run), i < h.length → ((rcells h).set (i * 2) (.slice r.a r.m r.c)).set (i * 2 + 1) (.int .i64 r.idx) = rcells (h.set i r)
  | [], i, _, hi => by simp at hi
  | x :: t, 0, r, _ => rfl
  | x :: t, i + 1, r, hi => by
    have ih := rcells_set t i r (by simpa using hi)
    rw [List.set_cons_succ]
    show ((([Value.slice x.a x.m x.c, Value.int .i64 x.idx] ++ rcells t).set ((i + 1) * 2) _).set ((i + 1) * 2 + 1) _) = [Value.slice x.a x.m x.c, Value.int .i64 x.idx] ++ rcells (t.set i r)
    rw [← ih, show (i + 1) * 2 = i * 2 + 1 + 1 from by omega]
    rfl
theorem rcells_take (h : List Run) (n : Nat) : (rcells h).take (n * 2) = rcells (h.take n) := by
  induction h generalizing n with
  | nil => simp [rcells]
  | cons r t ih =>
    cases n with
    | zero => simp [rcells]
    | succ n =>
      show ([Value.slice r.a r.m r.c, Value.int .i64 r.idx] ++ rcells t).take ((n + 1) * 2) = [Value.slice r.a r.m r.c, Value.int .i64 r.idx] ++ rcells (t.take n)
      rw [show (n + 1) * 2 = n * 2 + 1 + 1 from by omega, ← ih]
      rfl
end Go.Proofs.YtpihmjdljbienaaGreatDoor.En

/- A merge by a heap of runs: no program in sight. -/
namespace Go.Proofs.YtpihmjdljbienaaGreatDoor.En
open B
set_option linter.unusedVariables false

theorem sorted_tail {e : Ent} {t : List Ent} (h : Sorted (e :: t)) : Sorted t := fun i j hij hj => by
  have := h (i + 1) (j + 1) (by omega) (by simpa using hj)
  rwa [List.getD_cons_succ, List.getD_cons_succ] at this
theorem sorted_head {e : Ent} {t : List Ent} (h : Sorted (e :: t)) : ∀ y ∈ t, lessE e y = true := fun y hy => by
  obtain ⟨i, hi, rfl⟩ := mem_getD hy
  have := h 0 (i + 1) (by omega) (by simpa using hi)
  rwa [List.getD_cons_zero, List.getD_cons_succ] at this
/-- the lists' rests, the heap over them, what is out: they come to R -/
structure MI (rs : List (List Ent)) (h : List Run) (out R : List Ent) : Prop where
  so : ∀ j, j < rs.length → Sorted (rs.getD j [])
  hok : ∀ r ∈ h, r.idx < rs.length ∧ r.L = rs.getD r.idx [] ∧ r.L ≠ []
  cov : ∀ j, j < rs.length → rs.getD j [] ≠ [] → ∃ r ∈ h, r.idx = j
  dis : Dis h.length h
  sout : Sorted out
  low : ∀ x ∈ out, ∀ j, j < rs.length → ∀ y ∈ rs.getD j [], lessE y x = false
  res : mpAll out rs.flatten = R
theorem flat_nil : ∀ {rs : List (List Ent)}, (∀ j, j < rs.length → rs.getD j [] = []) → rs.flatten = []
  | [], _ => rfl
  | l :: t, h => by
    have h0 := h 0 (by simp)
    rw [List.getD_cons_zero] at h0
    rw [List.flatten_cons, h0, flat_nil (rs := t) fun j hj => by have := h (j + 1) (by simpa using hj); rwa [List.getD_cons_succ] at this]
    rfl
theorem MI.done {rs : List (List Ent)} {out R : List Ent} (m : MI rs [] out R) : out = R := by
  have hf : rs.flatten = [] := flat_nil fun j hj => by
    cases hh : rs.getD j [] with
    | nil => rfl
    | cons a t =>
      obtain ⟨r, hr, _⟩ := m.cov j hj (by rw [hh]; simp)
      cases hr
  have := m.res
  rw [hf] at this
  exact this
theorem getDL_set (rs : List (List Ent)) (i k : Nat) (x : List Ent) (hk : k < rs.length) : (rs.set i x).getD k [] = if i = k then x else rs.getD k [] := by
  rw [List.getD_eq_getElem?_getD, List.getElem?_set]
  by_cases e : i = k
  · subst e; rw [if_pos rfl, if_pos hk, if_pos rfl]; rfl
  · rw [if_neg e, if_neg e, ← List.getD_eq_getElem?_getD]
theorem flat_at {rs : List (List Ent)} {j : Nat} (hj : j < rs.length) : rs.flatten = (rs.take j).flatten ++ (rs.getD j [] ++ (rs.drop (j + 1)).flatten) := by
  have h1 : rs = rs.take j ++ (rs.getD j [] :: rs.drop (j + 1)) := by
    have h2 : rs.drop j = rs.getD j [] :: rs.drop (j + 1) := by
      rw [List.drop_eq_getElem_cons hj, List.getD_eq_getElem?_getD, List.getElem?_eq_getElem hj]; rfl
    rw [← h2, List.take_append_drop]
  conv => lhs; rw [h1]
  rw [List.flatten_append, List.flatten_cons]
theorem flat_set {rs : List (List Ent)} {j : Nat} (hj : j < rs.length) (t : List Ent) : (rs.set j t).flatten = (rs.take j).flatten ++ (t ++ (rs.drop (j + 1)).flatten) := by
  rw [flat_at (rs := rs.set j t) (j := j) (by simpa using hj), getDL_set rs j j t hj, if_pos rfl, List.take_set_of_le (Nat.le_refl _), List.drop_set_of_lt (by omega)]
theorem mem_flat {ls : List (List Ent)} {a : Ent} (h : a ∈ ls.flatten) : ∃ j, j < ls.length ∧ a ∈ ls.getD j [] := by
  obtain ⟨l, hl, ha⟩ := List.mem_flatten.1 h
  obtain ⟨i, hi, rfl⟩ := List.getElem_of_mem hl
  exact ⟨i, hi, by rw [List.getD_eq_getElem?_getD, List.getElem?_eq_getElem hi]; exact ha⟩

section
variable {rs : List (List Ent)} {h : List Run} {out R : List Ent} {e : Ent} {t : List Ent}
/-- the head of each list is not ahead of the top's -/
theorem MI.head (m : MI rs h out R) (h0 : 0 < h.length) (hh : HeapFrom h h.length 0) {j : Nat} (hj : j < rs.length) {a : Ent} {l : List Ent} (hl : rs.getD j [] = a :: l) :
    lessE a (h.getD 0 run0).hd = false ∧ (j < (h.getD 0 run0).idx → lessE (h.getD 0 run0).hd a = true) := by
  obtain ⟨r, hr, hi⟩ := m.cov j hj (by rw [hl]; simp)
  obtain ⟨k, hk, rfl⟩ := memR_get hr
  have hm := heap_min hh k hk
  have hL := (m.hok _ hr).2.1
  rw [hi, hl] at hL
  have ha : (h.getD k run0).hd = a := by unfold Run.hd; rw [hL]; rfl
  have hno : ¬ (lessE a (h.getD 0 run0).hd = true ∨ (lessE a (h.getD 0 run0).hd = false ∧ lessE (h.getD 0 run0).hd a = false ∧ j < (h.getD 0 run0).idx)) := fun hx => by
    rw [← ha, ← hi, ← ltR_iff] at hx
    rw [hm] at hx
    cases hx
  have h1 : lessE a (h.getD 0 run0).hd = false := by
    cases hx : lessE a (h.getD 0 run0).hd with
    | false => rfl
    | true => exact absurd (.inl hx) hno
  refine ⟨h1, fun hlt => ?_⟩
  cases hx : lessE (h.getD 0 run0).hd a with
  | true => rfl
  | false => exact absurd (.inr ⟨h1, hx, hlt⟩) hno
/-- no entry that is left is ahead of the top's head -/
theorem MI.least (m : MI rs h out R) (h0 : 0 < h.length) (hh : HeapFrom h h.length 0) {j : Nat} (hj : j < rs.length) {y : Ent} (hy : y ∈ rs.getD j []) :
    lessE y (h.getD 0 run0).hd = false ∧ (j < (h.getD 0 run0).idx → lessE (h.getD 0 run0).hd y = true) := by
  cases hl : rs.getD j [] with
  | nil => rw [hl] at hy; cases hy
  | cons a l =>
    obtain ⟨h1, h2⟩ := m.head h0 hh hj hl
    have hs := m.so j hj
    rw [hl] at hs hy
    rcases List.mem_cons.1 hy with rfl | hy
    · exact ⟨h1, h2⟩
    · have h3 := sorted_head hs y hy
      refine ⟨?_, fun hlt => lessE_trans (h2 hlt) h3⟩
      cases hx : lessE y (h.getD 0 run0).hd with
      | false => rfl
      | true => rw [lessE_trans h3 hx] at h1; cases h1
theorem MI.top (m : MI rs h out R) (h0 : 0 < h.length) : (h.getD 0 run0).idx < rs.length ∧ rs.getD (h.getD 0 run0).idx [] = (h.getD 0 run0).L ∧ (h.getD 0 run0).L ≠ [] := by
  obtain ⟨h1, h2, h3⟩ := m.hok _ (getR_mem h0)
  exact ⟨h1, h2.symm, h3⟩
/-- what the top's head does to what is out -/
theorem MI.put (m : MI rs h out R) (h0 : 0 < h.length) (hh : HeapFrom h h.length 0) : mpE out (h.getD 0 run0).hd = if out = [] ∨ lessE (out.getD (out.length - 1) ent0) (h.getD 0 run0).hd = true then out ++ [(h.getD 0 run0).hd] else out := by
  refine mpE_last m.sout fun x hx => ?_
  obtain ⟨h1, h2, h3⟩ := m.top h0
  refine m.low x hx _ h1 _ ?_
  rw [h2]
  cases hl : (h.getD 0 run0).L with
  | nil => exact absurd hl h3
  | cons a l => unfold Run.hd; rw [hl]; exact List.mem_cons_self ..
/-- the top's head goes out -/
theorem MI.step (m : MI rs h out R) (h0 : 0 < h.length) (hh : HeapFrom h h.length 0) (hL : (h.getD 0 run0).L = e :: t) {h' : List Run}
    (hA : ∀ r ∈ h', (∃ k, 1 ≤ k ∧ k < h.length ∧ r = h.getD k run0) ∨ (t ≠ [] ∧ r.idx = (h.getD 0 run0).idx ∧ r.L = t))
    (hB : ∀ k, 1 ≤ k → k < h.length → ∃ r ∈ h', r.idx = (h.getD k run0).idx) (hC : t ≠ [] → ∃ r ∈ h', r.idx = (h.getD 0 run0).idx) (hD : Dis h'.length h') :
    MI (rs.set (h.getD 0 run0).idx t) h' (mpE out e) R := by
  obtain ⟨i1, i2, i3⟩ := m.top h0
  have he : (h.getD 0 run0).hd = e := by unfold Run.hd; rw [hL]; rfl
  rw [hL] at i2
  have hso : Sorted (e :: t) := by rw [← i2]; exact m.so _ i1
  have hne : ∀ k, 1 ≤ k → k < h.length → (h.getD k run0).idx ≠ (h.getD 0 run0).idx := fun k h1 h2 e' => by
    have := m.dis k 0 h2 h0 e'
    omega
  generalize hj : (h.getD 0 run0).idx = j0 at *
  have sub : ∀ j, j < rs.length → ∀ y ∈ (rs.set j0 t).getD j [], y ∈ rs.getD j [] := fun j hjl y hy => by
    rw [getDL_set rs j0 j t hjl] at hy
    by_cases e1 : j0 = j
    · rw [if_pos e1] at hy; rw [← e1, i2]; exact List.mem_cons_of_mem _ hy
    · rw [if_neg e1] at hy; exact hy
  refine ⟨fun j hjl => ?_, fun r hr => ?_, fun j hjl hn => ?_, hD, mpE_sorted m.sout, fun x hx j hjl y hy => ?_, ?_⟩
  · rw [List.length_set] at hjl
    rw [getDL_set rs j0 j t hjl]
    split
    · exact sorted_tail hso
    · exact m.so j hjl
  · rw [List.length_set]
    rcases hA r hr with ⟨k, h1, h2, rfl⟩ | ⟨h1, h2, h3⟩
    · obtain ⟨x1, x2, x3⟩ := m.hok _ (getR_mem h2)
      exact ⟨x1, by rw [getDL_set rs j0 _ t x1, if_neg (fun e' => hne k h1 h2 e'.symm)]; exact x2, x3⟩
    · exact ⟨by rw [h2]; exact i1, by rw [h2, getDL_set rs j0 j0 t i1, if_pos rfl]; exact h3, by rw [h3]; exact h1⟩
  · rw [List.length_set] at hjl
    rw [getDL_set rs j0 j t hjl] at hn
    by_cases e1 : j0 = j
    · rw [if_pos e1] at hn; rw [← e1]; exact hC hn
    · rw [if_neg e1] at hn
      obtain ⟨r, hr, hi⟩ := m.cov j hjl hn
      obtain ⟨k, hk, rfl⟩ := memR_get hr
      have hk1 : 1 ≤ k := by
        rcases Nat.eq_zero_or_pos k with rfl | h'
        · exact absurd (hj.symm.trans hi) e1
        · exact h'
      obtain ⟨r, hr, h'⟩ := hB k hk1 hk
      exact ⟨r, hr, h'.trans hi⟩
  · rw [List.length_set] at hjl
    rcases mem_mpE.1 hx with hx | ⟨rfl, _⟩
    · exact m.low x hx j hjl y (sub j hjl y hy)
    · have := (m.least h0 hh hjl (sub j hjl y hy)).1
      rwa [he] at this
  · rw [flat_set i1, ← mpAll_first m.sout, ← m.res, flat_at i1, i2]
    · rfl
    · intro a ha
      obtain ⟨j, hjl, hy⟩ := mem_flat ha
      rw [List.length_take] at hjl
      have hg : (rs.take j0).getD j [] = rs.getD j [] := by rw [List.getD_eq_getElem?_getD, List.getElem?_take, if_pos (by omega), ← List.getD_eq_getElem?_getD]
      rw [hg] at hy
      have := (m.least h0 hh (j := j) (by omega) hy).2 (by rw [hj]; omega)
      rw [he] at this
      exact not_same this
end

/-- the runs of the lists ahead of the i-th -/
structure Made (ls : List (List Ent)) (i : Nat) (h : List Run) : Prop where
  hok : ∀ r ∈ h, r.idx < i ∧ r.L = ls.getD r.idx [] ∧ r.L ≠ []
  cov : ∀ j, j < i → ls.getD j [] ≠ [] → ∃ r ∈ h, r.idx = j
  dis : Dis h.length h
  len : h.length ≤ i
theorem made_0 (ls : List (List Ent)) : Made ls 0 [] := ⟨fun r hr => (by cases hr), fun j hj => (by omega), fun i k hi => (by simp at hi), Nat.le_refl _⟩
theorem Made.skip {ls : List (List Ent)} {i : Nat} {h : List Run} (m : Made ls i h) (hn : ls.getD i [] = []) : Made ls (i + 1) h :=
  ⟨fun r hr => by obtain ⟨a, b, c⟩ := m.hok r hr; exact ⟨by omega, b, c⟩, fun j hj hne => by
    by_cases e : j = i
    · subst e; exact absurd hn hne
    · exact m.cov j (by omega) hne, m.dis, by have := m.len; omega⟩
theorem getR_app (h : List Run) (r : Run) (k : Nat) (hk : k < h.length + 1) : (h ++ [r]).getD k run0 = if k < h.length then h.getD k run0 else r := by
  rw [List.getD_eq_getElem?_getD]
  by_cases e : k < h.length
  · rw [if_pos e, List.getElem?_append_left e, ← List.getD_eq_getElem?_getD]
  · rw [if_neg e, List.getElem?_append_right (by omega), show k - h.length = 0 from by omega]; rfl
theorem Made.push {ls : List (List Ent)} {i : Nat} {h : List Run} (m : Made ls i h) (r : Run) (hi : r.idx = i) (hL : r.L = ls.getD i []) (hn : r.L ≠ []) : Made ls (i + 1) (h ++ [r]) := by
  have low : ∀ k, k < h.length → (h.getD k run0).idx < i := fun k hk => (m.hok _ (getR_mem hk)).1
  refine ⟨fun x hx => ?_, fun j hj hne => ?_, fun a b ha hb e => ?_, ?_⟩
  · rcases List.mem_append.1 hx with hx | hx
    · obtain ⟨p, q, s⟩ := m.hok x hx; exact ⟨by omega, q, s⟩
    · rw [List.mem_singleton] at hx; subst hx; exact ⟨by omega, by rw [hi]; exact hL, hn⟩
  · by_cases e : j = i
    · exact ⟨r, List.mem_append_right _ (List.mem_singleton.2 rfl), by omega⟩
    · obtain ⟨x, hx, hxi⟩ := m.cov j (by omega) hne
      exact ⟨x, List.mem_append_left _ hx, hxi⟩
  · rw [List.length_append] at ha hb
    simp only [List.length_cons, List.length_nil] at ha hb
    rw [getR_app h r a (by omega), getR_app h r b (by omega)] at e
    by_cases a1 : a < h.length
    · rw [if_pos a1] at e
      by_cases b1 : b < h.length
      · rw [if_pos b1] at e; exact m.dis a b a1 b1 e
      · rw [if_neg b1] at e; have := low a a1; omega
    · rw [if_neg a1] at e
      by_cases b1 : b < h.length
      · rw [if_pos b1] at e; have := low b b1; omega
      · omega
  · rw [List.length_append]; have := m.len; simp; omega
theorem Made.start {ls : List (List Ent)} {h h' : List Run} (m : Made ls ls.length h) (hs : Same h.length h h') (so : ∀ j, j < ls.length → Sorted (ls.getD j [])) : MI ls h' [] (mpAll [] ls.flatten) := by
  have key : ∀ r, r ∈ h' ↔ r ∈ h := fun r => by
    constructor
    · intro hr
      obtain ⟨k, hk, rfl⟩ := memR_get hr
      rw [hs.len] at hk
      obtain ⟨j, hj, e⟩ := hs.fwd k hk
      rw [e]; exact getR_mem hj
    · intro hr
      obtain ⟨k, hk, rfl⟩ := memR_get hr
      obtain ⟨j, hj, e⟩ := hs.bwd k hk
      rw [← e]; exact getR_mem (by rw [hs.len]; exact hj)
  exact ⟨so, fun r hr => m.hok r ((key r).1 hr), fun j hj hn => by obtain ⟨r, hr, h'⟩ := m.cov j hj hn; exact ⟨r, (key r).2 hr, h'⟩, by rw [hs.len]; exact hs.dis m.dis, sorted_nil, fun x hx => by (cases hx), rfl⟩

theorem set0_getD {h : List Run} {r : Run} (h0 : 0 < h.length) (k : Nat) (hk : k < h.length) : (h.set 0 r).getD k run0 = if k = 0 then r else h.getD k run0 := by
  rw [getD_set h 0 r k hk]
  by_cases e : k = 0
  · subst e; simp
  · rw [if_neg (fun e' => e e'.symm), if_neg e]
theorem set0_heap {h : List Run} {r : Run} (h0 : 0 < h.length) (hh : HeapFrom h h.length 0) : HeapFrom (h.set 0 r) (h.set 0 r).length 1 := fun j h1 h2 h3 => by
  rw [List.length_set] at h2
  rw [set0_getD h0 j h2, set0_getD h0 _ (by omega), if_neg (by omega), if_neg (by omega)]
  exact hh j h1 h2 (by omega)
theorem set0_dis {h : List Run} {r : Run} (h0 : 0 < h.length) (hi : r.idx = (h.getD 0 run0).idx) (hd : Dis h.length h) : Dis (h.set 0 r).length (h.set 0 r) := by
  have key : ∀ k, k < h.length → ((h.set 0 r).getD k run0).idx = (h.getD k run0).idx := fun k hk => by
    rw [set0_getD h0 k hk]
    split
    · rename_i e; subst e; exact hi
    · rfl
  intro a b ha hb e
  rw [List.length_set] at ha hb
  rw [key a ha, key b hb] at e
  exact hd a b ha hb e
theorem rcells_set0 {h : List Run} {r : Run} (h0 : 0 < h.length) (hi : r.idx = (h.getD 0 run0).idx) : (rcells h).set 0 (.slice r.a r.m r.c) = rcells (h.set 0 r) := by
  cases h with
  | nil => exact absurd h0 (by simp)
  | cons x t =>
    rw [List.getD_cons_zero] at hi
    show ((Value.slice x.a x.m x.c :: Value.int .i64 x.idx :: rcells t).set 0 _) = Value.slice r.a r.m r.c :: Value.int .i64 r.idx :: rcells t
    rw [hi]; rfl
theorem flat_pred {rs : List (List Ent)} {j : Nat} {e : Ent} {t : List Ent} (hj : j < rs.length) (hg : rs.getD j [] = e :: t) : rs.flatten.length = (rs.set j t).flatten.length + 1 := by
  rw [flat_at hj, flat_set hj, hg]
  simp only [List.length_append, List.length_cons]
  omega
section
variable {rs : List (List Ent)} {h h' : List Run} {out R : List Ent} {e : Ent} {t : List Ent} {r : Run}
theorem MI.popped (m : MI rs h out R) (h0 : 0 < h.length) (hh : HeapFrom h h.length 0) (hL : (h.getD 0 run0).L = [e]) (hi : r.idx = (h.getD 0 run0).idx)
    (h1 : ∀ x, x ∈ h' → ∃ k, 1 ≤ k ∧ k < (h.set 0 r).length ∧ x = (h.set 0 r).getD k run0) (h2 : ∀ k, 1 ≤ k → k < (h.set 0 r).length → (h.set 0 r).getD k run0 ∈ h') (h3 : Dis (h.set 0 r).length (h.set 0 r) → Dis h'.length h') :
    MI (rs.set (h.getD 0 run0).idx []) h' (mpE out e) R := by
  rw [List.length_set] at h1 h2
  refine m.step h0 hh hL (fun x hx => .inl ?_) (fun k k1 k2 => ?_) (fun hn => absurd rfl hn) (h3 (set0_dis h0 hi m.dis))
  · obtain ⟨k, k1, k2, e⟩ := h1 x hx
    rw [set0_getD h0 k k2, if_neg (by omega)] at e
    exact ⟨k, k1, k2, e⟩
  · have := h2 k k1 k2
    rw [set0_getD h0 k k2, if_neg (by omega)] at this
    exact ⟨_, this, rfl⟩
theorem MI.fixed (m : MI rs h out R) (h0 : 0 < h.length) (hh : HeapFrom h h.length 0) (hL : (h.getD 0 run0).L = e :: t) (ht : t ≠ []) (hi : r.idx = (h.getD 0 run0).idx) (hrL : r.L = t)
    (hs : Same (h.set 0 r).length (h.set 0 r) h') :
    MI (rs.set (h.getD 0 run0).idx t) h' (mpE out e) R := by
  have hl : h'.length = h.length := by rw [hs.len, List.length_set]
  have fwd := hs.fwd
  have bwd := hs.bwd
  rw [List.length_set] at fwd bwd
  refine m.step h0 hh hL (fun x hx => ?_) (fun k k1 k2 => ?_) (fun _ => ?_) (by rw [hs.len]; exact hs.dis (set0_dis h0 hi m.dis))
  · obtain ⟨j, hj, rfl⟩ := memR_get hx
    obtain ⟨k, hk, e⟩ := fwd j (by omega)
    rw [set0_getD h0 k hk] at e
    by_cases k0 : k = 0
    · rw [if_pos k0] at e; exact .inr ⟨ht, by rw [e]; exact hi, by rw [e]; exact hrL⟩
    · rw [if_neg k0] at e; exact .inl ⟨k, by omega, hk, e⟩
  · obtain ⟨j, hj, e⟩ := bwd k k2
    rw [set0_getD h0 k k2, if_neg (by omega)] at e
    exact ⟨_, getR_mem (by omega : j < h'.length), by rw [e]⟩
  · obtain ⟨j, hj, e⟩ := bwd 0 h0
    rw [set0_getD h0 0 h0, if_pos rfl] at e
    exact ⟨_, getR_mem (by omega : j < h'.length), by rw [e]; exact hi⟩
end
end Go.Proofs.YtpihmjdljbienaaGreatDoor.En

/- What the law on tables asks for, plain: what each key has, from the first entry on; the bytes of small tables. No program in sight. -/
namespace Go.Proofs.YtpihmjdljbienaaGreatDoor.En
open B
set_option linter.unusedVariables false

theorem top_first {L : List Ent} (hs : Sorted L) {i : Nat} (hi : i < L.length) {s : Int} : topB L s (L.getD i ent0) = true ↔ (L.getD i ent0).seq ≤ s ∧ ∀ j, j < i → (L.getD j ent0).key = (L.getD i ent0).key → s < (L.getD j ent0).seq := by
  rw [topB_iff]
  refine and_congr_right fun h1 => ⟨fun h j hj hk => ?_, fun h y hy hk hys => ?_⟩
  · have h2 := sorted_key hs hj hi hk
    by_cases h3 : (L.getD j ent0).seq ≤ s
    · have := h _ (Tb.mem_getD (show j < L.length by omega)) hk h3
      omega
    · omega
  · obtain ⟨k, hk2, rfl⟩ := mem_getD hy
    rcases Nat.lt_trichotomy k i with hki | rfl | hki
    · have := h k hki hk; omega
    · exact Int.le_refl _
    · have := sorted_key hs hki hk2 hk.symm; omega
/-- the key of the last entry that was looked at -/
def LastI (L : List Ent) (s : Int) (i : Nat) (last : ByteArray) : Prop :=
  (last.size = 0 ∧ ∀ j, j < i → s < (L.getD j ent0).seq) ∨ ∃ j, j < i ∧ (L.getD j ent0).key = last ∧ (L.getD j ent0).seq ≤ s ∧ ∀ k, j < k → k < i → (L.getD k ent0).key = last ∨ s < (L.getD k ent0).seq
theorem last_0 (L : List Ent) (s : Int) {last : ByteArray} (h : last.size = 0) : LastI L s 0 last := .inl ⟨h, fun j hj => by omega⟩
theorem last_hit {L : List Ent} (hs : Sorted L) {s : Int} {i : Nat} (hi : i < L.length) {last : ByteArray} (hl : LastI L s i last) (hk : (L.getD i ent0).key.size ≠ 0) :
    (L.getD i ent0).key = last ↔ ∃ j, j < i ∧ (L.getD j ent0).key = (L.getD i ent0).key ∧ (L.getD j ent0).seq ≤ s := by
  constructor
  · intro h
    rcases hl with ⟨h0, _⟩ | ⟨j, hj, h1, h2, _⟩
    · rw [h] at hk; exact absurd h0 hk
    · exact ⟨j, hj, by rw [h1, h], h2⟩
  · rintro ⟨j', hj', hk', hs'⟩
    rcases hl with ⟨_, h0⟩ | ⟨j, hj, h1, h2, h3⟩
    · have := h0 j' hj'; omega
    · rcases Nat.lt_trichotomy j' j with hlt | rfl | hlt
      · by_cases he : (L.getD j' ent0).key = (L.getD j ent0).key
        · rw [← hk', he, h1]
        · exact absurd hk' (lt_keys hs hlt hj hi he)
      · rw [← hk', h1]
      · rcases h3 j' hlt hj' with h | h
        · rw [← hk', h]
        · omega
theorem last_late {L : List Ent} {s : Int} {i : Nat} {last : ByteArray} (hl : LastI L s i last) (h : s < (L.getD i ent0).seq) : LastI L s (i + 1) last := by
  rcases hl with ⟨h0, h1⟩ | ⟨j, hj, h1, h2, h3⟩
  · exact .inl ⟨h0, fun j hj => by
      by_cases e : j = i
      · subst e; exact h
      · exact h1 j (by omega)⟩
  · exact .inr ⟨j, by omega, h1, h2, fun k hk hk2 => by
      by_cases e : k = i
      · subst e; exact .inr h
      · exact h3 k hk (by omega)⟩
theorem last_same {L : List Ent} {s : Int} {i : Nat} {last : ByteArray} (hl : LastI L s i last) (h : (L.getD i ent0).key = last) (hk : (L.getD i ent0).key.size ≠ 0) : LastI L s (i + 1) last := by
  rcases hl with ⟨h0, h1⟩ | ⟨j, hj, h1, h2, h3⟩
  · rw [h] at hk; exact absurd h0 hk
  · exact .inr ⟨j, by omega, h1, h2, fun k hk hk2 => by
      by_cases e : k = i
      · subst e; exact .inl h
      · exact h3 k hk (by omega)⟩
theorem last_new {L : List Ent} {s : Int} {i : Nat} (h : (L.getD i ent0).seq ≤ s) : LastI L s (i + 1) (L.getD i ent0).key :=
  .inr ⟨i, by omega, rfl, h, fun k hk hk2 => by omega⟩
/-- is the entry at place i told -/
theorem told_iff {L : List Ent} (hs : Sorted L) {s : Int} {i : Nat} (hi : i < L.length) {last : ByteArray} (hl : LastI L s i last) (hk : (L.getD i ent0).key.size ≠ 0) :
    topB L s (L.getD i ent0) = true ↔ (L.getD i ent0).seq ≤ s ∧ (L.getD i ent0).key ≠ last := by
  rw [top_first hs hi]
  refine and_congr_right fun h1 => ?_
  rw [Ne, last_hit hs hi hl hk]
  constructor
  · rintro h ⟨j, hj, he, hle⟩
    have := h j hj he; omega
  · intro h j hj he
    by_cases h9 : s < (L.getD j ent0).seq
    · exact h9
    · exact absurd ⟨j, hj, he, by omega⟩ h
theorem filter_at (P : Ent → Bool) (L : List Ent) {i : Nat} (hi : i < L.length) (h : P (L.getD i ent0) = true) : ((L.take i).filter P).length < (L.filter P).length ∧ (L.filter P).getD ((L.take i).filter P).length ent0 = L.getD i ent0 := by
  have e : L.filter P = (L.take i).filter P ++ (L.getD i ent0 :: (L.drop (i + 1)).filter P) := by
    conv => lhs; rw [← List.take_append_drop i L]
    rw [List.filter_append, List.drop_eq_getElem_cons hi]
    have hg : L.getD i ent0 = L[i] := by simp [List.getD_eq_getElem?_getD, hi]
    rw [hg] at h ⊢
    rw [List.filter_cons, if_pos h]
  constructor
  · rw [e, List.length_append, List.length_cons]; omega
  · conv => lhs; rw [e]
    rw [List.getD_eq_getElem?_getD, List.getElem?_append_right (Nat.le_refl _), Nat.sub_self]; rfl
end Go.Proofs.YtpihmjdljbienaaGreatDoor.En
namespace Go.Proofs.YtpihmjdljbienaaGreatDoor.Tb
open B Vp Fp En
set_option linter.unusedVariables false

theorem ixE_len' (l : List Ent) (a : Nat) (h : (lastE l).key.size ≤ 64) (ha : a ≤ 1099511627776) : (ixE l a).length ≤ 94 := by
  have h1 := txt_len (lastE l).key.data.toList
  have e1 : (lastE l).key.data.toList.length = (lastE l).key.size := by simp
  have h2 := enc2 (n := (lastE l).key.data.toList.length) (by omega)
  have h3 := bts_len (n := (a : Int)) ⟨by omega, by omega⟩
  have h5 : (blkF l).length ≤ 65543 := fr_len _
  have h4 := bts_len (n := ((blkF l).length : Int)) ⟨by omega, by omega⟩
  unfold ixE
  simp only [List.length_append]
  omega
theorem ixAll_len' : ∀ (cs : List (List Ent)) (a : Nat), (∀ b ∈ cs, (lastE b).key.size ≤ 64) → a + cs.length * 65543 ≤ 1099511627776 → (ixAll cs a).length ≤ 94 * cs.length
  | [], _, _, _ => by simp [ixAll]
  | b :: t, a, h, ha => by
    simp only [List.length_cons] at ha
    have h5 : (blkF b).length ≤ 65543 := fr_len _
    have h1 := ixE_len' b a (h b (by simp)) (by omega)
    have h2 := ixAll_len' t (a + (blkF b).length) (fun c hc => h c (by simp [hc])) (by omega)
    simp only [ixAll, List.length_append, List.length_cons]
    omega
theorem filt_len' (bits : Nat) (ks : List (List UInt8)) : (Mp.filt bits ks).length = Mp.byteN bits ks.length + 1 := by
  unfold Mp.filt; rw [List.length_cons, Mp.marks_len]
theorem blkF_len {b : List Ent} (h : Blk b) : (blkF b).length ≤ 4682 + 26 * b.length := by
  have h1 := ents_len2 16 b 0 [] fun e he => ⟨(h.oks.good e he).1, (h.oks.good e he).2, h.fits e he⟩
  have h2 := enc2 (n := b.length) (by have := h.len; omega)
  have h3 := h.len
  have h4 := h.small
  rw [h.is, frm_len]
  unfold bytesK
  rw [List.length_append]
  omega
theorem frAll_len' : ∀ cs : List (List Ent), (∀ b ∈ cs, Blk b) → (frAll cs).length ≤ 4682 * cs.length + 26 * cs.flatten.length
  | [], _ => by simp [frAll]
  | b :: t, h => by
    have h1 := frAll_len' t fun c hc => h c (by simp [hc])
    have h2 := blkF_len (h b (by simp))
    rw [fr_cons, List.length_append, List.flatten_cons, List.length_append, List.length_cons]
    omega
/-- few entries fit into a table, and it into a file -/
theorem tab_small {l : List Ent} (h : OKs l) (hf : ∀ e ∈ l, Fits e) (hl : l.length ≤ 100) (size bits : Nat) (h1 : 1 ≤ size) (h2 : size ≤ 4096) (h3 : 1 ≤ bits) (h4 : bits ≤ 16) :
    ∃ T cs f, tabB l size bits = (T, 0) ∧ Built l size bits T cs f ∧ 24 ≤ T.length ∧ T.length ≤ 1000000 := by
  have hc := cuts_len size l.length l
  have hbl := cuts_blk size h1 h2 l.length l h hf
  have hfold := fold_is (cuts size l.length l) ⟨[], [], 0⟩
  have hx := ixAll_len' (cuts size l.length l) 0 (fun b hb => (hbl b hb).key) (by omega)
  have hok : ∃ T, tabB l size bits = (T, 0) := by
    unfold tabB
    rw [if_neg (by omega), if_neg (by omega), if_neg (fun hh => hh h.ord)]
    unfold loopB
    rw [Int.toNat_natCast, Int.toNat_natCast, hfold]
    generalize cuts size l.length l = cs at hc hx
    simp only [List.nil_append, List.length_nil, Nat.zero_add]
    unfold endB
    have hk := keysC_len l
    have hb : Mp.byteN bits (keysC l).length ≤ 300 := by
      unfold Mp.byteN
      have : bits * (keysC l).length ≤ 16 * 100 := Nat.mul_le_mul h4 (by omega)
      omega
    have hn := enc2 (n := cs.length) (by omega)
    have hfl := filt_len' bits (keysC l)
    have hlen : (bts cs.length ++ ixAll cs 0).length = (bts (cs.length : Int)).length + (ixAll cs 0).length := List.length_append
    simp only
    rw [if_neg (by omega)]
    exact ⟨_, rfl⟩
  obtain ⟨T, hT⟩ := hok
  obtain ⟨cs, f, hB⟩ := built_of hT hf
  refine ⟨T, cs, f, hT, hB, ?_, ?_⟩
  · rw [hB.is, whole_len]; omega
  · have e1 := frAll_len' cs hB.blk
    have e2 : cs.length ≤ cs.flatten.length := by
      have : ∀ cs : List (List Ent), (∀ b ∈ cs, Blk b) → cs.length ≤ cs.flatten.length := fun cs => by
        induction cs with
        | nil => intro _; simp
        | cons b t ih =>
          intro h
          have := ih fun c hc => h c (by simp [hc])
          have hb : b.length ≠ 0 := fun hh => (h b (by simp)).ne (List.eq_nil_of_length_eq_zero hh)
          rw [List.flatten_cons, List.length_append, List.length_cons]; omega
      exact this cs hB.blk
    rw [hB.flat] at e1 e2
    have e3 := hB.ixs
    have e4 := hB.short
    rw [hB.is, whole_len, frm_len, frm_len]
    omega
end Go.Proofs.YtpihmjdljbienaaGreatDoor.Tb
