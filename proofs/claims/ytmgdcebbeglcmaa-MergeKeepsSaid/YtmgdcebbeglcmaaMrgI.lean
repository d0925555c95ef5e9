/- A merge by a heap of runs: no program in sight. -/
import Derived.Test.YtmgdcebbeglcmaaMrgHP
namespace Go.Proofs.Ytmgdcebbeglcmaa.En
open B
set_option linter.unusedVariables false

theorem sorted_tail {e : Ent} {t : List Ent} (h : Sorted (e :: t)) : Sorted t := fun i j hij hj => by
  have := h (i + 1) (j + 1) (by omega) (by simpa using hj)
  rwa [List.getD_cons_succ, List.getD_cons_succ] at this
theorem sorted_head {e : Ent} {t : List Ent} (h : Sorted (e :: t)) : ∀ y ∈ t, lessE e y = true := fun y hy => by
  obtain ⟨i, hi, rfl⟩ := mem_getD hy
  have := h 0 (i + 1) (by omega) (by simpa using hi)
  rwa [List.getD_cons_zero, List.getD_cons_succ] at this
/-- the lists' rests, the heap over them, what is out: they come to R -/
structure MI (rs : List (List Ent)) (h : List Run) (out R : List Ent) : Prop where
  so : ∀ j, j < rs.length → Sorted (rs.getD j [])
  hok : ∀ r ∈ h, r.idx < rs.length ∧ r.L = rs.getD r.idx [] ∧ r.L ≠ []
  cov : ∀ j, j < rs.length → rs.getD j [] ≠ [] → ∃ r ∈ h, r.idx = j
  dis : Dis h.length h
  sout : Sorted out
  low : ∀ x ∈ out, ∀ j, j < rs.length → ∀ y ∈ rs.getD j [], lessE y x = false
  res : mpAll out rs.flatten = R
theorem flat_nil : ∀ {rs : List (List Ent)}, (∀ j, j < rs.length → rs.getD j [] = []) → rs.flatten = []
  | [], _ => rfl
  | l :: t, h => by
    have h0 := h 0 (by simp)
    rw [List.getD_cons_zero] at h0
    rw [List.flatten_cons, h0, flat_nil (rs := t) fun j hj => by have := h (j + 1) (by simpa using hj); rwa [List.getD_cons_succ] at this]
    rfl
theorem MI.done {rs : List (List Ent)} {out R : List Ent} (m : MI rs [] out R) : out = R := by
  have hf : rs.flatten = [] := flat_nil fun j hj => by
    cases hh : rs.getD j [] with
    | nil => rfl
    | cons a t =>
      obtain ⟨r, hr, _⟩ := m.cov j hj (by rw [hh]; simp)
      cases hr
  have := m.res
  rw [hf] at this
  exact this
theorem getDL_set (rs : List (List Ent)) (i k : Nat) (x : List Ent) (hk : k < rs.length) : (rs.set i x).getD k [] = if i = k then x else rs.getD k [] := by
  rw [List.getD_eq_getElem?_getD, List.getElem?_set]
  by_cases e : i = k
  · subst e; rw [if_pos rfl, if_pos hk, if_pos rfl]; rfl
  · rw [if_neg e, if_neg e, ← List.getD_eq_getElem?_getD]
theorem flat_at {rs : List (List Ent)} {j : Nat} (hj : j < rs.length) : rs.flatten = (rs.take j).flatten ++ (rs.getD j [] ++ (rs.drop (j + 1)).flatten) := by
  have h1 : rs = rs.take j ++ (rs.getD j [] :: rs.drop (j + 1)) := by
    have h2 : rs.drop j = rs.getD j [] :: rs.drop (j + 1) := by
      rw [List.drop_eq_getElem_cons hj, List.getD_eq_getElem?_getD, List.getElem?_eq_getElem hj]; rfl
    rw [← h2, List.take_append_drop]
  conv => lhs; rw [h1]
  rw [List.flatten_append, List.flatten_cons]
theorem flat_set {rs : List (List Ent)} {j : Nat} (hj : j < rs.length) (t : List Ent) : (rs.set j t).flatten = (rs.take j).flatten ++ (t ++ (rs.drop (j + 1)).flatten) := by
  rw [flat_at (rs := rs.set j t) (j := j) (by simpa using hj), getDL_set rs j j t hj, if_pos rfl, List.take_set_of_le (Nat.le_refl _), List.drop_set_of_lt (by omega)]
theorem mem_flat {ls : List (List Ent)} {a : Ent} (h : a ∈ ls.flatten) : ∃ j, j < ls.length ∧ a ∈ ls.getD j [] := by
  obtain ⟨l, hl, ha⟩ := List.mem_flatten.1 h
  obtain ⟨i, hi, rfl⟩ := List.getElem_of_mem hl
  exact ⟨i, hi, by rw [List.getD_eq_getElem?_getD, List.getElem?_eq_getElem hi]; exact ha⟩

section
variable {rs : List (List Ent)} {h : List Run} {out R : List Ent} {e : Ent} {t : List Ent}
/-- the head of each list is not ahead of the top's -/
theorem MI.head (m : MI rs h out R) (h0 : 0 < h.length) (hh : HeapFrom h h.length 0) {j : Nat} (hj : j < rs.length) {a : Ent} {l : List Ent} (hl : rs.getD j [] = a :: l) :
    lessE a (h.getD 0 run0).hd = false ∧ (j < (h.getD 0 run0).idx → lessE (h.getD 0 run0).hd a = true) := by
  obtain ⟨r, hr, hi⟩ := m.cov j hj (by rw [hl]; simp)
  obtain ⟨k, hk, rfl⟩ := memR_get hr
  have hm := heap_min hh k hk
  have hL := (m.hok _ hr).2.1
  rw [hi, hl] at hL
  have ha : (h.getD k run0).hd = a := by unfold Run.hd; rw [hL]; rfl
  have hno : ¬ (lessE a (h.getD 0 run0).hd = true ∨ (lessE a (h.getD 0 run0).hd = false ∧ lessE (h.getD 0 run0).hd a = false ∧ j < (h.getD 0 run0).idx)) := fun hx => by
    rw [← ha, ← hi, ← ltR_iff] at hx
    rw [hm] at hx
    cases hx
  have h1 : lessE a (h.getD 0 run0).hd = false := by
    cases hx : lessE a (h.getD 0 run0).hd with
    | false => rfl
    | true => exact absurd (.inl hx) hno
  refine ⟨h1, fun hlt => ?_⟩
  cases hx : lessE (h.getD 0 run0).hd a with
  | true => rfl
  | false => exact absurd (.inr ⟨h1, hx, hlt⟩) hno
/-- no entry that is left is ahead of the top's head -/
theorem MI.least (m : MI rs h out R) (h0 : 0 < h.length) (hh : HeapFrom h h.length 0) {j : Nat} (hj : j < rs.length) {y : Ent} (hy : y ∈ rs.getD j []) :
    lessE y (h.getD 0 run0).hd = false ∧ (j < (h.getD 0 run0).idx → lessE (h.getD 0 run0).hd y = true) := by
  cases hl : rs.getD j [] with
  | nil => rw [hl] at hy; cases hy
  | cons a l =>
    obtain ⟨h1, h2⟩ := m.head h0 hh hj hl
    have hs := m.so j hj
    rw [hl] at hs hy
    rcases List.mem_cons.1 hy with rfl | hy
    · exact ⟨h1, h2⟩
    · have h3 := sorted_head hs y hy
      refine ⟨?_, fun hlt => lessE_trans (h2 hlt) h3⟩
      cases hx : lessE y (h.getD 0 run0).hd with
      | false => rfl
      | true => rw [lessE_trans h3 hx] at h1; cases h1
theorem MI.top (m : MI rs h out R) (h0 : 0 < h.length) : (h.getD 0 run0).idx < rs.length ∧ rs.getD (h.getD 0 run0).idx [] = (h.getD 0 run0).L ∧ (h.getD 0 run0).L ≠ [] := by
  obtain ⟨h1, h2, h3⟩ := m.hok _ (getR_mem h0)
  exact ⟨h1, h2.symm, h3⟩
/-- what the top's head does to what is out -/
theorem MI.put (m : MI rs h out R) (h0 : 0 < h.length) (hh : HeapFrom h h.length 0) : mpE out (h.getD 0 run0).hd = if out = [] ∨ lessE (out.getD (out.length - 1) ent0) (h.getD 0 run0).hd = true then out ++ [(h.getD 0 run0).hd] else out := by
  refine mpE_last m.sout fun x hx => ?_
  obtain ⟨h1, h2, h3⟩ := m.top h0
  refine m.low x hx _ h1 _ ?_
  rw [h2]
  cases hl : (h.getD 0 run0).L with
  | nil => exact absurd hl h3
  | cons a l => unfold Run.hd; rw [hl]; exact List.mem_cons_self ..
/-- the top's head goes out -/
theorem MI.step (m : MI rs h out R) (h0 : 0 < h.length) (hh : HeapFrom h h.length 0) (hL : (h.getD 0 run0).L = e :: t) {h' : List Run}
    (hA : ∀ r ∈ h', (∃ k, 1 ≤ k ∧ k < h.length ∧ r = h.getD k run0) ∨ (t ≠ [] ∧ r.idx = (h.getD 0 run0).idx ∧ r.L = t))
    (hB : ∀ k, 1 ≤ k → k < h.length → ∃ r ∈ h', r.idx = (h.getD k run0).idx) (hC : t ≠ [] → ∃ r ∈ h', r.idx = (h.getD 0 run0).idx) (hD : Dis h'.length h') :
    MI (rs.set (h.getD 0 run0).idx t) h' (mpE out e) R := by
  obtain ⟨i1, i2, i3⟩ := m.top h0
  have he : (h.getD 0 run0).hd = e := by unfold Run.hd; rw [hL]; rfl
  rw [hL] at i2
  have hso : Sorted (e :: t) := by rw [← i2]; exact m.so _ i1
  have hne : ∀ k, 1 ≤ k → k < h.length → (h.getD k run0).idx ≠ (h.getD 0 run0).idx := fun k h1 h2 e' => by
    have := m.dis k 0 h2 h0 e'
    omega
  generalize hj : (h.getD 0 run0).idx = j0 at *
  have sub : ∀ j, j < rs.length → ∀ y ∈ (rs.set j0 t).getD j [], y ∈ rs.getD j [] := fun j hjl y hy => by
    rw [getDL_set rs j0 j t hjl] at hy
    by_cases e1 : j0 = j
    · rw [if_pos e1] at hy; rw [← e1, i2]; exact List.mem_cons_of_mem _ hy
    · rw [if_neg e1] at hy; exact hy
  refine ⟨fun j hjl => ?_, fun r hr => ?_, fun j hjl hn => ?_, hD, mpE_sorted m.sout, fun x hx j hjl y hy => ?_, ?_⟩
  · rw [List.length_set] at hjl
    rw [getDL_set rs j0 j t hjl]
    split
    · exact sorted_tail hso
    · exact m.so j hjl
  · rw [List.length_set]
    rcases hA r hr with ⟨k, h1, h2, rfl⟩ | ⟨h1, h2, h3⟩
    · obtain ⟨x1, x2, x3⟩ := m.hok _ (getR_mem h2)
      exact ⟨x1, by rw [getDL_set rs j0 _ t x1, if_neg (fun e' => hne k h1 h2 e'.symm)]; exact x2, x3⟩
    · exact ⟨by rw [h2]; exact i1, by rw [h2, getDL_set rs j0 j0 t i1, if_pos rfl]; exact h3, by rw [h3]; exact h1⟩
  · rw [List.length_set] at hjl
    rw [getDL_set rs j0 j t hjl] at hn
    by_cases e1 : j0 = j
    · rw [if_pos e1] at hn; rw [← e1]; exact hC hn
    · rw [if_neg e1] at hn
      obtain ⟨r, hr, hi⟩ := m.cov j hjl hn
      obtain ⟨k, hk, rfl⟩ := memR_get hr
      have hk1 : 1 ≤ k := by
        rcases Nat.eq_zero_or_pos k with rfl | h'
        · exact absurd (hj.symm.trans hi) e1
        · exact h'
      obtain ⟨r, hr, h'⟩ := hB k hk1 hk
      exact ⟨r, hr, h'.trans hi⟩
  · rw [List.length_set] at hjl
    rcases mem_mpE.1 hx with hx | ⟨rfl, _⟩
    · exact m.low x hx j hjl y (sub j hjl y hy)
    · have := (m.least h0 hh hjl (sub j hjl y hy)).1
      rwa [he] at this
  · rw [flat_set i1, ← mpAll_first m.sout, ← m.res, flat_at i1, i2]
    · rfl
    · intro a ha
      obtain ⟨j, hjl, hy⟩ := mem_flat ha
      rw [List.length_take] at hjl
      have hg : (rs.take j0).getD j [] = rs.getD j [] := by rw [List.getD_eq_getElem?_getD, List.getElem?_take, if_pos (by omega), ← List.getD_eq_getElem?_getD]
      rw [hg] at hy
      have := (m.least h0 hh (j := j) (by omega) hy).2 (by rw [hj]; omega)
      rw [he] at this
      exact not_same this
end

/-- the runs of the lists ahead of the i-th -/
structure Made (ls : List (List Ent)) (i : Nat) (h : List Run) : Prop where
  hok : ∀ r ∈ h, r.idx < i ∧ r.L = ls.getD r.idx [] ∧ r.L ≠ []
  cov : ∀ j, j < i → ls.getD j [] ≠ [] → ∃ r ∈ h, r.idx = j
  dis : Dis h.length h
  len : h.length ≤ i
theorem made_0 (ls : List (List Ent)) : Made ls 0 [] := ⟨fun r hr => (by cases hr), fun j hj => (by omega), fun i k hi => (by simp at hi), Nat.le_refl _⟩
theorem Made.skip {ls : List (List Ent)} {i : Nat} {h : List Run} (m : Made ls i h) (hn : ls.getD i [] = []) : Made ls (i + 1) h :=
  ⟨fun r hr => by obtain ⟨a, b, c⟩ := m.hok r hr; exact ⟨by omega, b, c⟩, fun j hj hne => by
    by_cases e : j = i
    · subst e; exact absurd hn hne
    · exact m.cov j (by omega) hne, m.dis, by have := m.len; omega⟩
theorem getR_app (h : List Run) (r : Run) (k : Nat) (hk : k < h.length + 1) : (h ++ [r]).getD k run0 = if k < h.length then h.getD k run0 else r := by
  rw [List.getD_eq_getElem?_getD]
  by_cases e : k < h.length
  · rw [if_pos e, List.getElem?_append_left e, ← List.getD_eq_getElem?_getD]
  · rw [if_neg e, List.getElem?_append_right (by omega), show k - h.length = 0 from by omega]; rfl
theorem Made.push {ls : List (List Ent)} {i : Nat} {h : List Run} (m : Made ls i h) (r : Run) (hi : r.idx = i) (hL : r.L = ls.getD i []) (hn : r.L ≠ []) : Made ls (i + 1) (h ++ [r]) := by
  have low : ∀ k, k < h.length → (h.getD k run0).idx < i := fun k hk => (m.hok _ (getR_mem hk)).1
  refine ⟨fun x hx => ?_, fun j hj hne => ?_, fun a b ha hb e => ?_, ?_⟩
  · rcases List.mem_append.1 hx with hx | hx
    · obtain ⟨p, q, s⟩ := m.hok x hx; exact ⟨by omega, q, s⟩
    · rw [List.mem_singleton] at hx; subst hx; exact ⟨by omega, by rw [hi]; exact hL, hn⟩
  · by_cases e : j = i
    · exact ⟨r, List.mem_append_right _ (List.mem_singleton.2 rfl), by omega⟩
    · obtain ⟨x, hx, hxi⟩ := m.cov j (by omega) hne
      exact ⟨x, List.mem_append_left _ hx, hxi⟩
  · rw [List.length_append] at ha hb
    simp only [List.length_cons, List.length_nil] at ha hb
    rw [getR_app h r a (by omega), getR_app h r b (by omega)] at e
    by_cases a1 : a < h.length
    · rw [if_pos a1] at e
      by_cases b1 : b < h.length
      · rw [if_pos b1] at e; exact m.dis a b a1 b1 e
      · rw [if_neg b1] at e; have := low a a1; omega
    · rw [if_neg a1] at e
      by_cases b1 : b < h.length
      · rw [if_pos b1] at e; have := low b b1; omega
      · omega
  · rw [List.length_append]; have := m.len; simp; omega
theorem Made.start {ls : List (List Ent)} {h h' : List Run} (m : Made ls ls.length h) (hs : Same h.length h h') (so : ∀ j, j < ls.length → Sorted (ls.getD j [])) : MI ls h' [] (mpAll [] ls.flatten) := by
  have key : ∀ r, r ∈ h' ↔ r ∈ h := fun r => by
    constructor
    · intro hr
      obtain ⟨k, hk, rfl⟩ := memR_get hr
      rw [hs.len] at hk
      obtain ⟨j, hj, e⟩ := hs.fwd k hk
      rw [e]; exact getR_mem hj
    · intro hr
      obtain ⟨k, hk, rfl⟩ := memR_get hr
      obtain ⟨j, hj, e⟩ := hs.bwd k hk
      rw [← e]; exact getR_mem (by rw [hs.len]; exact hj)
  exact ⟨so, fun r hr => m.hok r ((key r).1 hr), fun j hj hn => by obtain ⟨r, hr, h'⟩ := m.cov j hj hn; exact ⟨r, (key r).2 hr, h'⟩, by rw [hs.len]; exact hs.dis m.dis, sorted_nil, fun x hx => by (cases hx), rfl⟩

theorem set0_getD {h : List Run} {r : Run} (h0 : 0 < h.length) (k : Nat) (hk : k < h.length) : (h.set 0 r).getD k run0 = if k = 0 then r else h.getD k run0 := by
  rw [getD_set h 0 r k hk]
  by_cases e : k = 0
  · subst e; simp
  · rw [if_neg (fun e' => e e'.symm), if_neg e]
theorem set0_heap {h : List Run} {r : Run} (h0 : 0 < h.length) (hh : HeapFrom h h.length 0) : HeapFrom (h.set 0 r) (h.set 0 r).length 1 := fun j h1 h2 h3 => by
  rw [List.length_set] at h2
  rw [set0_getD h0 j h2, set0_getD h0 _ (by omega), if_neg (by omega), if_neg (by omega)]
  exact hh j h1 h2 (by omega)
theorem set0_dis {h : List Run} {r : Run} (h0 : 0 < h.length) (hi : r.idx = (h.getD 0 run0).idx) (hd : Dis h.length h) : Dis (h.set 0 r).length (h.set 0 r) := by
  have key : ∀ k, k < h.length → ((h.set 0 r).getD k run0).idx = (h.getD k run0).idx := fun k hk => by
    rw [set0_getD h0 k hk]
    split
    · rename_i e; subst e; exact hi
    · rfl
  intro a b ha hb e
  rw [List.length_set] at ha hb
  rw [key a ha, key b hb] at e
  exact hd a b ha hb e
theorem rcells_set0 {h : List Run} {r : Run} (h0 : 0 < h.length) (hi : r.idx = (h.getD 0 run0).idx) : (rcells h).set 0 (.slice r.a r.m r.c) = rcells (h.set 0 r) := by
  cases h with
  | nil => exact absurd h0 (by simp)
  | cons x t =>
    rw [List.getD_cons_zero] at hi
    show ((Value.slice x.a x.m x.c :: Value.int .i64 x.idx :: rcells t).set 0 _) = Value.slice r.a r.m r.c :: Value.int .i64 r.idx :: rcells t
    rw [hi]; rfl
theorem flat_pred {rs : List (List Ent)} {j : Nat} {e : Ent} {t : List Ent} (hj : j < rs.length) (hg : rs.getD j [] = e :: t) : rs.flatten.length = (rs.set j t).flatten.length + 1 := by
  rw [flat_at hj, flat_set hj, hg]
  simp only [List.length_append, List.length_cons]
  omega
section
variable {rs : List (List Ent)} {h h' : List Run} {out R : List Ent} {e : Ent} {t : List Ent} {r : Run}
theorem MI.popped (m : MI rs h out R) (h0 : 0 < h.length) (hh : HeapFrom h h.length 0) (hL : (h.getD 0 run0).L = [e]) (hi : r.idx = (h.getD 0 run0).idx)
    (h1 : ∀ x, x ∈ h' → ∃ k, 1 ≤ k ∧ k < (h.set 0 r).length ∧ x = (h.set 0 r).getD k run0) (h2 : ∀ k, 1 ≤ k → k < (h.set 0 r).length → (h.set 0 r).getD k run0 ∈ h') (h3 : Dis (h.set 0 r).length (h.set 0 r) → Dis h'.length h') :
    MI (rs.set (h.getD 0 run0).idx []) h' (mpE out e) R := by
  rw [List.length_set] at h1 h2
  refine m.step h0 hh hL (fun x hx => .inl ?_) (fun k k1 k2 => ?_) (fun hn => absurd rfl hn) (h3 (set0_dis h0 hi m.dis))
  · obtain ⟨k, k1, k2, e⟩ := h1 x hx
    rw [set0_getD h0 k k2, if_neg (by omega)] at e
    exact ⟨k, k1, k2, e⟩
  · have := h2 k k1 k2
    rw [set0_getD h0 k k2, if_neg (by omega)] at this
    exact ⟨_, this, rfl⟩
theorem MI.fixed (m : MI rs h out R) (h0 : 0 < h.length) (hh : HeapFrom h h.length 0) (hL : (h.getD 0 run0).L = e :: t) (ht : t ≠ []) (hi : r.idx = (h.getD 0 run0).idx) (hrL : r.L = t)
    (hs : Same (h.set 0 r).length (h.set 0 r) h') :
    MI (rs.set (h.getD 0 run0).idx t) h' (mpE out e) R := by
  have hl : h'.length = h.length := by rw [hs.len, List.length_set]
  have fwd := hs.fwd
  have bwd := hs.bwd
  rw [List.length_set] at fwd bwd
  refine m.step h0 hh hL (fun x hx => ?_) (fun k k1 k2 => ?_) (fun _ => ?_) (by rw [hs.len]; exact hs.dis (set0_dis h0 hi m.dis))
  · obtain ⟨j, hj, rfl⟩ := memR_get hx
    obtain ⟨k, hk, e⟩ := fwd j (by omega)
    rw [set0_getD h0 k hk] at e
    by_cases k0 : k = 0
    · rw [if_pos k0] at e; exact .inr ⟨ht, by rw [e]; exact hi, by rw [e]; exact hrL⟩
    · rw [if_neg k0] at e; exact .inl ⟨k, by omega, hk, e⟩
  · obtain ⟨j, hj, e⟩ := bwd k k2
    rw [set0_getD h0 k k2, if_neg (by omega)] at e
    exact ⟨_, getR_mem (by omega : j < h'.length), by rw [e]⟩
  · obtain ⟨j, hj, e⟩ := bwd 0 h0
    rw [set0_getD h0 0 h0, if_pos rfl] at e
    exact ⟨_, getR_mem (by omega : j < h'.length), by rw [e]; exact hi⟩
end
end Go.Proofs.Ytmgdcebbeglcmaa.En
