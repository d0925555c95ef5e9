/- Entries dealt out to four lists. -/
import Derived.Test.YtmgdcebbeglcmaaMrgL
import Derived.Deep.OwnRows
import Derived.Deep.RegionLaw
import Derived.Deep.AppendLies
namespace Go.Proofs.Ytmgdcebbeglcmaa.En
open B
set_option linter.unusedVariables false

theorem sameK_refl (x : Ent) : sameK x x = true := by simp [sameK]
theorem mpE_has {L : List Ent} {e x : Ent} (h : (∃ y ∈ L, sameK y x = true) ∨ x = e) : ∃ y ∈ mpE L e, sameK y x = true := by
  rcases h with ⟨y, hy, hs⟩ | rfl
  · exact ⟨y, mem_mpE.2 (.inl hy), hs⟩
  · cases ht : thereE L x with
    | true =>
      unfold thereE at ht
      rw [List.any_eq_true] at ht
      obtain ⟨y, hy, hs⟩ := ht
      exact ⟨y, mem_mpE.2 (.inl hy), hs⟩
    | false => exact ⟨x, mem_mpE.2 (.inr ⟨rfl, ht⟩), sameK_refl x⟩
theorem mpAll_has : ∀ (es L : List Ent) {x : Ent}, (∃ y ∈ L, sameK y x = true) ∨ x ∈ es → ∃ y ∈ mpAll L es, sameK y x = true
  | [], L, x, h => by
    rcases h with h | h
    · exact h
    · cases h
  | e :: t, L, x, h => by
    rw [mpAll_cons]
    refine mpAll_has t (mpE L e) ?_
    rcases h with h | h
    · exact .inl (mpE_has (.inl h))
    · rcases List.mem_cons.1 h with rfl | h
      · exact .inl (mpE_has (.inr rfl))
      · exact .inr h
theorem sorted_same {R : List Ent} (hs : Sorted R) {x y : Ent} (hx : x ∈ R) (hy : y ∈ R) (h : sameK x y = true) : x = y := by
  obtain ⟨i, hi, rfl⟩ := mem_getD hx
  obtain ⟨j, hj, rfl⟩ := mem_getD hy
  rcases Nat.lt_trichotomy i j with hij | rfl | hij
  · have := hs i j hij hj
    rw [lessE_same h] at this; cases this
  · rfl
  · have := hs j i hij hi
    rw [lessE_same (by rw [sameK_comm]; exact h)] at this; cases this
/-- a list in order, whatever order it is put in -/
theorem mpAll_mem {R X : List Ent} (hs : Sorted R) (h : ∀ x, x ∈ X ↔ x ∈ R) : mpAll [] X = R := by
  have h1 : ∀ x ∈ mpAll [] X, x ∈ R := mpAll_fits (fun x => x ∈ R) X (fun x hx => by cases hx) (fun x hx => (h x).1 hx)
  refine sorted_ext _ _ (mpAll_sorted X sorted_nil) hs fun x => ⟨h1 x, fun hx => ?_⟩
  obtain ⟨y, hy, hsm⟩ := mpAll_has X [] (.inr ((h x).2 hx))
  rwa [sorted_same hs (h1 y hy) hx hsm] at hy

/-- the first i entries, dealt out -/
structure Dealt (R : List Ent) (i : Nat) (Ls : List (List Ent)) : Prop where
  len : Ls.length = 4
  so : ∀ j, j < 4 → Sorted (Ls.getD j [])
  sub : ∀ j, j < 4 → ∀ x ∈ Ls.getD j [], x ∈ R.take i
  cov : ∀ x ∈ R.take i, ∃ j, j < 4 ∧ x ∈ Ls.getD j []
  tot : Ls.flatten.length = i
theorem nil4 (j : Nat) : ([[], [], [], []] : List (List Ent)).getD j [] = [] := by
  match j with
  | 0 => rfl
  | 1 => rfl
  | 2 => rfl
  | 3 => rfl
  | j + 4 => rfl
theorem dealt_0 (R : List Ent) : Dealt R 0 [[], [], [], []] :=
  ⟨rfl, fun j _ => by rw [nil4]; exact sorted_nil, fun j _ x hx => (by rw [nil4] at hx; cases hx), fun x hx => (by simp at hx), rfl⟩
theorem sorted_snoc {L : List Ent} {e : Ent} (h : Sorted L) (hl : ∀ x ∈ L, lessE x e = true) : Sorted (L ++ [e]) := fun i j hij hj => by
  rw [List.length_append] at hj
  simp only [List.length_cons, List.length_nil] at hj
  by_cases hj' : j < L.length
  · rw [List.getD_eq_getElem?_getD, List.getD_eq_getElem?_getD, List.getElem?_append_left (by omega), List.getElem?_append_left hj', ← List.getD_eq_getElem?_getD, ← List.getD_eq_getElem?_getD]
    exact h i j hij hj'
  · obtain rfl : j = L.length := by omega
    rw [List.getD_eq_getElem?_getD, List.getD_eq_getElem?_getD, List.getElem?_append_left (by omega), List.getElem?_append_right (Nat.le_refl _), Nat.sub_self, ← List.getD_eq_getElem?_getD]
    exact hl _ (getD_mem hij)
theorem Dealt.step {R : List Ent} {i k : Nat} {Ls : List (List Ent)} (d : Dealt R i Ls) (hs : Sorted R) (hi : i < R.length) (hk : k < 4) : Dealt R (i + 1) (Ls.set k (Ls.getD k [] ++ [R.getD i ent0])) := by
  have hkl : k < Ls.length := by rw [d.len]; exact hk
  have ht : R.take (i + 1) = R.take i ++ [R.getD i ent0] := take_snoc R i ent0 hi
  have g : ∀ j, j < 4 → (Ls.set k (Ls.getD k [] ++ [R.getD i ent0])).getD j [] = if k = j then Ls.getD k [] ++ [R.getD i ent0] else Ls.getD j [] := fun j hj => getDL_set Ls k j _ (by rw [d.len]; exact hj)
  have hlow : ∀ x ∈ R.take i, lessE x (R.getD i ent0) = true := fun x hx => by
    obtain ⟨j, hj, rfl⟩ := mem_getD hx
    rw [List.length_take] at hj
    have e : (R.take i).getD j ent0 = R.getD j ent0 := by rw [List.getD_eq_getElem?_getD, List.getElem?_take, if_pos (by omega), ← List.getD_eq_getElem?_getD]
    rw [e]
    exact hs j i (by omega) hi
  refine ⟨by rw [List.length_set]; exact d.len, fun j hj => ?_, fun j hj x hx => ?_, fun x hx => ?_, ?_⟩
  · rw [g j hj]
    split
    · exact sorted_snoc (d.so k hk) fun x hx => hlow x (d.sub k hk x hx)
    · exact d.so j hj
  · rw [g j hj] at hx
    rw [ht]
    by_cases e : k = j
    · rw [if_pos e] at hx
      rcases List.mem_append.1 hx with hx | hx
      · exact List.mem_append_left _ (d.sub k hk x hx)
      · exact List.mem_append_right _ hx
    · rw [if_neg e] at hx; exact List.mem_append_left _ (d.sub j hj x hx)
  · rw [ht] at hx
    rcases List.mem_append.1 hx with hx | hx
    · obtain ⟨j, hj, hxj⟩ := d.cov x hx
      refine ⟨j, hj, ?_⟩
      rw [g j hj]
      split
      · rename_i e; subst e; exact List.mem_append_left _ hxj
      · exact hxj
    · exact ⟨k, hk, by rw [g k hk, if_pos rfl]; exact List.mem_append_right _ hx⟩
  · have h1 := d.tot
    rw [flat_at hkl] at h1
    rw [flat_set hkl]
    simp only [List.length_append, List.length_cons, List.length_nil] at h1 ⊢
    omega
theorem Dealt.done {R : List Ent} {i : Nat} {Ls : List (List Ent)} (d : Dealt R i Ls) (hs : Sorted R) (hi : i = R.length) : mpAll [] Ls.flatten = R := by
  refine mpAll_mem hs fun x => ?_
  have h1 := d.sub
  have h2 := d.cov
  rw [hi, List.take_length] at h1 h2
  constructor
  · intro hx
    obtain ⟨j, hj, hxj⟩ := mem_flat hx
    exact h1 j (by rw [← d.len]; exact hj) x hxj
  · intro hx
    obtain ⟨j, hj, hxj⟩ := h2 x hx
    rw [flat_at (j := j) (by rw [d.len]; exact hj)]
    exact List.mem_append_right _ (List.mem_append_left _ hxj)
end Go.Proofs.Ytmgdcebbeglcmaa.En
namespace Go.Proofs.Ytmgdcebbeglcmaa.Ew
open Go.RowKit
open En B
set_option linter.unusedVariables false

def sv (s : Option Addr × Nat × Nat) : Value := .slice s.1 s.2.1 s.2.2
def upd (sl : Nat → Option Addr × Nat × Nat) (k : Nat) (s : Option Addr × Nat × Nat) (j : Nat) : Option Addr × Nat × Nat := if j = k then s else sl j
/-- four lists in memory, each in a row of its own -/
structure Four (B gl : Nat) (sl : Nat → Option Addr × Nat × Nat) (Ls : List (List Ent)) (W : World) : Prop where
  blk : W.heap[gl]? = some (.cells #[sv (sl 0), sv (sl 1), sv (sl 2), sv (sl 3)] 23 (0, 0))
  own : ∀ j, j < 4 → W.ownsRow B 37 5 (sv (sl j)) (sl j).2.1 (ecells (Ls.getD j []))
  dis : ∀ j k, j < 4 → k < 4 → j ≠ k → (sv (sl j)).ownBlock = none ∨ (sv (sl j)).ownBlock ≠ (sv (sl k)).ownBlock
theorem Four.below {B gl : Nat} {sl : Nat → Option Addr × Nat × Nat} {Ls : List (List Ent)} {W W' : World} (f : Four B gl sl Ls W) (k : Below W.heap.size W W') : Four B gl sl Ls W' :=
  ⟨(k.block gl (lt_of_block f.blk)).trans f.blk, fun j hj => own_below (f.own j hj) k, f.dis⟩
theorem Four.cell {B gl : Nat} {sl : Nat → Option Addr × Nat × Nat} {Ls : List (List Ent)} {W : World} (f : Four B gl sl Ls W) (k : Nat) (hk : k < 4) : W.cell? ⟨gl, k, none⟩ = some (sv (sl k)) := by
  have hc := fun j => cell_of_row W gl j _ _ _ f.blk
  obtain rfl | rfl | rfl | rfl : k = 0 ∨ k = 1 ∨ k = 2 ∨ k = 3 := by omega
  · exact hc 0
  · exact hc 1
  · exact hc 2
  · exact hc 3
theorem Four.fz {B gl : Nat} {sl : Nat → Option Addr × Nat × Nat} {Ls : List (List Ent)} {W : World} (f : Four B gl sl Ls W) (k : Nat) : W.frozen? ⟨gl, k, none⟩ = false := by
  have h := f.blk
  simp [World.frozen?, h]
theorem Four.put {B gl g cap : Nat} {sl : Nat → Option Addr × Nat × Nat} {Ls : List (List Ent)} {W W5 : World} {k : Nat} {e : Ent} (f : Four B gl sl Ls W) (hLs : Ls.length = 4) (hk : k < 4)
    (ho : W5.ownsRow B 37 5 (.slice (some ⟨g, 0, none⟩) ((sl k).2.1 + 1) cap) ((sl k).2.1 + 1) (ecells (Ls.getD k []) ++ e.cells)) (hg : W.grownBy W5 (sv (sl k)).ownBlock) (hn : (sv (sl k)).ownBlock = some g ∨ g = W.heap.size) :
    W5.heap[gl]? = some (.cells #[sv (sl 0), sv (sl 1), sv (sl 2), sv (sl 3)] 23 (0, 0)) ∧
    Four B gl (upd sl k (some ⟨g, 0, none⟩, (sl k).2.1 + 1, cap)) (Ls.set k (Ls.getD k [] ++ [e])) (W5.setCell ⟨gl, k, none⟩ (.slice (some ⟨g, 0, none⟩) ((sl k).2.1 + 1) cap)) := by
  have hb : W5.heap[gl]? = some (.cells #[sv (sl 0), sv (sl 1), sv (sl 2), sv (sl 3)] 23 (0, 0)) := blk_grown hg f.blk (row_ne f.blk (f.own k hk) (by decide))
  have hgl : ∀ {v : Value} {n : Nat} {xs : List Value}, W5.ownsRow B 37 5 v n xs → v.ownBlock ≠ some gl := fun h => row_ne hb h (by decide)
  refine ⟨hb, ?_, fun j hj => ?_, fun i j hi hj hij => ?_⟩
  · rw [heap_setCell_same W5 gl k _ _ _ hb]
    obtain rfl | rfl | rfl | rfl : k = 0 ∨ k = 1 ∨ k = 2 ∨ k = 3 := by omega
    · rfl
    · rfl
    · rfl
    · rfl
  · rw [getDL_set Ls k j _ (by omega)]
    unfold upd
    by_cases e1 : j = k
    · subst e1
      rw [if_pos rfl, if_pos rfl, ecells_snoc]
      exact own_farB ho (p := ⟨gl, j, none⟩) (hgl ho) _
    · rw [if_neg e1, if_neg (fun e' => e1 e'.symm)]
      have := (f.own j hj).kept hg (f.dis j k hj hk e1)
      exact own_farB this (p := ⟨gl, k, none⟩) (hgl this) _
  · have key : ∀ j, j < 4 → j ≠ k → (sv (sl j)).ownBlock = none ∨ (sv (sl j)).ownBlock ≠ some g := fun j hj hjk => by
      rcases hn with hn | hn
      · rw [← hn]; exact f.dis j k hj hk hjk
      · cases hb' : (sv (sl j)).ownBlock with
        | none => exact .inl rfl
        | some x =>
          have := ((f.own j hj).lt x hb').2
          exact .inr fun e' => by cases e'; omega
    unfold upd
    by_cases e1 : i = k
    · have e2 : j ≠ k := by omega
      rw [if_pos e1, if_neg e2]
      refine .inr fun e' => ?_
      rcases key j hj e2 with h | h
      · rw [h] at e'; cases e'
      · exact h e'.symm
    · rw [if_neg e1]
      by_cases e2 : j = k
      · rw [if_pos e2]; exact key i hi e1
      · rw [if_neg e2]; exact f.dis i j hi hj hij
theorem four_0 {B gl : Nat} {W : World} (h : W.heap[gl]? = some (.cells #[.slice none 0 0, .slice none 0 0, .slice none 0 0, .slice none 0 0] 23 (0, 0))) : Four B gl (fun _ => (none, 0, 0)) [[], [], [], []] W :=
  ⟨h, fun j hj => by rw [nil4]; exact World.ownsRow_nil _ _ _ _, fun j k _ _ _ => .inl rfl⟩
theorem Four.row {B gl : Nat} {sl : Nat → Option Addr × Nat × Nat} {Ls : List (List Ent)} {W : World} (f : Four B gl sl Ls W) (hLs : Ls.length = 4) : LsRow W (some ⟨gl, 0, none⟩) 4 sl Ls := by
  refine ⟨hLs, .inr ⟨gl, 0, rfl, lt_of_block f.blk, fun i hi => by rw [Nat.zero_add]; exact f.cell i hi⟩, fun i hi => ?_⟩
  have h := f.own i hi
  have hl := (own_erow h).2.1
  unfold sv at h
  have h' := h
  rw [hl] at h
  obtain ⟨h1, h2, h3⟩ := own_inp h
  exact ⟨hl.symm, by omega, by rw [hl]; exact h3⟩
theorem step_pushF {P : Program} {ops : Array Oper} {o : Oper} {a : Act} {K : Act → World → Prop} {Q : Exit → Act → World → Prop} {E : Prop} (hgd : o.guard = none) (s x : Operand) (t : TypeId)
    (ho : o.op = .call { callee := .builtin .append, args := #[s, x], argTypes := #[t, t] }) {e : TypeId} {z : Value} {size bytes : Nat} (ht : P.underlying t = some (.slice e))
    (hinfo : (P.info? e).map (fun i => (i.zero, i.size, i.bytes)) = some (some z, size, bytes)) (hzs : z.cells.size = size) (hsz : 0 < size) {w : World} {B n c g : Nat} {xs : List Value} {v : Value} (hs : a.eval s = v)
    (cs : Array Value) (hcs : cs.size = size) (h1 : ∀ u ∈ cs.toList, u.oneCell' = true) (hx : a.eval x = .slice (some ⟨g, 0, none⟩) 1 c) (hg : w.heap[g]? = some (.cells cs e (0, 0))) (hown : w.ownsRow B e size v n xs) (hbase : B ≤ w.heap.size)
    (h63 : n + 1 ≤ maxLen) (hbytes : (n + 1) * bytes ≤ 140737488355328)
    (h : ∀ g' cap w', w'.ownsRow B e size (.slice (some ⟨g', 0, none⟩) (n + 1) cap) (n + 1) (xs ++ cs.toList) → w.grownBy w' v.ownBlock → Below B w w' → (v.ownBlock = some g' ∨ g' = w.heap.size) → K (a.put o.dst (.slice (some ⟨g', 0, none⟩) (n + 1) cap)) w') :
    if Region.wanted o (yielded ops a.tmps) = true then Oper.wp P o a w K Q else E := by
  obtain ⟨i0, hi, hz0, hz1, hz2⟩ := info_parts hinfo
  refine step_append_lies w hgd s x t ho B e i0 z size bytes ht hi hz0 hz1 hz2 hzs hsz v n xs hs hown ⟨g, 0, none⟩ 1 c cs.toList hx (by simp [hcs]) (World.news_of_block hg) h1 (by omega) h63 hbytes hbase _ rfl ?_
  intro g' cap w' hown' hgr hln _
  exact h _ _ _ hown' hgr ((Below.refl B w).grown hgr hbase (fun k hk => (hown.lt k hk).1)) hln
theorem Four.put' {B gl g cap : Nat} {pa : Option Addr} {mk dk : Nat} {sl : Nat → Option Addr × Nat × Nat} {Ls : List (List Ent)} {W W5 : World} {k : Nat} {e : Ent} (f : Four B gl sl Ls W) (hLs : Ls.length = 4) (hk : k < 4) (hsk : (pa, mk, dk) = sl k)
    (ho : W5.ownsRow B 37 5 (.slice (some ⟨g, 0, none⟩) (mk + 1) cap) (mk + 1) (ecells (Ls.getD k []) ++ e.cells)) (hg : W.grownBy W5 (Value.slice pa mk dk).ownBlock) (hn : (Value.slice pa mk dk).ownBlock = some g ∨ g = W.heap.size) :
    (W5.cell? ⟨gl, k, none⟩ = some (.slice pa mk dk) ∧ W5.frozen? ⟨gl, k, none⟩ = false) ∧
    Four B gl (upd sl k (some ⟨g, 0, none⟩, mk + 1, cap)) (Ls.set k (Ls.getD k [] ++ [e])) (W5.setCell ⟨gl, k, none⟩ (.slice (some ⟨g, 0, none⟩) (mk + 1) cap)) := by
  have e1 : (sl k).2.1 = mk := by rw [← hsk]
  have e2 : sv (sl k) = .slice pa mk dk := by rw [← hsk]; rfl
  rw [← e1] at ho
  rw [← e2] at hg hn
  obtain ⟨h1, h2⟩ := f.put hLs hk ho hg hn
  have hf : Four B gl sl Ls W → True := fun _ => trivial
  refine ⟨⟨?_, ?_⟩, by rw [← e1]; exact h2⟩
  · rw [← e2]
    have hc := fun j => cell_of_row W5 gl j _ _ _ h1
    obtain rfl | rfl | rfl | rfl : k = 0 ∨ k = 1 ∨ k = 2 ∨ k = 3 := by omega
    · exact hc 0
    · exact hc 1
    · exact hc 2
    · exact hc 3
  · simp [World.frozen?, h1]
theorem Four.put2 {B gl g cap : Nat} {pa : Option Addr} {mk dk : Nat} {sl : Nat → Option Addr × Nat × Nat} {Ls : List (List Ent)} {W0 W W5 : World} {k : Nat} {e : Ent} (f : Four B gl sl Ls W0) (hLs : Ls.length = 4) (hk : k < 4) (hsk : (pa, mk, dk) = sl k)
    (ho : W5.ownsRow B 37 5 (.slice (some ⟨g, 0, none⟩) (mk + 1) cap) (mk + 1) (ecells (Ls.getD k []) ++ e.cells)) (hg : W.grownBy W5 (Value.slice pa mk dk).ownBlock) (hn : (Value.slice pa mk dk).ownBlock = some g ∨ g = W.heap.size)
    (hb : Below W0.heap.size W0 W) :
    (W5.cell? ⟨gl, k, none⟩ = some (.slice pa mk dk) ∧ W5.frozen? ⟨gl, k, none⟩ = false) ∧
    Four B gl (upd sl k (some ⟨g, 0, none⟩, mk + 1, cap)) (Ls.set k (Ls.getD k [] ++ [e])) (W5.setCell ⟨gl, k, none⟩ (.slice (some ⟨g, 0, none⟩) (mk + 1) cap)) :=
  (f.below hb).put' hLs hk hsk ho hg hn
end Go.Proofs.Ytmgdcebbeglcmaa.Ew
