/- Arguments opened, and what the second form's bound says of them. -/
import Derived.Test.YtajfalffpcamhaaRows
import Derived.Test.YtajfalffpcamhaaGa
import Derived.ProofKit
import Derived.OpenShut
import Derived.SliceStrings
namespace Go.Proofs.Ytajfalffpcamhaa.Op
open Go.ChangeShapes Go.WideShapes Go.ChangeAt Go.RowKit
open Go.ChangeMaps (open_string shut_string)
open B
set_option linter.unusedVariables false

/-! ### bulk -/
theorem one_le {H : Type} (d : DataW H) : 1 ≤ Rows.uptoBulk d := by
  cases d with
  | lit l => cases l <;> simp [Rows.uptoBulk]
  | nil => simp [Rows.uptoBulk]
  | ptr d => simp [Rows.uptoBulk]
  | slice elems spare => simp [Rows.uptoBulk]
  | agg parts => simp [Rows.uptoBulk]
  | iface t d => simp [Rows.uptoBulk]
  | map entries => simp [Rows.uptoBulk]
  | held h => simp [Rows.uptoBulk]
theorem part_le {H : Type} {d : DataW H} {l : List (DataW H)} (h : d ∈ l) : Rows.uptoBulk d ≤ Rows.uptoBulkAll l := by
  induction l with
  | nil => cases h
  | cons x r ih =>
    simp only [Rows.uptoBulkAll]
    cases List.mem_cons.1 h with
    | inl e => subst e; omega
    | inr e => have := ih e; omega
theorem bulk_append {H : Type} (l r : List (DataW H)) : Rows.uptoBulkAll (l ++ r) = Rows.uptoBulkAll l + Rows.uptoBulkAll r := by
  induction l with
  | nil => simp [Rows.uptoBulkAll]
  | cons x l ih => simp only [List.cons_append, Rows.uptoBulkAll, ih]; omega
theorem length_le {H : Type} (l : List (DataW H)) : l.length ≤ Rows.uptoBulkAll l := by
  induction l with
  | nil => simp [Rows.uptoBulkAll]
  | cons x r ih => have := one_le x; simp only [Rows.uptoBulkAll, List.length_cons]; omega

section
variable {H : Type} {enc : TypeId × Value → H} {P : Program} {w : World} {b0 base : Nat} {sp : Nat → Bool} {held : Bool} {r : Reach}

/-- a row's cells, from a reading's -/
theorem row_of {a : Addr} {m n : Nat} {f : Nat → Value} (hn : n ≤ m) (hc : ∀ i, i < m → w.cell? (a.add i) = some (f i)) : Row w (some a) n f := by
  by_cases h0 : n = 0
  · exact .inl h0
  · have h := hc 0 (by omega)
    have ha0 : a.add 0 = a := by simp [Addr.add]
    rw [ha0] at h
    have hs := World.cell?_spot h
    obtain ⟨b, off, spot⟩ := a
    subst hs
    refine .inr ⟨b, off, rfl, block_lt_of_cell (a := ⟨b, off, none⟩) h, fun i hi => ?_⟩
    have h2 := hc i (by omega)
    have : (⟨b, off, none⟩ : Addr).add i = ⟨b, off + i, none⟩ := by unfold Addr.add; split <;> simp_all
    rwa [this] at h2

/-- a string -/
theorem str1 {t : TypeId} {v : Value} {d : DataW H} {p : List MemPlace} (ht : P.underlying t = some .string) (hv : Value.okWide P w r b0 t v) (h : DataW.Trod enc P w base sp held t v d p) :
    ∃ s : ByteArray, v = .string s ∧ s.size + 1 ≤ Rows.uptoBulk d := by
  obtain ⟨s, rfl, rfl, rfl, _⟩ := open_string ht hv h
  exact ⟨s, rfl, by simp [Rows.uptoBulk]⟩
theorem int1 {t : TypeId} {k : IntKind} {v : Value} {d : DataW H} {p : List MemPlace} (ht : P.underlying t = some (.int k)) (hv : Value.okWide P w r b0 t v) (h : DataW.Trod enc P w base sp held t v d p) :
    ∃ n : Int, v = .int k n ∧ (Lit.int k n).wf = true := by
  obtain ⟨n, rfl, rfl, rfl, hw⟩ := open_int ht hv h
  exact ⟨n, rfl, hw⟩

theorem take_getD {α : Type} (l : List α) (n i : Nat) (d : α) (h : i < n) : (l.take n).getD i d = l.getD i d := by
  simp only [List.getD_eq_getElem?_getD, List.getElem?_take_of_lt h]

/-- a slice of integers -/
theorem ints1 {t e : TypeId} {k : IntKind} {v : Value} {d : DataW H} {p : List MemPlace} (ht : P.underlying t = some (.slice e)) (he : P.underlying e = some (.int k)) (hc : P.cellsOf e = 1)
    (hv : Value.okWide P w r b0 t v) (h : DataW.Trod enc P w base sp held t v d p) :
    ∃ (a : Option Addr) (n cap : Nat) (zs : List Int), v = .slice a n cap ∧ zs.length = n ∧ (∀ x ∈ zs, (Lit.int k x).wf = true) ∧ Row w a n (fun i => .int k (zs.getD i 0)) ∧ n ≤ cap ∧ n + 1 ≤ Rows.uptoBulk d := by
  obtain ⟨a, n, cap, rfl⟩ := okWide_slice ht hv
  obtain ⟨fuel, hf⟩ := h
  rcases open_ints ht he hc hf with ⟨hcs, hx⟩ | ⟨x, l, c, zs, hcs, _, hl, hm, hz, hx, hcell, hwz⟩
  · simp [Value.cells] at hcs
    obtain ⟨rfl, rfl, rfl⟩ := hcs
    simp only [Prod.mk.injEq] at hx
    obtain ⟨rfl, rfl⟩ := hx
    exact ⟨none, 0, 0, [], rfl, rfl, by simp, .inl rfl, by omega, one_le _⟩
  · simp [Value.cells] at hcs
    obtain ⟨rfl, rfl, rfl⟩ := hcs
    simp only [Prod.mk.injEq] at hx
    obtain ⟨rfl, rfl⟩ := hx
    have hlen : n ≤ zs.length := by rw [hz]; split <;> omega
    refine ⟨_, _, _, zs.take n, rfl, by simp; omega, fun y hy => hwz y (List.mem_of_mem_take hy), ?_, hl, ?_⟩
    · refine row_of (m := n) (Nat.le_refl _) fun i hi => ?_
      rw [take_getD _ _ _ _ hi]
      exact hcell i (by omega)
    · have h1 := length_le (lits (H := H) k (zs.take n))
      have h2 : (lits (H := H) k (zs.take n)).length = n := by simp [lits]; omega
      simp only [Rows.uptoBulk]; omega

theorem ints2 {t e : TypeId} {k : IntKind} {v : Value} {d : DataW H} {p : List MemPlace} (ht : P.underlying t = some (.slice e)) (he : P.underlying e = some (.int k)) (hc : P.cellsOf e = 1)
    (hv : Value.okWide P w r b0 t v) (h : DataW.Trod enc P w base sp held t v d p) :
    ∃ (a : Option Addr) (n cap : Nat) (zs : List Int), v = .slice a n cap ∧ zs.length = n ∧ (∀ x ∈ zs, (Lit.int k x).wf = true) ∧ Row w a n (fun i => .int k (zs.getD i 0)) ∧ n ≤ cap ∧ cap ≤ maxLen ∧
      (∀ b, (∀ m ∈ d.weights P t, m ≤ b) → n * P.bytesOf e ≤ b) := by
  obtain ⟨a, n, cap, rfl⟩ := okWide_slice ht hv
  obtain ⟨fuel, hf⟩ := h
  rcases open_ints ht he hc hf with ⟨hcs, hx⟩ | ⟨x, l, c, zs, hcs, _, hl, hm, hz, hx, hcell, hwz⟩
  · simp [Value.cells] at hcs
    obtain ⟨rfl, rfl, rfl⟩ := hcs
    simp only [Prod.mk.injEq] at hx
    obtain ⟨rfl, rfl⟩ := hx
    exact ⟨none, 0, 0, [], rfl, rfl, by simp, .inl rfl, by omega, by unfold maxLen; omega, fun b _ => by omega⟩
  · simp [Value.cells] at hcs
    obtain ⟨rfl, rfl, rfl⟩ := hcs
    simp only [Prod.mk.injEq] at hx
    obtain ⟨rfl, rfl⟩ := hx
    have hlen : n ≤ zs.length := by rw [hz]; split <;> omega
    have hln : (lits (H := H) k (zs.take n)).length = n := by simp [lits]; omega
    refine ⟨_, _, _, zs.take n, rfl, by simp; omega, fun y hy => hwz y (List.mem_of_mem_take hy), ?_, hl, hm, fun b hb => ?_⟩
    · refine row_of (m := n) (Nat.le_refl _) fun i hi => ?_
      rw [take_getD _ _ _ _ hi]
      exact hcell i (by omega)
    · have := hb ((((lits (H := H) k (zs.take n)).length + (lits (H := H) k (zs.drop n)).length)) * P.bytesOf e) (by simp only [DataW.weights, ht]; exact List.mem_cons_self)
      rw [hln] at this
      exact Nat.le_trans (Nat.mul_le_mul_right _ (by omega)) this

theorem bulk_strs : ∀ (ss : List ByteArray), Rows.uptoBulkAll (strs (H := H) ss) = (ss.map fun s => s.size + 1).sum
  | [] => by simp [strs, Rows.uptoBulkAll]
  | s :: t => by
    have := bulk_strs t
    simp only [strs, List.map_cons, Rows.uptoBulkAll, Rows.uptoBulk, List.sum_cons] at this ⊢
    rw [this]; rfl

/-- a slice of strings -/
theorem strs1 {t e : TypeId} {v : Value} {d : DataW H} {p : List MemPlace} (ht : P.underlying t = some (.slice e)) (he : P.underlying e = some .string) (hc : P.cellsOf e = 1)
    (hv : Value.okWide P w r b0 t v) (h : DataW.Trod enc P w base sp held t v d p) :
    ∃ (a : Option Addr) (n cap : Nat) (ss : List ByteArray), v = .slice a n cap ∧ ss.length = n ∧ Row w a n (fun i => .string (ss.getD i ByteArray.empty)) ∧ n ≤ cap ∧ (ss.map fun s => s.size + 1).sum + 1 ≤ Rows.uptoBulk d ∧ cap ≤ maxLen ∧ (∀ s ∈ ss, s.size ≤ maxLen) := by
  obtain ⟨a, n, cap, rfl⟩ := okWide_slice ht hv
  obtain ⟨fuel, hf⟩ := h
  rcases open_strings ht he hc hf with ⟨hcs, hx⟩ | ⟨x, l, c, zs, hcs, _, hl, hm, hz, hx, hcell, hwz⟩
  · simp [Value.cells] at hcs
    obtain ⟨rfl, rfl, rfl⟩ := hcs
    simp only [Prod.mk.injEq] at hx
    obtain ⟨rfl, rfl⟩ := hx
    exact ⟨none, 0, 0, [], rfl, rfl, .inl rfl, by omega, by simpa using one_le _, by unfold maxLen; omega, by simp⟩
  · simp [Value.cells] at hcs
    obtain ⟨rfl, rfl, rfl⟩ := hcs
    simp only [Prod.mk.injEq] at hx
    obtain ⟨rfl, rfl⟩ := hx
    have hlen : n ≤ zs.length := by rw [hz]; split <;> omega
    refine ⟨_, _, _, zs.take n, rfl, by simp; omega, ?_, hl, ?_, hm, fun y hy => hwz y (List.mem_of_mem_take hy)⟩
    · refine row_of (m := n) (Nat.le_refl _) fun i hi => ?_
      rw [take_getD _ _ _ _ hi]
      exact hcell i (by omega)
    · simp only [Rows.uptoBulk, bulk_strs]; omega
theorem weights_strs {P : Program} (e : TypeId) : ∀ (ss : List ByteArray) (s : ByteArray), s ∈ ss → s.size ∈ DataW.weightsAll P e (strs (H := H) ss)
  | [], s, h => by cases h
  | x :: r, s, h => by
    simp only [strs, List.map_cons, DataW.weightsAll, DataW.weights]
    rcases List.mem_cons.1 h with rfl | h
    · exact List.mem_append.2 (.inl (List.mem_singleton.2 (by simp)))
    · exact List.mem_append.2 (.inr (weights_strs e r s h))
/-- a slice of strings, with what its weights bound -/
theorem strs2 {t e : TypeId} {v : Value} {d : DataW H} {p : List MemPlace} (ht : P.underlying t = some (.slice e)) (he : P.underlying e = some .string) (hc : P.cellsOf e = 1)
    (hv : Value.okWide P w r b0 t v) (h : DataW.Trod enc P w base sp held t v d p) :
    ∃ (a : Option Addr) (n cap : Nat) (ss : List ByteArray), v = .slice a n cap ∧ ss.length = n ∧ Row w a n (fun i => .string (ss.getD i ByteArray.empty)) ∧ n ≤ cap ∧ cap ≤ maxLen ∧
      (∀ b, (∀ m ∈ d.weights P t, m ≤ b) → (∀ s ∈ ss, s.size ≤ b) ∧ n * P.bytesOf e ≤ b) := by
  obtain ⟨a, n, cap, rfl⟩ := okWide_slice ht hv
  obtain ⟨fuel, hf⟩ := h
  rcases open_strings ht he hc hf with ⟨hcs, hx⟩ | ⟨x, l, c, zs, hcs, _, hl, hm, hz, hx, hcell, hwz⟩
  · simp [Value.cells] at hcs
    obtain ⟨rfl, rfl, rfl⟩ := hcs
    simp only [Prod.mk.injEq] at hx
    obtain ⟨rfl, rfl⟩ := hx
    exact ⟨none, 0, 0, [], rfl, rfl, .inl rfl, by omega, by unfold maxLen; omega, fun b _ => ⟨by simp, by omega⟩⟩
  · simp [Value.cells] at hcs
    obtain ⟨rfl, rfl, rfl⟩ := hcs
    simp only [Prod.mk.injEq] at hx
    obtain ⟨rfl, rfl⟩ := hx
    have hlen : n ≤ zs.length := by rw [hz]; split <;> omega
    have hln : (strs (H := H) (zs.take n)).length = n := by simp [strs]; omega
    refine ⟨_, _, _, zs.take n, rfl, by simp; omega, ?_, hl, hm, fun b hb => ⟨fun s hs => ?_, ?_⟩⟩
    · refine row_of (m := n) (Nat.le_refl _) fun i hi => ?_
      rw [take_getD _ _ _ _ hi]
      exact hcell i (by omega)
    · refine hb _ ?_
      simp only [DataW.weights, ht]
      exact List.mem_cons_of_mem _ (List.mem_append.2 (.inl (weights_strs e _ s hs)))
    · have := hb ((((strs (H := H) (zs.take n)).length + (strs (H := H) (zs.drop n)).length)) * P.bytesOf e) (by simp only [DataW.weights, ht]; exact List.mem_cons_self)
      rw [hln] at this
      exact Nat.le_trans (Nat.mul_le_mul_right _ (by omega)) this
end

/-- a list's sizes, one by one -/
theorem size_le_sum (ss : List ByteArray) (i : Nat) : (ss.getD i ByteArray.empty).size ≤ (ss.map fun s => s.size + 1).sum := by
  induction ss generalizing i with
  | nil => simp
  | cons s t ih =>
    cases i with
    | zero => simp; omega
    | succ i => have := ih i; simp at this ⊢; omega
theorem length_le_sum (ss : List ByteArray) : ss.length ≤ (ss.map fun s => s.size + 1).sum := by
  induction ss with
  | nil => simp
  | cons s t ih => simp; omega

end Go.Proofs.Ytajfalffpcamhaa.Op
