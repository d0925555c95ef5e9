/- slices.Compact of keys. -/
import Derived.Test.YtajfalffpcamhaaTabV
import Derived.Test.YtajfalffpcamhaaBloomN
import Derived.Test.YtajfalffpcamhaaPutAll
import Derived.Shelf.Slices.CompactS
import Derived.Lib.OwnBridge
namespace Go.Proofs.Ytajfalffpcamhaa.Tw
open Go.Proofs
open Go.Shelf
open Go.RowKit B Fp Tb Vp En
set_option linter.unusedVariables false

def lays194_ren : Go.Shelf.Ren := ⟨fun | 194 => 27 | n => n, fun | 0 => 0 | 3 => 3 | 4 => 4 | 9 => 9 | 31 => 72 | n => n, fun | n => n⟩
theorem lays194 : Go.Proofs.Lays.n194 Try.prog lays194_ren := {
  mixed := by kernel_rfl
  f194 := Try.func27.trans (congrArg some (by kernel_rfl))
  t0 := Try.underlying0
  a0 := Try.isAgg0
  z0 := Try.sizeOf0
  v0 := Try.zeroValue0
  t3 := Try.underlying3
  a3 := Try.isAgg3
  z3 := Try.sizeOf3
  v3 := Try.zeroValue3
  t4 := Try.underlying4
  a4 := Try.isAgg4
  z4 := Try.sizeOf4
  v4 := Try.zeroValue4
  t9 := Try.underlying9
  a9 := Try.isAgg9
  z9 := Try.sizeOf9
  v9 := Try.zeroValue9
  t31 := Try.underlying72
  a31 := Try.isAgg72
  z31 := Try.sizeOf72
  v31 := Try.zeroValue72 }

theorem compact_le (zs : List (List UInt8)) : (Lib.compact zs).length ≤ zs.length := by
  unfold Lib.compact Lib.compactUpTo
  rw [List.length_map]
  exact Nat.le_trans (List.length_filter_le _ _) (by simp)
theorem compact_any (B : Nat) (a : Option Addr) (n cap : Nat) (zs : List (List UInt8)) (w : World) (h : w.ownsRow B 9 1 (.slice a n cap) n (zs.map encStr)) (hB : B ≤ w.heap.size) :
    Calls Try.prog 27 #[.slice a n cap] w fun e w' => ∃ a' c', e = .returned (.slice a' (Lib.compact zs).length c') ∧ w'.ownsRow B 9 1 (.slice a' (Lib.compact zs).length c') (Lib.compact zs).length ((Lib.compact zs).map encStr) ∧ Below B w w' := by
  have hzl : zs.length = n := by simpa using h.1
  by_cases h0 : (.slice a n cap : Value) = .slice none 0 0
  · simp only [Value.slice.injEq] at h0
    obtain ⟨rfl, rfl, rfl⟩ := h0
    obtain rfl : zs = [] := List.eq_nil_of_length_eq_zero hzl
    refine (Any.slices_Compact_string_empty lays194 none 0 w).mono ?_
    rintro e w' ⟨rfl, rfl⟩
    exact ⟨none, 0, rfl, h, Below.refl _ _⟩
  · obtain ⟨g, cap', hv, hg, hlt, hnc, hcm, _, hH⟩ := Lib.holds_of_ownsRow h h0
    simp only [Value.slice.injEq, true_and] at hv
    obtain ⟨rfl, rfl⟩ := hv
    subst hzl
    have hc := compact_le zs
    refine (Any.slices_Compact_string lays194 g 0 cap zs w hH (by unfold maxLen at hcm; omega) hnc).mono ?_
    rintro e w' ⟨rfl, q, rfl⟩
    refine ⟨some ⟨g, 0, none⟩, cap, rfl, ?_, Lib.below_putRow (Below.refl _ _) hg⟩
    have := Lib.ownsRow_putRow (q := q) (k := (Lib.compact zs).length) (ys := Lib.compact zs ++ List.replicate (zs.length - (Lib.compact zs).length) []) h (by simp; omega) hc
    rwa [List.take_left] at this

/-! the keys, each once -/
def keysL (l : List Ent) : List (List UInt8) := l.map fun e => e.key.data.toList
theorem keysC_snoc (x : Ent) : ∀ l : List Ent, keysC (l ++ [x]) = if l ≠ [] ∧ (lastE l).key = x.key then keysC l else keysC l ++ [x.key.data.toList]
  | [] => by simp [keysC]
  | [e] => by
    simp only [List.singleton_append, keysC]
    by_cases h : e.key = x.key
    · rw [if_pos h, if_pos ⟨by simp, h⟩, h]
    · rw [if_neg h, if_neg (fun hh => h hh.2)]
  | e :: y :: t => by
    have ih := keysC_snoc x (y :: t)
    have hl : lastE (e :: y :: t) = lastE (y :: t) := by unfold lastE; simp
    have e1 : keysC (e :: y :: (t ++ [x])) = if e.key = y.key then keysC (y :: (t ++ [x])) else e.key.data.toList :: keysC (y :: (t ++ [x])) := rfl
    have e2 : keysC (e :: y :: t) = if e.key = y.key then keysC (y :: t) else e.key.data.toList :: keysC (y :: t) := rfl
    simp only [List.cons_append] at ih ⊢
    rw [e1, e2, ih, hl]
    by_cases h : (lastE (y :: t)).key = x.key
    · simp [h]
    · by_cases h2 : e.key = y.key <;> simp [h, h2]
theorem keysC_upto (l : List Ent) : ∀ m, m ≤ l.length → keysC (l.take m) = Lib.compactUpTo (keysL l).toArray m
  | 0, _ => rfl
  | m + 1, h => by
    have hk : ∀ j, j < l.length → (keysL l).toArray[j]! = (l.getD j ent0).key.data.toList := fun j hj => by
      simp [keysL, getElem!_pos, hj, List.getD_eq_getElem?_getD]
    rw [take_snoc l m ent0 (by omega), keysC_snoc, Lib.compactUpTo_succ, ← keysC_upto l m (by omega), hk m (by omega)]
    by_cases h0 : m = 0
    · subst h0
      rw [if_neg (by simp), if_pos (by simp [Lib.keeps])]
    · have hl : lastE (l.take m) = l.getD (m - 1) ent0 := by
        obtain ⟨j, rfl⟩ : ∃ j, m = j + 1 := ⟨m - 1, by omega⟩
        exact lastE_take l j (by omega)
      have hne : l.take m ≠ [] := fun hh => by have := congrArg List.length hh; rw [List.length_take, List.length_nil] at this; omega
      rw [hl]
      by_cases h1 : (l.getD (m - 1) ent0).key = (l.getD m ent0).key
      · rw [if_pos ⟨hne, h1⟩, Lib.keeps_neg (by omega) (by rw [hk m (by omega), hk (m - 1) (by omega), h1])]
        simp
      · rw [if_neg (fun hh => h1 hh.2), Lib.keeps_pos (by
          rw [hk m (by omega), hk (m - 1) (by omega)]
          intro hh
          exact h1 (ba_ext hh).symm), if_pos rfl]
theorem keysC_is (l : List Ent) : keysC l = Lib.compact (keysL l) := by
  have := keysC_upto l l.length (Nat.le_refl _)
  rw [List.take_length] at this
  rw [this]; unfold Lib.compact; simp [keysL]
theorem own_strs {w : World} {B n : Nat} {a : Option Addr} {m cap : Nat} {zs : List (List UInt8)} (h : w.ownsRow B 9 1 (.slice a m cap) n (zs.map encStr)) : m = n ∧ n ≤ cap ∧ cap ≤ 9223372036854775807 ∧ Row w a n (fun i => .string ((zs.map str).getD i ByteArray.empty)) := by
  have hl : zs.length = n := by simpa using h.1
  rcases h.2 with ⟨hv, h0⟩ | ⟨g, cap', cur, hv, hB, hg, hnc, hm, hs, ht⟩
  · cases hv; exact ⟨h0.symm, by omega, by omega, .inl h0⟩
  · cases hv
    refine ⟨rfl, hnc, by unfold maxLen at hm; omega, .inr ⟨g, 0, rfl, lt_of_block hg, fun i hi => ?_⟩⟩
    have h2 := World.ownsRow.cellAt (w := w) (base := B) (e := 9) (size := 1) (g := g) (n := n) (cap := cap) (xs := zs.map encStr) ⟨h.1, .inr ⟨g, cap, cur, rfl, hB, hg, hnc, hm, hs, ht⟩⟩ i (by omega)
    rw [Nat.zero_add, h2]
    simp [List.getD_eq_getElem?_getD, List.getElem?_eq_getElem (show i < zs.length from by omega), encStr, str]
theorem strs_back (zs : List (List UInt8)) : (zs.map str).map (fun s => s.data.toList) = zs := by simp [Function.comp_def, str]
end Go.Proofs.Ytajfalffpcamhaa.Tw
