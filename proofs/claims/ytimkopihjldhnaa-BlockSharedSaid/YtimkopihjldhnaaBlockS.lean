/- Telling keys by what they share never takes more bytes: no program in sight. -/
import Derived.Test.YtimkopihjldhnaaBlockP
namespace Go.Proofs.Ytimkopihjldhnaa.En
open B Vp
set_option linter.unusedVariables false

theorem bts_one {n : Nat} (h : n ≤ 63) : (bts (n : Int)).length = 1 := by
  have hz : zz (n : Int) = 2 * n := by unfold zz; split <;> omega
  unfold bts
  rw [hz, vb_small (by omega)]
  rfl
theorem entB_short (c : Nat) (e : Ent) (hk : e.key.size ≤ 64) (hc : c ≤ e.key.size) : (entB c e).length ≤ (entB 0 e).length := by
  have el : e.key.data.toList.length = e.key.size := by simp
  unfold entB
  generalize (if e.gone = true then bts 0 else bts (e.til + 1) ++ txt e.val.data.toList) = tl
  simp only [List.length_append, txt_len, List.length_drop, el]
  have h0 : (bts ((0 : Nat) : Int)).length = 1 := bts_one (by omega)
  have h1 := bts_pos ((e.key.size : Nat) : Int)
  by_cases hc0 : c = 0
  · subst hc0; exact Nat.le_refl _
  · have h2 : (bts ((e.key.size - c : Nat) : Int)).length = 1 := bts_one (by omega)
    have h3 : (bts (c : Int)).length ≤ 2 := by
      by_cases h63 : c ≤ 63
      · rw [bts_one h63]; omega
      · obtain rfl : c = 64 := by omega
        exact vb_len 2 _ (by decide) (by decide)
    rw [h0, h2]
    simp only [Nat.sub_zero]
    omega
theorem nOf_one (i : Nat) (last : List UInt8) (e : Ent) : nOf 1 i last e = 0 := by
  unfold nOf; rw [if_neg (by simp [Nat.mod_one])]
theorem entsB_short (every : Nat) : ∀ (l : List Ent) (i j : Nat) (last last' : List UInt8), (∀ e ∈ l, e.key.size ≤ 64) → (entsB every i last l).length ≤ (entsB 1 j last' l).length
  | [], _, _, _, _, _ => by simp [entsB]
  | e :: t, i, j, last, last', h => by
    have h1 := entB_short (nOf every i last e) e (h e (by simp)) (nOf_le _ _ _ _)
    have h2 := entsB_short every t (i + 1) (j + 1) e.key.data.toList e.key.data.toList fun x hx => h x (by simp [hx])
    simp only [entsB, nOf_one, List.length_append]
    omega
theorem build_short (l : List Ent) (every : Int) (h0 : (buildE l every).2 = 0) (h1 : (buildE l 1).2 = 0) : (buildE l every).1.size ≤ (buildE l 1).1.size := by
  unfold buildE at *
  by_cases e1 : every < 1 ∨ 64 < every
  · rw [if_pos e1] at h0; simp at h0
  by_cases e2 : 4096 < l.length
  · rw [if_neg e1, if_pos e2] at h0; simp at h0
  by_cases e3 : (orderedE l).2 ≠ 0
  · rw [if_neg e1, if_neg e2, if_pos e3] at h0; exact absurd h0 e3
  rw [if_neg e1, if_neg e2, if_neg e3, if_neg (by omega), if_neg e2, if_neg e3]
  have hg : (orderedE l).2 = 0 := by omega
  have h9 := entsB_short every.toNat l 0 0 [] [] fun e he => (goodE_0 (ordered_good hg e he).1).1
  show (str _).size ≤ (str _).size
  rw [str_size, str_size]
  unfold bytesK
  rw [List.length_append, List.length_append]
  show _ ≤ _ + (entsB 1 0 [] l).length
  omega
end Go.Proofs.Ytimkopihjldhnaa.En
