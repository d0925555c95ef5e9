/- Items as bytes: no program in sight. -/
import Derived.Test.YtmgdcebbeglcmaaEnt
import Derived.Test.YtmgdcebbeglcmaaVarP
namespace Go.Proofs.Ytmgdcebbeglcmaa.En
open B Vp
set_option linter.unusedVariables false

def encT (s : ByteArray) : List UInt8 := (enc (s.size : Int) ++ s).data.toList
def itemB (e : Ent) : List UInt8 := encT e.key ++ (if e.gone = true then (enc 0).data.toList else (enc (e.til + 1)).data.toList ++ encT e.val)
def itemsB (l : List Ent) : List UInt8 := l.flatMap itemB
/-- the first item that is not good -/
def bads : List Ent → Int
  | [] => 0
  | e :: t => if goodI e ≠ 0 then goodI e else bads t
def putE (l : List Ent) : ByteArray × Int :=
  if 64 < l.length then (ByteArray.empty, 5) else if bads l ≠ 0 then (ByteArray.empty, bads l) else (str ((enc (l.length : Int)).data.toList ++ itemsB l), 0)

theorem enc_len {n : Int} (h0 : -9223372036854775808 ≤ n) (h1 : n ≤ 9223372036854775807) : (enc n).size ≤ 10 := by
  unfold enc
  rw [str_size]
  exact vb_len10 (zz_lt h0 h1)
theorem encT_len {s : ByteArray} (h : s.size ≤ 9223372036854775807) : (encT s).length ≤ 10 + s.size := by
  have := enc_len (n := (s.size : Int)) (by omega) (by omega)
  have e : (encT s).length = (enc (s.size : Int)).size + s.size := by
    show (enc (s.size : Int) ++ s).data.toList.length = _
    rw [← ByteArray.size_append]; simp
  omega
theorem goodE_0 {e : Ent} (h : goodE e = 0) : e.key.size ≤ 64 ∧ e.val.size ≤ 512 ∧ 1 ≤ e.key.size ∧ 1 ≤ e.seq ∧ 0 ≤ e.til ∧ (e.gone = true → e.val.size = 0 ∧ e.til = 0) := by
  unfold goodE at h
  by_cases h1 : 64 < e.key.size ∨ 512 < e.val.size
  · rw [if_pos h1] at h; omega
  · rw [if_neg h1] at h
    by_cases h2 : e.key.size = 0 ∨ e.seq < 1 ∨ e.til < 0 ∨ (e.gone = true ∧ (e.val.size ≠ 0 ∨ e.til ≠ 0))
    · rw [if_pos h2] at h; omega
    · refine ⟨by omega, by omega, by omega, by omega, by omega, fun hg => ?_⟩
      refine ⟨?_, ?_⟩
      · rcases Nat.eq_zero_or_pos e.val.size with h3 | h3
        · exact h3
        · exact absurd (.inr (.inr (.inr ⟨hg, .inl (by omega)⟩))) h2
      · by_cases h3 : e.til = 0
        · exact h3
        · exact absurd (.inr (.inr (.inr ⟨hg, .inr h3⟩))) h2
theorem goodE_cases (e : Ent) : goodE e = 0 ∨ goodE e = 2 ∨ goodE e = 5 := by
  unfold goodE
  split
  · exact .inr (.inr rfl)
  · split
    · exact .inr (.inl rfl)
    · exact .inl rfl
theorem goodI_0 {e : Ent} (h : goodI e = 0) : e.key.size ≤ 64 ∧ e.val.size ≤ 512 ∧ 1 ≤ e.key.size ∧ 0 ≤ e.til ∧ e.til ≠ 9223372036854775807 ∧ (e.gone = true → e.val.size = 0 ∧ e.til = 0) := by
  unfold goodI at h
  by_cases h1 : goodE { e with seq := 1 } = 0
  · rw [if_neg (by simpa using h1)] at h
    by_cases h2 : e.til = 9223372036854775807
    · rw [if_pos h2] at h; omega
    · obtain ⟨a, b, c, _, d, f⟩ := goodE_0 h1
      exact ⟨a, b, c, d, h2, f⟩
  · rw [if_pos h1] at h; exact absurd h h1
theorem itemB_len {e : Ent} (h : goodI e = 0) (hf : Fits e) : (itemB e).length ≤ 700 := by
  obtain ⟨a, b, c, d, d2, f⟩ := goodI_0 h
  have h1 := encT_len (s := e.key) (by omega)
  have h2 := encT_len (s := e.val) (by omega)
  have h3 := enc_len (n := 0) (by omega) (by omega)
  have h4 := enc_len (n := e.til + 1) (by omega) (by have := hf.til1; omega)
  have e3 : (enc 0).data.toList.length = (enc 0).size := by simp
  have e4 : (enc (e.til + 1)).data.toList.length = (enc (e.til + 1)).size := by simp
  unfold itemB
  rw [List.length_append]
  split
  · omega
  · rw [List.length_append]; omega
theorem itemsB_snoc (l : List Ent) (e : Ent) : itemsB (l ++ [e]) = itemsB l ++ itemB e := by simp [itemsB]
theorem itemsB_append (l m : List Ent) : itemsB (l ++ m) = itemsB l ++ itemsB m := by simp [itemsB]
theorem itemsB_len : ∀ (l : List Ent), (∀ e ∈ l, goodI e = 0 ∧ Fits e) → (itemsB l).length ≤ 700 * l.length
  | [], _ => by simp [itemsB]
  | e :: t, h => by
    have h1 := itemB_len (h e (by simp)).1 (h e (by simp)).2
    have h2 := itemsB_len t fun x hx => h x (by simp [hx])
    have e1 : itemsB (e :: t) = itemB e ++ itemsB t := rfl
    rw [e1, List.length_append, List.length_cons]; omega
theorem bads_take (l : List Ent) (k : Nat) (h : bads (l.take k) = 0) (hk : k < l.length) : bads (l.take (k + 1)) = goodI (l.getD k ent0) ∧ (goodI (l.getD k ent0) ≠ 0 → bads l = goodI (l.getD k ent0)) := by
  induction l generalizing k with
  | nil => simp at hk
  | cons e t ih =>
    cases k with
    | zero =>
      simp only [Nat.zero_add, List.take_succ_cons, List.take_zero, List.getD_cons_zero, bads]
      refine ⟨?_, fun hh => by rw [if_pos hh]⟩
      split
      · rfl
      · rename_i hh; simp at hh; omega
    | succ k =>
      rw [List.take_succ_cons] at h ⊢
      simp only [bads] at h ⊢
      have hg : goodI e = 0 := by
        by_cases hg : goodI e = 0
        · exact hg
        · rw [if_pos hg] at h; exact h
      rw [hg] at h ⊢
      simp only [ne_eq, not_true_eq_false, if_false] at h ⊢
      rw [List.getD_cons_succ]
      exact ih k h (by simpa using hk)
theorem bads_good : ∀ (l : List Ent), bads l = 0 → ∀ e ∈ l, goodI e = 0
  | [], _, e, he => by cases he
  | x :: t, h, e, he => by
    simp only [bads] at h
    have hg : goodI x = 0 := by
      by_cases hg : goodI x = 0
      · exact hg
      · rw [if_pos hg] at h; exact h
    rw [if_neg (by simpa using hg)] at h
    rcases List.mem_cons.1 he with rfl | he
    · exact hg
    · exact bads_good t h e he
end Go.Proofs.Ytmgdcebbeglcmaa.En
