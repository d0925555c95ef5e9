/- Plain facts on frames that are cut off: no program in sight. -/
import Derived.Test.YtfeaacjacbljfaaFrameP
namespace Go.Proofs.Ytfeaacjacbljfaa.Fp
open B
set_option linter.unusedVariables false

theorem getF_nat (s : ByteArray) (a : Nat) (h : a ≤ s.size) : getF s a = getN s a := by
  unfold getF
  rw [if_neg (by omega)]
  rfl

/-- what stands where a frame is cut off -/
theorem getN_cut (x l : List UInt8) (c : Nat) (hl : l.length ≤ 65535) (hc : c < 8 + l.length) : getN (str (x ++ (frm l).take c)) x.length = ⟨str [], 0, if c = 0 then 10 else 3⟩ := by
  have hz : (str (x ++ (frm l).take c)).size = x.length + c := by rw [str_size, List.length_append, List.length_take, frm_len]; omega
  unfold getN
  rw [hz]
  by_cases h0 : c = 0
  · rw [if_pos (by omega), if_pos h0]
  · rw [if_neg (by omega), if_neg h0]
    by_cases h4 : c < 4
    · rw [if_pos (by omega)]
    · rw [if_neg (by omega)]
      have hs := sum_lt l
      have hb : ∀ j, j < 4 → bn (str (x ++ (frm l).take c)) (x.length + j) = (headN l.length (sum l)).getD j 0 := fun j hj => by
        have h := bn_head x l l.length (sum l) hl hs j (by omega)
        rw [← h]
        unfold bn
        simp only [toList_str, List.getD_eq_getElem?_getD]
        rw [List.getElem?_append_right (by omega), List.getElem?_append_right (by omega), Nat.add_sub_cancel_left, List.getElem?_take_of_lt (by omega)]
        rfl
      have e0 := hb 0 (by omega)
      have e1 := hb 1 (by omega)
      have e2 := hb 2 (by omega)
      have e3 := hb 3 (by omega)
      rw [Nat.add_zero] at e0
      rw [e0, e1, e2, e3]
      simp only [headN, List.getD_cons_zero, List.getD_cons_succ]
      rw [if_neg (by omega), if_pos (by omega)]

/-- how many frames stand whole ahead of place c -/
def wholeN : List (List UInt8) → Nat → Nat
  | [], _ => 0
  | b :: t, c => if 8 + b.length ≤ c then wholeN t (c - (8 + b.length)) + 1 else 0
theorem wholeN_le : ∀ (l : List (List UInt8)) (c : Nat), wholeN l c ≤ l.length
  | [], _ => by simp [wholeN]
  | b :: t, c => by
    rw [wholeN]
    split
    · have := wholeN_le t (c - (8 + b.length)); simp; omega
    · simp
theorem whole_len : ∀ (l : List (List UInt8)) (c : Nat), (frames (l.take (wholeN l c))).length ≤ c
  | [], c => by simp [wholeN, frames]
  | b :: t, c => by
    rw [wholeN]
    split
    · rename_i h
      have := whole_len t (c - (8 + b.length))
      rw [List.take_succ_cons]
      simp only [frames, List.flatMap_cons, List.length_append, frm_len] at this ⊢
      omega
    · simp [frames]
theorem end_iff : ∀ (l : List (List UInt8)) (c i : Nat), i < l.length → (endN l i ≤ c ↔ i < wholeN l c)
  | [], c, i, h => by simp at h
  | b :: t, c, i, h => by
    have h0 : endN (b :: t) i = 8 + b.length + (frames (t.take i)).length := by
      unfold endN
      rw [List.take_succ_cons]
      simp only [frames, List.flatMap_cons, List.length_append, frm_len]
    rw [h0, wholeN]
    cases i with
    | zero =>
      simp only [List.take_zero, frames, List.flatMap_nil, List.length_nil]
      split <;> omega
    | succ i =>
      have ih := end_iff t (c - (8 + b.length)) i (by simpa using h)
      unfold endN at ih
      split
      · rename_i h1
        constructor
        · intro h2; have := ih.1 (by omega); omega
        · intro h2; have := ih.2 (by omega); omega
      · constructor <;> intro h2 <;> omega

theorem frames_cons (b : List UInt8) (t : List (List UInt8)) : frames (b :: t) = frm b ++ frames t := by simp [frames]

theorem fAll_cut : ∀ (l : List (List UInt8)) (pre : List UInt8) (acc : List ByteArray) (c f : Nat), (∀ b ∈ l, b.length ≤ 65535) → c ≤ (frames l).length → c < f →
    fAll (str (pre ++ (frames l).take c)) f pre.length acc =
      (acc ++ (l.take (wholeN l c)).map str, pre.length + (frames (l.take (wholeN l c))).length, if (frames (l.take (wholeN l c))).length = c then 10 else 3)
  | [], pre, acc, c, f, _, hc, hf => by
    obtain ⟨f, rfl⟩ : ∃ g, f = g + 1 := ⟨f - 1, by omega⟩
    have hc0 : c = 0 := by simpa [frames] using hc
    subst hc0
    rw [fAll, getF_nat _ _ (by rw [str_size]; simp)]
    have h : getN (str (pre ++ (frames []).take 0)) pre.length = ⟨str [], 0, 10⟩ := by unfold getN; rw [if_pos (by rw [str_size]; simp)]
    rw [h]
    simp [wholeN, frames]
  | b :: t, pre, acc, c, f, hb, hc, hf => by
    obtain ⟨f, rfl⟩ : ∃ g, f = g + 1 := ⟨f - 1, by omega⟩
    have hbl := hb b (by simp)
    have e : (frames (b :: t)).take c = (frm b).take c ++ (frames t).take (c - (8 + b.length)) := by
      simp only [frames, List.flatMap_cons, List.take_append, frm_len]
    rw [fAll, getF_nat _ _ (by rw [str_size]; simp)]
    by_cases h : 8 + b.length ≤ c
    · have e2 : (frm b).take c = frm b := List.take_of_length_le (by rw [frm_len]; exact h)
      rw [e, e2]
      have hg := getN_at pre b ((frames t).take (c - (8 + b.length))) hbl
      rw [hg]
      simp only [ne_eq, not_true_eq_false, if_false, Int.toNat_natCast]
      have hlt : c - (8 + b.length) ≤ (frames t).length := by
        simp only [frames, List.flatMap_cons, List.length_append, frm_len] at hc ⊢; omega
      have ih := fAll_cut t (pre ++ frm b) (acc ++ [str b]) (c - (8 + b.length)) f (fun d hd => hb d (by simp [hd])) hlt (by omega)
      rw [List.append_assoc, List.length_append, frm_len] at ih
      rw [show pre.length + 8 + b.length = pre.length + (8 + b.length) from by omega, ih, wholeN, if_pos h, List.take_succ_cons]
      have hw := whole_len t (c - (8 + b.length))
      rw [frames_cons, List.length_append, frm_len, List.map_cons]
      generalize (frames (List.take (wholeN t (c - (8 + b.length))) t)).length = F at hw ⊢
      have hap : acc ++ [str b] ++ (List.take (wholeN t (c - (8 + b.length))) t).map str = acc ++ str b :: (List.take (wholeN t (c - (8 + b.length))) t).map str := by simp
      rw [hap, Nat.add_assoc]
      refine Prod.ext rfl (Prod.ext rfl ?_)
      show (if F = c - (8 + b.length) then (10 : Int) else 3) = if 8 + b.length + F = c then 10 else 3
      by_cases h7 : F = c - (8 + b.length)
      · rw [if_pos h7, if_pos (by omega)]
      · rw [if_neg h7, if_neg (by omega)]
    · rw [e, show c - (8 + b.length) = 0 from by omega, List.take_zero, List.append_nil, getN_cut pre b c hbl (by omega), wholeN, if_neg h]
      have hne : (if c = 0 then (10 : Int) else 3) ≠ 0 := by split <;> decide
      simp only [frames, List.take_zero, List.flatMap_nil, List.map_nil, List.append_nil, List.length_nil, Nat.add_zero]
      rw [if_pos hne]
      refine Prod.ext rfl (Prod.ext rfl ?_)
      simp only
      by_cases hc0 : c = 0
      · rw [if_pos hc0, if_pos hc0.symm]
      · rw [if_neg hc0, if_neg (fun h => hc0 h.symm)]

theorem frames_ge (l : List (List UInt8)) : l.length ≤ (frames l).length := by
  induction l with
  | nil => simp
  | cons b t ih => simp only [frames, List.flatMap_cons, List.length_append, List.length_cons, frm_len] at ih ⊢; omega

/-- of frames that are cut off just those that are whole -/
theorem allF_cut (l : List (List UInt8)) (c : Nat) (hb : ∀ b ∈ l, b.length ≤ 65535) (hc : c ≤ (frames l).length) :
    allF (str ((frames l).take c)) = ((l.take (wholeN l c)).map str, (frames (l.take (wholeN l c))).length, if (frames (l.take (wholeN l c))).length = c then 10 else 3) := by
  have hsz : (str ((frames l).take c)).size = c := by rw [str_size, List.length_take]; omega
  have h := fAll_cut l [] [] c (c + 2) hb hc (by omega)
  unfold allF
  rw [hsz]
  simpa using h

/-- all the frames, whole -/
theorem allF_all (l : List (List UInt8)) (hb : ∀ b ∈ l, b.length ≤ 65535) : allF (str (frames l)) = (l.map str, (frames l).length, 10) := by
  have h := allF_cut l (frames l).length hb (Nat.le_refl _)
  have hw : wholeN l (frames l).length = l.length := by
    clear h hb
    induction l with
    | nil => rfl
    | cons b t ih =>
      rw [wholeN, frames_cons, List.length_append, frm_len, if_pos (by omega), Nat.add_sub_cancel_left, ih]
      rfl
  rw [hw, List.take_length, List.take_length, if_pos rfl] at h
  exact h

end Go.Proofs.Ytfeaacjacbljfaa.Fp
