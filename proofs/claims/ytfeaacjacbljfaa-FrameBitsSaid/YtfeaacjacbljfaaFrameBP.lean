/- Plain facts on frames in which one byte is another: no program in sight. -/
import Derived.Test.YtfeaacjacbljfaaFrameCP
namespace Go.Proofs.Ytfeaacjacbljfaa.Fp
open B
set_option linter.unusedVariables false

theorem bn_str (l : List UInt8) (k : Nat) : bn (str l) k = (l.getD k 0).toNat := rfl
theorem getD_set_self (l : List UInt8) (q : Nat) (y : UInt8) (h : q < l.length) : (l.set q y).getD q 0 = y := by
  rw [List.getD_eq_getElem?_getD, List.getElem?_set_self h]; rfl
theorem getD_set_ne (l : List UInt8) (q j : Nat) (y : UInt8) (h : j ≠ q) : (l.set q y).getD j 0 = l.getD j 0 := by
  rw [List.getD_eq_getElem?_getD, List.getElem?_set_ne (by omega), ← List.getD_eq_getElem?_getD]

theorem set_split (l : List UInt8) (q : Nat) (y : UInt8) (h : q < l.length) : l.set q y = l.take q ++ y :: l.drop (q + 1) := by
  rw [List.set_eq_take_append_cons_drop, if_pos h]
theorem split_at (l : List UInt8) (q : Nat) (h : q < l.length) : l = l.take q ++ l.getD q 0 :: l.drop (q + 1) := by
  have h2 : l.getD q 0 = l[q] := by rw [List.getD_eq_getElem?_getD, List.getElem?_eq_getElem h]; rfl
  rw [h2, ← List.drop_eq_getElem_cons h, List.take_append_drop]

/-- the sum of bytes of which one is another -/
theorem sum_set_ne (l : List UInt8) (q : Nat) (y : UInt8) (h : q < l.length) (hy : y ≠ l.getD q 0) : sum (l.set q y) ≠ sum l := by
  intro he
  rw [set_split l q y h] at he
  conv at he => rhs; rw [split_at l q h]
  exact sum_ne _ _ _ _ hy he

theorem four (c : Nat) (hc : c < 4294967296) : ((c / 16777216 * 256 + c / 65536 % 256) * 256 + c / 256 % 256) * 256 + c % 256 = c := by omega

/-- a frame in which one byte is another is none -/
theorem getN_turn (x l Y : List UInt8) (hl : l.length ≤ 65535) (q : Nat) (hq : q < 8 + l.length) (y : UInt8) (hy : y ≠ (frm l).getD q 0) :
    (getN (str (x ++ ((frm l).set q y ++ Y))) x.length).e ≠ 0 ∧ (getN (str (x ++ ((frm l).set q y ++ Y))) x.length).e ≠ 10 := by
  have hs := sum_lt l
  have hfl := frm_len l
  have hz : (str (x ++ ((frm l).set q y ++ Y))).size = x.length + (8 + l.length + Y.length) := by rw [str_size, List.length_append, List.length_append, List.length_set, frm_len]
  -- a byte of the turned frame
  have hb : ∀ j, j < 8 + l.length → bn (str (x ++ ((frm l).set q y ++ Y))) (x.length + j) = (((frm l).set q y).getD j 0).toNat := fun j hj => by
    rw [bn_str]
    simp only [List.getD_eq_getElem?_getD]
    rw [List.getElem?_append_right (by omega), Nat.add_sub_cancel_left, List.getElem?_append_left (by rw [List.length_set, frm_len]; exact hj)]
  have ho : ∀ j, j < 8 → ((frm l).getD j 0).toNat = (headN l.length (sum l)).getD j 0 := fun j hj => by
    have h := bn_head [] l l.length (sum l) hl hs j hj
    rw [List.length_nil, Nat.zero_add] at h
    exact h
  have hyq : q < 8 → y.toNat ≠ (headN l.length (sum l)).getD q 0 := fun h8 h => by
    apply hy
    apply UInt8.toNat_inj.1
    rw [h, ho q h8]
  have hn : 256 * (l.length / 256) + l.length % 256 = l.length := by omega
  have hset : ∀ j, j < 8 → j ≠ q → (((frm l).set q y).getD j 0).toNat = (headN l.length (sum l)).getD j 0 := fun j hj hne => by
    rw [getD_set_ne _ _ _ _ hne, ho j hj]
  have hself : (((frm l).set q y).getD q 0).toNat = y.toNat := by rw [getD_set_self _ _ _ (by omega)]
  unfold getN
  rw [hz, if_neg (by omega), if_neg (by omega)]
  have e0 := hb 0 (by omega)
  rw [Nat.add_zero] at e0
  rw [e0, hb 1 (by omega), hb 2 (by omega), hb 3 (by omega)]
  by_cases q4 : q < 4
  · rw [if_pos]
    · exact ⟨by show (4 : Int) ≠ 0; decide, by show (4 : Int) ≠ 10; decide⟩
    · have hh := hyq (by omega)
      rcases (show q = 0 ∨ q = 1 ∨ q = 2 ∨ q = 3 by omega) with rfl | rfl | rfl | rfl
      · left; rw [hself, hset 2 (by omega) (by omega)]; simp only [headN, List.getD_cons_zero, List.getD_cons_succ] at hh ⊢; omega
      · right; rw [hself, hset 3 (by omega) (by omega)]; simp only [headN, List.getD_cons_zero, List.getD_cons_succ] at hh ⊢; omega
      · left; rw [hself, hset 0 (by omega) (by omega)]; simp only [headN, List.getD_cons_zero, List.getD_cons_succ] at hh ⊢; omega
      · right; rw [hself, hset 1 (by omega) (by omega)]; simp only [headN, List.getD_cons_zero, List.getD_cons_succ] at hh ⊢; omega
  · rw [hset 0 (by omega) (by omega), hset 1 (by omega) (by omega), hset 2 (by omega) (by omega), hset 3 (by omega) (by omega)]
    simp only [headN, List.getD_cons_zero, List.getD_cons_succ]
    rw [if_neg (by omega), hn, if_neg (by omega)]
    have hx : (str (x ++ ((frm l).set q y ++ Y))).extract (x.length + 8) (x.length + 8 + l.length) = str (((frm l).set q y).drop 8) := by
      rw [extract_str, toList_str]
      congr 1
      rw [List.drop_append, List.drop_of_length_le (by omega), List.nil_append, show x.length + 8 - x.length = 8 from by omega, List.drop_append_of_le_length (by rw [List.length_set, frm_len]; omega),
        show x.length + 8 + l.length - (x.length + 8) = l.length from by omega, List.take_append_of_le_length (by rw [List.length_drop, List.length_set, frm_len]; omega), List.take_of_length_le (by rw [List.length_drop, List.length_set, frm_len]; omega)]
    rw [hx, toList_str]
    have hc4 : c4 (str (x ++ ((frm l).set q y ++ Y))) x.length 4 = (((((frm l).set q y).getD 4 0).toNat * 256 + (((frm l).set q y).getD 5 0).toNat) * 256 + (((frm l).set q y).getD 6 0).toNat) * 256 + (((frm l).set q y).getD 7 0).toNat := by
      simp only [c4, Nat.add_assoc, Nat.zero_mul, Nat.zero_add, Nat.reduceAdd, hb 4 (by omega), hb 5 (by omega), hb 6 (by omega), hb 7 (by omega)]
    have hd8 : (frm l).drop 8 = l := by rw [frm, List.drop_append_of_le_length (by rw [head_len]; omega)]; rfl
    rw [if_pos]
    · exact ⟨by show (6 : Int) ≠ 0; decide, by show (6 : Int) ≠ 10; decide⟩
    · by_cases q8 : q < 8
      · have hh := hyq q8
        have hdr : ((frm l).set q y).drop 8 = l := by rw [List.drop_set_of_lt (by omega), hd8]
        rw [hdr, hc4]
        rcases (show q = 4 ∨ q = 5 ∨ q = 6 ∨ q = 7 by omega) with rfl | rfl | rfl | rfl
        · rw [hself, hset 5 (by omega) (by omega), hset 6 (by omega) (by omega), hset 7 (by omega) (by omega)]; simp only [headN, List.getD_cons_zero, List.getD_cons_succ] at hh ⊢; omega
        · have := UInt8.toNat_lt y
          rw [hself, hset 4 (by omega) (by omega), hset 6 (by omega) (by omega), hset 7 (by omega) (by omega)]; simp only [headN, List.getD_cons_zero, List.getD_cons_succ] at hh ⊢; omega
        · have := UInt8.toNat_lt y
          rw [hself, hset 4 (by omega) (by omega), hset 5 (by omega) (by omega), hset 7 (by omega) (by omega)]; simp only [headN, List.getD_cons_zero, List.getD_cons_succ] at hh ⊢; omega
        · have := UInt8.toNat_lt y
          rw [hself, hset 4 (by omega) (by omega), hset 5 (by omega) (by omega), hset 6 (by omega) (by omega)]; simp only [headN, List.getD_cons_zero, List.getD_cons_succ] at hh ⊢; omega
      · rw [hc4, hset 4 (by omega) (by omega), hset 5 (by omega) (by omega), hset 6 (by omega) (by omega), hset 7 (by omega) (by omega)]
        simp only [headN, List.getD_cons_zero, List.getD_cons_succ]
        have hdr : ((frm l).set q y).drop 8 = l.set (q - 8) y := by rw [List.drop_set, if_neg q8, hd8]
        have hg : (frm l).getD q 0 = l.getD (q - 8) 0 := by
          have h9 : ((frm l).drop 8).getD (q - 8) 0 = l.getD (q - 8) 0 := by rw [hd8]
          rw [← h9, List.getD_eq_getElem?_getD, List.getD_eq_getElem?_getD, List.getElem?_drop, show 8 + (q - 8) = q from by omega]
        rw [hdr, four (sum l) hs]
        exact fun h => sum_set_ne l (q - 8) y (by omega) (by rw [← hg]; exact hy) h.symm

theorem fAll_turn : ∀ (l : List (List UInt8)) (pre : List UInt8) (acc : List ByteArray) (p f : Nat) (y : UInt8), (∀ b ∈ l, b.length ≤ 65535) → p < (frames l).length → p < f → y ≠ (frames l).getD p 0 →
    ∃ e : Int, e ≠ 0 ∧ e ≠ 10 ∧ fAll (str (pre ++ (frames l).set p y)) f pre.length acc = (acc ++ (l.take (wholeN l p)).map str, pre.length + (frames (l.take (wholeN l p))).length, e)
  | [], pre, acc, p, f, y, _, hp, _, _ => by simp [frames] at hp
  | b :: t, pre, acc, p, f, y, hb, hp, hf, hy => by
    obtain ⟨f, rfl⟩ : ∃ g, f = g + 1 := ⟨f - 1, by omega⟩
    have hbl := hb b (by simp)
    rw [frames_cons] at hp hy
    rw [List.length_append, frm_len] at hp
    by_cases h : 8 + b.length ≤ p
    · have e : (frames (b :: t)).set p y = frm b ++ (frames t).set (p - (8 + b.length)) y := by
        rw [frames_cons, List.set_append_right _ _ (by rw [frm_len]; exact h), frm_len]
      have hg := getN_at pre b ((frames t).set (p - (8 + b.length)) y) hbl
      have hy2 : y ≠ (frames t).getD (p - (8 + b.length)) 0 := by
        rw [List.getD_eq_getElem?_getD, List.getElem?_append_right (by rw [frm_len]; exact h), frm_len, ← List.getD_eq_getElem?_getD] at hy
        exact hy
      obtain ⟨er, h0, h10, ih⟩ := fAll_turn t (pre ++ frm b) (acc ++ [str b]) (p - (8 + b.length)) f y (fun d hd => hb d (by simp [hd])) (by omega) (by omega) hy2
      refine ⟨er, h0, h10, ?_⟩
      rw [fAll, getF_nat _ _ (by rw [str_size]; simp), e, hg]
      simp only [ne_eq, not_true_eq_false, if_false, Int.toNat_natCast]
      rw [List.append_assoc, List.length_append, frm_len] at ih
      rw [show pre.length + 8 + b.length = pre.length + (8 + b.length) from by omega, ih, wholeN, if_pos h, List.take_succ_cons, frames_cons, List.length_append, frm_len, List.map_cons]
      have hap : acc ++ [str b] ++ (List.take (wholeN t (p - (8 + b.length))) t).map str = acc ++ str b :: (List.take (wholeN t (p - (8 + b.length))) t).map str := by simp
      rw [hap, Nat.add_assoc]
    · have e : (frames (b :: t)).set p y = (frm b).set p y ++ frames t := by
        rw [frames_cons, List.set_append_left _ _ (by rw [frm_len]; omega)]
      have hy2 : y ≠ (frm b).getD p 0 := by
        rw [List.getD_eq_getElem?_getD, List.getElem?_append_left (by rw [frm_len]; omega), ← List.getD_eq_getElem?_getD] at hy
        exact hy
      obtain ⟨h0, h10⟩ := getN_turn pre b (frames t) hbl p (by omega) y hy2
      rw [← e] at h0 h10
      refine ⟨_, h0, h10, ?_⟩
      rw [fAll, getF_nat _ _ (by rw [str_size]; simp), if_pos h0, wholeN, if_neg h]
      simp [frames]

/-- of frames in which one byte is another all that end ahead of it are given -/
theorem allF_turn (l : List (List UInt8)) (p : Nat) (y : UInt8) (hb : ∀ b ∈ l, b.length ≤ 65535) (hp : p < (frames l).length) (hy : y ≠ (frames l).getD p 0) :
    ∃ e : Int, e ≠ 0 ∧ e ≠ 10 ∧ allF (str ((frames l).set p y)) = ((l.take (wholeN l p)).map str, (frames (l.take (wholeN l p))).length, e) := by
  have hsz : (str ((frames l).set p y)).size = (frames l).length := by rw [str_size, List.length_set]
  obtain ⟨e, h0, h10, h⟩ := fAll_turn l [] [] p ((frames l).length + 2) y hb hp (by omega) hy
  refine ⟨e, h0, h10, ?_⟩
  unfold allF
  rw [hsz]
  simpa using h
end Go.Proofs.Ytfeaacjacbljfaa.Fp
