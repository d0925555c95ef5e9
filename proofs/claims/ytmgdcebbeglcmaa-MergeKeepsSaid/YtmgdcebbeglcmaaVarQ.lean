/- Numbers and texts among bytes: what is put is read, what is read was put, what is cut off is told. No program in sight. -/
import Derived.Test.YtmgdcebbeglcmaaVarP
namespace Go.Proofs.Ytmgdcebbeglcmaa.Vp
open B
set_option linter.unusedVariables false

def I64 (n : Int) : Prop := -9223372036854775808 ≤ n ∧ n ≤ 9223372036854775807
def bts (n : Int) : List UInt8 := vb (zz n)
theorem enc_bts (n : Int) : enc n = str (bts n) := rfl
theorem enc_toList (n : Int) : (enc n).data.toList = bts n := rfl
theorem bts_pos (n : Int) : 1 ≤ (bts n).length := vb_pos _
theorem bts_len {n : Int} (h : I64 n) : (bts n).length ≤ 10 := vb_len10 (zz_lt h.1 h.2)

theorem num_read (x y : List UInt8) {n : Int} (hn : I64 n) : getS (str (x ++ (bts n ++ y))) x.length = ⟨n, ((x.length + (bts n).length : Nat) : Int), 0⟩ := by
  have hlt := zz_lt hn.1 hn.2
  unfold getS
  rw [if_neg (by rw [str_size]; simp only [List.length_append]; omega)]
  have h : getR (str (x ++ (bts n ++ y))) ((x.length : Int)).toNat = .ok (zz n) (bts n).length := by
    unfold getR
    refine scan_vb hlt _ _ (by rw [str_size]; simp only [List.length_append, Int.toNat_natCast, bts]; omega) (fun j hj => ?_)
    simp only [bn, vf, toList_str, List.getD_eq_getElem?_getD, Int.toNat_natCast]
    rw [List.getElem?_append_right (by omega), Nat.add_sub_cancel_left, List.getElem?_append_left (show j < (bts n).length from hj)]
    rfl
  rw [h]
  simp [unzz_zz]

theorem num_was {s : ByteArray} {a : Int} (h : (getS s a).e = 0) : ∃ x y : List UInt8, ∃ n : Int, s = str (x ++ (bts n ++ y)) ∧ a = x.length ∧ I64 n ∧ getS s a = ⟨n, ((x.length + (bts n).length : Nat) : Int), 0⟩ := by
  obtain ⟨b, k, rfl, hR, hle, hg⟩ := getS_ok h
  have hlo := hR.lo
  have hroom := hR.room
  obtain ⟨j, rfl⟩ : ∃ j, k = j + 1 := ⟨k - 1, by omega⟩
  have hv := vb_val j (fun i => bn s (b + i)) (fun i => bn_lt s _) (by simpa using hR.last) (fun h => by simpa using hR.nz (by omega)) (fun i hi => hR.big i (by omega) (by omega))
  have hbd := unzz_bd (val_bound hR)
  have hbs : bts (unzz (val (fun i => bn s (b + i)) (j + 1))) = (s.data.toList.drop b).take (j + 1) := by
    unfold bts
    rw [zz_unzz, hv]
    have hsz : s.data.toList.length = s.size := by simp
    have ht := take_bn (s.data.toList.drop b) (j + 1) (by rw [List.length_drop, hsz]; omega)
    rw [← ht]
    refine List.map_congr_left fun i hi => ?_
    simp [bn, List.getD_eq_getElem?_getD, List.getElem?_drop]
  have hsz : s.data.toList.length = s.size := by simp
  have hxl : (s.data.toList.take b).length = b := by rw [List.length_take, hsz]; omega
  have hbl : (bts (unzz (val (fun i => bn s (b + i)) (j + 1)))).length = j + 1 := by rw [hbs, List.length_take, List.length_drop, hsz]; omega
  refine ⟨s.data.toList.take b, (s.data.toList.drop b).drop (j + 1), _, ?_, by rw [hxl], hbd, ?_⟩
  · rw [hbs, List.take_append_drop, List.take_append_drop]; rfl
  · rw [hg, hxl, hbl]

theorem num_cut (x : List UInt8) {n : Int} (hn : I64 n) (c : Nat) (hc : c < (bts n).length) : getS (str (x ++ (bts n).take c)) x.length = ⟨0, 0, 3⟩ := by
  have hlt := zz_lt hn.1 hn.2
  unfold getS
  rw [if_neg (by rw [str_size]; simp only [List.length_append]; omega)]
  have h : getR (str (x ++ (bts n).take c)) ((x.length : Int)).toNat = .short := by
    unfold getR
    have hm : (str (x ++ (bts n).take c)).size - ((x.length : Int)).toNat = c := by
      rw [str_size, List.length_append, List.length_take, Int.toNat_natCast]; omega
    rw [hm]
    refine scan_cut hlt _ _ hc (fun j hj => ?_)
    simp only [bn, vf, toList_str, List.getD_eq_getElem?_getD, Int.toNat_natCast]
    rw [List.getElem?_append_right (by omega), Nat.add_sub_cancel_left, List.getElem?_take_of_lt (by omega)]
    rfl
  rw [h]

/-! texts -/
def txt (t : List UInt8) : List UInt8 := bts t.length ++ t
theorem txt_len (t : List UInt8) : (txt t).length = (bts t.length).length + t.length := by simp [txt]

theorem txt_read (x y t : List UInt8) (ht : t.length ≤ 65535) : getT (str (x ++ (txt t ++ y))) x.length = ⟨str t, ((x.length + (txt t).length : Nat) : Int), 0⟩ := by
  have hI : I64 (t.length : Int) := ⟨by omega, by omega⟩
  have h := num_read x (t ++ y) hI
  have hs : x ++ (txt t ++ y) = x ++ (bts t.length ++ (t ++ y)) := by simp [txt]
  rw [hs]
  unfold getT
  rw [h]
  have hz : (str (x ++ (bts t.length ++ (t ++ y)))).size = x.length + (bts t.length).length + (t.length + y.length) := by
    rw [str_size]; simp; omega
  simp only [ne_eq, not_true_eq_false, if_false]
  rw [if_neg (by omega), if_neg (by omega), if_neg (by rw [hz]; omega)]
  simp only [Int.toNat_natCast, GT.mk.injEq]
  refine ⟨?_, by rw [txt_len]; omega, trivial⟩
  rw [extract_str, toList_str]
  congr 1
  rw [List.drop_append, List.drop_of_length_le (by omega), List.nil_append, List.drop_append, List.drop_of_length_le (by omega), List.nil_append]
  rw [show x.length + (bts t.length).length - x.length - (bts t.length).length = 0 from by omega, List.drop_zero, show x.length + (bts t.length).length + t.length - (x.length + (bts t.length).length) = t.length from by omega]
  exact List.take_left

theorem txt_was {s : ByteArray} {a : Int} (h : (getT s a).e = 0) : ∃ x y t : List UInt8, s = str (x ++ (txt t ++ y)) ∧ a = x.length ∧ t.length ≤ 65535 ∧ getT s a = ⟨str t, ((x.length + (txt t).length : Nat) : Int), 0⟩ := by
  by_cases h1 : (getS s a).e = 0
  · obtain ⟨x, y, n, rfl, rfl, hI, hg⟩ := num_was h1
    unfold getT at h ⊢
    rw [hg] at h ⊢
    simp only [ne_eq, not_true_eq_false, if_false] at h ⊢
    by_cases h2 : n < 0
    · rw [if_pos h2] at h; simp at h
    rw [if_neg h2] at h ⊢
    by_cases h3 : 65535 < n
    · rw [if_pos h3] at h; simp at h
    rw [if_neg h3] at h ⊢
    have hz : (str (x ++ (bts n ++ y))).size = x.length + (bts n).length + y.length := by rw [str_size]; simp; omega
    rw [hz] at h ⊢
    by_cases h4 : ((x.length + (bts n).length + y.length : Nat) : Int) - ((x.length + (bts n).length : Nat) : Int) < n
    · rw [if_pos h4] at h; simp at h
    rw [if_neg h4]
    obtain ⟨m, rfl⟩ := Int.eq_ofNat_of_zero_le (show 0 ≤ n by omega)
    have hml : (y.take m).length = m := by rw [List.length_take]; omega
    refine ⟨x, y.drop m, y.take m, ?_, rfl, by omega, ?_⟩
    · unfold txt
      rw [hml, List.append_assoc, List.take_append_drop]
    · simp only [Int.toNat_natCast, GT.mk.injEq]
      refine ⟨?_, by rw [txt_len, hml]; omega, trivial⟩
      rw [extract_str, toList_str]
      congr 1
      rw [List.drop_append, List.drop_of_length_le (by omega), List.nil_append, List.drop_append, List.drop_of_length_le (by omega), List.nil_append]
      rw [show x.length + (bts (m : Int)).length - x.length - (bts (m : Int)).length = 0 from by omega, List.drop_zero, show x.length + (bts (m : Int)).length + m - (x.length + (bts (m : Int)).length) = m from by omega]
  · unfold getT at h
    simp only at h
    rw [if_pos h1] at h
    exact absurd h h1

theorem txt_cut (x t : List UInt8) (ht : t.length ≤ 65535) (c : Nat) (hc : c < (txt t).length) : (getT (str (x ++ (txt t).take c)) x.length).e = 3 := by
  have hI : I64 (t.length : Int) := ⟨by omega, by omega⟩
  have htl := txt_len t
  by_cases h1 : c < (bts t.length).length
  · have hx : (txt t).take c = (bts t.length).take c := by unfold txt; rw [List.take_append_of_le_length (by omega)]
    rw [hx]
    unfold getT
    rw [num_cut x hI c h1]
    rfl
  · have hx : (txt t).take c = bts t.length ++ t.take (c - (bts t.length).length) := by
      unfold txt
      rw [List.take_append, List.take_of_length_le (by omega)]
    rw [hx]
    unfold getT
    rw [num_read x _ hI]
    simp only [ne_eq, not_true_eq_false, if_false]
    rw [if_neg (by omega), if_neg (by omega), if_pos]
    rw [str_size]
    simp only [List.length_append, List.length_take]
    omega
/-- where a text ends -/
theorem txt_next {s : ByteArray} {a : Int} (h : (getT s a).e = 0) : ∃ k : Nat, (getT s a).next = (k : Int) ∧ k ≤ s.size := by
  obtain ⟨x, y, t, rfl, rfl, _, hg⟩ := txt_was h
  rw [hg]
  exact ⟨_, rfl, by rw [str_size]; simp [txt]⟩
theorem num_next {s : ByteArray} {a : Int} (h : (getS s a).e = 0) : ∃ k : Nat, (getS s a).next = (k : Int) ∧ k ≤ s.size := by
  obtain ⟨x, y, n, rfl, rfl, _, hg⟩ := num_was h
  rw [hg]
  exact ⟨_, rfl, by rw [str_size]; simp⟩
theorem txt_size {s : ByteArray} {a : Int} (h : (getT s a).e = 0) : (getT s a).t.size ≤ 65535 := by
  obtain ⟨x, y, t, rfl, rfl, ht, hg⟩ := txt_was h
  rw [hg]
  show (str t).size ≤ _
  rw [str_size]; exact ht
end Go.Proofs.Ytmgdcebbeglcmaa.Vp
