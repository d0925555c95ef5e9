/- Entries that are put are read back: no program in sight. -/
import Derived.Test.YtimkopihjldhnaaParseP
namespace Go.Proofs.Ytimkopihjldhnaa.En
open B Vp
set_option linter.unusedVariables false

theorem cntB_is {s : ByteArray} {a most above n x : Int} (h : getS s a = ⟨n, x, 0⟩) (h0 : 0 ≤ n) (h1 : ¬ (most < n ∧ above ≠ 0)) : cntB s a most above = ⟨n, x, 0⟩ := by
  unfold cntB
  rw [h, if_neg (by simp), if_neg (by show ¬ n < 0; omega), if_neg h1]
theorem num_is {s : ByteArray} {p r : List UInt8} {n : Int} (hs : s = str (p ++ (bts n ++ r))) (hn : I64 n) : getS s p.length = ⟨n, ((p ++ bts n).length : Nat), 0⟩ := by
  rw [hs, num_read p r hn, List.length_append]
theorem txt_is {s : ByteArray} {p r t : List UInt8} (hs : s = str (p ++ (txt t ++ r))) (ht : t.length ≤ 65535) : getT s p.length = ⟨str t, ((p ++ txt t).length : Nat), 0⟩ := by
  rw [hs, txt_read p r t ht, List.length_append]

theorem one_read (x y : List UInt8) {e : Ent} (hg : goodE e = 0) (hf : Fits e) (ht : e.til ≠ 9223372036854775807) (last : ByteArray) (c : Nat) (hc : c ≤ last.size) (hck : c ≤ e.key.size)
    (hpre : last.data.toList.take c = e.key.data.toList.take c) : oneE (str (x ++ (entB c e ++ y))) x.length last = ⟨e, ((x.length + (entB c e).length : Nat) : Int), 0⟩ := by
  obtain ⟨g1, g2, g3, g4, g5, g6⟩ := goodE_0 hg
  obtain ⟨s, hs⟩ : ∃ s, s = str (x ++ (entB c e ++ y)) := ⟨_, rfl⟩
  rw [← hs]
  unfold entB at hs
  have hkey : last.extract 0 c ++ str (e.key.data.toList.drop c) = e.key := by
    have h1 : last.extract 0 c = str (last.data.toList.take c) := by
      apply ByteArray.ext; apply Array.ext'; rw [ByteArray.data_extract, Array.toList_extract]; simp [List.extract]; rfl
    rw [h1, str_append, hpre, List.take_append_drop]; rfl
  have hkl : e.key.data.toList.length = e.key.size := by simp
  have hvl : e.val.data.toList.length = e.val.size := by simp
  have hn : cntB s x.length last.size 4 = ⟨c, ((x ++ bts c).length : Nat), 0⟩ := cntB_is (num_is (p := x) (n := (c : Int)) (by rw [hs]; simp only [List.append_assoc]; rfl) ⟨by omega, by omega⟩) (by omega) (by omega)
  have h2 : getT s ((x ++ bts c).length : Nat) = ⟨str (e.key.data.toList.drop c), ((x ++ bts c ++ txt (e.key.data.toList.drop c)).length : Nat), 0⟩ := txt_is (by rw [hs]; simp only [List.append_assoc]; rfl) (by rw [List.length_drop]; omega)
  have h3 : getS s ((x ++ bts c ++ txt (e.key.data.toList.drop c)).length : Nat) = ⟨e.seq, ((x ++ bts c ++ txt (e.key.data.toList.drop c) ++ bts e.seq).length : Nat), 0⟩ := num_is (by rw [hs]; simp only [List.append_assoc]; rfl) ⟨hf.seq0, hf.seq1⟩
  unfold oneE
  rw [hn]
  simp only [ne_eq, not_true_eq_false, if_false]
  rw [h2]
  simp only [not_true_eq_false, if_false]
  rw [h3]
  simp only [not_true_eq_false, if_false, Int.toNat_natCast]
  rw [hkey]
  cases hgo : e.gone with
  | true =>
    rw [hgo, if_pos rfl] at hs
    have h4 : cntB s ((x ++ bts c ++ txt (e.key.data.toList.drop c) ++ bts e.seq).length : Nat) 9223372036854775807 0 = ⟨0, ((x ++ bts c ++ txt (e.key.data.toList.drop c) ++ bts e.seq ++ bts 0).length : Nat), 0⟩ := cntB_is (num_is (n := 0) (by rw [hs]; simp only [List.append_assoc]; rfl) ⟨by omega, by omega⟩) (by omega) (by simp)
    rw [h4]
    simp only [not_true_eq_false, if_false, if_true]
    obtain ⟨v0, t0⟩ := g6 hgo
    have hve : e.val = ByteArray.empty := by
      have : e.val.data.toList = [] := List.eq_nil_of_length_eq_zero (by rw [hvl]; exact v0)
      exact (str_toList e.val).symm.trans (congrArg str this)
    have he : (⟨e.key, e.seq, true, ByteArray.empty, 0⟩ : Ent) = e := by
      obtain ⟨k, q, g, v, u⟩ := e
      simp only at hgo t0 hve
      rw [hgo, t0, hve]
    rw [he]
    unfold entB
    rw [hgo]
    simp only [if_true, List.length_append, List.append_assoc]
  | false =>
    rw [hgo, if_neg (by decide)] at hs
    have hu : I64 (e.til + 1) := ⟨by omega, by have := hf.til1; omega⟩
    have h4 : cntB s ((x ++ bts c ++ txt (e.key.data.toList.drop c) ++ bts e.seq).length : Nat) 9223372036854775807 0 = ⟨e.til + 1, ((x ++ bts c ++ txt (e.key.data.toList.drop c) ++ bts e.seq ++ bts (e.til + 1)).length : Nat), 0⟩ := cntB_is (num_is (n := e.til + 1) (by rw [hs]; simp only [List.append_assoc]; rfl) hu) (by omega) (by simp)
    rw [h4]
    simp only [not_true_eq_false, if_false]
    rw [if_neg (by omega)]
    have h5 : getT s ((x ++ bts c ++ txt (e.key.data.toList.drop c) ++ bts e.seq ++ bts (e.til + 1)).length : Nat) = ⟨str e.val.data.toList, ((x ++ bts c ++ txt (e.key.data.toList.drop c) ++ bts e.seq ++ bts (e.til + 1) ++ txt e.val.data.toList).length : Nat), 0⟩ := txt_is (by rw [hs]; simp only [List.append_assoc]; rfl) (by omega)
    rw [h5]
    simp only [not_true_eq_false, if_false]
    have he : (⟨e.key, e.seq, false, str e.val.data.toList, e.til + 1 - 1⟩ : Ent) = e := by
      obtain ⟨k, q, g, v, u⟩ := e
      simp only at hgo ⊢
      rw [hgo, str_toList, Int.add_sub_cancel]
    rw [he]
    unfold entB
    rw [hgo]
    simp only [Bool.false_eq_true, if_false, List.length_append, List.append_assoc]

theorem ones_read (every : Nat) : ∀ (l : List Ent) (i : Nat) (x y : List UInt8) (acc : List Ent), (∀ j, j < l.length → nextE (acc ++ l.take j) (l.getD j ent0) = 0) → (∀ e ∈ l, Fits e) →
    onesE (str (x ++ (entsB every i (lastE acc).key.data.toList l ++ y))) l.length x.length acc = ⟨acc ++ l, ((x.length + (entsB every i (lastE acc).key.data.toList l).length : Nat) : Int), 0⟩
  | [], i, x, y, acc, _, _ => by simp [onesE, entsB]
  | e :: t, i, x, y, acc, h, hf => by
    have h0 : nextE acc e = 0 := by have := h 0 (by simp); simpa using this
    obtain ⟨g1, g2, _⟩ := nextE_0 h0
    have hkl : e.key.data.toList.length = e.key.size := by simp
    have hll : (lastE acc).key.data.toList.length = (lastE acc).key.size := by simp
    have hp := pref_le (lastE acc).key.data.toList e.key.data.toList
    have hpt := pref_take (lastE acc).key.data.toList e.key.data.toList
    have hn1 : nOf every i (lastE acc).key.data.toList e ≤ (lastE acc).key.size := by unfold nOf; split <;> omega
    have hn2 := nOf_le every i (lastE acc).key.data.toList e
    have hn3 : (lastE acc).key.data.toList.take (nOf every i (lastE acc).key.data.toList e) = e.key.data.toList.take (nOf every i (lastE acc).key.data.toList e) := by
      unfold nOf; split
      · exact hpt
      · rfl
    simp only [entsB, List.length_cons, onesE]
    rw [show x ++ (entB (nOf every i (lastE acc).key.data.toList e) e ++ entsB every (i + 1) e.key.data.toList t ++ y) = x ++ (entB (nOf every i (lastE acc).key.data.toList e) e ++ (entsB every (i + 1) e.key.data.toList t ++ y)) from by simp only [List.append_assoc],
      one_read x _ g1 (hf e (by simp)) g2 (lastE acc).key _ hn1 hn2 hn3]
    simp only [ne_eq, not_true_eq_false, if_false]
    rw [if_neg (by rw [h0]; simp)]
    have ih := ones_read every t (i + 1) (x ++ entB (nOf every i (lastE acc).key.data.toList e) e) y (acc ++ [e]) (fun j hj => by
      have := h (j + 1) (by simp; omega)
      simpa using this) (fun z hz => hf z (by simp [hz]))
    rw [lastE_snoc] at ih
    rw [show x ++ (entB (nOf every i (lastE acc).key.data.toList e) e ++ (entsB every (i + 1) e.key.data.toList t ++ y)) = (x ++ entB (nOf every i (lastE acc).key.data.toList e) e) ++ (entsB every (i + 1) e.key.data.toList t ++ y) from by simp only [List.append_assoc],
      show x.length + (entB (nOf every i (lastE acc).key.data.toList e) e).length = (x ++ entB (nOf every i (lastE acc).key.data.toList e) e).length from by simp, ih]
    simp; omega

theorem parse_read {l : List Ent} {every : Nat} (hl : l.length ≤ 4096) (ho : (orderedE l).2 = 0) (hf : ∀ e ∈ l, Fits e) : parseE (str (bytesK every l)) = (l, 0) := by
  have hc : cntB (str (bytesK every l)) 0 4096 5 = ⟨(l.length : Int), ((bts l.length).length : Int), 0⟩ := by
    have := num_read [] (entsB every 0 [] l) (n := (l.length : Int)) ⟨by omega, by omega⟩
    simp only [List.nil_append, List.length_nil, Nat.zero_add] at this
    exact cntB_is this (by omega) (by omega)
  have hr := ones_read every l 0 (bts l.length) [] [] (fun j hj => by simpa using ordered_get ho j hj) hf
  have h0 : (lastE []).key.data.toList = [] := rfl
  rw [h0] at hr
  unfold parseE
  rw [hc]
  simp only [ne_eq, not_true_eq_false, if_false, Int.toNat_natCast]
  have hb : bytesK every l = bts l.length ++ (entsB every 0 [] l ++ []) := by unfold bytesK; simp
  rw [hb, hr]
  simp only [not_true_eq_false, if_false, List.nil_append]
  rw [if_neg (by rw [str_size]; simp)]

/-- what is read is in order -/
theorem ones_good (s : ByteArray) : ∀ (k : Nat) (a : Int) (acc : List Ent), (∀ j, j < acc.length → nextE (acc.take j) (acc.getD j ent0) = 0) → (onesE s k a acc).e = 0 →
    (onesE s k a acc).l.length = acc.length + k ∧ ∀ j, j < (onesE s k a acc).l.length → nextE ((onesE s k a acc).l.take j) ((onesE s k a acc).l.getD j ent0) = 0
  | 0, a, acc, h, _ => ⟨rfl, h⟩
  | k + 1, a, acc, h, h0 => by
    simp only [onesE] at h0 ⊢
    by_cases h1 : (oneE s a (lastE acc).key).e = 0
    case neg => rw [if_pos h1] at h0; exact absurd h0 h1
    rw [if_neg (by simp [h1])] at h0 ⊢
    by_cases h2 : nextE acc (oneE s a (lastE acc).key).x = 0
    case neg => rw [if_pos h2] at h0; exact absurd h0 h2
    rw [if_neg (by simp [h2])] at h0 ⊢
    have ih := ones_good s k _ (acc ++ [(oneE s a (lastE acc).key).x]) (fun j hj => by
      rw [List.length_append, List.length_singleton] at hj
      by_cases hj2 : j < acc.length
      · rw [List.take_append_of_le_length (by omega), List.getD_eq_getElem?_getD, List.getElem?_append_left hj2, ← List.getD_eq_getElem?_getD]
        exact h j hj2
      · obtain rfl : j = acc.length := by omega
        simpa using h2) h0
    refine ⟨?_, ih.2⟩
    rw [ih.1]; simp; omega
theorem parse_len (s : ByteArray) : (parseE s).1.length ≤ 4096 := by
  unfold parseE
  by_cases h1 : (cntB s 0 4096 5).e = 0
  case neg => rw [if_pos h1]; simp
  rw [if_neg (by simp [h1])]
  have hb := cntB_bd h1
  have h2 := hb.2.2 (by decide)
  by_cases h3 : (onesE s (cntB s 0 4096 5).n.toNat (cntB s 0 4096 5).next []).e = 0
  case neg => rw [if_pos h3]; simp
  rw [if_neg (by simp [h3])]
  have hg := ones_good s _ _ [] (by simp) h3
  split
  · simp
  · show (onesE s _ _ []).l.length ≤ 4096
    rw [hg.1]; simp; omega
theorem parse_good {s : ByteArray} (h : (parseE s).2 = 0) : ∀ j, j < (parseE s).1.length → nextE ((parseE s).1.take j) ((parseE s).1.getD j ent0) = 0 := by
  unfold parseE at h ⊢
  by_cases h1 : (cntB s 0 4096 5).e = 0
  case neg => rw [if_pos h1] at h; exact absurd h h1
  rw [if_neg (by simp [h1])] at h ⊢
  by_cases h3 : (onesE s (cntB s 0 4096 5).n.toNat (cntB s 0 4096 5).next []).e = 0
  case neg => rw [if_pos h3] at h; exact absurd h h3
  rw [if_neg (by simp [h3])] at h ⊢
  have hg := ones_good s _ _ [] (by simp) h3
  split at h
  · simp at h
  · rename_i h4
    rw [if_neg h4]
    exact hg.2
theorem parse_nil {s : ByteArray} (h : (parseE s).2 ≠ 0) : (parseE s).1 = [] := by
  unfold parseE at h ⊢
  by_cases h1 : (cntB s 0 4096 5).e = 0
  case neg => rw [if_pos h1]
  rw [if_neg (by simp [h1])] at h ⊢
  by_cases h3 : (onesE s (cntB s 0 4096 5).n.toNat (cntB s 0 4096 5).next []).e = 0
  case neg => rw [if_pos h3]
  rw [if_neg (by simp [h3])] at h ⊢
  split at h
  · rename_i h4; rw [if_pos h4]
  · simp at h
theorem build_err (l : List Ent) {x y : Int} (hx : 1 ≤ x ∧ x ≤ 64) (hy : 1 ≤ y ∧ y ≤ 64) : (buildE l x).2 = (buildE l y).2 := by
  unfold buildE
  rw [if_neg (by omega), if_neg (show ¬ (y < 1 ∨ 64 < y) by omega)]
  split
  · rfl
  · split <;> rfl
theorem entsB_len7 (every : Nat) : ∀ (l : List Ent) (i : Nat) (last : List UInt8), (∀ e ∈ l, goodE e = 0 ∧ e.til ≠ 9223372036854775807 ∧ Fits e) → (entsB every i last l).length ≤ l.length * 700
  | [], i, last, _ => by simp [entsB]
  | e :: t, i, last, h => by
    obtain ⟨g1, g2, g3⟩ := h e (by simp)
    have h1 := entB_len g1 g3 g2 (nOf every i last e) (nOf_le every i last e)
    have ih := entsB_len7 every t (i + 1) e.key.data.toList (fun z hz => h z (by simp [hz]))
    simp only [entsB, List.length_append, List.length_cons]
    omega
/-- what is built is read as what it was built of -/
theorem build_parse {l : List Ent} {every : Int} (h : (buildE l every).2 = 0) (hf : ∀ e ∈ l, Fits e) : parseE (buildE l every).1 = (l, 0) ∧ (buildE l every).1.size ≤ 3000000 ∧ (orderedE l).2 = 0 ∧ l.length ≤ 4096 := by
  unfold buildE at h ⊢
  by_cases h1 : every < 1 ∨ 64 < every
  · rw [if_pos h1] at h; simp at h
  rw [if_neg h1] at h ⊢
  by_cases h2 : 4096 < l.length
  · rw [if_pos h2] at h; simp at h
  rw [if_neg h2] at h ⊢
  by_cases h3 : (orderedE l).2 = 0
  case neg => rw [if_pos h3] at h; exact absurd h h3
  rw [if_neg (by simp [h3])]
  refine ⟨parse_read (by omega) h3 hf, ?_, h3, by omega⟩
  have h4 := entsB_len7 every.toNat l 0 [] (fun e he => ⟨(ordered_good h3 e he).1, (ordered_good h3 e he).2, hf e he⟩)
  have h5 := bts_len (n := (l.length : Int)) ⟨by omega, by omega⟩
  rw [str_size]
  unfold bytesK
  rw [List.length_append]
  omega
end Go.Proofs.Ytimkopihjldhnaa.En
