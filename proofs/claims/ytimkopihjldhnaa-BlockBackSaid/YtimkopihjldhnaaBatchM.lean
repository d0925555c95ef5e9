/- Items among bytes: what is put is read, what is read was put, what is cut off is told. No program in sight. -/
import Derived.Test.YtimkopihjldhnaaBatchP
import Derived.Test.YtimkopihjldhnaaVarQ
namespace Go.Proofs.Ytimkopihjldhnaa.En
open B Vp
set_option linter.unusedVariables false

/-- the next number, from 0 on -/
def cntS (s : ByteArray) (a : Int) : G := if (getS s a).e = 0 ∧ (getS s a).n < 0 then ⟨0, 0, 4⟩ else getS s a

theorem cntS_bd {s : ByteArray} {a : Int} (h : (cntS s a).e = 0) : 0 ≤ (cntS s a).n ∧ (cntS s a).n ≤ 9223372036854775807 := by
  unfold cntS at h ⊢
  by_cases h1 : (getS s a).e = 0 ∧ (getS s a).n < 0
  · rw [if_pos h1] at h; simp at h
  · rw [if_neg h1] at h ⊢
    obtain ⟨b, k, rfl, hr, _, hg⟩ := getS_ok h
    have h2 := unzz_bd (val_bound hr)
    refine ⟨by omega, ?_⟩
    rw [hg]
    exact h2.2
structure IR where
  x : Ent
  next : Int
  e : Int
def itemX (x : Ent) (next : Int) : IR := if goodI x = 0 then ⟨x, next, 0⟩ else ⟨ent0, 0, goodI x⟩
/-- the item that stands at a place -/
def itemS (s : ByteArray) (a : Int) : IR :=
  if (getT s a).e ≠ 0 then ⟨ent0, 0, (getT s a).e⟩ else
  if (cntS s (getT s a).next).e ≠ 0 then ⟨ent0, 0, (cntS s (getT s a).next).e⟩ else
  if (cntS s (getT s a).next).n = 0 then itemX ⟨(getT s a).t, 0, true, ByteArray.empty, 0⟩ (cntS s (getT s a).next).next else
  if (getT s (cntS s (getT s a).next).next).e ≠ 0 then ⟨ent0, 0, (getT s (cntS s (getT s a).next).next).e⟩ else
  itemX ⟨(getT s a).t, 0, false, (getT s (cntS s (getT s a).next).next).t, (cntS s (getT s a).next).n - 1⟩ (getT s (cntS s (getT s a).next).next).next

structure LR where
  l : List Ent
  next : Int
  e : Int
def itemsS (s : ByteArray) : Nat → Int → List Ent → LR
  | 0, a, acc => ⟨acc, a, 0⟩
  | k + 1, a, acc => if (itemS s a).e ≠ 0 then ⟨[], 0, (itemS s a).e⟩ else itemsS s k (itemS s a).next (acc ++ [(itemS s a).x])
/-- the items that bytes are, or the reason why they are none -/
def getE (s : ByteArray) : List Ent × Int :=
  if (cntS s 0).e ≠ 0 then ([], (cntS s 0).e) else
  if 64 < (cntS s 0).n then ([], 5) else
  if (itemsS s (cntS s 0).n.toNat (cntS s 0).next []).e ≠ 0 then ([], (itemsS s (cntS s 0).n.toNat (cntS s 0).next []).e) else
  if (itemsS s (cntS s 0).n.toNat (cntS s 0).next []).next < s.size then ([], 4) else ((itemsS s (cntS s 0).n.toNat (cntS s 0).next []).l, 0)


def z0 (e : Ent) : Ent := { e with seq := 0 }
theorem goodI_z0 (e : Ent) : goodI (z0 e) = goodI e := rfl
theorem itemB_z0 (e : Ent) : itemB (z0 e) = itemB e := rfl
theorem encT_txt (s : ByteArray) : encT s = txt s.data.toList := by
  unfold encT txt
  have h : (enc (s.size : Int) ++ s).data.toList = (enc (s.size : Int)).data.toList ++ s.data.toList := by simp
  rw [h, enc_toList]
  simp
theorem itemB_gone {e : Ent} (h : e.gone = true) : itemB e = txt e.key.data.toList ++ bts 0 := by unfold itemB; rw [if_pos h, encT_txt]; rfl
theorem itemB_kept {e : Ent} (h : e.gone = false) : itemB e = txt e.key.data.toList ++ (bts (e.til + 1) ++ txt e.val.data.toList) := by
  unfold itemB; rw [if_neg (by simp [h]), encT_txt, encT_txt]; rfl
theorem cnt_read (x y : List UInt8) {n : Int} (hn : I64 n) (h0 : 0 ≤ n) : cntS (str (x ++ (bts n ++ y))) x.length = ⟨n, ((x.length + (bts n).length : Nat) : Int), 0⟩ := by
  unfold cntS
  rw [num_read x y hn, if_neg (by simp; omega)]
theorem cnt_was {s : ByteArray} {a : Int} (h : (cntS s a).e = 0) : ∃ x y : List UInt8, ∃ n : Int, s = str (x ++ (bts n ++ y)) ∧ a = x.length ∧ I64 n ∧ 0 ≤ n ∧ cntS s a = ⟨n, ((x.length + (bts n).length : Nat) : Int), 0⟩ := by
  unfold cntS at h ⊢
  by_cases h1 : (getS s a).e = 0 ∧ (getS s a).n < 0
  · rw [if_pos h1] at h; simp at h
  · rw [if_neg h1] at h ⊢
    obtain ⟨x, y, n, rfl, rfl, hI, hg⟩ := num_was h
    refine ⟨x, y, n, rfl, rfl, hI, ?_, hg⟩
    rw [hg] at h1
    simp at h1
    exact h1
theorem cnt_cut (x : List UInt8) {n : Int} (hn : I64 n) (c : Nat) (hc : c < (bts n).length) : cntS (str (x ++ (bts n).take c)) x.length = ⟨0, 0, 3⟩ := by
  unfold cntS
  rw [num_cut x hn c hc, if_neg (by simp)]

theorem item_read (x y : List UInt8) {e : Ent} (hg : goodI e = 0) (hf : Fits e) : itemS (str (x ++ (itemB e ++ y))) x.length = ⟨z0 e, ((x.length + (itemB e).length : Nat) : Int), 0⟩ := by
  obtain ⟨g1, g2, g3, g4, g5, g6⟩ := goodI_0 hg
  have hk : e.key.data.toList.length ≤ 65535 := by simp; omega
  have hv : e.val.data.toList.length ≤ 65535 := by simp; omega
  unfold itemS
  cases hgo : e.gone with
  | true =>
    rw [itemB_gone hgo, show x ++ (txt e.key.data.toList ++ bts 0 ++ y) = x ++ (txt e.key.data.toList ++ (bts 0 ++ y)) from by simp, txt_read _ _ _ hk]
    simp only [ne_eq, not_true_eq_false, if_false]
    rw [show x ++ (txt e.key.data.toList ++ (bts 0 ++ y)) = (x ++ txt e.key.data.toList) ++ (bts 0 ++ y) from by simp, show x.length + (txt e.key.data.toList).length = (x ++ txt e.key.data.toList).length from by simp, cnt_read _ _ ⟨by omega, by omega⟩ (by omega)]
    simp only [not_true_eq_false, if_false, if_true]
    have he : (⟨str e.key.data.toList, 0, true, ByteArray.empty, 0⟩ : Ent) = z0 e := by
      obtain ⟨v0, t0⟩ := g6 hgo
      obtain ⟨k, q, g, v, u⟩ := e
      simp only at hgo v0 t0
      subst hgo t0
      have hve : v = ByteArray.empty := by
        have : v.data.toList = [] := List.eq_nil_of_length_eq_zero (by simpa using v0)
        exact (str_toList v).symm.trans (congrArg str this)
      subst hve
      rfl
    rw [he]
    unfold itemX
    rw [if_pos (by rw [goodI_z0]; exact hg)]
    simp; omega
  | false =>
    have hu : I64 (e.til + 1) := ⟨by omega, by have := hf.til1; omega⟩
    rw [itemB_kept hgo, show x ++ (txt e.key.data.toList ++ (bts (e.til + 1) ++ txt e.val.data.toList) ++ y) = x ++ (txt e.key.data.toList ++ (bts (e.til + 1) ++ (txt e.val.data.toList ++ y))) from by simp, txt_read _ _ _ hk]
    simp only [ne_eq, not_true_eq_false, if_false]
    rw [show x ++ (txt e.key.data.toList ++ (bts (e.til + 1) ++ (txt e.val.data.toList ++ y))) = (x ++ txt e.key.data.toList) ++ (bts (e.til + 1) ++ (txt e.val.data.toList ++ y)) from by simp, show x.length + (txt e.key.data.toList).length = (x ++ txt e.key.data.toList).length from by simp, cnt_read _ _ hu (by omega)]
    simp only [not_true_eq_false, if_false]
    rw [if_neg (by omega), show (x ++ txt e.key.data.toList) ++ (bts (e.til + 1) ++ (txt e.val.data.toList ++ y)) = (x ++ txt e.key.data.toList ++ bts (e.til + 1)) ++ (txt e.val.data.toList ++ y) from by simp, show (x ++ txt e.key.data.toList).length + (bts (e.til + 1)).length = (x ++ txt e.key.data.toList ++ bts (e.til + 1)).length from by simp; omega, txt_read _ _ _ hv]
    simp only [not_true_eq_false, if_false]
    have he : (⟨str e.key.data.toList, 0, false, str e.val.data.toList, e.til + 1 - 1⟩ : Ent) = z0 e := by
      obtain ⟨k, q, g, v, u⟩ := e
      simp only at hgo
      subst hgo
      rw [Int.add_sub_cancel]
      rfl
    rw [he]
    unfold itemX
    rw [if_pos (by rw [goodI_z0]; exact hg)]
    simp; omega
theorem itemX_0 {x : Ent} {n : Int} (h : (itemX x n).e = 0) : goodI x = 0 ∧ itemX x n = ⟨x, n, 0⟩ := by
  unfold itemX at h ⊢
  by_cases hg : goodI x = 0
  · rw [if_pos hg]; exact ⟨hg, rfl⟩
  · rw [if_neg hg] at h; exact absurd h hg

theorem item_was {s : ByteArray} {a : Int} (h : (itemS s a).e = 0) : ∃ x y : List UInt8, ∃ e : Ent, s = str (x ++ (itemB e ++ y)) ∧ a = x.length ∧ goodI e = 0 ∧ e.seq = 0 ∧ Fits e ∧ itemS s a = ⟨e, ((x.length + (itemB e).length : Nat) : Int), 0⟩ := by
  unfold itemS at h ⊢
  by_cases h1 : (getT s a).e = 0
  case neg => rw [if_pos h1] at h; exact absurd h h1
  obtain ⟨x, y1, k, rfl, rfl, hk, hg⟩ := txt_was h1
  rw [hg] at h ⊢
  simp only [ne_eq, not_true_eq_false, if_false] at h ⊢
  by_cases h2 : (cntS (str (x ++ (txt k ++ y1))) ((x.length + (txt k).length : Nat) : Int)).e = 0
  case neg => rw [if_pos h2] at h; exact absurd h h2
  obtain ⟨x2, y2, n, hs2, ha2, hI, h0, hc⟩ := cnt_was h2
  have hx2 : x2 = x ++ txt k ∧ y1 = bts n ++ y2 := by
    have hh : (x ++ txt k) ++ y1 = x2 ++ (bts n ++ y2) := by rw [List.append_assoc]; exact str_inj hs2
    have hl : x2.length = (x ++ txt k).length := by rw [List.length_append]; omega
    exact ⟨((List.append_inj hh hl.symm).1).symm, (List.append_inj hh hl.symm).2⟩
  obtain ⟨rfl, rfl⟩ := hx2
  rw [hc] at h ⊢
  simp only [not_true_eq_false, if_false] at h ⊢
  by_cases h3 : n = 0
  · rw [if_pos h3] at h ⊢
    obtain ⟨hgd, hit⟩ := itemX_0 h
    have hz : itemB ⟨str k, 0, true, ByteArray.empty, 0⟩ = txt k ++ bts 0 := by rw [itemB_gone rfl]; rfl
    refine ⟨x, y2, ⟨str k, 0, true, ByteArray.empty, 0⟩, ?_, rfl, hgd, rfl, ⟨?_, show (0 : Nat) ≤ _ by decide, show (-9223372036854775808 : Int) ≤ 0 by decide, show (0 : Int) ≤ _ by decide, show (-9223372036854775808 : Int) ≤ 0 by decide, show (0 : Int) ≤ _ by decide⟩, ?_⟩
    · rw [hz, h3]; simp
    · show (str k).size ≤ _; rw [str_size]; omega
    · rw [hit, hz, h3]; simp; omega
  · rw [if_neg h3] at h ⊢
    by_cases h4 : (getT (str (x ++ (txt k ++ (bts n ++ y2)))) (((x ++ txt k).length + (bts n).length : Nat) : Int)).e = 0
    case neg => rw [if_pos h4] at h; exact absurd h h4
    obtain ⟨x3, y3, v, hs3, ha3, hv, hg3⟩ := txt_was h4
    have hx3 : x3 = x ++ txt k ++ bts n ∧ y2 = txt v ++ y3 := by
      have hh : (x ++ txt k ++ bts n) ++ y2 = x3 ++ (txt v ++ y3) := by rw [List.append_assoc, List.append_assoc]; exact str_inj hs3
      have hl : x3.length = (x ++ txt k ++ bts n).length := by simp only [List.length_append] at ha3 ⊢; omega
      exact ⟨((List.append_inj hh hl.symm).1).symm, (List.append_inj hh hl.symm).2⟩
    obtain ⟨rfl, rfl⟩ := hx3
    rw [hg3] at h ⊢
    simp only [not_true_eq_false, if_false] at h ⊢
    obtain ⟨hgd, hit⟩ := itemX_0 h
    have hz : itemB ⟨str k, 0, false, str v, n - 1⟩ = txt k ++ (bts n ++ txt v) := by
      rw [itemB_kept rfl]
      show txt (str k).data.toList ++ (bts (n - 1 + 1) ++ txt (str v).data.toList) = _
      rw [toList_str, toList_str, Int.sub_add_cancel]
    refine ⟨x, y3, ⟨str k, 0, false, str v, n - 1⟩, ?_, rfl, hgd, rfl, ⟨?_, ?_, show (-9223372036854775808 : Int) ≤ 0 by decide, show (0 : Int) ≤ _ by decide, ?_, ?_⟩, ?_⟩
    · rw [hz]; simp
    · show (str k).size ≤ _; rw [str_size]; omega
    · show (str v).size ≤ _; rw [str_size]; omega
    · show _ ≤ n - 1; omega
    · show n - 1 ≤ _; have := hI.2; omega
    · rw [hit, hz]; simp; omega

theorem item_cut (x : List UInt8) {e : Ent} (hg : goodI e = 0) (hf : Fits e) (c : Nat) (hc : c < (itemB e).length) : (itemS (str (x ++ (itemB e).take c)) x.length).e = 3 := by
  obtain ⟨g1, g2, g3, g4, g5, g6⟩ := goodI_0 hg
  have hk : e.key.data.toList.length ≤ 65535 := by simp; omega
  have hv : e.val.data.toList.length ≤ 65535 := by simp; omega
  obtain ⟨k, hke⟩ : ∃ k, k = e.key.data.toList := ⟨_, rfl⟩
  obtain ⟨v, hve⟩ : ∃ v, v = e.val.data.toList := ⟨_, rfl⟩
  obtain ⟨n, hn, rest, hI, h0, hb, hr⟩ : ∃ n : Int, ∃ hn : True, ∃ rest : List UInt8, I64 n ∧ 0 ≤ n ∧ itemB e = txt k ++ (bts n ++ rest) ∧ (n = 0 ∧ rest = [] ∨ n ≠ 0 ∧ rest = txt v) := by
    cases hgo : e.gone with
    | true => exact ⟨0, trivial, [], ⟨by omega, by omega⟩, by omega, by rw [itemB_gone hgo, hke]; simp, .inl ⟨rfl, rfl⟩⟩
    | false => exact ⟨e.til + 1, trivial, txt v, ⟨by omega, by have := hf.til1; omega⟩, by omega, by rw [itemB_kept hgo, hke, hve], .inr ⟨by omega, rfl⟩⟩
  rw [hb] at hc ⊢
  rw [← hke] at hk
  rw [← hve] at hv
  unfold itemS
  by_cases c1 : c < (txt k).length
  · rw [List.take_append_of_le_length (by omega)]
    have := txt_cut x k hk c c1
    rw [if_pos (by rw [this]; decide)]
    exact this
  · have e1 : (txt k ++ (bts n ++ rest)).take c = txt k ++ (bts n ++ rest).take (c - (txt k).length) := by rw [List.take_append, List.take_of_length_le (by omega)]
    rw [e1, txt_read _ _ _ hk]
    simp only [ne_eq, not_true_eq_false, if_false]
    rw [show x ++ (txt k ++ (bts n ++ rest).take (c - (txt k).length)) = (x ++ txt k) ++ (bts n ++ rest).take (c - (txt k).length) from by simp, show x.length + (txt k).length = (x ++ txt k).length from by simp]
    simp only [List.length_append] at hc
    by_cases c2 : c - (txt k).length < (bts n).length
    · rw [List.take_append_of_le_length (by omega), cnt_cut _ hI _ c2, if_pos (by decide)]
    · have e2 : (bts n ++ rest).take (c - (txt k).length) = bts n ++ rest.take (c - (txt k).length - (bts n).length) := by rw [List.take_append, List.take_of_length_le (by omega)]
      rw [e2, cnt_read _ _ hI h0]
      simp only [not_true_eq_false, if_false]
      rcases hr with ⟨rfl, rfl⟩ | ⟨hn0, rfl⟩
      · simp at hc; omega
      · rw [if_neg hn0, show (x ++ txt k) ++ (bts n ++ (txt v).take (c - (txt k).length - (bts n).length)) = (x ++ txt k ++ bts n) ++ (txt v).take (c - (txt k).length - (bts n).length) from by simp, show (x ++ txt k).length + (bts n).length = (x ++ txt k ++ bts n).length from by simp; omega]
        have := txt_cut (x ++ txt k ++ bts n) v hv (c - (txt k).length - (bts n).length) (by omega)
        rw [if_pos (by rw [this]; decide)]
        exact this
theorem itemsB_cons (e : Ent) (t : List Ent) : itemsB (e :: t) = itemB e ++ itemsB t := rfl
theorem items_read : ∀ (l : List Ent) (x y : List UInt8) (acc : List Ent), (∀ e ∈ l, goodI e = 0 ∧ Fits e) → itemsS (str (x ++ (itemsB l ++ y))) l.length x.length acc = ⟨acc ++ l.map z0, ((x.length + (itemsB l).length : Nat) : Int), 0⟩
  | [], x, y, acc, _ => by simp [itemsS, itemsB]
  | e :: t, x, y, acc, h => by
    have h1 := h e (by simp)
    rw [itemsB_cons, List.length_cons]
    simp only [itemsS]
    rw [show x ++ (itemB e ++ itemsB t ++ y) = x ++ (itemB e ++ (itemsB t ++ y)) from by simp, item_read _ _ h1.1 h1.2]
    simp only [ne_eq, not_true_eq_false, if_false]
    rw [show x ++ (itemB e ++ (itemsB t ++ y)) = (x ++ itemB e) ++ (itemsB t ++ y) from by simp, show x.length + (itemB e).length = (x ++ itemB e).length from by simp, items_read t (x ++ itemB e) y _ fun z hz => h z (by simp [hz])]
    simp; omega
theorem items_was : ∀ (k : Nat) (x y : List UInt8) (acc : List Ent), (itemsS (str (x ++ y)) k x.length acc).e = 0 → ∃ (l : List Ent) (z : List UInt8), l.length = k ∧ y = itemsB l ++ z ∧ (∀ e ∈ l, goodI e = 0 ∧ e.seq = 0 ∧ Fits e) ∧ itemsS (str (x ++ y)) k x.length acc = ⟨acc ++ l, ((x.length + (itemsB l).length : Nat) : Int), 0⟩
  | 0, x, y, acc, _ => ⟨[], y, rfl, rfl, by simp, by simp [itemsS, itemsB]⟩
  | k + 1, x, y, acc, h => by
    simp only [itemsS] at h ⊢
    by_cases h1 : (itemS (str (x ++ y)) x.length).e = 0
    case neg => rw [if_pos h1] at h; exact absurd h h1
    obtain ⟨x1, y1, e, hs, ha, hg, hq, hf, hi⟩ := item_was h1
    have hx : x = x1 ∧ y = itemB e ++ y1 := List.append_inj (str_inj hs) (by omega)
    obtain ⟨rfl, rfl⟩ := hx
    rw [hi] at h ⊢
    simp only [ne_eq, not_true_eq_false, if_false] at h ⊢
    rw [show x ++ (itemB e ++ y1) = (x ++ itemB e) ++ y1 from by simp, show x.length + (itemB e).length = (x ++ itemB e).length from by simp] at h ⊢
    obtain ⟨l, z, hl, rfl, hgd, hr⟩ := items_was k (x ++ itemB e) y1 _ h
    refine ⟨e :: l, z, by simp [hl], by simp [itemsB_cons], ?_, ?_⟩
    · intro w hw
      rcases List.mem_cons.1 hw with rfl | hw
      · exact ⟨hg, hq, hf⟩
      · exact hgd w hw
    · rw [hr, itemsB_cons]; simp; omega
theorem items_cut : ∀ (l : List Ent) (x : List UInt8) (acc : List Ent) (c : Nat), (∀ e ∈ l, goodI e = 0 ∧ Fits e) → c < (itemsB l).length → (itemsS (str (x ++ (itemsB l).take c)) l.length x.length acc).e = 3
  | [], _, _, c, _, hc => by simp [itemsB] at hc
  | e :: t, x, acc, c, h, hc => by
    have h1 := h e (by simp)
    rw [itemsB_cons] at hc ⊢
    rw [List.length_cons]
    simp only [itemsS]
    rw [List.length_append] at hc
    by_cases c1 : c < (itemB e).length
    · rw [List.take_append_of_le_length (by omega)]
      have := item_cut x h1.1 h1.2 c c1
      rw [if_pos (by rw [this]; decide)]
      exact this
    · rw [List.take_append, List.take_of_length_le (by omega), item_read _ _ h1.1 h1.2]
      simp only [ne_eq, not_true_eq_false, if_false]
      rw [show x ++ (itemB e ++ (itemsB t).take (c - (itemB e).length)) = (x ++ itemB e) ++ (itemsB t).take (c - (itemB e).length) from by simp, show x.length + (itemB e).length = (x ++ itemB e).length from by simp]
      exact items_cut t (x ++ itemB e) _ _ (fun z hz => h z (by simp [hz])) (by omega)

/-! the whole -/
def bytesB (l : List Ent) : List UInt8 := bts l.length ++ itemsB l
theorem putE_ok {l : List Ent} (h : (putE l).2 = 0) : l.length ≤ 64 ∧ bads l = 0 ∧ putE l = (str (bytesB l), 0) := by
  unfold putE at h ⊢
  by_cases h1 : 64 < l.length
  · rw [if_pos h1] at h; simp at h
  rw [if_neg h1] at h ⊢
  by_cases h2 : bads l = 0
  · rw [if_neg (by simp [h2])]; exact ⟨by omega, h2, rfl⟩
  · rw [if_pos h2] at h; exact absurd h h2
theorem bads_0 : ∀ (l : List Ent), (∀ e ∈ l, goodI e = 0) → bads l = 0
  | [], _ => rfl
  | e :: t, h => by
    simp only [bads]
    rw [if_neg (by rw [h e (by simp)]; simp), bads_0 t fun z hz => h z (by simp [hz])]
theorem putE_of {l : List Ent} (h : l.length ≤ 64) (hg : ∀ e ∈ l, goodI e = 0) : putE l = (str (bytesB l), 0) := by
  unfold putE
  rw [if_neg (by omega), if_neg (by rw [bads_0 l hg]; simp)]
  rfl
theorem get_put {l : List Ent} (h : l.length ≤ 64) (hg : ∀ e ∈ l, goodI e = 0 ∧ Fits e) (y : List UInt8) : getE (str (bytesB l ++ y)) = if y = [] then (l.map z0, 0) else ([], 4) := by
  have hI : I64 (l.length : Int) := ⟨by omega, by omega⟩
  have hc := cnt_read [] (itemsB l ++ y) hI (by omega)
  have hr := items_read l (bts l.length) y [] hg
  have e1 : bytesB l ++ y = [] ++ (bts l.length ++ (itemsB l ++ y)) := by simp [bytesB]
  have e2 : [] ++ (bts l.length ++ (itemsB l ++ y)) = bts l.length ++ (itemsB l ++ y) := rfl
  unfold getE
  rw [e1]
  have hc' : cntS (str ([] ++ (bts l.length ++ (itemsB l ++ y)))) 0 = ⟨(l.length : Int), ((bts l.length).length : Int), 0⟩ := by simpa using hc
  rw [hc']
  simp only [ne_eq, not_true_eq_false, if_false, Int.toNat_natCast]
  rw [if_neg (by omega), e2, hr]
  simp only [not_true_eq_false, if_false, List.nil_append]
  rw [str_size]
  simp only [List.length_append]
  by_cases hy : y = []
  · subst hy
    rw [if_neg (by simp), if_pos rfl]
  · have : 0 < y.length := List.length_pos_iff.2 hy
    rw [if_pos (by omega), if_neg hy]
theorem get_cut {l : List Ent} (h : l.length ≤ 64) (hg : ∀ e ∈ l, goodI e = 0 ∧ Fits e) (c : Nat) (hc : c < (bytesB l).length) : getE (str ((bytesB l).take c)) = ([], 3) := by
  have hI : I64 (l.length : Int) := ⟨by omega, by omega⟩
  unfold getE
  unfold bytesB at hc ⊢
  rw [List.length_append] at hc
  by_cases c1 : c < (bts l.length).length
  · rw [List.take_append_of_le_length (by omega)]
    have := cnt_cut [] hI c c1
    have h2 : cntS (str ((bts l.length).take c)) 0 = ⟨0, 0, 3⟩ := by simpa using this
    rw [h2, if_pos (by decide)]
  · rw [List.take_append, List.take_of_length_le (by omega)]
    have hr := cnt_read [] ((itemsB l).take (c - (bts l.length).length)) hI (by omega)
    have hc' : cntS (str (bts l.length ++ (itemsB l).take (c - (bts l.length).length))) 0 = ⟨(l.length : Int), ((bts l.length).length : Int), 0⟩ := by simpa using hr
    rw [hc']
    simp only [ne_eq, not_true_eq_false, if_false, Int.toNat_natCast]
    have h3 := items_cut l (bts l.length) [] (c - (bts l.length).length) hg (by omega)
    rw [if_neg (by omega), if_pos (by rw [h3]; decide), h3]
theorem put_get {s : ByteArray} (h : (getE s).2 = 0) : (getE s).1.length ≤ 64 ∧ (∀ e ∈ (getE s).1, goodI e = 0 ∧ e.seq = 0 ∧ Fits e) ∧ s = str (bytesB (getE s).1) := by
  unfold getE at h ⊢
  by_cases h1 : (cntS s 0).e = 0
  case neg => rw [if_pos h1] at h; exact absurd h h1
  obtain ⟨x, y, n, rfl, hx, hI, h0, hc⟩ := cnt_was h1
  have hx0 : x = [] := List.eq_nil_of_length_eq_zero (by omega)
  subst hx0
  have hc' : cntS (str ([] ++ (bts n ++ y))) 0 = ⟨n, ((bts n).length : Int), 0⟩ := by simpa using hc
  rw [hc'] at h ⊢
  simp only [ne_eq, not_true_eq_false, if_false] at h ⊢
  by_cases h2 : 64 < n
  · rw [if_pos h2] at h; simp at h
  rw [if_neg h2] at h ⊢
  obtain ⟨m, rfl⟩ := Int.eq_ofNat_of_zero_le h0
  rw [Int.toNat_natCast, List.nil_append] at h ⊢
  by_cases h3 : (itemsS (str (bts (m : Int) ++ y)) m ((bts (m : Int)).length : Int) []).e = 0
  case neg => rw [if_pos h3] at h; exact absurd h h3
  obtain ⟨l, z, hl, rfl, hgd, hr⟩ := items_was m (bts (m : Int)) y [] h3
  rw [hr] at h ⊢
  simp only [not_true_eq_false, if_false, List.nil_append] at h ⊢
  rw [str_size] at h ⊢
  simp only [List.length_append] at h ⊢
  by_cases hz : z = []
  · subst hz
    rw [if_neg (by simp)]
    refine ⟨by simp; omega, hgd, ?_⟩
    simp [bytesB, hl]
  · have : 0 < z.length := List.length_pos_iff.2 hz
    rw [if_pos (by omega)] at h
    simp at h
theorem getE_nil {s : ByteArray} (h : (getE s).2 ≠ 0) : (getE s).1 = [] := by
  unfold getE at h ⊢
  by_cases h1 : (cntS s 0).e = 0
  case neg => rw [if_pos h1]
  rw [if_neg (by simp [h1])] at h ⊢
  by_cases h2 : 64 < (cntS s 0).n
  · rw [if_pos h2]
  rw [if_neg h2] at h ⊢
  by_cases h3 : (itemsS s (cntS s 0).n.toNat (cntS s 0).next []).e = 0
  case neg => rw [if_pos h3]
  rw [if_neg (by simp [h3])] at h ⊢
  by_cases h4 : (itemsS s (cntS s 0).n.toNat (cntS s 0).next []).next < s.size
  · rw [if_pos h4]
  · rw [if_neg h4] at h; simp at h
end Go.Proofs.Ytimkopihjldhnaa.En
