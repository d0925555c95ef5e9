/- Entries in order: no program in sight. -/
import Derived.Test.YtmgdcebbeglcmaaCmpP
import Derived.Test.YtmgdcebbeglcmaaBatchP
import Derived.Test.YtmgdcebbeglcmaaVarQ
namespace Go.Proofs.Ytmgdcebbeglcmaa.En
open B Vp
set_option linter.unusedVariables false

def lastE (l : List Ent) : Ent := l.getD (l.length - 1) ent0
/-- may an entry stand behind others? -/
def nextE (l : List Ent) (e : Ent) : Int :=
  if goodE e ≠ 0 then goodE e else if e.til = 9223372036854775807 then 2 else if 0 < l.length ∧ lessE (lastE l) e = false then 16 else 0
/-- the first entry that may not stand behind those ahead of it -/
def ordE (l : List Ent) : Nat → Nat → Nat × Int
  | _, 0 => (0, 0)
  | i, k + 1 => if nextE (l.take i) (l.getD i ent0) ≠ 0 then (i, nextE (l.take i) (l.getD i ent0)) else ordE l (i + 1) k
def orderedE (l : List Ent) : Nat × Int := ordE l 0 l.length
theorem lastE_snoc (l : List Ent) (e : Ent) : lastE (l ++ [e]) = e := by simp [lastE]
theorem lastE_take (l : List Ent) (i : Nat) (h : i < l.length) : lastE (l.take (i + 1)) = l.getD i ent0 := by rw [take_snoc l i ent0 h, lastE_snoc]
/-- how many bytes two keys share at their beginning -/
def pref : List UInt8 → List UInt8 → Nat
  | x :: a, y :: b => if x = y then pref a b + 1 else 0
  | _, _ => 0
theorem pref_le : ∀ (a b : List UInt8), pref a b ≤ a.length ∧ pref a b ≤ b.length
  | [], b => by simp [pref]
  | x :: a, [] => by simp [pref]
  | x :: a, y :: b => by
    have := pref_le a b
    simp only [pref, List.length_cons]
    split <;> omega
theorem pref_take : ∀ (a b : List UInt8), a.take (pref a b) = b.take (pref a b)
  | [], b => by simp [pref]
  | x :: a, [] => by simp [pref]
  | x :: a, y :: b => by
    have := pref_take a b
    simp only [pref]
    split
    · rename_i h; subst h; rw [List.take_succ_cons, List.take_succ_cons, this]
    · rfl
theorem pref_step (a b : List UInt8) (j : Nat) (ha : j < a.length) (hb : j < b.length) : pref (a.drop j) (b.drop j) = if a.getD j 0 = b.getD j 0 then pref (a.drop (j + 1)) (b.drop (j + 1)) + 1 else 0 := by
  rw [List.drop_eq_getElem_cons ha, List.drop_eq_getElem_cons hb, List.getD_eq_getElem?_getD, List.getElem?_eq_getElem ha, List.getD_eq_getElem?_getD, List.getElem?_eq_getElem hb]
  rfl
theorem pref_end (a b : List UInt8) (j : Nat) (h : a.length ≤ j ∨ b.length ≤ j) : pref (a.drop j) (b.drop j) = 0 := by
  rcases h with h | h
  · rw [List.drop_of_length_le h]; rfl
  · rw [List.drop_of_length_le h]; cases a.drop j <;> rfl

/-- an entry's bytes, of which the first n of its key are told by the key ahead -/
def entB (n : Nat) (e : Ent) : List UInt8 := bts n ++ (txt (e.key.data.toList.drop n) ++ (bts e.seq ++ (if e.gone = true then bts 0 else bts (e.til + 1) ++ txt e.val.data.toList)))
def nOf (every i : Nat) (last : List UInt8) (e : Ent) : Nat := if i % every ≠ 0 then pref last e.key.data.toList else 0
def entsB (every : Nat) : Nat → List UInt8 → List Ent → List UInt8
  | _, _, [] => []
  | i, last, e :: t => entB (nOf every i last e) e ++ entsB every (i + 1) e.key.data.toList t
def bytesK (every : Nat) (l : List Ent) : List UInt8 := bts l.length ++ entsB every 0 [] l
def buildE (l : List Ent) (every : Int) : ByteArray × Int :=
  if every < 1 ∨ 64 < every then (ByteArray.empty, 2) else if 4096 < l.length then (ByteArray.empty, 5) else if (orderedE l).2 ≠ 0 then (ByteArray.empty, (orderedE l).2) else (str (bytesK every.toNat l), 0)
/-- what is put ahead of place i -/
def lastK (l : List Ent) (i : Nat) : List UInt8 := if i = 0 then [] else (l.getD (i - 1) ent0).key.data.toList
theorem entsB_snoc (every : Nat) (e : Ent) : ∀ (l : List Ent) (i : Nat) (last : List UInt8), entsB every i last (l ++ [e]) = entsB every i last l ++ entB (nOf every (i + l.length) (if l = [] then last else (lastE l).key.data.toList) e) e
  | [], i, last => by simp [entsB]
  | x :: t, i, last => by
    have ih := entsB_snoc every e t (i + 1) x.key.data.toList
    have hk : (if t = [] then x.key.data.toList else (lastE t).key.data.toList) = (if x :: t = [] then last else (lastE (x :: t)).key.data.toList) := by
      rw [if_neg (show ¬ (x :: t = []) by simp)]
      cases t with
      | nil => rfl
      | cons y r => rw [if_neg (show ¬ (y :: r = []) by simp)]; rfl
    rw [List.cons_append]
    simp only [entsB]
    rw [ih, hk, List.append_assoc, List.length_cons, show i + 1 + t.length = i + (t.length + 1) from by omega]
theorem entsB_take (every : Nat) (l : List Ent) (j : Nat) (h : j < l.length) : entsB every 0 [] (l.take (j + 1)) = entsB every 0 [] (l.take j) ++ entB (nOf every j (lastK l j) (l.getD j ent0)) (l.getD j ent0) := by
  rw [take_snoc l j ent0 h, entsB_snoc]
  have hl : (l.take j).length = j := by rw [List.length_take]; omega
  rw [hl, Nat.zero_add]
  congr 2
  unfold lastK
  cases j with
  | zero => rfl
  | succ k =>
    rw [if_neg (by intro hh; have := congrArg List.length hh; rw [List.length_take, List.length_nil] at this; omega), if_neg (by omega), lastE_take l k (by omega)]
    rfl
theorem entB_len {e : Ent} (hg : goodE e = 0) (hf : Fits e) (ht : e.til ≠ 9223372036854775807) (n : Nat) (hn : n ≤ e.key.size) : (entB n e).length ≤ 700 := by
  obtain ⟨a, b, c, d, d2, f⟩ := goodE_0 hg
  have h1 := bts_len (n := (n : Int)) ⟨by omega, by omega⟩
  have h2 := txt_len (e.key.data.toList.drop n)
  have h3 := bts_len (n := ((e.key.data.toList.drop n).length : Int)) ⟨by omega, by simp; omega⟩
  have h4 := bts_len (n := e.seq) ⟨hf.seq0, hf.seq1⟩
  have h5 := bts_len (n := 0) ⟨by omega, by omega⟩
  have h6 := bts_len (n := e.til + 1) ⟨by omega, by have := hf.til1; omega⟩
  have h7 := txt_len e.val.data.toList
  have h8 := bts_len (n := (e.val.data.toList.length : Int)) ⟨by omega, by simp; omega⟩
  have e1 : e.key.data.toList.length = e.key.size := by simp
  have e2 : e.val.data.toList.length = e.val.size := by simp
  have h9 : (e.key.data.toList.drop n).length ≤ e.key.size := by rw [List.length_drop]; omega
  unfold entB
  simp only [List.length_append]
  split
  · omega
  · rw [List.length_append]; omega
theorem nOf_le (every i : Nat) (last : List UInt8) (e : Ent) : nOf every i last e ≤ e.key.size := by
  have h := (pref_le last e.key.data.toList).2
  have e1 : e.key.data.toList.length = e.key.size := by simp
  unfold nOf
  split <;> omega
theorem ordE_ok : ∀ (l : List Ent) (k i : Nat), i + k = l.length → (ordE l i k).2 = 0 → ∀ j, i ≤ j → j < l.length → nextE (l.take j) (l.getD j ent0) = 0
  | l, 0, i, h, _, j, h1, h2 => by omega
  | l, k + 1, i, h, h0, j, h1, h2 => by
    simp only [ordE] at h0
    by_cases hn : nextE (l.take i) (l.getD i ent0) = 0
    · rw [if_neg (fun hh => hh hn)] at h0
      by_cases hj : j = i
      · subst hj; exact hn
      · exact ordE_ok l k (i + 1) (by omega) h0 j (by omega) h2
    · rw [if_pos hn] at h0; exact absurd h0 hn
theorem nextE_0 {l : List Ent} {e : Ent} (h : nextE l e = 0) : goodE e = 0 ∧ e.til ≠ 9223372036854775807 ∧ (0 < l.length → lessE (lastE l) e = true) := by
  unfold nextE at h
  by_cases h1 : goodE e = 0
  case neg => rw [if_pos h1] at h; exact absurd h h1
  rw [if_neg (by simp [h1])] at h
  by_cases h2 : e.til = 9223372036854775807
  · rw [if_pos h2] at h; simp at h
  rw [if_neg h2] at h
  refine ⟨h1, h2, fun hl => ?_⟩
  cases h3 : lessE (lastE l) e with
  | true => rfl
  | false => rw [if_pos ⟨hl, h3⟩] at h; simp at h
theorem ordered_get {l : List Ent} (h : (orderedE l).2 = 0) (j : Nat) (hj : j < l.length) : nextE (l.take j) (l.getD j ent0) = 0 := ordE_ok l l.length 0 (by omega) h j (by omega) hj
theorem ordered_good {l : List Ent} (h : (orderedE l).2 = 0) (e : Ent) (he : e ∈ l) : goodE e = 0 ∧ e.til ≠ 9223372036854775807 := by
  obtain ⟨j, hj, rfl⟩ := List.getElem_of_mem he
  have := nextE_0 (ordered_get h j hj)
  rw [List.getD_eq_getElem?_getD, List.getElem?_eq_getElem hj] at this
  exact ⟨this.1, this.2.1⟩
theorem entsB_len (every : Nat) : ∀ (l : List Ent) (i : Nat) (last : List UInt8), (∀ e ∈ l, goodE e = 0 ∧ e.til ≠ 9223372036854775807 ∧ Fits e) → (entsB every i last l).length ≤ 700 * l.length
  | [], i, last, _ => by simp [entsB]
  | x :: t, i, last, h => by
    have h1 := h x (by simp)
    have h2 := entB_len h1.1 h1.2.2 h1.2.1 (nOf every i last x) (nOf_le _ _ _ _)
    have h3 := entsB_len every t (i + 1) x.key.data.toList fun e he => h e (by simp [he])
    simp only [entsB, List.length_append, List.length_cons]
    omega
end Go.Proofs.Ytmgdcebbeglcmaa.En
