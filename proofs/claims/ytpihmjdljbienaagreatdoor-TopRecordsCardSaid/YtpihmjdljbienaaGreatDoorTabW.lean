/- The walks of a table's Which, Block, May, Spans. -/
import Derived.Test.YtpihmjdljbienaaGreatDoorTabO
import Derived.Test.YtpihmjdljbienaaGreatDoorGa
import Derived.Test.YtpihmjdljbienaaGreatDoorCmpW
import Derived.Test.YtpihmjdljbienaaGreatDoorBloomH
import Derived.Lib.SliceRun
namespace Go.Proofs.YtpihmjdljbienaaGreatDoor.Tw
open Go.RowKit
open Tb Fp Fw Vp Vw B En
set_option linter.unusedVariables false

/-! blocks in order -/
def SS (l : List Sp) : Prop := ∀ i j, i < j → j < l.length → ¬ cmpK (l.getD j sp0).last (l.getD i sp0).last < 0
theorem lt_of_le {a b c : ByteArray} (h : ¬ cmpK b a < 0) (k : cmpK b c < 0) : cmpK a c < 0 := by
  have h1 := cmpK_neg a b
  by_cases h2 : cmpK a b = 0
  · rw [(cmpK_0 a b).1 h2]; exact k
  · exact cmpK_trans (b := b) (by omega) k
theorem SS.snoc {l : List Sp} (h : SS l) (x : Sp) (hx : l = [] ∨ ¬ cmpK x.last (lastS l).last < 0) : SS (l ++ [x]) := by
  intro i j hij hj
  rw [List.length_append, List.length_singleton] at hj
  have g1 : ∀ k, k < l.length → (l ++ [x]).getD k sp0 = l.getD k sp0 := fun k hk => by simp [List.getD_eq_getElem?_getD, List.getElem?_append_left hk]
  by_cases h1 : j < l.length
  · rw [g1 j h1, g1 i (by omega)]; exact h i j hij h1
  · obtain rfl : j = l.length := by omega
    have g2 : (l ++ [x]).getD l.length sp0 = x := by simp [List.getD_eq_getElem?_getD]
    rw [g2, g1 i (by omega)]
    rcases hx with rfl | hx
    · simp at hij
    · by_cases h2 : i = l.length - 1
      · subst h2; exact hx
      · have h3 := h i (l.length - 1) (by omega) (by omega)
        intro h4
        exact hx (by
          have h5 := cmpK_neg (lastS l).last x.last
          by_cases h6 : cmpK x.last (lastS l).last < 0
          · exact h6
          · exfalso
            exact h3 (by
              have h7 : cmpK (lastS l).last (l.getD i sp0).last < 0 := lt_of_le (b := x.last) h6 h4
              exact h7))
theorem rounds_ss (s : ByteArray) (fin : Nat) : ∀ (k : Nat) (a : Int) (out : List Sp) (b : Nat), SS out → (out.length : Int) ≤ a → (roundsB s fin k a out b).e = 0 → SS (roundsB s fin k a out b).l ∧ ((roundsB s fin k a out b).l.length : Int) ≤ (roundsB s fin k a out b).next
  | 0, a, out, b, h, hl, _ => ⟨h, hl⟩
  | k + 1, a, out, b, h, hl, h0 => by
    unfold roundsB at h0 ⊢
    by_cases h1 : (roundB s fin a out b).e = 0
    case neg => rw [if_pos h1] at h0; exact absurd h0 h1
    rw [if_neg (fun hh => hh h1)] at h0 ⊢
    have hx : (out = [] ∨ ¬ cmpK (roundB s fin a out b).x.last (lastS out).last < 0) ∧ a < (roundB s fin a out b).next := by
      by_cases e1 : (getT s a).e = 0
      case neg => rw [round_t e1] at h1; exact absurd h1 e1
      by_cases e2 : (getS s (getT s a).next).e = 0
      case neg => rw [round_f e1 e2] at h1; exact absurd h1 e2
      by_cases e3 : (getS s (getS s (getT s a).next).next).e = 0
      case neg => rw [round_n e1 e2 e3] at h1; exact absurd h1 e3
      have n1 := txt_gt e1
      have n2 := num_gt e2
      have n3 := num_gt e3
      cases hok : okB fin b out (getT s a).t (getS s (getT s a).next).n (getS s (getS s (getT s a).next).next).n with
      | false => rw [round_no e1 e2 e3 hok] at h1; exact absurd h1 (by simp)
      | true =>
        rw [round_ok e1 e2 e3 hok]
        refine ⟨?_, by simp only; omega⟩
        unfold okB at hok
        simp only [Bool.and_eq_true, Bool.or_eq_true, decide_eq_true_eq, Bool.not_eq_true', decide_eq_false_iff_not] at hok
        rcases hok.2.2.2 with h9 | h9
        · exact .inl (by simpa using h9)
        · exact .inr h9
    exact rounds_ss s fin k _ _ _ (h.snoc _ hx.1) (by rw [List.length_append, List.length_singleton]; omega) h0
theorem spans_good {s : ByteArray} {fin : Nat} (h : (spansB s fin).2 = 0) : SS (spansB s fin).1 ∧ (spansB s fin).1.length ≤ s.size := by
  unfold spansB at h ⊢
  by_cases h1 : (getS s 0).e = 0
  case neg => rw [if_pos h1] at h; exact absurd h h1
  rw [if_neg (fun hh => hh h1)] at h ⊢
  by_cases h2 : (getS s 0).n < 0
  · rw [if_pos h2] at h; exact absurd h (by simp)
  rw [if_neg h2] at h ⊢
  have hg := num_gt h1
  have hk := rounds_ss s fin (getS s 0).n.toNat (getS s 0).next [] 0 (fun i j _ hj => by simp at hj) (by simp; omega)
  generalize roundsB s fin (getS s 0).n.toNat (getS s 0).next [] 0 = R at hk h ⊢
  unfold closeB at h ⊢
  by_cases h3 : R.e = 0
  case neg => rw [if_pos h3] at h; exact absurd h h3
  rw [if_neg (fun hh => hh h3)] at h ⊢
  by_cases h4 : R.next ≠ s.size ∨ R.behind ≠ fin
  · rw [if_pos h4] at h; exact absurd h (by simp)
  rw [if_neg h4]
  obtain ⟨k1, k2⟩ := hk h3
  exact ⟨k1, by simp only; omega⟩
theorem open_good {s : ByteArray} {z : Int} (h : (openB s z).e = 0) : SS (openB s z).sp ∧ (openB s z).sp.length ≤ 65535 := by
  unfold openB at h ⊢
  by_cases h1 : z < 24
  · rw [if_pos h1] at h; exact absurd h (by simp)
  rw [if_neg h1] at h ⊢
  by_cases h2 : (bodyB s (z - 24) 24).e = 0
  case neg => rw [if_pos h2] at h; exact absurd h h2
  rw [if_neg (fun hh => hh h2)] at h ⊢
  generalize num8 ((bodyB s (z - 24) 24).t.data.toList.take 8) = X at h ⊢
  generalize num8 ((bodyB s (z - 24) 24).t.data.toList.drop 8) = Y at h ⊢
  generalize z - 24 = m at h ⊢
  unfold headB at h ⊢
  by_cases h3 : X ≤ Y ∧ (Y : Int) ≤ m
  case neg => rw [if_pos h3] at h; exact absurd h (by simp)
  rw [if_neg (fun hh => hh h3)] at h ⊢
  by_cases h4 : (bodyB s X ((Y : Int) - X)).e = 0
  case neg => rw [if_pos h4] at h; exact absurd h h4
  rw [if_neg (fun hh => hh h4)] at h ⊢
  by_cases h5 : (bodyB s Y (m - Y)).e = 0
  case neg => rw [if_pos h5] at h; exact absurd h h5
  rw [if_neg (fun hh => hh h5)] at h ⊢
  by_cases h6 : (spansB (bodyB s X ((Y : Int) - X)).t X).2 = 0
  case neg => rw [if_pos h6] at h; exact absurd h h6
  rw [if_neg (fun hh => hh h6)]
  have h7 := (bodyB_size h4).2.1
  have h8 := spans_good h6
  exact ⟨h8.1, by simp only; omega⟩
/-- where the search ends -/
theorem which_is (key : ByteArray) : ∀ (l : List Sp) (p : Nat), p ≤ l.length → (∀ i, i < p → cmpK (l.getD i sp0).last key < 0) → (∀ i, p ≤ i → i < l.length → ¬ cmpK (l.getD i sp0).last key < 0) → p = whichB key l
  | [], p, h, _, _ => by simp at h; exact h
  | x :: t, p, h, h1, h2 => by
    unfold whichB
    by_cases hx : cmpK x.last key < 0
    · rw [if_pos hx]
      obtain ⟨q, rfl⟩ : ∃ q, p = q + 1 := ⟨p - 1, by
        by_cases hp : p = 0
        · subst hp
          exact absurd hx (h2 0 (by omega) (by simp))
        · omega⟩
      rw [← which_is key t q (by simp at h; omega) (fun i hi => by simpa using h1 (i + 1) (by omega)) (fun i hi hj => by simpa using h2 (i + 1) (by omega) (by simp; omega))]
    · rw [if_neg hx]
      by_cases hp : p = 0
      · exact hp
      · exact absurd (h1 0 (by omega)) hx
theorem ss_upto {l : List Sp} (hs : SS l) {key : ByteArray} {h m : Nat} {x : ByteArray} (hx : x = (l.getD h sp0).last) (hl : cmpK x key < 0) (hh : h < l.length) (hm : m ≤ h) : cmpK (l.getD m sp0).last key < 0 := by
  subst hx
  by_cases h1 : m = h
  · subst h1; exact hl
  · exact lt_of_le (hs m h (by omega) hh) hl
theorem ss_from {l : List Sp} (hs : SS l) {key : ByteArray} {h m : Nat} {x : ByteArray} (hx : x = (l.getD h sp0).last) (hl : ¬ cmpK x key < 0) (hh : m < l.length) (hm : h ≤ m) : ¬ cmpK (l.getD m sp0).last key < 0 := by
  subst hx
  by_cases h1 : m = h
  · subst h1; exact hl
  · exact fun h2 => hl (lt_of_le (hs h m (by omega) hh) h2)

theorem ordS_any (l : ByteArray) (a n : Int) (key : ByteArray) (w : World) :
    Calls Tryz.prog 128 #[.agg #[.string l, .int .i64 a, .int .i64 n], .string key] w fun e w' => e = .returned (.int .i64 (cmpK l key)) ∧ Below w.heap.size w w' := by
  have HS := Lib.hid (Ew.strCompare_any l key)
  generalize cmpK l key = x at *
  go_enter Tryz.func128, Tryz.ntmps128
  go_wp2_with fail
  refine (HS.out _).mono ?_
  rintro e w1 ⟨rfl, rfl⟩
  go_wp2_with fail
  go_ret
  exact ⟨rfl, below_alloc (Below.refl _ _) _⟩
end Go.Proofs.YtpihmjdljbienaaGreatDoor.Tw
