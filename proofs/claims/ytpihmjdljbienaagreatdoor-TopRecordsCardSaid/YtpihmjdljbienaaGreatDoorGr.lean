/- Several texts in one: TabW, TabX, TabA. -/
import Derived.Test.YtpihmjdljbienaaGreatDoorTabO
import Derived.Test.YtpihmjdljbienaaGreatDoorGa
import Derived.Test.YtpihmjdljbienaaGreatDoorCmpW
import Derived.Test.YtpihmjdljbienaaGreatDoorBloomH
import Derived.Lib.SliceRun
import Derived.Test.YtpihmjdljbienaaGreatDoorParseE
import Derived.Test.YtpihmjdljbienaaGreatDoorGb
import Derived.Deep.AppendLies
import Derived.Deep.DeepCutAuto
/- The walks of a table's Which, Block, May, Spans. -/
namespace Go.Proofs.YtpihmjdljbienaaGreatDoor.Tw
open Go.RowKit
open Tb Fp Fw Vp Vw B En
set_option linter.unusedVariables false

/-! blocks in order -/
def SS (l : List Sp) : Prop := ∀ i j, i < j → j < l.length → ¬ cmpK (l.getD j sp0).last (l.getD i sp0).last < 0
theorem lt_of_le {a b c : ByteArray} (h : ¬ cmpK b a < 0) (k : cmpK b c < 0) : cmpK a c < 0 := by
  have h1 := cmpK_neg a b
  by_cases h2 : cmpK a b = 0
  · rw [(cmpK_0 a b).1 h2]; exact k
  · exact cmpK_trans (b := b) (by omega) k
theorem SS.snoc {l : List Sp} (h : SS l) (x : Sp) (hx : l = [] ∨ ¬ cmpK x.last (lastS l).last < 0) : SS (l ++ [x]) := by
  intro i j hij hj
  rw [List.length_append, List.length_singleton] at hj
  have g1 : ∀ k, k < l.length → (l ++ [x]).getD k sp0 = l.getD k sp0 := fun k hk => by simp [List.getD_eq_getElem?_getD, List.getElem?_append_left hk]
  by_cases h1 : j < l.length
  · rw [g1 j h1, g1 i (by omega)]; exact h i j hij h1
  · obtain rfl : j = l.length := by omega
    have g2 : (l ++ [x]).getD l.length sp0 = x := by simp [List.getD_eq_getElem?_getD]
    rw [g2, g1 i (by omega)]
    rcases hx with rfl | hx
    · simp at hij
    · by_cases h2 : i = l.length - 1
      · subst h2; exact hx
      · have h3 := h i (l.length - 1) (by omega) (by omega)
        intro h4
        exact hx (by
          have h5 := cmpK_neg (lastS l).last x.last
          by_cases h6 : cmpK x.last (lastS l).last < 0
          · exact h6
          · exfalso
            exact h3 (by
              have h7 : cmpK (lastS l).last (l.getD i sp0).last < 0 := lt_of_le (b := x.last) h6 h4
              exact h7))
theorem rounds_ss (s : ByteArray) (fin : Nat) : ∀ (k : Nat) (a : Int) (out : List Sp) (b : Nat), SS out → (out.length : Int) ≤ a → (roundsB s fin k a out b).e = 0 → SS (roundsB s fin k a out b).l ∧ ((roundsB s fin k a out b).l.length : Int) ≤ (roundsB s fin k a out b).next
  | 0, a, out, b, h, hl, _ => ⟨h, hl⟩
  | k + 1, a, out, b, h, hl, h0 => by
    unfold roundsB at h0 ⊢
    by_cases h1 : (roundB s fin a out b).e = 0
    case neg => rw [if_pos h1] at h0; exact absurd h0 h1
    rw [if_neg (fun hh => hh h1)] at h0 ⊢
    have hx : (out = [] ∨ ¬ cmpK (roundB s fin a out b).x.last (lastS out).last < 0) ∧ a < (roundB s fin a out b).next := by
      by_cases e1 : (getT s a).e = 0
      case neg => rw [round_t e1] at h1; exact absurd h1 e1
      by_cases e2 : (getS s (getT s a).next).e = 0
      case neg => rw [round_f e1 e2] at h1; exact absurd h1 e2
      by_cases e3 : (getS s (getS s (getT s a).next).next).e = 0
      case neg => rw [round_n e1 e2 e3] at h1; exact absurd h1 e3
      have n1 := txt_gt e1
      have n2 := num_gt e2
      have n3 := num_gt e3
      cases hok : okB fin b out (getT s a).t (getS s (getT s a).next).n (getS s (getS s (getT s a).next).next).n with
      | false => rw [round_no e1 e2 e3 hok] at h1; exact absurd h1 (by simp)
      | true =>
        rw [round_ok e1 e2 e3 hok]
        refine ⟨?_, by simp only; omega⟩
        unfold okB at hok
        simp only [Bool.and_eq_true, Bool.or_eq_true, decide_eq_true_eq, Bool.not_eq_true', decide_eq_false_iff_not] at hok
        rcases hok.2.2.2 with h9 | h9
        · exact .inl (by simpa using h9)
        · exact .inr h9
    exact rounds_ss s fin k _ _ _ (h.snoc _ hx.1) (by rw [List.length_append, List.length_singleton]; omega) h0
theorem spans_good {s : ByteArray} {fin : Nat} (h : (spansB s fin).2 = 0) : SS (spansB s fin).1 ∧ (spansB s fin).1.length ≤ s.size := by
  unfold spansB at h ⊢
  by_cases h1 : (getS s 0).e = 0
  case neg => rw [if_pos h1] at h; exact absurd h h1
  rw [if_neg (fun hh => hh h1)] at h ⊢
  by_cases h2 : (getS s 0).n < 0
  · rw [if_pos h2] at h; exact absurd h (by simp)
  rw [if_neg h2] at h ⊢
  have hg := num_gt h1
  have hk := rounds_ss s fin (getS s 0).n.toNat (getS s 0).next [] 0 (fun i j _ hj => by simp at hj) (by simp; omega)
  generalize roundsB s fin (getS s 0).n.toNat (getS s 0).next [] 0 = R at hk h ⊢
  unfold closeB at h ⊢
  by_cases h3 : R.e = 0
  case neg => rw [if_pos h3] at h; exact absurd h h3
  rw [if_neg (fun hh => hh h3)] at h ⊢
  by_cases h4 : R.next ≠ s.size ∨ R.behind ≠ fin
  · rw [if_pos h4] at h; exact absurd h (by simp)
  rw [if_neg h4]
  obtain ⟨k1, k2⟩ := hk h3
  exact ⟨k1, by simp only; omega⟩
theorem open_good {s : ByteArray} {z : Int} (h : (openB s z).e = 0) : SS (openB s z).sp ∧ (openB s z).sp.length ≤ 65535 := by
  unfold openB at h ⊢
  by_cases h1 : z < 24
  · rw [if_pos h1] at h; exact absurd h (by simp)
  rw [if_neg h1] at h ⊢
  by_cases h2 : (bodyB s (z - 24) 24).e = 0
  case neg => rw [if_pos h2] at h; exact absurd h h2
  rw [if_neg (fun hh => hh h2)] at h ⊢
  generalize num8 ((bodyB s (z - 24) 24).t.data.toList.take 8) = X at h ⊢
  generalize num8 ((bodyB s (z - 24) 24).t.data.toList.drop 8) = Y at h ⊢
  generalize z - 24 = m at h ⊢
  unfold headB at h ⊢
  by_cases h3 : X ≤ Y ∧ (Y : Int) ≤ m
  case neg => rw [if_pos h3] at h; exact absurd h (by simp)
  rw [if_neg (fun hh => hh h3)] at h ⊢
  by_cases h4 : (bodyB s X ((Y : Int) - X)).e = 0
  case neg => rw [if_pos h4] at h; exact absurd h h4
  rw [if_neg (fun hh => hh h4)] at h ⊢
  by_cases h5 : (bodyB s Y (m - Y)).e = 0
  case neg => rw [if_pos h5] at h; exact absurd h h5
  rw [if_neg (fun hh => hh h5)] at h ⊢
  by_cases h6 : (spansB (bodyB s X ((Y : Int) - X)).t X).2 = 0
  case neg => rw [if_pos h6] at h; exact absurd h h6
  rw [if_neg (fun hh => hh h6)]
  have h7 := (bodyB_size h4).2.1
  have h8 := spans_good h6
  exact ⟨h8.1, by simp only; omega⟩
/-- where the search ends -/
theorem which_is (key : ByteArray) : ∀ (l : List Sp) (p : Nat), p ≤ l.length → (∀ i, i < p → cmpK (l.getD i sp0).last key < 0) → (∀ i, p ≤ i → i < l.length → ¬ cmpK (l.getD i sp0).last key < 0) → p = whichB key l
  | [], p, h, _, _ => by simp at h; exact h
  | x :: t, p, h, h1, h2 => by
    unfold whichB
    by_cases hx : cmpK x.last key < 0
    · rw [if_pos hx]
      obtain ⟨q, rfl⟩ : ∃ q, p = q + 1 := ⟨p - 1, by
        by_cases hp : p = 0
        · subst hp
          exact absurd hx (h2 0 (by omega) (by simp))
        · omega⟩
      rw [← which_is key t q (by simp at h; omega) (fun i hi => by simpa using h1 (i + 1) (by omega)) (fun i hi hj => by simpa using h2 (i + 1) (by omega) (by simp; omega))]
    · rw [if_neg hx]
      by_cases hp : p = 0
      · exact hp
      · exact absurd (h1 0 (by omega)) hx
theorem ss_upto {l : List Sp} (hs : SS l) {key : ByteArray} {h m : Nat} {x : ByteArray} (hx : x = (l.getD h sp0).last) (hl : cmpK x key < 0) (hh : h < l.length) (hm : m ≤ h) : cmpK (l.getD m sp0).last key < 0 := by
  subst hx
  by_cases h1 : m = h
  · subst h1; exact hl
  · exact lt_of_le (hs m h (by omega) hh) hl
theorem ss_from {l : List Sp} (hs : SS l) {key : ByteArray} {h m : Nat} {x : ByteArray} (hx : x = (l.getD h sp0).last) (hl : ¬ cmpK x key < 0) (hh : m < l.length) (hm : h ≤ m) : ¬ cmpK (l.getD m sp0).last key < 0 := by
  subst hx
  by_cases h1 : m = h
  · subst h1; exact hl
  · exact fun h2 => hl (lt_of_le (hs h m (by omega) hh) h2)

theorem ordS_any (l : ByteArray) (a n : Int) (key : ByteArray) (w : World) :
    Calls Tryz.prog 128 #[.agg #[.string l, .int .i64 a, .int .i64 n], .string key] w fun e w' => e = .returned (.int .i64 (cmpK l key)) ∧ Below w.heap.size w w' := by
  have HS := Lib.hid (Ew.strCompare_any l key)
  generalize cmpK l key = x at *
  go_enter Tryz.func128, Tryz.ntmps128
  go_wp2_with fail
  refine (HS.out _).mono ?_
  rintro e w1 ⟨rfl, rfl⟩
  go_wp2_with fail
  go_ret
  exact ⟨rfl, below_alloc (Below.refl _ _) _⟩
end Go.Proofs.YtpihmjdljbienaaGreatDoor.Tw

/- The walks of a table's Which, Block, May, Spans. -/
namespace Go.Proofs.YtpihmjdljbienaaGreatDoor.Tw
open Go.RowKit
open Tb Fp Fw Vp Vw B En
set_option linter.unusedVariables false

set_option maxHeartbeats 800000 in
set_option maxRecDepth 100000 in
theorem bsS_any (a : Option Addr) (n cap : Nat) (l : List Sp) (hl : l.length = n) (hn : n ≤ 65535) (key : ByteArray) (hs : SS l) (w : World) (hrow : SRow w a l) :
    Calls Tryz.prog 127 #[.slice a n cap, .string key, .func (.func 128) #[] #[]] w fun e w' => ∃ b : Bool, e = .returned (.tuple #[.int .i64 (whichB key l : Nat), .bool b]) ∧ Below w.heap.size w w' := by
  have HS := Lib.hid hs
  have HL := Lib.hid hl
  have HROW := Lib.hid hrow
  obtain ⟨p, hp⟩ : ∃ p, p = whichB key l := ⟨_, rfl⟩
  rw [← hp]
  have HP := Lib.hid hp
  clear hs hl hrow hp
  go_enter Tryz.func127, Tryz.ntmps127
  go_wp2_with fail
  go_loopw [9, 10] (fun si sj wr => ∃ (i j : Nat), si = .int .i64 i ∧ sj = .int .i64 j ∧ i ≤ j ∧ j ≤ n ∧ Hid (∀ m, m < i → cmpK (l.getD m sp0).last key < 0) ∧ Hid (∀ m, j ≤ m → m < n → 0 ≤ cmpK (l.getD m sp0).last key) ∧ Below w.heap.size w wr) (fun si sj _ => (intOf sj).toNat - (intOf si).toNat)
  case atStart => exact ⟨0, n, rfl, rfl, by omega, by omega, fun m hm => by omega, fun m h1 h2 => by omega, Below.refl _ _⟩
  case round =>
    obtain ⟨i, j, rfl, rfl, hij, hjn, hlo, hhi, hbel⟩ := hrel
    by_cases hlt : i < j
    · obtain ⟨ab, off, rfl, hab, hac⟩ := HROW.out.at (by rw [HL.out]; omega)
      obtain ⟨h, hh⟩ : ∃ h : Nat, ((i : Int) + (j : Int)) / 2 = (h : Int) := ⟨(i + j) / 2, by omega⟩
      have hd := hac h (by rw [HL.out]; omega)
      obtain ⟨x, hx⟩ : ∃ x, x = l.getD h sp0 := ⟨_, rfl⟩
      rw [← hx] at hd
      obtain ⟨l1, a1, n1⟩ := x
      simp only at hd
      have HLE := Lib.hid (fun W : World => ordS_any l1 a1 n1 key W)
      have HX : Hid (l1 = (l.getD h sp0).last) := by show l1 = _; rw [← hx]
      have HH := Lib.hid hh
      have hi1 : i ≤ h := by omega
      have hi2 : h < j := by omega
      have i1 : (0 : Int) ≤ (h : Int) := by omega
      have i2 : (h : Int) < (n : Int) := by omega
      have i3 : h < n := by omega
      have c0 : wr.cell? ⟨ab, off + h * 3, none⟩ = some (.string l1) := (hbel.cell hab).trans hd.1
      have c1 : wr.cell? ⟨ab, off + h * 3 + 1, none⟩ = some (.int .i64 a1) := (hbel.cell hab).trans hd.2.1
      have c2 : wr.cell? ⟨ab, off + h * 3 + 2, none⟩ = some (.int .i64 n1) := (hbel.cell hab).trans hd.2.2
      have HB := Lib.hid hbel
      clear hd hac hx hbel
      by_cases hc : cmpK l1 key < 0
      · have hd1 : decide (cmpK l1 key < 0) = true := dt hc
        have HC := Lib.hid hc
        clear hc
        generalize hce : cmpK l1 key = c at hd1 HLE
        have HCE := Lib.hid hce
        clear hce
        go_wp2_with fail
        refine (HLE.out _).mono ?_
        rintro e w3 ⟨rfl, hb3⟩
        have HB3 := Lib.hid (HB.out.trans (hb3.mono HB.out.size))
        clear hb3
        go_wp2_with fail
        go_roundw
        case rel => exact ⟨h + 1, j, by go_num, rfl, by omega, by omega, fun m hm => ss_upto HS.out HX.out HC.out (by rw [HL.out]; omega) (by omega), hhi.out, HB3.out⟩
        case measure => simp [intOf]; omega
      · have hd1 : decide (cmpK l1 key < 0) = false := df hc
        have HC := Lib.hid (Int.not_lt.1 hc)
        clear hc
        generalize hce : cmpK l1 key = c at hd1 HLE
        have HCE := Lib.hid hce
        clear hce
        go_wp2_with fail
        refine (HLE.out _).mono ?_
        rintro e w3 ⟨rfl, hb3⟩
        have HB3 := Lib.hid (HB.out.trans (hb3.mono HB.out.size))
        clear hb3
        go_wp2_with fail
        go_roundw
        case rel => exact ⟨i, h, rfl, rfl, by omega, by omega, hlo.out, fun m h1 h2 => Int.not_lt.1 (ss_from HS.out HX.out (Int.not_lt.2 HC.out) (by rw [HL.out]; omega) h1), HB3.out⟩
        case measure => simp [intOf]; omega
    · obtain rfl : i = j := by omega
      have hpi : True := trivial
      have hw := which_is key l i (by rw [HL.out]; omega) hlo.out (by rw [HL.out]; exact fun m h1 h2 => Int.not_lt.2 (hhi.out m h1 h2))
      obtain rfl : p = i := by rw [HP.out, hw]
      clear hw
      have HB := Lib.hid hbel
      clear hbel
      by_cases hin : p < n
      · obtain ⟨ab, off, rfl, hab, hac⟩ := HROW.out.at (by rw [HL.out]; omega)
        have hd := hac p (by rw [HL.out]; omega)
        generalize l.getD p sp0 = x at hd
        obtain ⟨l1, a1, n1⟩ := x
        simp only at hd
        have HLE := Lib.hid (fun W : World => ordS_any l1 a1 n1 key W)
        generalize cmpK l1 key = c at HLE
        have i1 : (0 : Int) ≤ (p : Int) := by omega
        have i2 : (p : Int) < (n : Int) := by omega
        have c0 : wr.cell? ⟨ab, off + p * 3, none⟩ = some (.string l1) := (HB.out.cell hab).trans hd.1
        have c1 : wr.cell? ⟨ab, off + p * 3 + 1, none⟩ = some (.int .i64 a1) := (HB.out.cell hab).trans hd.2.1
        have c2 : wr.cell? ⟨ab, off + p * 3 + 2, none⟩ = some (.int .i64 n1) := (HB.out.cell hab).trans hd.2.2
        clear hd hac
        go_wp2_with fail
        refine (HLE.out _).mono ?_
        rintro e w3 ⟨rfl, hb3⟩
        have HB3 := Lib.hid (HB.out.trans (hb3.mono HB.out.size))
        clear hb3
        go_wp2_with fail
        go_ret2
        exact ⟨_, rfl, HB3.out⟩
      · obtain rfl : p = n := by omega
        go_wp2_with fail
        go_ret2
        exact ⟨_, rfl, HB.out⟩

/-- a table's cells -/
theorem TBox.cells {w : World} {tb : Nat} {g : Src} {s f : ByteArray} {sp : List Sp} (h : TBox w tb g s sp f) : ∃ a c, (w.cell? ⟨tb, 0, none⟩ = some (.func (.func g.f) #[] g.caps) ∧ w.cell? ⟨tb, 1, none⟩ = some (.slice a sp.length c) ∧ w.cell? ⟨tb, 2, none⟩ = some (.string f)) ∧ SRow w a sp ∧ sp.length ≤ c ∧ c ≤ 9223372036854775807 ∧ Adr a := by
  obtain ⟨a, c, h1, h2⟩ := h.ex
  exact ⟨a, c, ⟨cell_of_row w tb 0 _ _ _ h1, cell_of_row w tb 1 _ _ _ h1, cell_of_row w tb 2 _ _ _ h1⟩, h2⟩

set_option maxHeartbeats 400000 in
theorem which_any (tb : Nat) (g : Src) (s f : ByteArray) (sp : List Sp) (hss : SS sp) (hl : sp.length ≤ 65535) (key : ByteArray) (w : World) (h : TBox w tb g s sp f) :
    Calls Tryz.prog 81 #[.pointer (some ⟨tb, 0, none⟩), .string key] w fun e w' => e = .returned (.int .i64 (whichB key sp : Nat)) ∧ Below w.heap.size w w' := by
  obtain ⟨a, c, ⟨c0, c1, c2⟩, hr, _⟩ := h.cells
  have HB := Lib.hid (bsS_any a sp.length c sp rfl hl key hss w hr)
  clear hss hr h
  generalize whichB key sp = p at HB ⊢
  go_enter Tryz.func81, Tryz.ntmps81
  go_wp2_with fail
  refine HB.out.mono ?_
  rintro e w1 ⟨b, rfl, hb⟩
  go_wp2_with fail
  go_ret
  exact ⟨rfl, hb⟩

theorem which_nil (key : ByteArray) (w : World) :
    Calls Tryz.prog 81 #[.pointer none, .string key] w fun e w' => e = .returned (.int .i64 0) ∧ w = w' := by
  go_enter Tryz.func81, Tryz.ntmps81
  go_wp2_with fail
  go_ret
  exact ⟨rfl, rfl⟩

theorem keepB {W W' : World} {tb ab o : Nat} {v0 v1 v2 v3 : Value} (h : (W.cell? ⟨tb, 0, none⟩ = some v0 ∧ W.cell? ⟨tb, 1, none⟩ = some v1) ∧ (W.cell? ⟨ab, o + 1, none⟩ = some v2 ∧ W.cell? ⟨ab, o + 2, none⟩ = some v3) ∧ tb < W.heap.size ∧ ab < W.heap.size) (k : Below W.heap.size W W') :
    (W'.cell? ⟨tb, 0, none⟩ = some v0 ∧ W'.cell? ⟨tb, 1, none⟩ = some v1) ∧ (W'.cell? ⟨ab, o + 1, none⟩ = some v2 ∧ W'.cell? ⟨ab, o + 2, none⟩ = some v3) ∧ tb < W'.heap.size ∧ ab < W'.heap.size := by
  obtain ⟨⟨h0, h1⟩, ⟨h2, h3⟩, h4, h5⟩ := h
  exact ⟨⟨(k.cell (p := ⟨tb, 0, none⟩) h4).trans h0, (k.cell (p := ⟨tb, 1, none⟩) h4).trans h1⟩, ⟨(k.cell (p := ⟨ab, o + 1, none⟩) h5).trans h2, (k.cell (p := ⟨ab, o + 2, none⟩) h5).trans h3⟩, Nat.lt_of_lt_of_le h4 k.size, Nat.lt_of_lt_of_le h5 k.size⟩
/-- a block's bytes, or an error -/
def blockB (s : ByteArray) (sp : List Sp) (i : Int) : ST := if i < 0 ∨ (sp.length : Int) ≤ i then ⟨str [], 2⟩ else bodyB s (sp.getD i.toNat sp0).at_ (sp.getD i.toNat sp0).n

set_option maxHeartbeats 800000 in
set_option maxRecDepth 100000 in
theorem block_any (tb : Nat) (g : Src) (s f : ByteArray) (hs : s.size ≤ 4611686018427387904) (sp : List Sp) (i : Int) (w : World) (h : TBox w tb g s sp f) :
    Calls Tryz.prog 82 #[.pointer (some ⟨tb, 0, none⟩), .int .i64 i] w fun e w' => e = retS (blockB s sp i) ∧ Below w.heap.size w w' := by
  obtain ⟨a, c, ⟨c0, c1, c2⟩, hr, _⟩ := h.cells
  unfold blockB
  by_cases h1 : i < 0
  · rw [if_pos (.inl h1)]
    have d1 : decide (i < 0) = true := dt h1
    go_enter Tryz.func82, Tryz.ntmps82
    go_wp2_with fail
    go_ret2
    exact ⟨rfl, Below.refl _ _⟩
  by_cases h2 : (sp.length : Int) ≤ i
  · rw [if_pos (.inr h2)]
    have d1 : decide (i < 0) = false := df h1
    have d2 : decide ((sp.length : Int) ≤ i) = true := dt h2
    go_enter Tryz.func82, Tryz.ntmps82
    go_wp2_with fail
    go_ret2
    exact ⟨rfl, Below.refl _ _⟩
  rw [if_neg (by omega)]
  obtain ⟨k, rfl⟩ := Int.eq_ofNat_of_zero_le (show 0 ≤ i by omega)
  simp only [Int.toNat_natCast]
  have hk : k < sp.length := by omega
  obtain ⟨ab, off, rfl, hab, hac⟩ := hr.at (by omega)
  have hd := hac k hk
  generalize sp.getD k sp0 = x at hd ⊢
  obtain ⟨l1, a1, n1⟩ := x
  simp only at hd ⊢
  have HG := Lib.hid h.src
  have HBD := Lib.hid (fun W hc => body_any g s hs a1 n1 W hc)
  generalize bodyB s a1 n1 = r at HBD ⊢
  obtain ⟨rt, re⟩ := r
  simp only [retS] at HBD
  have d1 : decide ((k : Int) < 0) = false := df h1
  have d2 : decide (sp.length ≤ k) = false := df (by omega)
  have i1 : (0 : Int) ≤ (k : Int) := by omega
  have i2 : (k : Int) < (sp.length : Int) := by omega
  have q1 := hd.2.1
  have q2 := hd.2.2
  have H0 : Hid ((w.cell? ⟨tb, 0, none⟩ = some (.func (.func g.f) #[] g.caps) ∧ w.cell? ⟨tb, 1, none⟩ = some (.slice (some ⟨ab, off, none⟩) sp.length c)) ∧ (w.cell? ⟨ab, off + k * 3 + 1, none⟩ = some (.int .i64 a1) ∧ w.cell? ⟨ab, off + k * 3 + 2, none⟩ = some (.int .i64 n1)) ∧ tb < w.heap.size ∧ ab < w.heap.size) := ⟨⟨c0, c1⟩, ⟨q1, q2⟩, h.lt, hab⟩
  clear h hr hac hd h1 h2 q1 q2
  go_enter Tryz.func82, Tryz.ntmps82
  go_wp2_with fail
  go_region_held3 (fun w' => (w'.cell? ⟨tb, 0, none⟩ = some (.func (.func g.f) #[] g.caps) ∧ w'.cell? ⟨tb, 1, none⟩ = some (.slice (some ⟨ab, off, none⟩) sp.length c)) ∧ (w'.cell? ⟨ab, off + k * 3 + 1, none⟩ = some (.int .i64 a1) ∧ w'.cell? ⟨ab, off + k * 3 + 2, none⟩ = some (.int .i64 n1)) ∧ tb < w'.heap.size ∧ ab < w'.heap.size)
    (first | exact H0.out | exact keepB (W := w.drew) H0.out hb3)
    (first | (go_at_call 123; refine (HBD.out w.drew (g.below HG.out (Below.refl w.heap.size w).drew)).mono ?_; rintro e w3 ⟨rfl, hb3⟩))
  all_goals
    have hz : Below w.heap.size w w3 := (Below.refl w.heap.size w).drew.trans hb3
    clear hb3
    go_wp2_with fail
    go_ret2
    exact ⟨rfl, hz⟩
theorem block_nil (i : Int) (w : World) :
    Calls Tryz.prog 82 #[.pointer none, .int .i64 i] w fun e w' => e = .returned (.tuple #[.string ⟨#[]⟩, .int .i64 1]) ∧ w = w' := by
  go_enter Tryz.func82, Tryz.ntmps82
  go_wp2_with fail
  go_ret2
  exact ⟨rfl, rfl⟩

/-! Spans -/
noncomputable def spanI : TypeInfo := (Tryz.prog.info? 152).get (by kernel_rfl)
theorem srow_cells {w : World} {b off : Nat} {l : List Sp} (h : SRow w (some ⟨b, off, none⟩) l) (j : Nat) (u : Value) (hu : (scells l)[j]? = some u) : w.cell? ⟨b, off + j, none⟩ = some u := by
  have hj : j < (scells l).length := by
    by_cases hh : j < (scells l).length
    · exact hh
    · rw [List.getElem?_eq_none (by omega)] at hu; cases hu
  rw [scells_len] at hj
  obtain ⟨b', off', hb, _, hc⟩ := h.at (by omega)
  simp only [Option.some.injEq, Addr.mk.injEq, and_true] at hb
  obtain ⟨rfl, rfl⟩ := hb
  obtain ⟨h0, h1, h2⟩ := hc (j / 3) (by omega)
  have hs := scells_at l (j / 3) (j % 3) (by omega) (by omega)
  rw [show j / 3 * 3 + j % 3 = j from by omega, hu] at hs
  have h3 : j % 3 = 0 ∨ j % 3 = 1 ∨ j % 3 = 2 := by omega
  rcases h3 with h3 | h3 | h3
  · rw [h3] at hs
    rw [show off + j = off + j / 3 * 3 from by omega, h0]; exact hs.symm
  · rw [h3] at hs
    rw [show off + j = off + j / 3 * 3 + 1 from by omega, h1]; exact hs.symm
  · rw [h3] at hs
    rw [show off + j = off + j / 3 * 3 + 2 from by omega, h2]; exact hs.symm
theorem scells_one (l : List Sp) : ∀ u ∈ scells l, u.oneCell' = true := by
  intro u hu
  simp only [scells, List.mem_flatMap, Sp.cells] at hu
  obtain ⟨x, _, hx⟩ := hu
  simp only [List.mem_cons, List.not_mem_nil, or_false] at hx
  rcases hx with rfl | rfl | rfl <;> rfl

end Go.Proofs.YtpihmjdljbienaaGreatDoor.Tw

/- The walk of a table's All. -/
namespace Go.Proofs.YtpihmjdljbienaaGreatDoor.Tw
open Go.RowKit
open Tb Fp Fw Vp Vw B En
set_option linter.unusedVariables false

theorem wpList_pushL {P : Program} {ops : Array Oper} {rest : List Oper} {o : Oper} {a : Act} {Q : Exit → Act → World → Prop} (hgd : o.guard = none) (s x : Operand) (t : TypeId)
    (ho : o.op = .call { callee := .builtin .append, args := #[s, x], argTypes := #[t, t] }) {e : TypeId} {z : Value} {size bytes : Nat} (ht : P.underlying t = some (.slice e))
    (hinfo : (P.info? e).map (fun i => (i.zero, i.size, i.bytes)) = some (some z, size, bytes)) (hzs : z.cells.size = size) (hsz : 0 < size) {w : World} {B n c g : Nat} {xs : List Value} {v : Value} (hs : a.eval s = v)
    (cs : Array Value) (hcs : cs.size = size) (h1 : ∀ u ∈ cs.toList, u.oneCell' = true) (hx : a.eval x = .slice (some ⟨g, 0, none⟩) 1 c) (hg : w.heap.size = g) (hown : w.ownsRow B e size v n xs) (hbase : B ≤ w.heap.size)
    (h63 : n + 1 ≤ maxLen) (hbytes : (n + 1) * bytes ≤ 140737488355328)
    (h : ∀ g' cap w', w'.ownsRow B e size (.slice (some ⟨g', 0, none⟩) (n + 1) cap) (n + 1) (xs ++ cs.toList) → w.grownBy w' v.ownBlock → Below B w w' → (v.ownBlock = some g' ∨ w.heap.size ≤ g') → wpList P ops Q rest (a.put o.dst (.slice (some ⟨g', 0, none⟩) (n + 1) cap)) w') :
    wpList P ops Q (o :: rest) a (w.alloc (.cells cs e)) := by
  obtain ⟨i0, hi, hz0, hz1, hz2⟩ := info_parts hinfo
  subst hg
  refine wpList_append_lies _ hgd s x t ho B e i0 z size bytes ht hi hz0 hz1 hz2 hzs hsz v n xs hs (hown.alloc _) ⟨w.heap.size, 0, none⟩ 1 c cs.toList hx (by simp [hcs]) (World.news_of_block (heap_alloc_new w _)) h1 (by omega) h63 hbytes (by simp; omega) _ rfl ?_
  intro g' cap w' hown' hg hl _
  have hg2 : w.grownBy w' v.ownBlock := grown_trans ((Below.refl _ _).alloc (Nat.le_refl _) _) hg
  refine h g' cap w' hown' hg2 ((Below.refl B w).grown hg2 hbase (fun k hk => (hown.lt k hk).1)) ?_
  rcases hl with hl | hl
  · exact .inl hl
  · right; rw [hl]; simp
theorem own_weak {w : World} {B B' n size : Nat} {e : TypeId} {v : Value} {xs : List Value} (h : w.ownsRow B' e size v n xs) (hB : B ≤ B') : w.ownsRow B e size v n xs := by
  refine ⟨h.1, ?_⟩
  rcases h.2 with hv | ⟨g, cap, cur, hv, hg, hr⟩
  · exact .inl hv
  · exact .inr ⟨g, cap, cur, hv, Nat.le_trans hB hg, hr⟩
theorem own_nb {w : World} {B n size : Nat} {e : TypeId} {v : Value} {xs : List Value} (h : w.ownsRow B e size v n xs) {g : Nat} (hg : g < B) : v.ownBlock ≠ some g := fun e' => by have := (h.lt g e').1; omega
theorem kc {W W' : World} {p : Addr} {v : Value} (h : W.cell? p = some v) (k : Below W.heap.size W W') : W'.cell? p = some v := (k.cell (block_lt_of_cell h)).trans h

theorem own_farL {w : World} {B n size : Nat} {e : TypeId} {v : Value} {xs : List Value} (h : w.ownsRow B e size v n xs) {p : Addr} (hp : v.ownBlock ≠ some p.block) (u : Value) : (w.setCell p u).ownsRow B e size v n xs := by
  refine ⟨h.1, ?_⟩
  rcases h.2 with hv | ⟨g', cap', cur, hv, hB, hb, hr⟩
  · exact .inl hv
  · refine .inr ⟨g', cap', cur, hv, hB, ?_, hr⟩
    rw [hv] at hp
    exact (Below.heap_setCell w p u g' (fun e => hp (by rw [← e]; rfl))).trans hb
theorem own_set5L {w : World} {B n size g : Nat} {e : TypeId} {v : Value} {xs : List Value} (h : w.ownsRow B e size v n xs) (hp : v.ownBlock ≠ some g) (x : Ent) : (set5 w g 0 x).ownsRow B e size v n xs :=
  own_farL (own_farL (own_farL (own_farL (own_farL h (p := ⟨g, 0, none⟩) hp _) (p := ⟨g, 0 + 1, none⟩) hp _) (p := ⟨g, 0 + 2, none⟩) hp _) (p := ⟨g, 0 + 3, none⟩) hp _) (p := ⟨g, 0 + 4, none⟩) hp _
theorem erow_blk {w w' : World} {lb lo n : Nat} {f : Nat → Ent} (h : ERow w (some ⟨lb, lo, none⟩) n f) (hb : w'.heap[lb]? = w.heap[lb]?) : ERow w' (some ⟨lb, lo, none⟩) n f := by
  rcases h with h | ⟨b, off, ha, hlt, hc⟩
  · exact .inl h
  · simp only [Option.some.injEq, Addr.mk.injEq, and_true] at ha
    obtain ⟨rfl, rfl⟩ := ha
    refine .inr ⟨lb, lo, rfl, ?_, fun i hi => ?_⟩
    · rw [Array.getElem?_eq_getElem hlt] at hb
      exact lt_of_block hb
    · obtain ⟨h0, h1, h2, h3, h4⟩ := hc i hi
      exact ⟨(World.cell?_of_block hb).trans h0, (World.cell?_of_block hb).trans h1, (World.cell?_of_block hb).trans h2, (World.cell?_of_block hb).trans h3, (World.cell?_of_block hb).trans h4⟩
theorem heap_set5 (w : World) (g b : Nat) (x : Ent) (h : b ≠ g) : (set5 w g 0 x).heap[b]? = w.heap[b]? :=
  (Below.heap_setCell _ ⟨g, 0 + 4, none⟩ _ b h).trans ((Below.heap_setCell _ ⟨g, 0 + 3, none⟩ _ b h).trans ((Below.heap_setCell _ ⟨g, 0 + 2, none⟩ _ b h).trans ((Below.heap_setCell _ ⟨g, 0 + 1, none⟩ _ b h).trans (Below.heap_setCell _ ⟨g, 0, none⟩ _ b h))))
theorem filt_step (key : ByteArray) (l : List Ent) (j : Nat) (h : j < l.length) (b : Bool) (hb : fromK key (l.getD j ent0) = b) : (l.take (j + 1)).filter (fromK key) = (l.take j).filter (fromK key) ++ (if b = true then [l.getD j ent0] else []) := by
  rw [take_snoc l j ent0 h, List.filter_append]
  congr 1
  simp only [List.filter_cons, hb, List.filter_nil]

/-! the cases -/
theorem drop_sp (l : List Sp) (k : Nat) (h : k < l.length) : l.drop k = l.getD k sp0 :: l.drop (k + 1) := by
  rw [List.drop_eq_getElem_cons h]; simp [List.getD_eq_getElem?_getD, List.getElem?_eq_getElem h]
theorem blockB_in (s : ByteArray) {sp : List Sp} {k : Nat} (h : k < sp.length) : blockB s sp k = bodyB s (sp.getD k sp0).at_ (sp.getD k sp0).n := by
  unfold blockB; rw [if_neg (by omega)]; simp
theorem bodyB_t (s : ByteArray) (a n : Int) : (bodyB s a n).t.size ≤ 65535 := by
  by_cases h : (bodyB s a n).e = 0
  · exact (bodyB_size h).2.1
  · have : (bodyB s a n).t = str [] := by
      unfold bodyB at h ⊢
      by_cases h1 : (partB s a n).e ≠ 0
      · rw [if_pos h1]
      rw [if_neg h1] at h ⊢
      unfold frameB at h ⊢
      by_cases h2 : (getF (partB s a n).t 0).e ≠ 0
      · rw [if_pos h2]
      rw [if_neg h2] at h ⊢
      by_cases h3 : (getF (partB s a n).t 0).next ≠ n
      · rw [if_pos h3]
      · rw [if_neg h3] at h; exact absurd rfl h
    rw [this]; decide
theorem go_b {s key : ByteArray} {sp : List Sp} {k : Nat} {last acc : List Ent} {R : List Ent × Int} {x : Sp} {r : ST} (hk : k < sp.length) (hx : sp.getD k sp0 = x) (hr : bodyB s x.at_ x.n = r) (hR : allGo s key (sp.drop k) last acc = R) (h : r.e ≠ 0) : R = ([], r.e) := by
  rw [← hR, drop_sp sp k hk, hx, allGo, hr, if_pos h]
theorem go_p {s key : ByteArray} {sp : List Sp} {k : Nat} {last acc : List Ent} {R : List Ent × Int} {x : Sp} {r : ST} {q : List Ent × Int} (hk : k < sp.length) (hx : sp.getD k sp0 = x) (hr : bodyB s x.at_ x.n = r) (hR : allGo s key (sp.drop k) last acc = R) (h : r.e = 0) (hq : parseE r.t = q) (h2 : q.2 ≠ 0) : R = ([], q.2) := by
  rw [← hR, drop_sp sp k hk, hx, allGo, hr, if_neg (fun hh => hh h), hq, if_pos h2]
theorem go_f {s key : ByteArray} {sp : List Sp} {k : Nat} {last acc : List Ent} {R : List Ent × Int} {x : Sp} {r : ST} {q : List Ent × Int} (hk : k < sp.length) (hx : sp.getD k sp0 = x) (hr : bodyB s x.at_ x.n = r) (hR : allGo s key (sp.drop k) last acc = R) (h : r.e = 0) (hq : parseE r.t = q) (h2 : q.2 = 0)
    (h3 : q.1 = [] ∨ (lastE q.1).key ≠ x.last ∨ (last ≠ [] ∧ lessE (lastE last) (q.1.getD 0 ent0) = false)) : R = ([], 4) := by
  rw [← hR, drop_sp sp k hk, hx, allGo, hr, if_neg (fun hh => hh h), hq, if_neg (fun hh => hh h2), if_pos h3]
theorem go_k {s key : ByteArray} {sp : List Sp} {k : Nat} {last acc : List Ent} {R : List Ent × Int} {x : Sp} {r : ST} {q : List Ent × Int} (hk : k < sp.length) (hx : sp.getD k sp0 = x) (hr : bodyB s x.at_ x.n = r) (hR : allGo s key (sp.drop k) last acc = R) (h : r.e = 0) (hq : parseE r.t = q) (h2 : q.2 = 0)
    (h3 : ¬ (q.1 = [] ∨ (lastE q.1).key ≠ x.last ∨ (last ≠ [] ∧ lessE (lastE last) (q.1.getD 0 ent0) = false))) : allGo s key (sp.drop (k + 1)) q.1 (acc ++ q.1.filter (fromK key)) = R := by
  rw [drop_sp sp k hk, hx, allGo, hr, if_neg (fun hh => hh h), hq, if_neg (fun hh => hh h2), if_neg h3] at hR
  exact hR

/-- between rounds -/
structure AO (w : World) (s key : ByteArray) (sp : List Sp) (R : List Ent × Int) (k : Nat) (v : Value) (wr : World) : Prop where
  ex : ∃ last acc p c, v = .slice p acc.length c ∧ allGo s key (sp.drop k) last acc = R ∧ (last = [] ∨ (lastE last).key.size ≠ 0) ∧ EBox wr w.heap.size 45 (lastE last) ∧ wr.ownsRow (w.heap.size + 1) 45 5 v acc.length (ecells acc) ∧ acc.length ≤ k * 4096
  bel : Below w.heap.size w wr
/-- between the rounds of a block -/
structure AI (w : World) (key : ByteArray) (lb : Nat) (la : Option Addr) (l acc0 : List Ent) (k j : Nat) (v : Value) (wr : World) : Prop where
  ex : ∃ acc p c, v = .slice p acc.length c ∧ acc = acc0 ++ (l.take j).filter (fromK key) ∧ wr.ownsRow (w.heap.size + 1) 45 5 v acc.length (ecells acc) ∧ acc.length ≤ k * 4096 + j
  ne : v.ownBlock ≠ some lb
  box : EBox wr w.heap.size 45 (lastE l)
  row : ERow wr la l.length (fun i => l.getD i ent0)
  bel : Below w.heap.size w wr

set_option maxHeartbeats 3200000 in
set_option maxRecDepth 100000 in
theorem all_any (tb : Nat) (g : Src) (s f : ByteArray) (hs : s.size ≤ 4611686018427387904) (sp : List Sp) (hss : SS sp) (hl : sp.length ≤ 65535) (key : ByteArray) (w : World) (h : TBox w tb g s sp f) :
    Calls Tryz.prog 25 #[.pointer (some ⟨tb, 0, none⟩), .string key] w (Ew.GotD w (allB s sp key)) := by
  obtain ⟨R, hR⟩ : ∃ R, allGo s key (sp.drop (whichB key sp)) [] [] = R := ⟨_, rfl⟩
  have hR2 : allB s sp key = R := hR
  rw [hR2]
  have HR := Lib.hid hR
  have HW := Lib.hid (fun W h => which_any tb g s f sp hss hl key W h)
  have hwl := which_le key sp
  generalize whichB key sp = p at HR HW hwl
  have HT := Lib.hid h
  clear hR hR2 h
  go_enter Tryz.func25, Tryz.ntmps25
  go_wp2_with fail
  generalize hW : World.alloc _ _ = W0
  have hE : EBox W0 w.heap.size 45 ent0 := by rw [← hW]; exact EBox.new w 45 ent0
  have hB : Below w.heap.size w W0 := by rw [← hW]; exact below_alloc (Below.refl _ _) _
  clear hW
  refine (HW.out _ (HT.out.below hB)).mono ?_
  rintro e w1 ⟨rfl, hb⟩
  have H0 : Hid (AO w s key sp R p (.slice none 0 0) w1) := ⟨⟨[], [], none, 0, rfl, HR.out, .inl rfl, hE.below hb, World.ownsRow_nil _ _ _ _, by simp⟩, chain hB hb⟩
  clear hE hB hb HW
  go_wp2_with fail
  go_loopw [8, 6] (fun si so wr => ∃ k : Nat, si = .int .i64 k ∧ k ≤ sp.length ∧ Hid (AO w s key sp R k so wr)) (fun si so _ => sp.length - (intOf si).toNat)
  case atStart => exact ⟨p, rfl, hwl, H0.out⟩
  case round =>
    obtain ⟨k, rfl, hk, hS⟩ := hrel
    obtain ⟨⟨last, acc, pa, pc, rfl, hR, hlast, hE, hO, hacc⟩, hB⟩ := hS.out
    clear hS H0
    have hT := HT.out.below hB
    obtain ⟨a, c, ⟨t0, t1, t2⟩, hr, _⟩ := hT.cells
    by_cases hlt : k < sp.length
    · have HBk := Lib.hid (fun W h => block_any tb g s f hs sp k W h)
      rw [blockB_in s hlt] at HBk
      obtain ⟨x, hx⟩ : ∃ x, sp.getD k sp0 = x := ⟨_, rfl⟩
      rw [hx] at HBk
      obtain ⟨r, hr'⟩ : ∃ r, bodyB s x.at_ x.n = r := ⟨_, rfl⟩
      have hrt := bodyB_t s x.at_ x.n
      rw [hr'] at HBk hrt
      by_cases e1 : r.e = 0
      case neg =>
        obtain rfl := go_b hlt hx hr' hR e1
        obtain ⟨rt, re⟩ := r
        simp only [retS] at HBk e1
        have d1 : (re != 0) = true := nt e1
        have HB := Lib.hid hB
        have HTk := Lib.hid hT
        clear hR hE hO hB hT hr hlast hr' hx
        go_wp2_with fail
        refine (HBk.out _ HTk.out).mono ?_
        rintro e w3 ⟨rfl, hb⟩
        have HB3 := Lib.hid (chain HB.out hb)
        clear hb
        go_wp2_with fail
        go_ret2
        exact ⟨none, 0, rfl, World.ownsRow_nil _ _ _ _, HB3.out⟩
      obtain ⟨rt, re⟩ := r
      simp only at e1 hrt
      subst e1
      simp only [retS] at HBk
      have HP := Lib.hid (fun W => Ew.parse_any rt (by omega) W)
      have hpg := @parse_good rt
      have hpl := parse_len rt
      obtain ⟨q, hq⟩ : ∃ q, parseE rt = q := ⟨_, rfl⟩
      rw [hq] at HP hpg hpl
      by_cases e2 : q.2 = 0
      case neg =>
        obtain rfl := go_p hlt hx hr' hR rfl hq e2
        obtain ⟨l, qe⟩ := q
        simp only at HP e2
        have d1 : (qe != 0) = true := nt e2
        have HB := Lib.hid hB
        have HTk := Lib.hid hT
        clear hR hE hO hB hT hr hlast hr' hx hpg
        go_wp2_with fail
        refine (HBk.out _ HTk.out).mono ?_
        rintro e w3 ⟨rfl, hb⟩
        have HB3 := Lib.hid (chain HB.out hb)
        clear hb
        go_wp2_with fail
        refine (HP.out _).mono ?_
        rintro e w4 ⟨la, lc, rfl, _, hb⟩
        have HB4 := Lib.hid (chain HB3.out hb)
        clear hb
        simp only
        go_wp2_with fail
        go_ret2
        exact ⟨none, 0, rfl, World.ownsRow_nil _ _ _ _, HB4.out⟩
      obtain ⟨l, qe⟩ := q
      simp only at HP e2 hpg hpl
      subst e2
      have hgood := hpg rfl
      have HG1 := Lib.hid (fun h3 => go_f hlt hx hr' hR rfl hq rfl h3)
      have HG2 := Lib.hid (fun h3 => go_k hlt hx hr' hR rfl hq rfl h3)
      simp only at HG1 HG2
      obtain ⟨ab, off, rfl, hab, hac⟩ := hr.at (by omega)
      have hx1 := (hac k hlt).1
      rw [hx] at hx1
      obtain ⟨xl, xa, xn⟩ := x
      simp only at hx1 HG1 HG2
      have HE := Lib.hid hE
      have HB := Lib.hid hB
      have HTk := Lib.hid hT
      have HO := Lib.hid hO
      have HL := Lib.hid hlast
      have HX1 := Lib.hid hx1
      have ht1 := hT.lt
      have T1 := Lib.hid t1
      clear hR hE hO hB hT hlast hr hr' hx hpg hac hx1 t0 t2 hq
      go_wp2_with fail
      refine (HBk.out _ HTk.out).mono ?_
      rintro e w3 ⟨rfl, hb3⟩
      go_wp2_with fail
      refine (HP.out _).mono ?_
      rintro e w4 ⟨la, lc, rfl, ho4, hb4⟩
      simp only at ho4
      have hbb := chain hb3 hb4
      have hB4 := chain HB.out hbb
      have HB4 := Lib.hid hB4
      have HE4 := Lib.hid (HE.out.below hbb)
      have HO4 := Lib.hid (own_below HO.out hbb)
      have HX4 := Lib.hid (kc HX1.out hbb)
      have T4 := Lib.hid (kc T1.out hbb)
      have HR4 := Lib.hid (own_erow ho4).2.2
      have hla : ∀ lb lo, la = some ⟨lb, lo, none⟩ → w3.heap.size ≤ lb := fun lb lo hh => by
        rcases ho4.2 with ⟨hv, _⟩ | ⟨g', cap, cur, hv, hg', _⟩
        · simp only [Value.slice.injEq] at hv; rw [hv.1] at hh; cases hh
        · simp only [Value.slice.injEq] at hv; rw [hv.1] at hh; cases hh; exact hg'
      have HLA := Lib.hid hla
      have hb3z := hb3.size
      have hwl0 := lt_of_block HE.out
      have HNL := Lib.hid (fun lb (h : wr.heap.size ≤ lb) => own_new HO.out h)
      clear hbb hB4 HB HE HO HX1 T1 HBk HP hla ho4 hb4 hb3
      by_cases l0 : l = []
      · obtain rfl : R = ([], 4) := HG1.out (.inl l0)
        subst l0
        go_wp2_with fail
        go_quiet (fail)
        go_wp2_with fail
        go_ret2
        exact ⟨none, 0, rfl, World.ownsRow_nil _ _ _ _, drewN HB4.out⟩
      · obtain ⟨m, hm⟩ : ∃ m, l.length = m + 1 := ⟨l.length - 1, by have : l.length ≠ 0 := fun hh => l0 (List.eq_nil_of_length_eq_zero hh); omega⟩
        obtain ⟨lb, lo, rfl, hlb, hlc⟩ := HR4.out.at (by omega)
        have hlbz := HLA.out lb lo rfl
        have em : IntKind.i64.wrap ((l.length : Int) - 1) = (m : Int) := by rw [IntWalk.i64_in _ (by omega)]; omega
        have z0 : ((l.length : Int) == 0) = false := ef (by omega)
        have hlm : lastE l = l.getD m ent0 := by unfold lastE; rw [hm]; rfl
        have hc1 := hlc m (by omega)
        rw [← hlm] at hc1
        have hc0 := hlc 0 (by omega)
        obtain ⟨y, hy⟩ : ∃ y, lastE l = y := ⟨_, rfl⟩
        obtain ⟨u, hu⟩ : ∃ u, l.getD 0 ent0 = u := ⟨_, rfl⟩
        rw [hy] at hc1
        rw [hu] at hc0
        simp only [hy, hu] at HG1 HG2
        have i1 : (0 : Int) ≤ (m : Int) := by omega
        have i2 : (m : Int) < (l.length : Int) := by omega
        have i3 : m < l.length := by omega
        have i4 : (0 : Int) < (l.length : Int) := by omega
        have i5 : 0 < l.length := by omega
        have j1 : (0 : Int) ≤ (k : Int) := by omega
        have j2 : (k : Int) < (sp.length : Int) := by omega
        have HM := Lib.hid hm
        obtain ⟨yk, yq, yg, yv, yu⟩ := y
        obtain ⟨uk, uq, ug, uv, uu⟩ := u
        simp only at hc1 hc0 HG1 HG2
        have HC1 := Lib.hid hc1
        have HC0 := Lib.hid hc0
        have HY := Lib.hid hy
        clear hlc hlm hc1 hc0 hy hu hm HLA
        have t4 := T4.out
        have x4 := HX4.out
        have y4 := HC1.out.1
        by_cases keq : yk = xl
        case neg =>
          obtain rfl : R = ([], 4) := HG1.out (.inr (.inl keq))
          have hne : (yk.toList == xl.toList) = false := beq_eq_false_iff_ne.2 fun e => keq (Ew.toList_inj e)
          go_wp2_with fail
          go_quiet (fail)
          go_wp2_with fail
          go_ret2
          exact ⟨none, 0, rfl, World.ownsRow_nil _ _ _ _, drewN HB4.out⟩
        subst keq
        have heq : (yk.toList == yk.toList) = true := by simp
        obtain ⟨bad, hbad⟩ : ∃ bad, bad = (decide (last ≠ []) && !lessE (lastE last) ⟨uk, uq, ug, uv, uu⟩) := ⟨_, rfl⟩
        have HBAD := Lib.hid hbad
        clear hbad
        have hsz4 : tb < w4.heap.size := by have := HB4.out.size; omega
        go_upto_region 14 with fail
        go_cut [46] (fun s46 wx => s46 = .bool bad ∧ Below w4.heap.size w4 wx)
        case first =>
          by_cases hln : last = []
          · subst hln
            obtain rfl : bad = false := by rw [HBAD.out]; rfl
            have q0 := HE4.out.cells.1
            have hk0 : (lastE []).key.toList.isEmpty = true := by rw [ByteArray.toList_eq]; rfl
            generalize (lastE []).key = zk at q0 hk0
            go_quiet (fail)
            go_wp2_with fail
            all_goals go_meet
            all_goals exact ⟨rfl, drewN (Below.refl _ _)⟩
          · have hkz : (lastE last).key.toList.isEmpty = false := by
              rcases HL.out with h | h
              · exact absurd h hln
              · rw [ByteArray.toList_eq]
                cases hh : (lastE last).key.data.toList.isEmpty with
                | false => rfl
                | true => exact absurd (by rw [show (lastE last).key.size = (lastE last).key.data.toList.length from by simp, List.isEmpty_iff.1 hh]; rfl) h
            have hb2 : bad = !lessE (lastE last) ⟨uk, uq, ug, uv, uu⟩ := by rw [HBAD.out]; simp [hln]
            obtain ⟨z0c, z1c, z2c, z3c, z4c⟩ := HE4.out.cells
            generalize lastE last = z at z0c z1c z2c z3c z4c hkz hb2
            obtain ⟨zk, zq, zg, zv, zu⟩ := z
            simp only at z0c z1c z2c z3c z4c hkz
            have HLE := Lib.hid (fun W => Ew.less_any zk zq zg zv zu uk uq ug uv uu W)
            generalize lessE ⟨zk, zq, zg, zv, zu⟩ ⟨uk, uq, ug, uv, uu⟩ = le at HLE hb2
            subst hb2
            have HS : Hid ((w4.cell? ⟨tb, 1, none⟩ = some (.slice (some ⟨ab, off, none⟩) sp.length c) ∧ w4.cell? ⟨ab, off + k * 3, none⟩ = some (.string yk) ∧ w4.cell? ⟨lb, lo + m * 5, none⟩ = some (.string yk)) ∧
              (w4.cell? ⟨w.heap.size, 0, none⟩ = some (.string zk) ∧ w4.cell? ⟨w.heap.size, 0 + 1, none⟩ = some (.int .i64 zq) ∧ w4.cell? ⟨w.heap.size, 0 + 2, none⟩ = some (.bool zg) ∧ w4.cell? ⟨w.heap.size, 0 + 3, none⟩ = some (.string zv) ∧ w4.cell? ⟨w.heap.size, 0 + 4, none⟩ = some (.int .i64 zu)) ∧
              (w4.cell? ⟨lb, lo, none⟩ = some (.string uk) ∧ w4.cell? ⟨lb, lo + 1, none⟩ = some (.int .i64 uq) ∧ w4.cell? ⟨lb, lo + 2, none⟩ = some (.bool ug) ∧ w4.cell? ⟨lb, lo + 3, none⟩ = some (.string uv) ∧ w4.cell? ⟨lb, lo + 4, none⟩ = some (.int .i64 uu))) := ⟨⟨t4, x4, y4⟩, ⟨z0c, z1c, z2c, z3c, z4c⟩, by have := HC0.out; simpa using this⟩
            go_region_held3 (fun w' => (w'.cell? ⟨tb, 1, none⟩ = some (.slice (some ⟨ab, off, none⟩) sp.length c) ∧ w'.cell? ⟨ab, off + k * 3, none⟩ = some (.string yk) ∧ w'.cell? ⟨lb, lo + m * 5, none⟩ = some (.string yk)) ∧
              (w'.cell? ⟨w.heap.size, 0, none⟩ = some (.string zk) ∧ w'.cell? ⟨w.heap.size, 0 + 1, none⟩ = some (.int .i64 zq) ∧ w'.cell? ⟨w.heap.size, 0 + 2, none⟩ = some (.bool zg) ∧ w'.cell? ⟨w.heap.size, 0 + 3, none⟩ = some (.string zv) ∧ w'.cell? ⟨w.heap.size, 0 + 4, none⟩ = some (.int .i64 zu)) ∧
              (w'.cell? ⟨lb, lo, none⟩ = some (.string uk) ∧ w'.cell? ⟨lb, lo + 1, none⟩ = some (.int .i64 uq) ∧ w'.cell? ⟨lb, lo + 2, none⟩ = some (.bool ug) ∧ w'.cell? ⟨lb, lo + 3, none⟩ = some (.string uv) ∧ w'.cell? ⟨lb, lo + 4, none⟩ = some (.int .i64 uu)))
              (first | exact HS.out | (obtain ⟨⟨h1, h2, h3⟩, ⟨h4, h5, h6, h7, h8⟩, h9, h10, h11, h12, h13⟩ := HS.out; exact ⟨⟨kc (W := w4.drew) h1 hb5, kc (W := w4.drew) h2 hb5, kc (W := w4.drew) h3 hb5⟩, ⟨kc (W := w4.drew) h4 hb5, kc (W := w4.drew) h5 hb5, kc (W := w4.drew) h6 hb5, kc (W := w4.drew) h7 hb5, kc (W := w4.drew) h8 hb5⟩, kc (W := w4.drew) h9 hb5, kc (W := w4.drew) h10 hb5, kc (W := w4.drew) h11 hb5, kc (W := w4.drew) h12 hb5, kc (W := w4.drew) h13 hb5⟩))
              (first | (go_at_call 84; refine (HLE.out _).mono ?_; rintro e w5 ⟨rfl, hb5⟩))
            all_goals
              have hz : Below w4.heap.size w4 w5 := (Below.refl w4.heap.size w4).drew.trans hb5
              clear hb5
              go_wp2_with fail
              all_goals go_meet
              all_goals exact ⟨rfl, hz⟩
        case rest =>
        obtain ⟨rfl, hcb⟩ := hcut
        have HB5 := Lib.hid (chain HB4.out hcb)
        have hE5 := HE4.out.below hcb
        have HE5 := Lib.hid hE5
        have HO5 := Lib.hid (own_below HO4.out hcb)
        have HR5 := Lib.hid (HR4.out.below hcb)
        have hC5 : wc.cell? ⟨lb, lo + m * 5, none⟩ = some (.string yk) ∧ wc.cell? ⟨lb, lo + m * 5 + 1, none⟩ = some (.int .i64 yq) ∧ wc.cell? ⟨lb, lo + m * 5 + 2, none⟩ = some (.bool yg) ∧ wc.cell? ⟨lb, lo + m * 5 + 3, none⟩ = some (.string yv) ∧ wc.cell? ⟨lb, lo + m * 5 + 4, none⟩ = some (.int .i64 yu) :=
          ⟨kc HC1.out.1 hcb, kc HC1.out.2.1 hcb, kc HC1.out.2.2.1 hcb, kc HC1.out.2.2.2.1 hcb, kc HC1.out.2.2.2.2 hcb⟩
        have hlbw : lb < wc.heap.size := by have := hcb.size; omega
        clear hcb HB4 HE4 HO4 HR4 T4 HX4 t4 x4 y4 HC0
        cases bad with
        | true =>
          obtain rfl : R = ([], 4) := HG1.out (.inr (.inr (by
            have := HBAD.out.symm
            rw [Bool.and_eq_true] at this
            exact ⟨of_decide_eq_true this.1, by simpa using this.2⟩)))
          clear hE5 hC5
          go_wp2_with fail
          go_ret2
          exact ⟨none, 0, rfl, World.ownsRow_nil _ _ _ _, HB5.out⟩
        | false =>
          have HRN := Lib.hid (HG2.out (by
            rintro (h | h | ⟨h1, h2⟩)
            · exact l0 h
            · exact h rfl
            · have := HBAD.out
              rw [h2] at this
              simp [h1] at this))
          have hkey : (lastE l).key.size ≠ 0 := by
            have h1 := goodE_0 (nextE_0 (hgood m i3)).1
            have h2 : lastE l = l.getD m ent0 := by unfold lastE; rw [HM.out]; rfl
            rw [h2]; omega
          have HKEY := Lib.hid hkey
          have hbw : w.heap.size ≤ wc.heap.size := HB5.out.size
          obtain ⟨q0, q1, q2, q3, q4⟩ := hE5.cells
          obtain ⟨z1, z2, z3, z4, z5⟩ : _ ∧ _ ∧ _ ∧ _ ∧ _ := ⟨hE5.fz 0, hE5.fz 1, hE5.fz 2, hE5.fz 3, hE5.fz 4⟩
          obtain ⟨r0, r1, r2, r3, r4⟩ := hC5
          have HN1 := Lib.hid (own_nb HO5.out (Nat.lt_succ_self _))
          have hlbe : lb ≠ w.heap.size := by omega
          have HI : Hid (AI w key lb (some ⟨lb, lo, none⟩) l acc k 0 (.slice pa acc.length pc) (set5 wc w.heap.size 0 ⟨yk, yq, yg, yv, yu⟩)) := by
            refine ⟨⟨acc, pa, pc, rfl, by simp, own_set5L HO5.out HN1.out _, by omega⟩, ?_, ?_, erow_blk HR5.out (heap_set5 _ _ _ _ hlbe), below_set5 HB5.out (Nat.le_refl _) _⟩
            · exact HNL.out lb (by omega)
            · rw [HY.out]; exact HE5.out.set5 _
          clear hE5 hkey hgood HBAD HG1 HG2
          go_wp2_with fail
          go_loopw [6, 89] (fun so sj wr2 => ∃ j : Nat, sj = .int .i64 j ∧ j ≤ l.length ∧ Hid (AI w key lb (some ⟨lb, lo, none⟩) l acc k j so wr2)) (fun so sj _ => l.length - (intOf sj).toNat)
          case atStart => exact ⟨0, rfl, by omega, HI.out⟩
          case round =>
            obtain ⟨j, rfl, hj, hS⟩ := hrel
            obtain ⟨⟨acc2, pb, pd, rfl, hac2, hO2, hln2⟩, hN2, hE2, hR2, hB2⟩ := hS.out
            clear hS HI
            by_cases hjl : j < l.length
            · obtain ⟨b9, o9, hq9, hlb2, hlc2⟩ := hR2.at (by omega)
              simp only [Option.some.injEq, Addr.mk.injEq, and_true] at hq9
              obtain ⟨rfl, rfl⟩ := hq9
              have hd := hlc2 j hjl
              obtain ⟨e, he⟩ : ∃ e, l.getD j ent0 = e := ⟨_, rfl⟩
              rw [he] at hd
              obtain ⟨fb, hfb⟩ : ∃ fb, fromK key (l.getD j ent0) = fb := ⟨_, rfl⟩
              have HF := Lib.hid (filt_step key l j hjl fb hfb)
              rw [he] at HF hfb
              obtain ⟨ek, eq, eg, ev, eu⟩ := e
              simp only at hd
              obtain ⟨d0, d1, d2, d3, d4⟩ := hd
              have i1 : (0 : Int) ≤ (j : Int) := by omega
              have i2 : (j : Int) < (l.length : Int) := by omega
              have hge := lssS ek key
              have hfb2 : decide (cmpK ek key < 0) = !fb := by rw [← hfb]; unfold fromK; simp
              rw [hfb2] at hge
              have HAC := Lib.hid hac2
              have HO2 := Lib.hid hO2
              have HN2 := Lib.hid hN2
              have HE2 := Lib.hid hE2
              have HR2 := Lib.hid hR2
              have HB2 := Lib.hid hB2
              have hw2 := hB2.size
              have hel := lt_of_block hE2
              clear hlc2 he hfb hfb2 hac2 hO2 hN2 hE2 hR2 hB2
              cases fb with
              | false =>
                have hge2 : Op.bytesLess ek.toList key.toList = true := hge
                clear hge
                have HI2 : Hid (AI w key lb (some ⟨lb, lo, none⟩) l acc k (j + 1) (.slice pb acc2.length pd) (wr.alloc (.cells #[.string ek, .int .i64 eq, .bool eg, .string ev, .int .i64 eu] 45))) :=
                  ⟨⟨acc2, pb, pd, rfl, by rw [HF.out, HAC.out]; simp, HO2.out.alloc _, by omega⟩, HN2.out, blk_alloc HE2.out, HR2.out.below ((Below.refl _ _).alloc (Nat.le_refl _) _), below_alloc HB2.out _⟩
                go_wp2_with fail
                go_roundw
                case rel => exact ⟨j + 1, by go_num, by omega, HI2.out⟩
                case measure => simp [intOf]; omega
              | true =>
                have hge2 : Op.bytesLess ek.toList key.toList = false := hge
                clear hge
                have HO3 := Lib.hid (HO2.out.alloc (.cells #[.string ek, .int .i64 eq, .bool eg, .string ev, .int .i64 eu] 45))
                have hacb : acc2.length + 1 ≤ 268435456 := by omega
                go_wp2_with (at_builtin; refine wpList_pushL rfl _ _ 33 rfl Tryz.underlying33 Ew.info45 rfl (by decide) rfl #[.string ek, .int .i64 eq, .bool eg, .string ev, .int .i64 eu] rfl ?c1 rfl ?c0 HO3.out ?c2 ?c3 ?c4 ?_)
                case c1 => simp [Value.oneCell']
                case c3 => unfold maxLen; omega
                case c4 => first | omega | simp
                intro g7 cap7 w7 hO7 hg7 hb7 hn7
                have HI2 : Hid (AI w key lb (some ⟨lb, lo, none⟩) l acc k (j + 1) (.slice (some ⟨g7, 0, none⟩) (acc2 ++ [(⟨ek, eq, eg, ev, eu⟩ : Ent)]).length cap7) w7) := by
                  refine ⟨⟨acc2 ++ [(⟨ek, eq, eg, ev, eu⟩ : Ent)], some ⟨g7, 0, none⟩, cap7, rfl, by rw [HF.out, HAC.out]; simp, ?_, by simp; omega⟩, ?_, ?_, ?_, ?_⟩
                  · rw [List.length_append, List.length_singleton, ecells_snoc]; exact hO7
                  · rcases hn7 with hn7 | hn7
                    · intro hh
                      simp only [Value.ownBlock, Option.some.injEq] at hh
                      subst hh
                      exact HN2.out hn7
                    · intro hh
                      simp only [Value.ownBlock, Option.some.injEq] at hh
                      first | omega | (simp at hn7; omega)
                  · exact blk_grown hg7 (blk_alloc HE2.out) (own_nb HO2.out (Nat.lt_succ_self _))
                  · exact erow_blk HR2.out ((hg7.block lb (by simp; omega) (fun e => HN2.out e.symm)).trans (Below.heap_alloc wr _ lb hlb2))
                  · exact (below_alloc HB2.out _).trans (hb7.mono (Nat.le_succ _))
                rw [List.length_append, List.length_singleton] at HI2
                clear hO7 hg7 hb7 hn7
                go_wp2_with fail
                go_roundw
                case rel => exact ⟨j + 1, by go_num, by omega, HI2.out⟩
                case measure => simp [intOf]; omega
            · obtain rfl : j = l.length := by omega
              rw [List.take_length] at hac2
              have HAO : Hid (AO w s key sp R (k + 1) (.slice pb acc2.length pd) wr) := ⟨⟨l, acc2, pb, pd, rfl, by rw [hac2]; exact HRN.out, .inr HKEY.out, hE2, hO2, by omega⟩, hB2⟩
              clear hE2 hO2 hB2 hR2 hN2
              go_wp2_with fail
              go_roundw
              case rel => exact ⟨k + 1, by go_num, by omega, HAO.out⟩
              case measure => simp [intOf]; omega
    · obtain rfl : k = sp.length := by omega
      have hRR : R = (acc, 0) := by rw [← hR, List.drop_length]; rfl
      subst hRR
      have HO := Lib.hid (own_weak hO (Nat.le_succ _))
      have HB := Lib.hid hB
      clear hR hE hO hB hT hr hlast
      go_wp2_with fail
      go_ret2
      exact ⟨pa, pc, rfl, HO.out, HB.out⟩
end Go.Proofs.YtpihmjdljbienaaGreatDoor.Tw
