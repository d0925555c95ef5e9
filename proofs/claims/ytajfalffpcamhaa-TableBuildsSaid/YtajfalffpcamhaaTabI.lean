/- The walks of the program's spans. -/
import Derived.Test.YtajfalffpcamhaaTabS
import Derived.Test.YtajfalffpcamhaaVarint
import Derived.Test.YtajfalffpcamhaaGb
import Derived.Deep.RegionHeld3
namespace Go.Proofs.Ytajfalffpcamhaa.Tw
open Go.RowKit
open Tb Fp Fw Vp Vw B En
set_option linter.unusedVariables false

/-! blocks in memory -/
def Sp.cells (x : Sp) : List Value := [.string x.last, .int .i64 x.at_, .int .i64 x.n]
def scells (l : List Sp) : List Value := l.flatMap Sp.cells
theorem scells_snoc (l : List Sp) (x : Sp) : scells (l ++ [x]) = scells l ++ Sp.cells x := by simp [scells]
theorem scells_len (l : List Sp) : (scells l).length = l.length * 3 := by
  induction l with
  | nil => rfl
  | cons e t ih => simp only [scells, List.flatMap_cons, List.length_append] at ih ⊢; rw [ih]; simp [Sp.cells]; omega
theorem scells_at (l : List Sp) (i j : Nat) (h : i < l.length) (hj : j < 3) : (scells l)[i * 3 + j]? = (Sp.cells (l.getD i sp0))[j]? := by
  induction l generalizing i with
  | nil => simp at h
  | cons e t ih =>
    have hl : (Sp.cells e).length = 3 := rfl
    show (Sp.cells e ++ scells t)[i * 3 + j]? = _
    cases i with
    | zero => rw [List.getElem?_append_left (by omega)]; simp
    | succ i =>
      rw [List.getElem?_append_right (by omega), show (i + 1) * 3 + j - (Sp.cells e).length = i * 3 + j from by omega]
      exact ih i (by simpa using h)
/-- blocks, wherever they lie -/
def SRow (w : World) (a : Option Addr) (l : List Sp) : Prop :=
  l.length = 0 ∨ ∃ b off, a = some ⟨b, off, Option.none⟩ ∧ b < w.heap.size ∧ ∀ i, i < l.length →
    w.cell? ⟨b, off + i * 3, Option.none⟩ = some (.string (l.getD i sp0).last) ∧ w.cell? ⟨b, off + i * 3 + 1, Option.none⟩ = some (.int .i64 (l.getD i sp0).at_) ∧ w.cell? ⟨b, off + i * 3 + 2, Option.none⟩ = some (.int .i64 (l.getD i sp0).n)
theorem SRow.below {w w' : World} {a : Option Addr} {l : List Sp} (h : SRow w a l) (k : Below w.heap.size w w') : SRow w' a l := by
  rcases h with h | ⟨b, off, ha, hb, hc⟩
  · exact .inl h
  · refine .inr ⟨b, off, ha, Nat.lt_of_lt_of_le hb k.size, fun i hi => ?_⟩
    obtain ⟨h0, h1, h2⟩ := hc i hi
    exact ⟨(k.cell (p := ⟨b, off + i * 3, Option.none⟩) hb).trans h0, (k.cell (p := ⟨b, off + i * 3 + 1, Option.none⟩) hb).trans h1, (k.cell (p := ⟨b, off + i * 3 + 2, Option.none⟩) hb).trans h2⟩
theorem SRow.at {w : World} {a : Option Addr} {l : List Sp} (h : SRow w a l) (hn : 0 < l.length) : ∃ b off, a = some ⟨b, off, Option.none⟩ ∧ b < w.heap.size ∧ ∀ i, i < l.length →
    w.cell? ⟨b, off + i * 3, Option.none⟩ = some (.string (l.getD i sp0).last) ∧ w.cell? ⟨b, off + i * 3 + 1, Option.none⟩ = some (.int .i64 (l.getD i sp0).at_) ∧ w.cell? ⟨b, off + i * 3 + 2, Option.none⟩ = some (.int .i64 (l.getD i sp0).n) := by
  rcases h with h | h
  · omega
  · exact h
theorem own_srow {w : World} {B n : Nat} {e : TypeId} {a : Option Addr} {m cap : Nat} {l : List Sp} (h : w.ownsRow B e 3 (.slice a m cap) n (scells l)) : m = n ∧ n = l.length ∧ SRow w a l := by
  have hl := h.1
  rw [scells_len] at hl
  have hn : n = l.length := by omega
  rcases h.2 with ⟨hv, h0⟩ | ⟨g, cap', cur, hv, hB, hg, hnc, hm, hs, ht⟩
  · cases hv; exact ⟨h0.symm, hn, .inl (by omega)⟩
  · cases hv
    refine ⟨rfl, hn, .inr ⟨g, 0, rfl, lt_of_block hg, fun i hi => ?_⟩⟩
    have key : ∀ j, j < 3 → w.cell? ⟨g, 0 + i * 3 + j, Option.none⟩ = (Sp.cells (l.getD i sp0))[j]? := by
      intro j hj
      have h2 := World.ownsRow.cellAt (w := w) (base := B) (e := e) (size := 3) (g := g) (n := n) (cap := cap) (xs := scells l) ⟨h.1, .inr ⟨g, cap, cur, rfl, hB, hg, hnc, hm, hs, ht⟩⟩ (i * 3 + j) (by omega)
      rw [Nat.zero_add, h2, ← scells_at l i j (by omega) hj]
    exact ⟨key 0 (by omega), key 1 (by omega), key 2 (by omega)⟩

/-! one round, case by case -/
theorem round_t {s : ByteArray} {fin : Nat} {a : Int} {out : List Sp} {b : Nat} (h : (getT s a).e ≠ 0) : roundB s fin a out b = ⟨sp0, 0, (getT s a).e⟩ := if_pos h
theorem round_f {s : ByteArray} {fin : Nat} {a : Int} {out : List Sp} {b : Nat} (h0 : (getT s a).e = 0) (h : (getS s (getT s a).next).e ≠ 0) : roundB s fin a out b = ⟨sp0, 0, (getS s (getT s a).next).e⟩ := by
  unfold roundB; rw [if_neg (by simp [h0]), if_pos h]
theorem round_n {s : ByteArray} {fin : Nat} {a : Int} {out : List Sp} {b : Nat} (h0 : (getT s a).e = 0) (h1 : (getS s (getT s a).next).e = 0) (h : (getS s (getS s (getT s a).next).next).e ≠ 0) :
    roundB s fin a out b = ⟨sp0, 0, (getS s (getS s (getT s a).next).next).e⟩ := by
  unfold roundB; rw [if_neg (by simp [h0]), if_neg (by simp [h1]), if_pos h]
theorem round_no {s : ByteArray} {fin : Nat} {a : Int} {out : List Sp} {b : Nat} (h0 : (getT s a).e = 0) (h1 : (getS s (getT s a).next).e = 0) (h2 : (getS s (getS s (getT s a).next).next).e = 0)
    (h : okB fin b out (getT s a).t (getS s (getT s a).next).n (getS s (getS s (getT s a).next).next).n = false) : roundB s fin a out b = ⟨sp0, 0, 4⟩ := by
  unfold roundB; rw [if_neg (by simp [h0]), if_neg (by simp [h1]), if_neg (by simp [h2]), if_neg (by simp [h])]
theorem round_ok {s : ByteArray} {fin : Nat} {a : Int} {out : List Sp} {b : Nat} (h0 : (getT s a).e = 0) (h1 : (getS s (getT s a).next).e = 0) (h2 : (getS s (getS s (getT s a).next).next).e = 0)
    (h : okB fin b out (getT s a).t (getS s (getT s a).next).n (getS s (getS s (getT s a).next).next).n = true) :
    roundB s fin a out b = ⟨⟨(getT s a).t, b, (getS s (getS s (getT s a).next).next).n.toNat⟩, (getS s (getS s (getT s a).next).next).next, 0⟩ := by
  unfold roundB; rw [if_neg (by simp [h0]), if_neg (by simp [h1]), if_neg (by simp [h2]), if_pos h]
theorem rounds_bad {s : ByteArray} {fin k : Nat} {a : Int} {out : List Sp} {b : Nat} {R : LS} {r : RR} (hR : roundsB s fin (k + 1) a out b = R) (hr : roundB s fin a out b = r) (h : r.e ≠ 0) : closeB s fin R = ([], r.e) := by
  rw [roundsB, hr, if_pos h] at hR
  rw [← hR]; unfold closeB; rw [if_pos h]
theorem rounds_ok {s : ByteArray} {fin k : Nat} {a : Int} {out : List Sp} {b : Nat} {R : LS} {r : RR} (hR : roundsB s fin (k + 1) a out b = R) (hr : roundB s fin a out b = r) (h : r.e = 0) : roundsB s fin k r.next (out ++ [r.x]) (b + r.x.n) = R := by
  rw [roundsB, hr, if_neg (by simp [h])] at hR
  exact hR
theorem leqS (x y : ByteArray) : (Op.bytesLess x.toList y.toList || x.toList == y.toList) = !decide (cmpK y x < 0) := by
  rw [ByteArray.toList_eq, ByteArray.toList_eq, less_cmp]
  have h0 := cmpK_neg x y
  have h1 := cmpK_0 x y
  have h2 : (x.data.toList == y.data.toList) = decide (cmpK x y = 0) := by
    by_cases h : x = y
    · subst h; simp [(cmpK_0 x x).2 rfl]
    · have : x.data.toList ≠ y.data.toList := fun e => h (ba_ext e)
      have h3 : cmpK x y ≠ 0 := fun e => h (h1.1 e)
      simp [h3]; simpa using this
  rw [h2, h0]
  show (decide (cmpK x y < 0) || _) = _
  generalize cmpK x y = c
  by_cases c1 : c < 0
  · simp [c1]; omega
  · by_cases c2 : c = 0
    · simp [c2]
    · simp [c1, c2]; omega
theorem lssS (x y : ByteArray) : Op.bytesLess x.toList y.toList = decide (cmpK x y < 0) := by
  rw [ByteArray.toList_eq, ByteArray.toList_eq, less_cmp]; rfl

/-! the closure that reads the next number -/
theorem num1_ok (ib ab : Nat) (s : ByteArray) (hs : s.size ≤ 4611686018427387904) (a : Int) {g : G} (hg : getS s a = g) (h : g.e = 0) (w : World) (hi : Cell1 w ib 9 (.string s)) (ha : Cell1 w ab 3 (.int .i64 a)) :
    Calls Try.prog 78 #[.pointer (some ⟨ib, 0, none⟩), .pointer (some ⟨ab, 0, none⟩)] w fun e w' => e = .returned (.int .i64 g.n) ∧ Cell1 w' ab 3 (.int .i64 g.next) ∧ Only ab w w' := by
  have HG := Lib.hid (Vw.get_any s a hs w)
  rw [hg] at HG
  obtain ⟨n, x, e⟩ := g
  simp only at h
  subst h
  have HA := Lib.hid ha
  have c0 := hi.cell
  have c1 := ha.cell
  have f1 := ha.fz
  clear hi ha hg
  go_enter Try.func78, Try.ntmps78
  go_wp2_with fail
  refine HG.out.mono ?_
  rintro e w1 ⟨rfl, rfl⟩
  simp only [ret3]
  go_wp2_with fail
  refine (must_ok _).mono ?_
  rintro e w2 ⟨rfl, rfl⟩
  go_wp2_with fail
  go_ret
  exact ⟨rfl, HA.out.set _, (Only.refl _ _).set 0 _⟩
theorem num1_bad (ib ab : Nat) (s : ByteArray) (hs : s.size ≤ 4611686018427387904) (a : Int) {g : G} (hg : getS s a = g) (h : g.e ≠ 0) (w : World) (hi : Cell1 w ib 9 (.string s)) (ha : Cell1 w ab 3 (.int .i64 a)) :
    Calls Try.prog 78 #[.pointer (some ⟨ib, 0, none⟩), .pointer (some ⟨ab, 0, none⟩)] w fun e w' => e = pan 108 g.e ∧ w = w' := by
  have HG := Lib.hid (Vw.get_any s a hs w)
  rw [hg] at HG
  obtain ⟨n, x, e⟩ := g
  simp only at h
  have c0 := hi.cell
  have c1 := ha.cell
  clear hi ha hg
  go_enter Try.func78, Try.ntmps78
  go_wp2_with fail
  refine HG.out.mono ?_
  rintro e w1 ⟨rfl, rfl⟩
  simp only [ret3]
  go_wp2_with fail
  refine (must_bad _ h _).mono ?_
  rintro e w2 ⟨rfl, rfl⟩
  go_wp2_with fail
  exact ⟨rfl, rfl, rfl⟩
end Go.Proofs.Ytajfalffpcamhaa.Tw
