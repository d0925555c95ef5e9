/- Several texts in one: TabS, TabI. -/
import Derived.Test.YtpihmjdljbienaaGreatDoorGa
import Derived.Test.YtpihmjdljbienaaGreatDoorGc
import Derived.Test.YtpihmjdljbienaaGreatDoorGb
import Derived.Deep.QuietTactic
import Derived.BigQuiet
import Derived.Test.YtpihmjdljbienaaGreatDoorVarint
import Derived.Deep.RegionHeld3
/- The walks of what reads a table's bytes: Part, source's closure, body, must, place, and the reference's. -/
namespace Go.Proofs.YtpihmjdljbienaaGreatDoor.Tw
open Go.RowKit
open Tb Fp Fw B En
set_option linter.unusedVariables false

def retS (r : ST) : Ending := .returned (.tuple #[.string r.t, .int .i64 r.e])

/-- a source of bytes: a function value that tells the parts of s, what it captured, and what of the world it stands on -/
structure Src where
  f : FuncId
  caps : Array Value
  I : ByteArray → World → Prop
  enter : ∀ (args : Array Value) (W : World), Sem.run Tryz.prog (callFunc f args) W = .ok (.enter f args) W
  below : ∀ {s : ByteArray} {w w' : World}, I s w → Below w.heap.size w w' → I s w'
  call : ∀ (s : ByteArray) (a n : Int) (w : World), s.size ≤ 4611686018427387904 → I s w → Calls Tryz.prog f (#[.int .i64 a, .int .i64 n] ++ caps) w fun e w' => e = retS (partB s a n) ∧ Below w.heap.size w w'
theorem partB_size (s : ByteArray) (a n : Int) : (partB s a n).t.size ≤ s.size := by
  unfold partB
  split
  · exact Nat.zero_le _
  · simp only [ByteArray.size_extract]; omega

theorem bodyB_bad {s : ByteArray} {a n : Int} (h : (partB s a n).e ≠ 0) : bodyB s a n = ⟨str [], (partB s a n).e⟩ := if_pos h
theorem bodyB_get {s : ByteArray} {a n : Int} (h : (partB s a n).e = 0) : bodyB s a n = frameB (partB s a n).t n := if_neg (by rw [h]; decide)

set_option maxHeartbeats 400000 in
theorem body_any (g : Src) (s : ByteArray) (hs : s.size ≤ 4611686018427387904) (a n : Int) (w : World) (hc : g.I s w) :
    Calls Tryz.prog 123 #[.func (.func g.f) #[] g.caps, .int .i64 a, .int .i64 n] w fun e w' => e = retS (bodyB s a n) ∧ Below w.heap.size w w' := by
  have HP := Lib.hid (g.call s a n w hs hc)
  have hcall := g.enter
  have hps := partB_size s a n
  clear hc
  by_cases h1 : (partB s a n).e = 0
  · rw [bodyB_get h1]
    generalize partB s a n = p at HP h1 hps
    obtain ⟨p, pe⟩ := p
    simp only at h1 hps
    subst h1
    have HG := Lib.hid (fun W => Fw.get_any p 0 (by omega) W)
    unfold frameB
    generalize getF p 0 = q at HG
    obtain ⟨q, qx, qe⟩ := q
    simp only
    by_cases h2 : qe = 0
    · subst h2
      by_cases h3 : qx = n
      · subst h3
        have d3 : (qx != qx) = false := nf rfl
        go_enter Tryz.func123, Tryz.ntmps123
        go_wp2_with fail
        refine HP.out.mono ?_
        rintro e w1 ⟨rfl, hb⟩
        simp only [retS]
        go_wp2_with fail
        refine (HG.out _).mono ?_
        rintro e w2 ⟨rfl, m, rfl⟩
        simp only [retF]
        go_wp2_with fail
        go_ret2
        exact ⟨by simp [retS], drewN hb⟩
      · have d3 : (qx != n) = true := nt h3
        go_enter Tryz.func123, Tryz.ntmps123
        go_wp2_with fail
        refine HP.out.mono ?_
        rintro e w1 ⟨rfl, hb⟩
        simp only [retS]
        go_wp2_with fail
        refine (HG.out _).mono ?_
        rintro e w2 ⟨rfl, m, rfl⟩
        simp only [retF]
        go_wp2_with fail
        go_ret2
        exact ⟨by simp [retS]; rfl, drewN hb⟩
    · have d2 : (qe != 0) = true := nt h2
      go_enter Tryz.func123, Tryz.ntmps123
      go_wp2_with fail
      refine HP.out.mono ?_
      rintro e w1 ⟨rfl, hb⟩
      simp only [retS]
      go_wp2_with fail
      refine (HG.out _).mono ?_
      rintro e w2 ⟨rfl, m, rfl⟩
      simp only [retF]
      go_wp2_with fail
      go_ret2
      exact ⟨by simp [retS]; rfl, drewN hb⟩
  · rw [bodyB_bad h1]
    generalize partB s a n = p at HP h1 hps
    obtain ⟨p, pe⟩ := p
    simp only at h1 hps
    have d2 : (pe != 0) = true := nt h1
    go_enter Tryz.func123, Tryz.ntmps123
    go_wp2_with fail
    refine HP.out.mono ?_
    rintro e w1 ⟨rfl, hb⟩
    simp only [retS]
    go_wp2_with fail
    go_ret2
    exact ⟨rfl, hb⟩

/-! what leaves by a panic -/
theorem must_ok (w : World) : Calls Tryz.prog 124 #[.int .i64 0] w fun e w' => e = .returned (.tuple #[]) ∧ w = w' := by
  go_enter Tryz.func124, Tryz.ntmps124
  go_wp2_with fail
  go_end0
  exact ⟨rfl, rfl⟩
theorem must_bad (x : Int) (h : x ≠ 0) (w : World) : Calls Tryz.prog 124 #[.int .i64 x] w fun e w' => e = pan 140 x ∧ w = w' := by
  have d : (x != 0) = true := nt h
  go_enter Tryz.func124, Tryz.ntmps124
  go_wp2_with fail
  exact ⟨rfl, rfl, rfl⟩
theorem mustBe_ok (w : World) : Calls Tryz.prog 79 #[.bool true] w fun e w' => e = .returned (.tuple #[]) ∧ w = w' := by
  go_enter Tryz.func79, Tryz.ntmps79
  go_wp2_with fail
  go_end0
  exact ⟨rfl, rfl⟩
theorem mustBe_bad (w : World) : Calls Tryz.prog 79 #[.bool false] w fun e w' => e = pan 140 4 ∧ w = w' := by
  go_enter Tryz.func79, Tryz.ntmps79
  go_wp2_with fail
  refine (must_bad 4 (by decide) _).mono ?_
  rintro e w1 ⟨rfl, rfl⟩
  go_wp2_with fail
  exact ⟨rfl, rfl, rfl⟩
theorem mustBody_ok (g : Src) (s : ByteArray) (hs : s.size ≤ 4611686018427387904) (a n : Int) {r : ST} (hr : bodyB s a n = r) (h : r.e = 0) (w : World) (hc : g.I s w) :
    Calls Tryz.prog 77 #[.func (.func g.f) #[] g.caps, .int .i64 a, .int .i64 n] w fun e w' => e = .returned (.string r.t) ∧ Below w.heap.size w w' := by
  have HP := Lib.hid (body_any g s hs a n w hc)
  rw [hr] at HP
  obtain ⟨r, re⟩ := r
  simp only at h
  subst h
  clear hr hc
  go_enter Tryz.func77, Tryz.ntmps77
  go_wp2_with fail
  refine HP.out.mono ?_
  rintro e w1 ⟨rfl, hb⟩
  simp only [retS]
  go_wp2_with fail
  refine (must_ok _).mono ?_
  rintro e w2 ⟨rfl, rfl⟩
  go_wp2_with fail
  go_ret
  exact ⟨rfl, hb⟩
theorem mustBody_bad (g : Src) (s : ByteArray) (hs : s.size ≤ 4611686018427387904) (a n : Int) {r : ST} (hr : bodyB s a n = r) (h : r.e ≠ 0) (w : World) (hc : g.I s w) :
    Calls Tryz.prog 77 #[.func (.func g.f) #[] g.caps, .int .i64 a, .int .i64 n] w fun e w' => e = pan 140 r.e ∧ Below w.heap.size w w' := by
  have HP := Lib.hid (body_any g s hs a n w hc)
  rw [hr] at HP
  obtain ⟨r, re⟩ := r
  simp only at h
  clear hr hc
  go_enter Tryz.func77, Tryz.ntmps77
  go_wp2_with fail
  refine HP.out.mono ?_
  rintro e w1 ⟨rfl, hb⟩
  simp only [retS]
  go_wp2_with fail
  refine (must_bad re h _).mono ?_
  rintro e w2 ⟨rfl, rfl⟩
  go_wp2_with fail
  exact ⟨rfl, rfl, hb⟩

/-! the number of eight bytes -/
theorem shl8 (u x : Nat) (hu : u < 72057594037927936) (hx : x < 256) : bits .or .u64 ((u : Int) * 256) (x : Int) = ((u * 256 + x : Nat) : Int) := by
  have e : (u : Int) * 256 = ((u * 256 : Nat) : Int) := by omega
  rw [e, u64_or_nat _ _ (by omega) (by omega), nat_join 8 _ _ (by omega) (by omega)]
theorem num8_bd (s : ByteArray) (i : Nat) (hi : i ≤ 7) : num8 (s.data.toList.take i) < 72057594037927936 := by
  have h := num8_lt (s.data.toList.take i)
  have h2 : (s.data.toList.take i).length ≤ 7 := by rw [List.length_take]; omega
  refine Nat.lt_of_lt_of_le h ?_
  exact Nat.le_trans (Nat.pow_le_pow_right (by decide) h2) (by decide)
theorem num8_step (s : ByteArray) (i : Nat) (h : i < s.size) : num8 (s.data.toList.take (i + 1)) = num8 (s.data.toList.take i) * 256 + bn s i := num8_take _ _ (by simpa using h)
theorem num8_all (s : ByteArray) : num8 (s.data.toList.take s.size) = num8 s.data.toList := by rw [List.take_of_length_le (by simp)]

set_option maxHeartbeats 400000 in
theorem place_any (s : ByteArray) (hs : s.size = 8) (w : World) :
    Calls Tryz.prog 78 #[.string s] w fun e w' => e = .returned (.int .u64 (num8 s.data.toList : Nat)) ∧ Below w.heap.size w w' := by
  have hg : ∀ (n : Nat) (h : n < s.size), (s[n]'h).toNat = bn s n := get_bn s
  have HN := Lib.hid (num8_all s)
  go_enter Tryz.func78, Tryz.ntmps78
  go_wp2_with fail
  go_loopw [3, 7] (fun su si wr => ∃ i u : Nat, si = .int .i64 i ∧ su = .int .u64 u ∧ i ≤ 8 ∧ Hid (u = num8 (s.data.toList.take i)) ∧ Below w.heap.size w wr) (fun su si _ => 8 - (intOf si).toNat)
  case atStart => exact ⟨0, 0, rfl, rfl, by omega, rfl, Below.refl _ _⟩
  case round =>
    obtain ⟨i, u, rfl, rfl, hi, hu, hb⟩ := hrel
    by_cases hlt : i < 8
    · have hx := bn_lt s i
      have hub : u < 72057594037927936 := by rw [hu.out]; exact num8_bd s i (by omega)
      have HB := shl8 u (bn s i) hub hx
      have HS := Lib.hid (num8_step s i (by omega))
      have i1 : (0 : Int) ≤ (i : Int) := by omega
      have i2 : i < s.size := by omega
      go_wp2_with fail
      go_roundw
      case rel => exact ⟨i + 1, u * 256 + bn s i, by go_num, by first | rfl | go_num | (rw [HB]), by omega, by show _ = _; rw [HS.out, ← hu.out], hb⟩
      case measure => simp [intOf]; omega
    · obtain rfl : i = 8 := by omega
      go_wp2_with fail
      go_ret
      exact ⟨by show Ending.returned (.int .u64 (u : Int)) = _; rw [hu.out, ← HN.out, hs], hb⟩
end Go.Proofs.YtpihmjdljbienaaGreatDoor.Tw

/- The walks of the program's spans. -/
namespace Go.Proofs.YtpihmjdljbienaaGreatDoor.Tw
open Go.RowKit
open Tb Fp Fw Vp Vw B En
set_option linter.unusedVariables false

/-! blocks in memory -/
def Sp.cells (x : Sp) : List Value := [.string x.last, .int .i64 x.at_, .int .i64 x.n]
def scells (l : List Sp) : List Value := l.flatMap Sp.cells
theorem scells_snoc (l : List Sp) (x : Sp) : scells (l ++ [x]) = scells l ++ Sp.cells x := by simp [scells]
theorem scells_len (l : List Sp) : (scells l).length = l.length * 3 := by
  induction l with
  | nil => rfl
  | cons e t ih => simp only [scells, List.flatMap_cons, List.length_append] at ih ⊢; rw [ih]; simp [Sp.cells]; omega
theorem scells_at (l : List Sp) (i j : Nat) (h : i < l.length) (hj : j < 3) : (scells l)[i * 3 + j]? = (Sp.cells (l.getD i sp0))[j]? := by
  induction l generalizing i with
  | nil => simp at h
  | cons e t ih =>
    have hl : (Sp.cells e).length = 3 := rfl
    show (Sp.cells e ++ scells t)[i * 3 + j]? = _
    cases i with
    | zero => rw [List.getElem?_append_left (by omega)]; simp
    | succ i =>
      rw [List.getElem?_append_right (by omega), show (i + 1) * 3 + j - (Sp.cells e).length = i * 3 + j from by omega]
      exact ih i (by simpa using h)
/-- blocks, wherever they lie -/
def SRow (w : World) (a : Option Addr) (l : List Sp) : Prop :=
  l.length = 0 ∨ ∃ b off, a = some ⟨b, off, Option.none⟩ ∧ b < w.heap.size ∧ ∀ i, i < l.length →
    w.cell? ⟨b, off + i * 3, Option.none⟩ = some (.string (l.getD i sp0).last) ∧ w.cell? ⟨b, off + i * 3 + 1, Option.none⟩ = some (.int .i64 (l.getD i sp0).at_) ∧ w.cell? ⟨b, off + i * 3 + 2, Option.none⟩ = some (.int .i64 (l.getD i sp0).n)
theorem SRow.below {w w' : World} {a : Option Addr} {l : List Sp} (h : SRow w a l) (k : Below w.heap.size w w') : SRow w' a l := by
  rcases h with h | ⟨b, off, ha, hb, hc⟩
  · exact .inl h
  · refine .inr ⟨b, off, ha, Nat.lt_of_lt_of_le hb k.size, fun i hi => ?_⟩
    obtain ⟨h0, h1, h2⟩ := hc i hi
    exact ⟨(k.cell (p := ⟨b, off + i * 3, Option.none⟩) hb).trans h0, (k.cell (p := ⟨b, off + i * 3 + 1, Option.none⟩) hb).trans h1, (k.cell (p := ⟨b, off + i * 3 + 2, Option.none⟩) hb).trans h2⟩
theorem SRow.at {w : World} {a : Option Addr} {l : List Sp} (h : SRow w a l) (hn : 0 < l.length) : ∃ b off, a = some ⟨b, off, Option.none⟩ ∧ b < w.heap.size ∧ ∀ i, i < l.length →
    w.cell? ⟨b, off + i * 3, Option.none⟩ = some (.string (l.getD i sp0).last) ∧ w.cell? ⟨b, off + i * 3 + 1, Option.none⟩ = some (.int .i64 (l.getD i sp0).at_) ∧ w.cell? ⟨b, off + i * 3 + 2, Option.none⟩ = some (.int .i64 (l.getD i sp0).n) := by
  rcases h with h | h
  · omega
  · exact h
theorem own_srow {w : World} {B n : Nat} {e : TypeId} {a : Option Addr} {m cap : Nat} {l : List Sp} (h : w.ownsRow B e 3 (.slice a m cap) n (scells l)) : m = n ∧ n = l.length ∧ SRow w a l := by
  have hl := h.1
  rw [scells_len] at hl
  have hn : n = l.length := by omega
  rcases h.2 with ⟨hv, h0⟩ | ⟨g, cap', cur, hv, hB, hg, hnc, hm, hs, ht⟩
  · cases hv; exact ⟨h0.symm, hn, .inl (by omega)⟩
  · cases hv
    refine ⟨rfl, hn, .inr ⟨g, 0, rfl, lt_of_block hg, fun i hi => ?_⟩⟩
    have key : ∀ j, j < 3 → w.cell? ⟨g, 0 + i * 3 + j, Option.none⟩ = (Sp.cells (l.getD i sp0))[j]? := by
      intro j hj
      have h2 := World.ownsRow.cellAt (w := w) (base := B) (e := e) (size := 3) (g := g) (n := n) (cap := cap) (xs := scells l) ⟨h.1, .inr ⟨g, cap, cur, rfl, hB, hg, hnc, hm, hs, ht⟩⟩ (i * 3 + j) (by omega)
      rw [Nat.zero_add, h2, ← scells_at l i j (by omega) hj]
    exact ⟨key 0 (by omega), key 1 (by omega), key 2 (by omega)⟩

/-! one round, case by case -/
theorem round_t {s : ByteArray} {fin : Nat} {a : Int} {out : List Sp} {b : Nat} (h : (getT s a).e ≠ 0) : roundB s fin a out b = ⟨sp0, 0, (getT s a).e⟩ := if_pos h
theorem round_f {s : ByteArray} {fin : Nat} {a : Int} {out : List Sp} {b : Nat} (h0 : (getT s a).e = 0) (h : (getS s (getT s a).next).e ≠ 0) : roundB s fin a out b = ⟨sp0, 0, (getS s (getT s a).next).e⟩ := by
  unfold roundB; rw [if_neg (by simp [h0]), if_pos h]
theorem round_n {s : ByteArray} {fin : Nat} {a : Int} {out : List Sp} {b : Nat} (h0 : (getT s a).e = 0) (h1 : (getS s (getT s a).next).e = 0) (h : (getS s (getS s (getT s a).next).next).e ≠ 0) :
    roundB s fin a out b = ⟨sp0, 0, (getS s (getS s (getT s a).next).next).e⟩ := by
  unfold roundB; rw [if_neg (by simp [h0]), if_neg (by simp [h1]), if_pos h]
theorem round_no {s : ByteArray} {fin : Nat} {a : Int} {out : List Sp} {b : Nat} (h0 : (getT s a).e = 0) (h1 : (getS s (getT s a).next).e = 0) (h2 : (getS s (getS s (getT s a).next).next).e = 0)
    (h : okB fin b out (getT s a).t (getS s (getT s a).next).n (getS s (getS s (getT s a).next).next).n = false) : roundB s fin a out b = ⟨sp0, 0, 4⟩ := by
  unfold roundB; rw [if_neg (by simp [h0]), if_neg (by simp [h1]), if_neg (by simp [h2]), if_neg (by simp [h])]
theorem round_ok {s : ByteArray} {fin : Nat} {a : Int} {out : List Sp} {b : Nat} (h0 : (getT s a).e = 0) (h1 : (getS s (getT s a).next).e = 0) (h2 : (getS s (getS s (getT s a).next).next).e = 0)
    (h : okB fin b out (getT s a).t (getS s (getT s a).next).n (getS s (getS s (getT s a).next).next).n = true) :
    roundB s fin a out b = ⟨⟨(getT s a).t, b, (getS s (getS s (getT s a).next).next).n.toNat⟩, (getS s (getS s (getT s a).next).next).next, 0⟩ := by
  unfold roundB; rw [if_neg (by simp [h0]), if_neg (by simp [h1]), if_neg (by simp [h2]), if_pos h]
theorem rounds_bad {s : ByteArray} {fin k : Nat} {a : Int} {out : List Sp} {b : Nat} {R : LS} {r : RR} (hR : roundsB s fin (k + 1) a out b = R) (hr : roundB s fin a out b = r) (h : r.e ≠ 0) : closeB s fin R = ([], r.e) := by
  rw [roundsB, hr, if_pos h] at hR
  rw [← hR]; unfold closeB; rw [if_pos h]
theorem rounds_ok {s : ByteArray} {fin k : Nat} {a : Int} {out : List Sp} {b : Nat} {R : LS} {r : RR} (hR : roundsB s fin (k + 1) a out b = R) (hr : roundB s fin a out b = r) (h : r.e = 0) : roundsB s fin k r.next (out ++ [r.x]) (b + r.x.n) = R := by
  rw [roundsB, hr, if_neg (by simp [h])] at hR
  exact hR
theorem leqS (x y : ByteArray) : (Op.bytesLess x.toList y.toList || x.toList == y.toList) = !decide (cmpK y x < 0) := by
  rw [ByteArray.toList_eq, ByteArray.toList_eq, less_cmp]
  have h0 := cmpK_neg x y
  have h1 := cmpK_0 x y
  have h2 : (x.data.toList == y.data.toList) = decide (cmpK x y = 0) := by
    by_cases h : x = y
    · subst h; simp [(cmpK_0 x x).2 rfl]
    · have : x.data.toList ≠ y.data.toList := fun e => h (ba_ext e)
      have h3 : cmpK x y ≠ 0 := fun e => h (h1.1 e)
      simp [h3]; simpa using this
  rw [h2, h0]
  show (decide (cmpK x y < 0) || _) = _
  generalize cmpK x y = c
  by_cases c1 : c < 0
  · simp [c1]; omega
  · by_cases c2 : c = 0
    · simp [c2]
    · simp [c1, c2]; omega
theorem lssS (x y : ByteArray) : Op.bytesLess x.toList y.toList = decide (cmpK x y < 0) := by
  rw [ByteArray.toList_eq, ByteArray.toList_eq, less_cmp]; rfl

/-! the closure that reads the next number -/
theorem num1_ok (ib ab : Nat) (s : ByteArray) (hs : s.size ≤ 4611686018427387904) (a : Int) {g : G} (hg : getS s a = g) (h : g.e = 0) (w : World) (hi : Cell1 w ib 9 (.string s)) (ha : Cell1 w ab 3 (.int .i64 a)) :
    Calls Tryz.prog 125 #[.pointer (some ⟨ib, 0, none⟩), .pointer (some ⟨ab, 0, none⟩)] w fun e w' => e = .returned (.int .i64 g.n) ∧ Cell1 w' ab 3 (.int .i64 g.next) ∧ Only ab w w' := by
  have HG := Lib.hid (Vw.get_any s a hs w)
  rw [hg] at HG
  obtain ⟨n, x, e⟩ := g
  simp only at h
  subst h
  have HA := Lib.hid ha
  have c0 := hi.cell
  have c1 := ha.cell
  have f1 := ha.fz
  clear hi ha hg
  go_enter Tryz.func125, Tryz.ntmps125
  go_wp2_with fail
  refine HG.out.mono ?_
  rintro e w1 ⟨rfl, rfl⟩
  simp only [ret3]
  go_wp2_with fail
  refine (must_ok _).mono ?_
  rintro e w2 ⟨rfl, rfl⟩
  go_wp2_with fail
  go_ret
  exact ⟨rfl, HA.out.set _, (Only.refl _ _).set 0 _⟩
theorem num1_bad (ib ab : Nat) (s : ByteArray) (hs : s.size ≤ 4611686018427387904) (a : Int) {g : G} (hg : getS s a = g) (h : g.e ≠ 0) (w : World) (hi : Cell1 w ib 9 (.string s)) (ha : Cell1 w ab 3 (.int .i64 a)) :
    Calls Tryz.prog 125 #[.pointer (some ⟨ib, 0, none⟩), .pointer (some ⟨ab, 0, none⟩)] w fun e w' => e = pan 140 g.e ∧ w = w' := by
  have HG := Lib.hid (Vw.get_any s a hs w)
  rw [hg] at HG
  obtain ⟨n, x, e⟩ := g
  simp only at h
  have c0 := hi.cell
  have c1 := ha.cell
  clear hi ha hg
  go_enter Tryz.func125, Tryz.ntmps125
  go_wp2_with fail
  refine HG.out.mono ?_
  rintro e w1 ⟨rfl, rfl⟩
  simp only [ret3]
  go_wp2_with fail
  refine (must_bad _ h _).mono ?_
  rintro e w2 ⟨rfl, rfl⟩
  go_wp2_with fail
  exact ⟨rfl, rfl, rfl⟩
end Go.Proofs.YtpihmjdljbienaaGreatDoor.Tw
