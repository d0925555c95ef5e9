/- The walks of what reads a table's bytes: Part, source's closure, body, must, place, and the reference's. -/
import Derived.Test.YtajfalffpcamhaaGa
import Derived.Test.YtajfalffpcamhaaFrameG
import Derived.Test.YtajfalffpcamhaaFrameR
import Derived.Test.YtajfalffpcamhaaGb
import Derived.Deep.QuietTactic
import Derived.BigQuiet
namespace Go.Proofs.Ytajfalffpcamhaa.Tw
open Go.RowKit
open Tb Fp Fw B En
set_option linter.unusedVariables false

def retS (r : ST) : Ending := .returned (.tuple #[.string r.t, .int .i64 r.e])

set_option maxHeartbeats 400000 in
theorem part_any (s : ByteArray) (hs : s.size ≤ 4611686018427387904) (a n : Int) (w : World) :
    Calls Try.prog 60 #[.string s, .int .i64 a, .int .i64 n] w fun e w' => e = retS (partB s a n) ∧ Below w.heap.size w w' := by
  by_cases h : a < 0 ∨ n < 0 ∨ (s.size : Int) < a ∨ (s.size : Int) - a < n
  · have hfin : partB s a n = ⟨str [], 2⟩ := if_pos h
    have HF := Lib.hid hfin
    clear hfin
    by_cases h1 : a < 0
    · have d1 : decide (a < 0) = true := dt h1
      clear h
      go_enter Try.func60, Try.ntmps60
      go_wp2_with fail
      go_ret2
      exact ⟨by rw [HF.out]; rfl, Below.refl _ _⟩
    · have d1 : decide (a < 0) = false := df h1
      by_cases h2 : n < 0
      · have d2 : decide (n < 0) = true := dt h2
        clear h h1
        go_enter Try.func60, Try.ntmps60
        go_wp2_with fail
        go_ret2
        exact ⟨by rw [HF.out]; rfl, Below.refl _ _⟩
      · have d2 : decide (n < 0) = false := df h2
        by_cases h3 : (s.size : Int) < a
        · have d3 : decide ((s.size : Int) < a) = true := dt h3
          clear h h1 h2
          go_enter Try.func60, Try.ntmps60
          go_wp2_with fail
          go_ret2
          exact ⟨by rw [HF.out]; rfl, Below.refl _ _⟩
        · have d3 : decide ((s.size : Int) < a) = false := df h3
          have d4 : decide ((s.size : Int) - a < n) = true := dt (by omega)
          have e4 : IntKind.i64.wrap ((s.size : Int) - a) = (s.size : Int) - a := by rw [IntKind.wrap_i64]; omega
          clear h
          go_enter Try.func60, Try.ntmps60
          go_wp2_with fail
          go_ret2
          exact ⟨by rw [HF.out]; rfl, Below.refl _ _⟩
  · have hfin : partB s a n = ⟨s.extract a.toNat (a.toNat + n.toNat), 0⟩ := if_neg h
    have HF := Lib.hid hfin
    clear hfin
    obtain ⟨x, rfl⟩ := Int.eq_ofNat_of_zero_le (show 0 ≤ a by omega)
    obtain ⟨y, rfl⟩ := Int.eq_ofNat_of_zero_le (show 0 ≤ n by omega)
    have hxy : x + y ≤ s.size := by omega
    have d1 : decide ((x : Int) < 0) = false := df (by omega)
    have d2 : decide ((y : Int) < 0) = false := df (by omega)
    have d3 : decide (s.size < x) = false := df (by omega)
    have d4 : decide ((s.size : Int) - (x : Int) < (y : Int)) = false := df (by omega)
    have e4 : IntKind.i64.wrap ((s.size : Int) - (x : Int)) = (s.size : Int) - (x : Int) := by rw [IntKind.wrap_i64]; omega
    clear h
    go_enter Try.func60, Try.ntmps60
    go_wp2_with fail
    go_ret2
    exact ⟨by rw [HF.out]; rfl, Below.refl _ _⟩

/-- a source of bytes -/
def srcV (g : Nat) : Value := .func (.func 59) #[] #[.pointer (some ⟨g, 0, none⟩)]
theorem partB_size (s : ByteArray) (a n : Int) : (partB s a n).t.size ≤ s.size := by
  unfold partB
  split
  · exact Nat.zero_le _
  · simp only [ByteArray.size_extract]; omega

set_option maxHeartbeats 400000 in
theorem src_any (g : Nat) (s : ByteArray) (hs : s.size ≤ 4611686018427387904) (a n : Int) (w : World) (hc : Cell1 w g 9 (.string s)) :
    Calls Try.prog 59 #[.int .i64 a, .int .i64 n, .pointer (some ⟨g, 0, none⟩)] w fun e w' => e = retS (partB s a n) ∧ Below w.heap.size w w' := by
  have HP := Lib.hid (part_any s hs a n w)
  generalize partB s a n = r at HP
  have c0 := hc.cell
  clear hc
  go_enter Try.func59, Try.ntmps59
  go_wp2_with fail
  refine HP.out.mono ?_
  rintro e w1 ⟨rfl, hb⟩
  simp only [retS]
  go_wp2_with fail
  go_ret2
  exact ⟨rfl, hb⟩


theorem bodyB_bad {s : ByteArray} {a n : Int} (h : (partB s a n).e ≠ 0) : bodyB s a n = ⟨str [], (partB s a n).e⟩ := if_pos h
theorem bodyB_get {s : ByteArray} {a n : Int} (h : (partB s a n).e = 0) : bodyB s a n = frameB (partB s a n).t n := if_neg (by rw [h]; decide)

set_option maxHeartbeats 400000 in
theorem body_any (g : Nat) (s : ByteArray) (hs : s.size ≤ 4611686018427387904) (a n : Int) (w : World) (hc : Cell1 w g 9 (.string s)) :
    Calls Try.prog 53 #[.func (.func 59) #[] #[.pointer (some ⟨g, 0, none⟩)], .int .i64 a, .int .i64 n] w fun e w' => e = retS (bodyB s a n) ∧ Below w.heap.size w w' := by
  have HP := Lib.hid (src_any g s hs a n w hc)
  have hps := partB_size s a n
  clear hc
  by_cases h1 : (partB s a n).e = 0
  · rw [bodyB_get h1]
    generalize partB s a n = p at HP h1 hps
    obtain ⟨p, pe⟩ := p
    simp only at h1 hps
    subst h1
    have HG := Lib.hid (fun W => Fw.get_any p 0 (by omega) W)
    unfold frameB
    generalize getF p 0 = q at HG
    obtain ⟨q, qx, qe⟩ := q
    simp only
    by_cases h2 : qe = 0
    · subst h2
      by_cases h3 : qx = n
      · subst h3
        have d3 : (qx != qx) = false := nf rfl
        go_enter Try.func53, Try.ntmps53
        go_wp2_with fail
        refine HP.out.mono ?_
        rintro e w1 ⟨rfl, hb⟩
        simp only [retS]
        go_wp2_with fail
        refine (HG.out _).mono ?_
        rintro e w2 ⟨rfl, m, rfl⟩
        simp only [retF]
        go_wp2_with fail
        go_ret2
        exact ⟨by simp [retS], drewN hb⟩
      · have d3 : (qx != n) = true := nt h3
        go_enter Try.func53, Try.ntmps53
        go_wp2_with fail
        refine HP.out.mono ?_
        rintro e w1 ⟨rfl, hb⟩
        simp only [retS]
        go_wp2_with fail
        refine (HG.out _).mono ?_
        rintro e w2 ⟨rfl, m, rfl⟩
        simp only [retF]
        go_wp2_with fail
        go_ret2
        exact ⟨by simp [retS]; rfl, drewN hb⟩
    · have d2 : (qe != 0) = true := nt h2
      go_enter Try.func53, Try.ntmps53
      go_wp2_with fail
      refine HP.out.mono ?_
      rintro e w1 ⟨rfl, hb⟩
      simp only [retS]
      go_wp2_with fail
      refine (HG.out _).mono ?_
      rintro e w2 ⟨rfl, m, rfl⟩
      simp only [retF]
      go_wp2_with fail
      go_ret2
      exact ⟨by simp [retS]; rfl, drewN hb⟩
  · rw [bodyB_bad h1]
    generalize partB s a n = p at HP h1 hps
    obtain ⟨p, pe⟩ := p
    simp only at h1 hps
    have d2 : (pe != 0) = true := nt h1
    go_enter Try.func53, Try.ntmps53
    go_wp2_with fail
    refine HP.out.mono ?_
    rintro e w1 ⟨rfl, hb⟩
    simp only [retS]
    go_wp2_with fail
    go_ret2
    exact ⟨rfl, hb⟩

set_option maxHeartbeats 400000 in
theorem rbody_any (s : ByteArray) (hs : s.size ≤ 4611686018427387904) (a n : Int) (w : World) :
    Calls Try.prog 54 #[.string s, .int .i64 a, .int .i64 n] w fun e w' => e = retS (bodyB s a n) ∧ Below w.heap.size w w' := by
  have HP := Lib.hid (part_any s hs a n w)
  have hps := partB_size s a n
  by_cases h1 : (partB s a n).e = 0
  · rw [bodyB_get h1]
    generalize partB s a n = p at HP h1 hps
    obtain ⟨p, pe⟩ := p
    simp only at h1 hps
    subst h1
    have HG := Lib.hid (fun W => Fw.rget_any p 0 (by omega) W)
    unfold frameB
    generalize getF p 0 = q at HG
    obtain ⟨q, qx, qe⟩ := q
    simp only
    by_cases h2 : qe = 0
    · subst h2
      by_cases h3 : qx = n
      · subst h3
        have d3 : (qx != qx) = false := nf rfl
        go_enter Try.func54, Try.ntmps54
        go_wp2_with fail
        refine HP.out.mono ?_
        rintro e w1 ⟨rfl, hb⟩
        simp only [retS]
        go_wp2_with fail
        refine (HG.out _).mono ?_
        rintro e w2 ⟨rfl, m, rfl⟩
        simp only [retF]
        go_wp2_with fail
        go_ret2
        exact ⟨by simp [retS], drewN hb⟩
      · have d3 : (qx != n) = true := nt h3
        go_enter Try.func54, Try.ntmps54
        go_wp2_with fail
        refine HP.out.mono ?_
        rintro e w1 ⟨rfl, hb⟩
        simp only [retS]
        go_wp2_with fail
        refine (HG.out _).mono ?_
        rintro e w2 ⟨rfl, m, rfl⟩
        simp only [retF]
        go_wp2_with fail
        go_ret2
        exact ⟨by simp [retS]; rfl, drewN hb⟩
    · have d2 : (qe != 0) = true := nt h2
      go_enter Try.func54, Try.ntmps54
      go_wp2_with fail
      refine HP.out.mono ?_
      rintro e w1 ⟨rfl, hb⟩
      simp only [retS]
      go_wp2_with fail
      refine (HG.out _).mono ?_
      rintro e w2 ⟨rfl, m, rfl⟩
      simp only [retF]
      go_wp2_with fail
      go_ret2
      exact ⟨by simp [retS]; rfl, drewN hb⟩
  · rw [bodyB_bad h1]
    generalize partB s a n = p at HP h1 hps
    obtain ⟨p, pe⟩ := p
    simp only at h1 hps
    have d2 : (pe != 0) = true := nt h1
    go_enter Try.func54, Try.ntmps54
    go_wp2_with fail
    refine HP.out.mono ?_
    rintro e w1 ⟨rfl, hb⟩
    simp only [retS]
    go_wp2_with fail
    go_ret2
    exact ⟨rfl, hb⟩

/-! what leaves by a panic -/
theorem must_ok (w : World) : Calls Try.prog 77 #[.int .i64 0] w fun e w' => e = .returned (.tuple #[]) ∧ w = w' := by
  go_enter Try.func77, Try.ntmps77
  go_wp2_with fail
  go_end0
  exact ⟨rfl, rfl⟩
theorem must_bad (x : Int) (h : x ≠ 0) (w : World) : Calls Try.prog 77 #[.int .i64 x] w fun e w' => e = pan 108 x ∧ w = w' := by
  have d : (x != 0) = true := nt h
  go_enter Try.func77, Try.ntmps77
  go_wp2_with fail
  exact ⟨rfl, rfl, rfl⟩
theorem mustBe_ok (w : World) : Calls Try.prog 51 #[.bool true] w fun e w' => e = .returned (.tuple #[]) ∧ w = w' := by
  go_enter Try.func51, Try.ntmps51
  go_wp2_with fail
  go_end0
  exact ⟨rfl, rfl⟩
theorem mustBe_bad (w : World) : Calls Try.prog 51 #[.bool false] w fun e w' => e = pan 108 4 ∧ w = w' := by
  go_enter Try.func51, Try.ntmps51
  go_wp2_with fail
  refine (must_bad 4 (by decide) _).mono ?_
  rintro e w1 ⟨rfl, rfl⟩
  go_wp2_with fail
  exact ⟨rfl, rfl, rfl⟩
theorem mustBody_ok (g : Nat) (s : ByteArray) (hs : s.size ≤ 4611686018427387904) (a n : Int) {r : ST} (hr : bodyB s a n = r) (h : r.e = 0) (w : World) (hc : Cell1 w g 9 (.string s)) :
    Calls Try.prog 49 #[.func (.func 59) #[] #[.pointer (some ⟨g, 0, none⟩)], .int .i64 a, .int .i64 n] w fun e w' => e = .returned (.string r.t) ∧ Below w.heap.size w w' := by
  have HP := Lib.hid (body_any g s hs a n w hc)
  rw [hr] at HP
  obtain ⟨r, re⟩ := r
  simp only at h
  subst h
  clear hr hc
  go_enter Try.func49, Try.ntmps49
  go_wp2_with fail
  refine HP.out.mono ?_
  rintro e w1 ⟨rfl, hb⟩
  simp only [retS]
  go_wp2_with fail
  refine (must_ok _).mono ?_
  rintro e w2 ⟨rfl, rfl⟩
  go_wp2_with fail
  go_ret
  exact ⟨rfl, hb⟩
theorem mustBody_bad (g : Nat) (s : ByteArray) (hs : s.size ≤ 4611686018427387904) (a n : Int) {r : ST} (hr : bodyB s a n = r) (h : r.e ≠ 0) (w : World) (hc : Cell1 w g 9 (.string s)) :
    Calls Try.prog 49 #[.func (.func 59) #[] #[.pointer (some ⟨g, 0, none⟩)], .int .i64 a, .int .i64 n] w fun e w' => e = pan 108 r.e ∧ Below w.heap.size w w' := by
  have HP := Lib.hid (body_any g s hs a n w hc)
  rw [hr] at HP
  obtain ⟨r, re⟩ := r
  simp only at h
  clear hr hc
  go_enter Try.func49, Try.ntmps49
  go_wp2_with fail
  refine HP.out.mono ?_
  rintro e w1 ⟨rfl, hb⟩
  simp only [retS]
  go_wp2_with fail
  refine (must_bad re h _).mono ?_
  rintro e w2 ⟨rfl, rfl⟩
  go_wp2_with fail
  exact ⟨rfl, rfl, hb⟩

/-! the number of eight bytes -/
theorem shl8 (u x : Nat) (hu : u < 72057594037927936) (hx : x < 256) : bits .or .u64 ((u : Int) * 256) (x : Int) = ((u * 256 + x : Nat) : Int) := by
  have e : (u : Int) * 256 = ((u * 256 : Nat) : Int) := by omega
  rw [e, u64_or_nat _ _ (by omega) (by omega), nat_join 8 _ _ (by omega) (by omega)]
theorem num8_bd (s : ByteArray) (i : Nat) (hi : i ≤ 7) : num8 (s.data.toList.take i) < 72057594037927936 := by
  have h := num8_lt (s.data.toList.take i)
  have h2 : (s.data.toList.take i).length ≤ 7 := by rw [List.length_take]; omega
  refine Nat.lt_of_lt_of_le h ?_
  exact Nat.le_trans (Nat.pow_le_pow_right (by decide) h2) (by decide)
theorem num8_step (s : ByteArray) (i : Nat) (h : i < s.size) : num8 (s.data.toList.take (i + 1)) = num8 (s.data.toList.take i) * 256 + bn s i := num8_take _ _ (by simpa using h)
theorem num8_all (s : ByteArray) : num8 (s.data.toList.take s.size) = num8 s.data.toList := by rw [List.take_of_length_le (by simp)]

set_option maxHeartbeats 400000 in
theorem place_any (s : ByteArray) (hs : s.size = 8) (w : World) :
    Calls Try.prog 50 #[.string s] w fun e w' => e = .returned (.int .u64 (num8 s.data.toList : Nat)) ∧ Below w.heap.size w w' := by
  have hg : ∀ (n : Nat) (h : n < s.size), (s[n]'h).toNat = bn s n := get_bn s
  have HN := Lib.hid (num8_all s)
  go_enter Try.func50, Try.ntmps50
  go_wp2_with fail
  go_loopw [3, 7] (fun su si wr => ∃ i u : Nat, si = .int .i64 i ∧ su = .int .u64 u ∧ i ≤ 8 ∧ Hid (u = num8 (s.data.toList.take i)) ∧ Below w.heap.size w wr) (fun su si _ => 8 - (intOf si).toNat)
  case atStart => exact ⟨0, 0, rfl, rfl, by omega, rfl, Below.refl _ _⟩
  case round =>
    obtain ⟨i, u, rfl, rfl, hi, hu, hb⟩ := hrel
    by_cases hlt : i < 8
    · have hx := bn_lt s i
      have hub : u < 72057594037927936 := by rw [hu.out]; exact num8_bd s i (by omega)
      have HB := shl8 u (bn s i) hub hx
      have HS := Lib.hid (num8_step s i (by omega))
      have i1 : (0 : Int) ≤ (i : Int) := by omega
      have i2 : i < s.size := by omega
      go_wp2_with fail
      go_roundw
      case rel => exact ⟨i + 1, u * 256 + bn s i, by go_num, by first | rfl | go_num | (rw [HB]), by omega, by show _ = _; rw [HS.out, ← hu.out], hb⟩
      case measure => simp [intOf]; omega
    · obtain rfl : i = 8 := by omega
      go_wp2_with fail
      go_ret
      exact ⟨by show Ending.returned (.int .u64 (u : Int)) = _; rw [hu.out, ← HN.out, hs], hb⟩
end Go.Proofs.Ytajfalffpcamhaa.Tw
