/- The walks of the reference's Open, Which, Block. -/
import Derived.Test.YtajfalffpcamhaaTabF
import Derived.Test.YtajfalffpcamhaaTabX
namespace Go.Proofs.Ytajfalffpcamhaa.Tw
open Go.RowKit
open Tb Fp Fw Vp Vw B En
set_option linter.unusedVariables false

/-- the reference's table in memory -/
structure RBox (w : World) (tb : Nat) (s : ByteArray) (sp : List Sp) (f : ByteArray) : Prop where
  ex : ∃ a c, w.heap[tb]? = some (.cells #[.string s, .slice a sp.length c, .string f] 45 (0, 0)) ∧ SRow w a sp ∧ sp.length ≤ c ∧ c ≤ 9223372036854775807
theorem RBox.below {w w' : World} {tb : Nat} {s f : ByteArray} {sp : List Sp} (h : RBox w tb s sp f) (k : Below w.heap.size w w') : RBox w' tb s sp f := by
  obtain ⟨a, c, h1, h2, h3⟩ := h.ex
  exact ⟨a, c, (k.block tb (lt_of_block h1)).trans h1, h2.below k, h3⟩
theorem RBox.lt {w : World} {tb : Nat} {s f : ByteArray} {sp : List Sp} (h : RBox w tb s sp f) : tb < w.heap.size := by
  obtain ⟨a, c, h1, _⟩ := h.ex
  exact lt_of_block h1
theorem RBox.cells {w : World} {tb : Nat} {s f : ByteArray} {sp : List Sp} (h : RBox w tb s sp f) : ∃ a c, (w.cell? ⟨tb, 0, none⟩ = some (.string s) ∧ w.cell? ⟨tb, 1, none⟩ = some (.slice a sp.length c) ∧ w.cell? ⟨tb, 2, none⟩ = some (.string f)) ∧ SRow w a sp ∧ sp.length ≤ c ∧ c ≤ 9223372036854775807 := by
  obtain ⟨a, c, h1, h2⟩ := h.ex
  exact ⟨a, c, ⟨cell_of_row w tb 0 _ _ _ h1, cell_of_row w tb 1 _ _ _ h1, cell_of_row w tb 2 _ _ _ h1⟩, h2⟩

def GotRO (w : World) (s : ByteArray) (r : TR) (e : Ending) (w' : World) : Prop :=
  Below w.heap.size w w' ∧ ((r.e = 0 ∧ ∃ tb, e = .returned (.tuple #[.pointer (some ⟨tb, 0, none⟩), .int .i64 0]) ∧ RBox w' tb s r.sp r.filter) ∨ (r.e ≠ 0 ∧ e = .returned (.tuple #[.pointer none, .int .i64 r.e])))

set_option maxHeartbeats 1600000 in
set_option maxRecDepth 100000 in
theorem ropen_any (s : ByteArray) (hs : s.size ≤ 140737488351232) (z : Int) (hz : z ≤ 9223372036854775807) (w : World) :
    Calls Try.prog 42 #[.string s, .int .i64 z] w (GotRO w s (openB s z)) := by
  have hs2 : s.size ≤ 4611686018427387904 := by omega
  by_cases h0 : z < 24
  · rw [open_short h0]
    have d0 : decide (z < 24) = true := dt h0
    go_enter Try.func42, Try.ntmps42
    go_wp2_with fail
    go_ret2
    exact ⟨Below.refl _ _, .inr ⟨by decide, rfl⟩⟩
  obtain ⟨m, rfl⟩ : ∃ m : Nat, z = (m : Int) + 24 := ⟨(z - 24).toNat, by omega⟩
  have d0 : decide ((m : Int) + 24 < 24) = false := df (by omega)
  have e0 : IntKind.i64.wrap ((m : Int) + 24 - 24) = (m : Int) := by rw [IntWalk.i64_in _ (by omega)]; omega
  have e0' : (m : Int) + 24 - 24 = (m : Int) := by omega
  have HB0 := Lib.hid (fun W => rbody_any s hs2 m 24 W)
  by_cases h1 : (bodyB s m 24).e = 0
  case neg =>
    rw [open_foot h0 (by rw [e0']; exact h1), e0']
    generalize bodyB s m 24 = r at HB0 h1 ⊢
    obtain ⟨rt, re⟩ := r
    simp only [retS] at HB0 h1 ⊢
    have d1 : (re != 0) = true := nt h1
    clear e0' h0
    go_enter Try.func42, Try.ntmps42
    go_wp2_with fail
    refine (HB0.out _).mono ?_
    rintro e w1 ⟨rfl, hb⟩
    go_wp2_with fail
    go_ret2
    exact ⟨hb, .inr ⟨h1, rfl⟩⟩
  have hbd := bodyB_size h1
  have hb16 : (bodyB s m 24).t.size = 16 := by omega
  rw [open_head h0 (by rw [e0']; exact h1), e0']
  obtain ⟨q1, q2, q3, q4⟩ := foot_x hb16
  have HX := Lib.hid (fun W => number_any _ q1 W)
  have HY := Lib.hid (fun W => number_any _ q3 W)
  rw [q2] at HX
  rw [q4] at HY
  have hms : (m : Int) + 24 ≤ s.size := hbd.2.2.2.2
  clear q1 q2 q3 q4
  generalize bodyB s m 24 = b at HB0 HX HY hb16 h1 ⊢
  obtain ⟨b, be⟩ := b
  simp only at HB0 HX HY hb16 h1 ⊢
  subst h1
  simp only [retS] at HB0
  generalize num8 (b.data.toList.take 8) = X at HX ⊢
  generalize num8 (b.data.toList.drop 8) = Y at HY ⊢
  obtain ⟨r, hr⟩ : ∃ r, r = headB s m X Y := ⟨_, rfl⟩
  rw [← hr]
  have HR := Lib.hid hr
  clear hr hbd h0 e0'
  have i8 : (8 : Int) ≤ (b.size : Int) := by omega
  have i9 : (8 : Nat) ≤ b.size := by omega
  by_cases k1 : X ≤ Y ∧ Y ≤ m
  case neg =>
    obtain rfl : r = ⟨[], str [], 4⟩ := by rw [HR.out]; unfold headB; rw [if_pos (fun h => k1 ⟨h.1, by omega⟩)]
    obtain ⟨x, hx⟩ : ∃ x : Int, (if 1152921504606846976 < X then -1 else (X : Int)) = x := ⟨_, rfl⟩
    obtain ⟨y, hy⟩ : ∃ y : Int, (if 1152921504606846976 < Y then -1 else (Y : Int)) = y := ⟨_, rfl⟩
    rw [hx] at HX
    rw [hy] at HY
    have hc : x < 0 ∨ (¬ x < 0 ∧ y < 0) ∨ (¬ x < 0 ∧ ¬ y < 0 ∧ y < x) ∨ (¬ x < 0 ∧ ¬ y < 0 ∧ ¬ y < x ∧ (m : Int) < y) := by
      split at hx <;> split at hy <;> omega
    clear hx hy k1 HR
    rcases hc with c1 | ⟨c1, c2⟩ | ⟨c1, c2, c3⟩ | ⟨c1, c2, c3, c4⟩
    · have d1 : decide (x < 0) = true := dt c1
      go_enter Try.func42, Try.ntmps42
      go_wp2_with fail
      refine (HB0.out _).mono ?_
      rintro e w1 ⟨rfl, hb1⟩
      go_wp2_with fail
      refine (HX.out _).mono ?_
      rintro e w2 ⟨rfl, hb2⟩
      go_wp2_with fail
      refine (HY.out _).mono ?_
      rintro e w3 ⟨rfl, hb3⟩
      have hz3 := chain (chain hb1 hb2) hb3
      go_wp2_with fail
      go_ret2
      exact ⟨hz3, .inr ⟨by decide, rfl⟩⟩
    · have d1 : decide (x < 0) = false := df c1
      have d2 : decide (y < 0) = true := dt c2
      go_enter Try.func42, Try.ntmps42
      go_wp2_with fail
      refine (HB0.out _).mono ?_
      rintro e w1 ⟨rfl, hb1⟩
      go_wp2_with fail
      refine (HX.out _).mono ?_
      rintro e w2 ⟨rfl, hb2⟩
      go_wp2_with fail
      refine (HY.out _).mono ?_
      rintro e w3 ⟨rfl, hb3⟩
      have hz3 := chain (chain hb1 hb2) hb3
      go_wp2_with fail
      go_ret2
      exact ⟨hz3, .inr ⟨by decide, rfl⟩⟩
    · have d1 : decide (x < 0) = false := df c1
      have d2 : decide (y < 0) = false := df c2
      have d3 : decide (y < x) = true := dt c3
      go_enter Try.func42, Try.ntmps42
      go_wp2_with fail
      refine (HB0.out _).mono ?_
      rintro e w1 ⟨rfl, hb1⟩
      go_wp2_with fail
      refine (HX.out _).mono ?_
      rintro e w2 ⟨rfl, hb2⟩
      go_wp2_with fail
      refine (HY.out _).mono ?_
      rintro e w3 ⟨rfl, hb3⟩
      have hz3 := chain (chain hb1 hb2) hb3
      go_wp2_with fail
      go_ret2
      exact ⟨hz3, .inr ⟨by decide, rfl⟩⟩
    · have d1 : decide (x < 0) = false := df c1
      have d2 : decide (y < 0) = false := df c2
      have d3 : decide (y < x) = false := df c3
      have d4 : decide ((m : Int) < y) = true := dt c4
      go_enter Try.func42, Try.ntmps42
      go_wp2_with fail
      refine (HB0.out _).mono ?_
      rintro e w1 ⟨rfl, hb1⟩
      go_wp2_with fail
      refine (HX.out _).mono ?_
      rintro e w2 ⟨rfl, hb2⟩
      go_wp2_with fail
      refine (HY.out _).mono ?_
      rintro e w3 ⟨rfl, hb3⟩
      have hz3 := chain (chain hb1 hb2) hb3
      go_wp2_with fail
      go_ret2
      exact ⟨hz3, .inr ⟨by decide, rfl⟩⟩
  obtain ⟨k1, k2⟩ := k1
  rw [if_neg (by omega)] at HX HY
  have d1 : decide ((X : Int) < 0) = false := df (by omega)
  have d2 : decide ((Y : Int) < 0) = false := df (by omega)
  have d3 : decide ((Y : Int) < (X : Int)) = false := df (by omega)
  have d3' : decide (Y < X) = false := df (by omega)
  have d4 : decide ((m : Int) < (Y : Int)) = false := df (by omega)
  have d4' : decide (m < Y) = false := df (by omega)
  have hr : headB s m X Y = if (bodyB s X ((Y : Int) - X)).e ≠ 0 then ⟨[], str [], (bodyB s X ((Y : Int) - X)).e⟩ else
      if (bodyB s Y ((m : Int) - Y)).e ≠ 0 then ⟨[], str [], (bodyB s Y ((m : Int) - Y)).e⟩ else
      if (spansB (bodyB s X ((Y : Int) - X)).t X).2 ≠ 0 then ⟨[], str [], (spansB (bodyB s X ((Y : Int) - X)).t X).2⟩ else
      ⟨(spansB (bodyB s X ((Y : Int) - X)).t X).1, (bodyB s Y ((m : Int) - Y)).t, 0⟩ := by unfold headB; rw [if_neg (fun h => h ⟨k1, by omega⟩)]
  rw [hr] at HR
  clear hr
  have f4 : IntKind.i64.wrap ((Y : Int) - (X : Int)) = (Y : Int) - (X : Int) := IntWalk.i64_in _ (by omega)
  have f6 : IntKind.i64.wrap ((m : Int) - (Y : Int)) = (m : Int) - (Y : Int) := IntWalk.i64_in _ (by omega)
  have HM := Lib.hid (fun W => rbody_any s hs2 X ((Y : Int) - X) W)
  have hl1 := fun h => (@bodyB_size s X ((Y : Int) - X) h).2.1
  by_cases j1 : (bodyB s X ((Y : Int) - X)).e = 0
  case neg =>
    rw [if_pos j1] at HR
    generalize bodyB s X ((Y : Int) - X) = q at HM j1 HR
    obtain ⟨qt, qe⟩ := q
    simp only [retS] at HM j1 HR
    obtain rfl : r = ⟨[], str [], qe⟩ := HR.out
    have d5 : (qe != 0) = true := nt j1
    clear hl1
    go_enter Try.func42, Try.ntmps42
    go_wp2_with fail
    refine (HB0.out _).mono ?_
    rintro e w1 ⟨rfl, hb1⟩
    go_wp2_with fail
    refine (HX.out _).mono ?_
    rintro e w2 ⟨rfl, hb2⟩
    go_wp2_with fail
    refine (HY.out _).mono ?_
    rintro e w3 ⟨rfl, hb3⟩
    have hz3 := chain (chain hb1 hb2) hb3
    go_wp2_with fail
    refine (HM.out _).mono ?_
    rintro e w4 ⟨rfl, hb4⟩
    have hz4 := chain hz3 hb4
    go_wp2_with fail
    go_ret2
    exact ⟨hz4, .inr ⟨j1, rfl⟩⟩
  rw [if_neg (fun h => h j1)] at HR
  have hl1 := hl1 j1
  generalize bodyB s X ((Y : Int) - X) = q at HM j1 HR hl1
  obtain ⟨ix, qe⟩ := q
  simp only [retS] at HM j1 HR hl1
  subst j1
  have HM2 := Lib.hid (fun W => rbody_any s hs2 Y ((m : Int) - Y) W)
  by_cases j2 : (bodyB s Y ((m : Int) - Y)).e = 0
  case neg =>
    rw [if_pos j2] at HR
    generalize bodyB s Y ((m : Int) - Y) = q at HM2 j2 HR
    obtain ⟨qt, qe⟩ := q
    simp only [retS] at HM2 j2 HR
    obtain rfl : r = ⟨[], str [], qe⟩ := HR.out
    have d5 : (qe != 0) = true := nt j2
    go_enter Try.func42, Try.ntmps42
    go_wp2_with fail
    refine (HB0.out _).mono ?_
    rintro e w1 ⟨rfl, hb1⟩
    go_wp2_with fail
    refine (HX.out _).mono ?_
    rintro e w2 ⟨rfl, hb2⟩
    go_wp2_with fail
    refine (HY.out _).mono ?_
    rintro e w3 ⟨rfl, hb3⟩
    have hz3 := chain (chain hb1 hb2) hb3
    go_wp2_with fail
    refine (HM.out _).mono ?_
    rintro e w4 ⟨rfl, hb4⟩
    have hz4 := chain hz3 hb4
    go_wp2_with fail
    refine (HM2.out _).mono ?_
    rintro e w5 ⟨rfl, hb5⟩
    have hz5 := chain hz4 hb5
    go_wp2_with fail
    go_ret2
    exact ⟨hz5, .inr ⟨j2, rfl⟩⟩
  rw [if_neg (fun h => h j2)] at HR
  generalize bodyB s Y ((m : Int) - Y) = q at HM2 j2 HR
  obtain ⟨fl, qe⟩ := q
  simp only [retS] at HM2 j2 HR
  subst j2
  have HS := Lib.hid (fun W => rspans_any ix hl1 X (by omega) W)
  generalize spansB ix X = sp at HS HR
  obtain ⟨sp, se⟩ := sp
  simp only at HS HR
  go_enter Try.func42, Try.ntmps42
  go_wp2_with fail
  refine (HB0.out _).mono ?_
  rintro e w1 ⟨rfl, hb1⟩
  go_wp2_with fail
  refine (HX.out _).mono ?_
  rintro e w2 ⟨rfl, hb2⟩
  go_wp2_with fail
  refine (HY.out _).mono ?_
  rintro e w3 ⟨rfl, hb3⟩
  have hz3 := chain (chain hb1 hb2) hb3
  go_wp2_with fail
  refine (HM.out _).mono ?_
  rintro e w4 ⟨rfl, hb4⟩
  have hz4 := chain hz3 hb4
  go_wp2_with fail
  refine (HM2.out _).mono ?_
  rintro e w5 ⟨rfl, hb5⟩
  have hz5 := chain hz4 hb5
  go_wp2_with fail
  refine (HS.out _).mono ?_
  rintro e w6 ⟨a, c, rfl, hO, hb6⟩
  simp only at hO
  have HO := Lib.hid hO
  have HB6 := Lib.hid (chain hz5 hb6)
  clear hO hb1 hb2 hb3 hz3 hb4 hz4 hb5 hz5 hb6
  simp only
  by_cases j3 : se = 0
  · subst j3
    rw [if_neg (fun h => h rfl)] at HR
    obtain rfl : r = ⟨sp, fl, 0⟩ := HR.out
    have hcp := Ew.cap_own HO.out
    go_wp2_with fail
    go_ret2
    exact ⟨below_alloc HB6.out _, .inl ⟨rfl, _, rfl, a, c, heap_alloc_new _ _, (own_srow (HO.out.alloc _)).2.2, hcp.1, hcp.2⟩⟩
  · rw [if_pos j3] at HR
    obtain rfl : r = ⟨[], str [], se⟩ := HR.out
    have d5 : (se != 0) = true := nt j3
    go_wp2_with fail
    go_ret2
    exact ⟨HB6.out, .inr ⟨j3, rfl⟩⟩

set_option maxHeartbeats 800000 in
set_option maxRecDepth 100000 in
theorem rblock_any (tb : Nat) (s f : ByteArray) (hs : s.size ≤ 4611686018427387904) (sp : List Sp) (i : Int) (w : World) (h : RBox w tb s sp f) :
    Calls Try.prog 20 #[.pointer (some ⟨tb, 0, none⟩), .int .i64 i] w fun e w' => e = retS (blockB s sp i) ∧ Below w.heap.size w w' := by
  obtain ⟨a, c, ⟨c0, c1, c2⟩, hr, _⟩ := h.cells
  unfold blockB
  by_cases h1 : i < 0
  · rw [if_pos (.inl h1)]
    have d1 : decide (i < 0) = true := dt h1
    go_enter Try.func20, Try.ntmps20
    go_wp2_with fail
    go_ret2
    exact ⟨rfl, Below.refl _ _⟩
  by_cases h2 : (sp.length : Int) ≤ i
  · rw [if_pos (.inr h2)]
    have d1 : decide (i < 0) = false := df h1
    have d2 : decide ((sp.length : Int) ≤ i) = true := dt h2
    go_enter Try.func20, Try.ntmps20
    go_wp2_with fail
    go_ret2
    exact ⟨rfl, Below.refl _ _⟩
  rw [if_neg (by omega)]
  obtain ⟨k, rfl⟩ := Int.eq_ofNat_of_zero_le (show 0 ≤ i by omega)
  simp only [Int.toNat_natCast]
  have hk : k < sp.length := by omega
  obtain ⟨ab, off, rfl, hab, hac⟩ := hr.at (by omega)
  have hd := hac k hk
  generalize sp.getD k sp0 = x at hd ⊢
  obtain ⟨l1, a1, n1⟩ := x
  simp only at hd ⊢
  have HBD := Lib.hid (fun W => rbody_any s hs a1 n1 W)
  generalize bodyB s a1 n1 = r at HBD ⊢
  obtain ⟨rt, re⟩ := r
  simp only [retS] at HBD
  have d1 : decide ((k : Int) < 0) = false := df h1
  have d2 : decide (sp.length ≤ k) = false := df (by omega)
  have i1 : (0 : Int) ≤ (k : Int) := by omega
  have i2 : (k : Int) < (sp.length : Int) := by omega
  have q1 := hd.2.1
  have q2 := hd.2.2
  have H0 : Hid ((w.cell? ⟨tb, 0, none⟩ = some (.string s) ∧ w.cell? ⟨tb, 1, none⟩ = some (.slice (some ⟨ab, off, none⟩) sp.length c)) ∧ (w.cell? ⟨ab, off + k * 3 + 1, none⟩ = some (.int .i64 a1) ∧ w.cell? ⟨ab, off + k * 3 + 2, none⟩ = some (.int .i64 n1)) ∧ tb < w.heap.size ∧ ab < w.heap.size) := ⟨⟨c0, c1⟩, ⟨q1, q2⟩, h.lt, hab⟩
  clear h hr hac hd h1 h2 q1 q2
  go_enter Try.func20, Try.ntmps20
  go_wp2_with fail
  go_region_held3 (fun w' => (w'.cell? ⟨tb, 0, none⟩ = some (.string s) ∧ w'.cell? ⟨tb, 1, none⟩ = some (.slice (some ⟨ab, off, none⟩) sp.length c)) ∧ (w'.cell? ⟨ab, off + k * 3 + 1, none⟩ = some (.int .i64 a1) ∧ w'.cell? ⟨ab, off + k * 3 + 2, none⟩ = some (.int .i64 n1)) ∧ tb < w'.heap.size ∧ ab < w'.heap.size)
    (first | exact H0.out | exact keepB (W := w.drew) H0.out hb3)
    (first | (go_at_call 54; refine (HBD.out w.drew).mono ?_; rintro e w3 ⟨rfl, hb3⟩))
  all_goals
    have hz : Below w.heap.size w w3 := (Below.refl w.heap.size w).drew.trans hb3
    clear hb3
    go_wp2_with fail
    go_ret2
    exact ⟨rfl, hz⟩
end Go.Proofs.Ytajfalffpcamhaa.Tw
