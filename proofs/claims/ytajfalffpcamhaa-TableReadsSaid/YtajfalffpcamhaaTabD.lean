/- The walk of law 11's tables. -/
import Derived.Test.YtajfalffpcamhaaTabH
import Derived.Test.YtajfalffpcamhaaTabQ
namespace Go.Proofs.Ytajfalffpcamhaa.Tw
open Go.RowKit
open Tb Fp Vp B En
set_option linter.unusedVariables false

/-! blocks lie within their table -/
theorem round_in {s : ByteArray} {fin : Nat} {a : Int} {out : List Sp} {b : Nat} (h : (roundB s fin a out b).e = 0) : (roundB s fin a out b).x.at_ = b ∧ b + (roundB s fin a out b).x.n ≤ fin := by
  by_cases e1 : (getT s a).e = 0
  case neg => rw [round_t e1] at h; exact absurd h e1
  by_cases e2 : (getS s (getT s a).next).e = 0
  case neg => rw [round_f e1 e2] at h; exact absurd h e2
  by_cases e3 : (getS s (getS s (getT s a).next).next).e = 0
  case neg => rw [round_n e1 e2 e3] at h; exact absurd h e3
  cases hok : okB fin b out (getT s a).t (getS s (getT s a).next).n (getS s (getS s (getT s a).next).next).n with
  | false => rw [round_no e1 e2 e3 hok] at h; exact absurd h (by simp)
  | true =>
    rw [round_ok e1 e2 e3 hok]
    unfold okB at hok
    simp only [Bool.and_eq_true, decide_eq_true_eq] at hok
    refine ⟨rfl, ?_⟩
    simp only
    omega
theorem rounds_in (s : ByteArray) (fin : Nat) : ∀ (k : Nat) (a : Int) (out : List Sp) (b : Nat), (∀ x ∈ out, x.at_ + x.n ≤ fin) → (roundsB s fin k a out b).e = 0 → ∀ x ∈ (roundsB s fin k a out b).l, x.at_ + x.n ≤ fin
  | 0, a, out, b, h, _ => h
  | k + 1, a, out, b, h, h0 => by
    unfold roundsB at h0 ⊢
    by_cases h1 : (roundB s fin a out b).e = 0
    case neg => rw [if_pos h1] at h0; exact absurd h0 h1
    rw [if_neg (fun hh => hh h1)] at h0 ⊢
    refine rounds_in s fin k _ _ _ ?_ h0
    intro x hx
    rcases List.mem_append.1 hx with hx | hx
    · exact h x hx
    · rw [List.mem_singleton] at hx
      subst hx
      have := round_in h1
      omega
theorem spans_in {s : ByteArray} {fin : Nat} (h : (spansB s fin).2 = 0) : ∀ x ∈ (spansB s fin).1, x.at_ + x.n ≤ fin := by
  unfold spansB at h ⊢
  by_cases h1 : (getS s 0).e = 0
  case neg => rw [if_pos h1] at h; exact absurd h h1
  rw [if_neg (fun hh => hh h1)] at h ⊢
  by_cases h2 : (getS s 0).n < 0
  · rw [if_pos h2] at h; exact absurd h (by simp)
  rw [if_neg h2] at h ⊢
  have hk := rounds_in s fin (getS s 0).n.toNat (getS s 0).next [] 0 (by simp)
  generalize roundsB s fin (getS s 0).n.toNat (getS s 0).next [] 0 = R at hk h ⊢
  unfold closeB at h ⊢
  by_cases h3 : R.e = 0
  case neg => rw [if_pos h3] at h; exact absurd h h3
  rw [if_neg (fun hh => hh h3)] at h ⊢
  by_cases h4 : R.next ≠ s.size ∨ R.behind ≠ fin
  · rw [if_pos h4] at h; exact absurd h (by simp)
  rw [if_neg h4]
  exact hk h3
theorem open_in {s : ByteArray} {z : Int} (h : (openB s z).e = 0) : ∀ x ∈ (openB s z).sp, x.at_ + x.n ≤ s.size := by
  unfold openB at h ⊢
  by_cases h1 : z < 24
  · rw [if_pos h1] at h; exact absurd h (by simp)
  rw [if_neg h1] at h ⊢
  by_cases h2 : (bodyB s (z - 24) 24).e = 0
  case neg => rw [if_pos h2] at h; exact absurd h h2
  have hz := bodyB_size h2
  rw [if_neg (fun hh => hh h2)] at h ⊢
  generalize num8 ((bodyB s (z - 24) 24).t.data.toList.take 8) = X at h ⊢
  generalize num8 ((bodyB s (z - 24) 24).t.data.toList.drop 8) = Y at h ⊢
  unfold headB at h ⊢
  by_cases h3 : X ≤ Y ∧ (Y : Int) ≤ z - 24
  case neg => rw [if_pos h3] at h; exact absurd h (by simp)
  rw [if_neg (fun hh => hh h3)] at h ⊢
  by_cases h4 : (bodyB s X ((Y : Int) - X)).e = 0
  case neg => rw [if_pos h4] at h; exact absurd h h4
  rw [if_neg (fun hh => hh h4)] at h ⊢
  by_cases h5 : (bodyB s Y (z - 24 - Y)).e = 0
  case neg => rw [if_pos h5] at h; exact absurd h h5
  rw [if_neg (fun hh => hh h5)] at h ⊢
  by_cases h6 : (spansB (bodyB s X ((Y : Int) - X)).t X).2 = 0
  case neg => rw [if_pos h6] at h; exact absurd h h6
  rw [if_neg (fun hh => hh h6)]
  intro x hx
  have := spans_in h6 x hx
  omega
theorem open_fl {s : ByteArray} {z : Int} (h : (openB s z).e = 0) : (openB s z).filter.size ≤ 65535 := by
  unfold openB at h ⊢
  by_cases h1 : z < 24
  · rw [if_pos h1] at h; exact absurd h (by simp)
  rw [if_neg h1] at h ⊢
  by_cases h2 : (bodyB s (z - 24) 24).e = 0
  case neg => rw [if_pos h2] at h; exact absurd h h2
  have hz := bodyB_size h2
  rw [if_neg (fun hh => hh h2)] at h ⊢
  generalize num8 ((bodyB s (z - 24) 24).t.data.toList.take 8) = X at h ⊢
  generalize num8 ((bodyB s (z - 24) 24).t.data.toList.drop 8) = Y at h ⊢
  unfold headB at h ⊢
  by_cases h3 : X ≤ Y ∧ (Y : Int) ≤ z - 24
  case neg => rw [if_pos h3] at h; exact absurd h (by simp)
  rw [if_neg (fun hh => hh h3)] at h ⊢
  by_cases h4 : (bodyB s X ((Y : Int) - X)).e = 0
  case neg => rw [if_pos h4] at h; exact absurd h h4
  rw [if_neg (fun hh => hh h4)] at h ⊢
  by_cases h5 : (bodyB s Y (z - 24 - Y)).e = 0
  case neg => rw [if_pos h5] at h; exact absurd h h5
  rw [if_neg (fun hh => hh h5)] at h ⊢
  by_cases h6 : (spansB (bodyB s X ((Y : Int) - X)).t X).2 = 0
  case neg => rw [if_pos h6] at h; exact absurd h h6
  rw [if_neg (fun hh => hh h6)]
  exact (bodyB_size h5).2.1
theorem getF0_ne2 (p : ByteArray) : (getF p 0).e ≠ 2 := by
  unfold getF
  rw [if_neg (by omega)]
  simp only [Int.toNat_zero]
  unfold getN
  repeat' split
  all_goals simp
theorem body_ne2 {s : ByteArray} {a n : Nat} (h : a + n ≤ s.size) : (bodyB s a n).e ≠ 2 := by
  have hp : (partB s a n).e = 0 := by unfold partB; rw [if_neg (by omega)]
  rw [bodyB_get hp]
  unfold frameB
  have := getF0_ne2 (partB s a n).t
  split
  · exact this
  · split <;> simp

theorem neq_span (l : ByteArray) (a n : Int) (W : World) : (binOp .neq 98 (.agg #[.string l, .int .i64 a, .int .i64 n]) (.agg #[.string l, .int .i64 a, .int .i64 n])).run Try.prog W = .ok (.bool false) W := by
  rw [run_neq_struct, run_equalIn_agg W 9999 98 _ _ (by kernel_rfl) (by kernel_rfl)]
  go_simp

set_option maxHeartbeats 400000 in
set_option maxRecDepth 100000 in
theorem open_nil (z : Int) (w : World) : Calls Try.prog 18 #[.nilFunc, .int .i64 z] w fun e w' => e = .returned (.tuple #[.pointer none, .int .i64 2]) ∧ Below w.heap.size w w' := by
  have hnf : ∀ W : World, Sem.run Try.prog (Go.binOp .eql 61 .nilFunc .nilFunc) W = .ok (.bool true) W := fun _ => by rfl
  have key : Calls Try.prog 18 #[.nilFunc, .int .i64 z] w (GotO w 0 ByteArray.empty ⟨[], str [], 2⟩) := by
    go_enter_defers Try.func18, Try.ntmps18
    go_wp2_with fail
    exact door_early rfl rfl (blk_alloc (heap_alloc_new _ _)) (blk_new (by simp)) (below_alloc (below_alloc (Below.refl _ _) _) _) (by decide)
  refine key.mono ?_
  rintro e w' ⟨hb, ⟨h, _⟩ | ⟨_, h⟩⟩
  · exact absurd h (by decide)
  · exact ⟨h, hb⟩

/-- both tables, or none -/
def GotT (w : World) (s : ByteArray) (r : TR) (e : Ending) (w' : World) : Prop :=
  Below w.heap.size w w' ∧ ((r.e = 0 ∧ ∃ tb g rb, e = .returned (.tuple #[.pointer (some ⟨tb, 0, none⟩), .pointer (some ⟨rb, 0, none⟩), .bool true]) ∧ TBox w' tb g s r.sp r.filter ∧ RBox w' rb s r.sp r.filter) ∨
    (r.e ≠ 0 ∧ e = .returned (.tuple #[.pointer none, .pointer none, .bool true])))

set_option maxHeartbeats 1600000 in
set_option maxRecDepth 100000 in
theorem tables_any (s : ByteArray) (hs : s.size ≤ 140737488351232) (z : Int) (hz : z ≤ 9223372036854775807) (w : World) :
    Calls Try.prog 13 #[.string s, .int .i64 z] w (GotT w s (openB s z)) := by
  have HOP := Lib.hid (fun g W hc => open_any g s hs z hz W hc)
  have HRO := Lib.hid (fun W => ropen_any s hs z hz W)
  have hgd := @open_good s z
  generalize openB s z = r at HOP HRO hgd ⊢
  obtain ⟨sp, fl, re⟩ := r
  simp only at hgd
  go_enter Try.func13, Try.ntmps13
  go_wp2_with fail
  refine (source_any s _).mono ?_
  rintro e w1 ⟨rfl, rfl⟩
  have HC1 : Hid (Cell1 (w.alloc (.cells #[.string s] 9)) w.heap.size 9 (.string s)) := heap_alloc_new _ _
  have HB1 := Lib.hid (below_alloc (Below.refl w.heap.size w) (.cells #[.string s] 9))
  generalize hW : World.alloc _ _ = W1 at HC1 HB1 ⊢
  clear hW
  generalize hg : w.heap.size = g at HC1 ⊢
  rw [hg] at HB1
  go_wp2_with fail
  refine (HOP.out g _ HC1.out).mono ?_
  rintro e w2 ⟨hb2, hor⟩
  have HB2 : Hid (Below w.heap.size w w2) := chain (by rw [hg]; exact HB1.out) hb2
  by_cases h0 : re = 0
  · subst h0
    obtain ⟨tb, rfl, hT2⟩ : ∃ tb, e = .returned (.tuple #[.pointer (some ⟨tb, 0, none⟩), .int .i64 0]) ∧ TBox w2 tb g s sp fl := by
      rcases hor with ⟨_, h⟩ | ⟨h, _⟩
      · exact h
      · exact absurd rfl h
    have HT2 := Lib.hid hT2
    obtain ⟨hss, hl⟩ := hgd rfl
    clear hor hT2 hb2 HB1 HC1 HOP hgd
    go_wp2_with fail
    refine (HRO.out _).mono ?_
    rintro e w3 ⟨hb3, hor⟩
    obtain ⟨rb, rfl, hR3⟩ : ∃ rb, e = .returned (.tuple #[.pointer (some ⟨rb, 0, none⟩), .int .i64 0]) ∧ RBox w3 rb s sp fl := by
      rcases hor with ⟨_, h⟩ | ⟨h, _⟩
      · exact h
      · exact absurd rfl h
    have HR3 := Lib.hid hR3
    have HT3 := Lib.hid (HT2.out.below hb3)
    have HB3 := Lib.hid (chain HB2.out hb3)
    clear hor hR3 hb3 HB2 HT2 HRO
    go_wp2_with fail
    refine (tspans_any tb g s fl sp hl _ HT3.out).mono ?_
    rintro e w4 ⟨a4, c4, rfl, hr4, hb4⟩
    have HR4 := Lib.hid (HR3.out.below hb4)
    have HT4 := Lib.hid (HT3.out.below hb4)
    have HB4 := Lib.hid (chain HB3.out hb4)
    have HS4 := Lib.hid hr4
    obtain ⟨a, c, ⟨t0, t1, t2⟩, hrw, _⟩ := HR4.out.cells
    have HRW := Lib.hid hrw
    have T1 := Lib.hid t1
    clear hb4 hr4 HB3 HT3 HR3 t0 t2 hrw
    go_wp2_with fail
    clear t1
    go_loopw [56] (fun si wr => ∃ j : Nat, si = .int .i64 j ∧ j ≤ sp.length ∧ Below w4.heap.size w4 wr) (fun si _ => sp.length - (intOf si).toNat)
    case atStart => exact ⟨0, rfl, by omega, Below.refl _ _⟩
    case round =>
      obtain ⟨j, rfl, hj, hbel⟩ := hrel
      by_cases hlt : j < sp.length
      · obtain ⟨b1, o1, rfl, _, hc1⟩ := (HS4.out.below hbel).at (by omega)
        obtain ⟨b2, o2, rfl, _, hc2⟩ := (HRW.out.below hbel).at (by omega)
        have t1 := kc T1.out hbel
        have hd1 := hc1 j hlt
        have hd2 := hc2 j hlt
        generalize sp.getD j sp0 = x at hd1 hd2
        obtain ⟨xl, xa, xn⟩ := x
        simp only at hd1 hd2
        obtain ⟨p0, p1, p2⟩ := hd1
        obtain ⟨q0, q1, q2⟩ := hd2
        have hne := fun W => neq_span xl xa xn W
        have i1 : (0 : Int) ≤ (j : Int) := by omega
        have i2 : (j : Int) < (sp.length : Int) := by omega
        have HBE := Lib.hid hbel
        clear hc1 hc2 hbel
        go_wp2_with fail
        go_quiet (fail)
        go_wp2_with fail
        go_roundw
        case rel => exact ⟨j + 1, by go_num, by omega, drewN HBE.out⟩
        case measure => simp [intOf]; omega
      · obtain rfl : j = sp.length := by omega
        have HT5 := Lib.hid (HT4.out.below hbel)
        have HR5 := Lib.hid (HR4.out.below hbel)
        have HB5 := Lib.hid (chain HB4.out hbel)
        clear hbel
        go_wp2_with fail
        go_ret3
        exact ⟨HB5.out, .inl ⟨rfl, tb, g, rb, rfl, HT5.out, HR5.out⟩⟩
  · have he : e = .returned (.tuple #[.pointer none, .int .i64 re]) := by
      rcases hor with ⟨h, _⟩ | ⟨_, h⟩
      · exact absurd h h0
      · exact h
    subst he
    clear hor hb2 HB1 HC1 HOP hgd
    go_wp2_with fail
    refine (HRO.out _).mono ?_
    rintro e w3 ⟨hb3, hor⟩
    have he : e = .returned (.tuple #[.pointer none, .int .i64 re]) := by
      rcases hor with ⟨h, _⟩ | ⟨_, h⟩
      · exact absurd h h0
      · exact h
    subst he
    have HB3 := Lib.hid (chain HB2.out hb3)
    have hne : (re != re) = false := by simp
    clear hor hb3 HB2 HRO
    go_wp2_with fail
    go_ret3
    exact ⟨HB3.out, .inr ⟨h0, rfl⟩⟩
end Go.Proofs.Ytajfalffpcamhaa.Tw
