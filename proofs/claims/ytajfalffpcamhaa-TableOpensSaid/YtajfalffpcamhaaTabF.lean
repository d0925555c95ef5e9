/- The walks of the reference's number and spans. -/
import Derived.Test.YtajfalffpcamhaaTabO
import Derived.Test.YtajfalffpcamhaaVarRef
namespace Go.Proofs.Ytajfalffpcamhaa.Tw
open Go.RowKit
open Tb Fp Fw Vp Vw B En
set_option linter.unusedVariables false

set_option maxHeartbeats 400000 in
theorem number_any (s : ByteArray) (hs : s.size = 8) (w : World) :
    Calls Try.prog 71 #[.string s] w fun e w' => e = .returned (.int .i64 (if 1152921504606846976 < num8 s.data.toList then -1 else (num8 s.data.toList : Int))) ∧ Below w.heap.size w w' := by
  have hg : ∀ (n : Nat) (h : n < s.size), (s[n]'h).toNat = bn s n := get_bn s
  have HN := Lib.hid (num8_all s)
  rw [hs] at HN
  obtain ⟨N, hN⟩ : ∃ N, num8 s.data.toList = N := ⟨_, rfl⟩
  rw [hN] at HN ⊢
  obtain ⟨r, hr⟩ : ∃ r : Int, (if 1152921504606846976 < N then -1 else (N : Int)) = r := ⟨_, rfl⟩
  rw [hr]
  have HR := Lib.hid hr
  have hNb : N < 18446744073709551616 := by rw [← hN]; exact Nat.lt_of_lt_of_le (num8_lt _) (by rw [show s.data.toList.length = 8 from by simp [hs]]; decide)
  clear hr hN
  go_enter Try.func71, Try.ntmps71
  go_wp2_with fail
  go_loopw [3, 4] (fun su si wr => ∃ i u : Nat, si = .int .i64 i ∧ su = .int .u64 u ∧ i ≤ 8 ∧ Hid (u = num8 (s.data.toList.take i)) ∧ Below w.heap.size w wr) (fun su si _ => 8 - (intOf si).toNat)
  case atStart => exact ⟨0, 0, rfl, rfl, by omega, rfl, Below.refl _ _⟩
  case round =>
    obtain ⟨i, u, rfl, rfl, hi, hu, hb⟩ := hrel
    by_cases hlt : i < 8
    · have hx := bn_lt s i
      have hub : u < 72057594037927936 := by rw [hu.out]; exact num8_bd s i (by omega)
      have HS := Lib.hid (num8_step s i (by omega))
      have i1 : (0 : Int) ≤ (i : Int) := by omega
      have i2 : i < s.size := by omega
      have e1 : IntKind.u64.wrap ((u : Int) * 256) = (u : Int) * 256 := by rw [IntKind.wrap_u64]; omega
      have e2 : IntKind.u64.wrap ((u : Int) * 256 + (bn s i : Int)) = (u : Int) * 256 + (bn s i : Int) := by rw [IntKind.wrap_u64]; omega
      go_wp2_with fail
      go_roundw
      case rel => exact ⟨i + 1, u * 256 + bn s i, by go_num, by go_num, by omega, by show _ = _; rw [HS.out, ← hu.out], hb⟩
      case measure => simp [intOf]; omega
    · obtain rfl : i = 8 := by omega
      have huN : u = N := by rw [hu.out, HN.out]
      subst huN
      clear hu HN
      by_cases hbig : 1152921504606846976 < u
      · have d1 : decide ((1152921504606846976 : Int) < (u : Int)) = true := dt (by omega)
        obtain rfl : r = -1 := by rw [← HR.out, if_pos hbig]
        clear hbig
        go_wp2_with fail
        go_ret
        exact ⟨rfl, hb⟩
      · have d1 : decide ((1152921504606846976 : Int) < (u : Int)) = false := df (by omega)
        obtain rfl : r = (u : Int) := by rw [← HR.out, if_neg hbig]
        have e1 : IntKind.i64.wrap (u : Int) = (u : Int) := IntWalk.i64_in _ (by omega)
        clear hbig
        go_wp2_with fail
        go_ret
        exact ⟨rfl, hb⟩

theorem infoRSpan : (Try.prog.info? 98).map (fun i => (i.zero, i.size, i.bytes)) = some (some (.agg #[.string ⟨#[]⟩, .int .i64 0, .int .i64 0]), 3, 32) := by kernel_rfl

/-- the reference's blocks, and an error -/
def GotRS (w : World) (r : List Sp × Int) (e : Ending) (w' : World) : Prop :=
  ∃ a c, e = .returned (.tuple #[.slice a r.1.length c, .int .i64 r.2]) ∧ w'.ownsRow w.heap.size 98 3 (.slice a r.1.length c) r.1.length (scells r.1) ∧ Below w.heap.size w w'
theorem gotrs_bad {w w' : World} {x : Int} (hb : Below w.heap.size w w') : GotRS w ([], x) (.returned (.tuple #[.slice none 0 0, .int .i64 x])) w' := ⟨none, 0, rfl, World.ownsRow_nil _ _ _ _, hb⟩

set_option maxHeartbeats 1600000 in
set_option maxRecDepth 100000 in
theorem rspans_any (s : ByteArray) (hs : s.size ≤ 65535) (fin : Nat) (hf : fin ≤ 140737488355328) (w : World) :
    Calls Try.prog 72 #[.string s, .int .i64 fin] w (GotRS w (spansB s fin)) := by
  have hs2 : s.size ≤ 4611686018427387904 := by omega
  obtain ⟨r, hr⟩ : ∃ r, r = spansB s fin := ⟨_, rfl⟩
  rw [← hr]
  unfold spansB at hr
  have HG0 := Lib.hid (fun W => Vw.rget_any s 0 hs2 W)
  by_cases h0 : (getS s 0).e = 0
  case neg =>
    rw [if_pos h0] at hr
    subst hr
    generalize getS s 0 = g at HG0 h0
    obtain ⟨gn, gx, ge⟩ := g
    simp only at h0
    have d1 : (ge != 0) = true := nt h0
    go_enter Try.func72, Try.ntmps72
    go_wp2_with fail
    refine (HG0.out _).mono ?_
    rintro e w1 ⟨rfl, rfl⟩
    simp only [ret3]
    go_wp2_with fail
    go_ret2
    exact gotrs_bad (Below.refl _ _)
  rw [if_neg (by simp [h0])] at hr
  by_cases h1 : (getS s 0).n < 0
  · rw [if_pos h1] at hr
    subst hr
    generalize getS s 0 = g at HG0 h0 h1
    obtain ⟨gn, gx, ge⟩ := g
    simp only at h0 h1
    subst h0
    have d1 : decide (gn < 0) = true := dt h1
    go_enter Try.func72, Try.ntmps72
    go_wp2_with fail
    refine (HG0.out _).mono ?_
    rintro e w1 ⟨rfl, rfl⟩
    simp only [ret3]
    go_wp2_with fail
    go_ret2
    exact gotrs_bad (Below.refl _ _)
  rw [if_neg h1] at hr
  obtain ⟨m, hm⟩ := Int.eq_ofNat_of_zero_le (show 0 ≤ (getS s 0).n by omega)
  have hmb : m ≤ 9223372036854775807 := by
    obtain ⟨b, k, _, hrd, _, hg⟩ := getS_ok h0
    have h4 := unzz_bd (val_bound hrd)
    rw [hg] at hm; simp only at hm; omega
  have hx0 := num_gt h0
  generalize getS s 0 = g at hr hm hx0 HG0 h0
  obtain ⟨gn, gx, ge⟩ := g
  simp only at hr hm hx0 h0
  subst hm h0
  simp only [Int.toNat_natCast] at hr
  obtain ⟨R, hRR⟩ : ∃ R, roundsB s fin m gx [] 0 = R := ⟨_, rfl⟩
  rw [hRR] at hr
  have HR := Lib.hid hr
  have HRR := Lib.hid hRR
  clear hr hRR h1
  have d0 : decide ((m : Int) < 0) = false := df (by omega)
  go_enter Try.func72, Try.ntmps72
  go_wp2_with fail
  refine (HG0.out _).mono ?_
  rintro e w1 ⟨rfl, rfl⟩
  simp only [ret3]
  go_wp2_with fail
  go_loopw [7, 9, 10, 11] (fun sa so sb si wr => ∃ (i b : Nat) (a : Int) (acc : List Sp) (p : Option Addr) (c : Nat), sa = .int .i64 a ∧ so = .slice p acc.length c ∧ sb = .int .i64 b ∧ si = .int .i64 i ∧ i ≤ m ∧ b ≤ fin ∧ (acc.length : Int) ≤ a ∧ a ≤ 65535 ∧
    Hid (roundsB s fin (m - i) a acc b = R) ∧ Hid (wr.ownsRow w.heap.size 98 3 (.slice p acc.length c) acc.length (scells acc)) ∧ Below w.heap.size w wr) (fun sa so sb si _ => m - (intOf si).toNat)
  case atStart => exact ⟨0, 0, gx, [], none, 0, rfl, rfl, rfl, rfl, by omega, by omega, by simp; omega, by omega, HRR.out, World.ownsRow_nil _ _ _ _, Below.refl _ _⟩
  case round =>
    obtain ⟨i, b, a, acc, p, c, rfl, rfl, rfl, rfl, hi, hbf, hla, ha5, hS, hO, hB⟩ := hrel
    have hR := hS.out
    clear hS HRR
    by_cases hlt : i < m
    · obtain ⟨k, hk⟩ : ∃ k, m - i = k + 1 := ⟨m - i - 1, by omega⟩
      rw [hk] at hR
      have HB := Lib.hid hB
      have HT := Lib.hid (fun W => Vw.rgetText_any s a hs2 W)
      by_cases e1 : (getT s a).e = 0
      case neg =>
        obtain rfl : r = ([], (getT s a).e) := by rw [HR.out, rounds_bad hR (round_t e1) e1]
        generalize getT s a = t at HT e1
        obtain ⟨tt, tx, te⟩ := t
        simp only at e1
        have d1 : (te != 0) = true := nt e1
        clear hR hO hB hk HR
        go_wp2_with fail
        refine (HT.out _).mono ?_
        rintro e w3 ⟨rfl, rfl⟩
        simp only [retT]
        go_wp2_with fail
        go_ret2
        exact gotrs_bad HB.out
      have ht1 := txt_gt e1
      have HF := Lib.hid (fun W => Vw.rget_any s (getT s a).next hs2 W)
      by_cases e2 : (getS s (getT s a).next).e = 0
      case neg =>
        obtain rfl : r = ([], (getS s (getT s a).next).e) := by rw [HR.out, rounds_bad hR (round_f e1 e2) e2]
        generalize getS s (getT s a).next = f at e2 HF
        generalize getT s a = t at HT e1 HF
        obtain ⟨tt, tx, te⟩ := t
        obtain ⟨fn, fx, fe⟩ := f
        simp only at e1 e2 HF
        subst e1
        have d1 : (fe != 0) = true := nt e2
        clear hR hO hB hk HR
        go_wp2_with fail
        refine (HT.out _).mono ?_
        rintro e w3 ⟨rfl, rfl⟩
        simp only [retT]
        go_wp2_with fail
        refine (HF.out _).mono ?_
        rintro e w5 ⟨rfl, rfl⟩
        simp only [ret3]
        go_wp2_with fail
        go_ret2
        exact gotrs_bad HB.out
      have hf1 := num_gt e2
      have HG := Lib.hid (fun W => Vw.rget_any s (getS s (getT s a).next).next hs2 W)
      by_cases e3 : (getS s (getS s (getT s a).next).next).e = 0
      case neg =>
        obtain rfl : r = ([], (getS s (getS s (getT s a).next).next).e) := by rw [HR.out, rounds_bad hR (round_n e1 e2 e3) e3]
        generalize getS s (getS s (getT s a).next).next = g2 at e3 HG
        generalize getS s (getT s a).next = f at e2 HF HG
        generalize getT s a = t at HT e1 HF
        obtain ⟨tt, tx, te⟩ := t
        obtain ⟨fn, fx, fe⟩ := f
        obtain ⟨gn, gx2, ge⟩ := g2
        simp only at e1 e2 e3 HF HG
        subst e1 e2
        have d1 : (ge != 0) = true := nt e3
        clear hR hO hB hk HR
        go_wp2_with fail
        refine (HT.out _).mono ?_
        rintro e w3 ⟨rfl, rfl⟩
        simp only [retT]
        go_wp2_with fail
        refine (HF.out _).mono ?_
        rintro e w5 ⟨rfl, rfl⟩
        simp only [ret3]
        go_wp2_with fail
        refine (HG.out _).mono ?_
        rintro e w6 ⟨rfl, rfl⟩
        simp only [ret3]
        go_wp2_with fail
        go_ret2
        exact gotrs_bad HB.out
      have hn1 := num_gt e3
      obtain ⟨ok, hok⟩ : ∃ ok, okB fin b acc (getT s a).t (getS s (getT s a).next).n (getS s (getS s (getT s a).next).next).n = ok := ⟨_, rfl⟩
      have hno : ok = false → r = ([], 4) := fun h => by rw [HR.out, rounds_bad hR (round_no e1 e2 e3 (by rw [hok]; exact h)) (by decide)]
      have hyes : ok = true → roundsB s fin k (getS s (getS s (getT s a).next).next).next (acc ++ [⟨(getT s a).t, b, (getS s (getS s (getT s a).next).next).n.toNat⟩]) (b + (getS s (getS s (getT s a).next).next).n.toNat) = R :=
        fun h => rounds_ok hR (round_ok e1 e2 e3 (by rw [hok]; exact h)) rfl
      have hnx : a < (getS s (getS s (getT s a).next).next).next ∧ (getS s (getS s (getT s a).next).next).next ≤ 65535 := by omega
      clear hR ht1 hf1 hn1 ha5
      generalize getS s (getS s (getT s a).next).next = g2 at HG hok hyes hnx e3
      generalize getS s (getT s a).next = f at HF HG hok e2
      generalize getT s a = t at HT e1 HF hok hyes
      obtain ⟨tt, tx, te⟩ := t
      obtain ⟨fn, fx, fe⟩ := f
      obtain ⟨gn, gx2, ge2⟩ := g2
      simp only at e1 e2 e3 HF HG hok hyes hnx
      subst e1 e2 e3
      have HO := Lib.hid hO.out
      have HK := Lib.hid hk
      have HOK := Lib.hid hok
      have HNO := Lib.hid hno
      have HYES := Lib.hid hyes
      have HNX := Lib.hid hnx
      clear hO hB hk hok hno hyes hnx
      go_wp2_with fail
      refine (HT.out _).mono ?_
      rintro e w3 ⟨rfl, rfl⟩
      simp only [retT]
      go_wp2_with fail
      refine (HF.out _).mono ?_
      rintro e w5 ⟨rfl, rfl⟩
      simp only [ret3]
      go_wp2_with fail
      refine (HG.out _).mono ?_
      rintro e w6 ⟨rfl, rfl⟩
      simp only [ret3]
      clear HT HF HG
      by_cases k1 : fn = b
      case neg =>
        obtain rfl : r = ([], 4) := HNO.out (by rw [← HOK.out]; simp [okB, k1])
        have d1 : (fn != (b : Int)) = true := nt k1
        clear k1
        go_wp2_with fail
        go_ret2
        exact gotrs_bad HB.out
      subst k1
      by_cases k2 : 8 ≤ gn
      case neg =>
        obtain rfl : r = ([], 4) := HNO.out (by rw [← HOK.out]; simp [okB, k2])
        have d2 : decide (gn < 8) = true := dt (by omega)
        clear k2
        go_wp2_with fail
        go_ret2
        exact gotrs_bad HB.out
      have d2 : decide (gn < 8) = false := df (by omega)
      have e9 : IntKind.i64.wrap ((fin : Int) - (b : Int)) = (fin : Int) - (b : Int) := by rw [IntKind.wrap_i64]; omega
      by_cases k3 : gn ≤ (fin : Int) - (b : Int)
      case neg =>
        obtain rfl : r = ([], 4) := HNO.out (by rw [← HOK.out]; simp [okB, k3])
        have d3 : decide ((fin : Int) - (b : Int) < gn) = true := dt (by omega)
        clear k3
        go_wp2_with fail
        go_ret2
        exact gotrs_bad HB.out
      have d3 : decide ((fin : Int) - (b : Int) < gn) = false := df (by omega)
      obtain ⟨n, rfl⟩ := Int.eq_ofNat_of_zero_le (show 0 ≤ gn by omega)
      simp only [Int.toNat_natCast] at HYES
      have hnx2 := HNX.out
      have hacc : acc.length + 1 ≤ 65535 := by omega
      have f1 : IntKind.i64.wrap (n : Int) = (n : Int) := IntWalk.i64_in _ (by omega)
      by_cases k4 : acc.length = 0
      · obtain rfl : acc = [] := List.eq_nil_of_length_eq_zero k4
        obtain rfl : ok = true := by rw [← HOK.out]; simp [okB, k2, k3]
        simp only [List.length_nil] at HO k4 hacc
        clear k4
        go_wp2_with (at_builtin; refine wpList_push2 rfl _ _ 43 rfl Try.underlying43 infoRSpan rfl (by decide) rfl #[.string tt, .int .i64 b, .int .i64 n] rfl ?c1 rfl rfl HO.out ?c2 ?c3 ?c4 ?_)
        case c1 => simp [Value.oneCell']
        case c2 => exact HB.out.size
        case c3 => unfold maxLen; omega
        intro a7 cap7 w7 hO7 hg7 hb7
        have HB7 := Lib.hid (HB.out.trans hb7)
        have HO7 := Lib.hid hO7
        have h10 := HYES.out (by first | rfl | trivial)
        have H10 := Lib.hid h10
        clear HO HYES h10 hO7 hg7 hb7
        go_wp2_with fail
        go_roundw
        case rel => exact ⟨i + 1, b + n, gx2, [⟨tt, b, n⟩], a7, cap7, by go_num, rfl, by go_num, by go_num, by omega, by omega, by simp; omega, hnx2.2, by show _ = _; rw [show m - (i + 1) = k from by have := HK.out; omega]; exact H10.out, HO7.out, HB7.out⟩
        case measure => simp [intOf]; omega
      · obtain ⟨j, hj⟩ : ∃ j, acc.length = j + 1 := ⟨acc.length - 1, by omega⟩
        obtain ⟨gb, off, hp, hgb, hcs⟩ := (own_srow HO.out).2.2.at (by omega)
        subst hp
        have cj := (hcs j (by omega)).1
        have hlj : lastS acc = acc.getD j sp0 := by unfold lastS; rw [hj]; rfl
        rw [← hlj] at cj
        have hem : acc.isEmpty = false := by cases acc with | nil => simp at k4 | cons _ _ => rfl
        have HOK2 : ok = !decide (cmpK tt (lastS acc).last < 0) := by rw [← HOK.out]; simp [okB, k2, k3, hem]
        have hle := lssS tt (lastS acc).last
        generalize (lastS acc).last = ls at cj hle HOK2
        have hle2 : Op.bytesLess tt.toList ls.toList = !ok := by rw [hle, HOK2]; simp
        have e60 : IntKind.i64.wrap ((acc.length : Int) - 1) = (j : Int) := by rw [IntWalk.i64_in _ (by omega)]; omega
        have d4 : decide (0 < acc.length) = true := dt (by omega)
        have d4' : decide ((0 : Int) < (acc.length : Int)) = true := dt (by omega)
        have i1 : (0 : Int) ≤ (j : Int) := by omega
        have i2 : (j : Int) < (acc.length : Int) := by omega
        have i3 : j < acc.length := by omega
        clear hcs hlj hem HOK HOK2 k4 hj hle
        cases ok with
        | false =>
          obtain rfl : r = ([], 4) := HNO.out rfl
          have hle3 : Op.bytesLess tt.toList ls.toList = true := hle2
          clear hle2
          go_wp2_with fail
          go_ret2
          exact gotrs_bad HB.out
        | true =>
          have hle3 : Op.bytesLess tt.toList ls.toList = false := hle2
          clear hle2
          go_upto_if 94 with fail
          go_wp2_with (at_builtin; refine wpList_push2 rfl _ _ 43 rfl Try.underlying43 infoRSpan rfl (by decide) rfl #[.string tt, .int .i64 b, .int .i64 n] rfl ?f1 rfl rfl HO.out ?f2 ?f3 ?f4 ?_)
          case f1 => simp [Value.oneCell']
          case f2 => exact HB.out.size
          case f3 => unfold maxLen; omega
          case f4 => omega
          intro a7 cap7 w7 hO7 hg7 hb7
          have HB7 := Lib.hid (HB.out.trans hb7)
          have HO7 : Hid (w7.ownsRow w.heap.size 98 3 (.slice a7 (acc ++ [(⟨tt, b, n⟩ : Sp)]).length cap7) (acc ++ [(⟨tt, b, n⟩ : Sp)]).length (scells (acc ++ [(⟨tt, b, n⟩ : Sp)]))) := by
            show World.ownsRow _ _ _ _ _ _ _
            rw [List.length_append, List.length_singleton, scells_snoc]; exact hO7
          have h10 := HYES.out (by first | rfl | trivial)
          have H10 := Lib.hid h10
          clear HO HYES h10 hO7 hg7 hb7
          go_wp2_with fail
          go_roundw
          case rel => exact ⟨i + 1, b + n, gx2, acc ++ [(⟨tt, b, n⟩ : Sp)], a7, cap7, by go_num, by rw [List.length_append, List.length_singleton], by go_num, by go_num, by omega, by omega, by simp; omega, hnx2.2, by show _ = _; rw [show m - (i + 1) = k from by have := HK.out; omega]; exact H10.out, HO7, HB7.out⟩
          case measure => simp [intOf]; omega
    · obtain rfl : i = m := by omega
      rw [show i - i = 0 from by omega] at hR
      obtain rfl : R = ⟨acc, a, b, 0⟩ := by rw [← hR]; rfl
      have hr2 := HR.out
      clear hR HR hla ha5
      have HB := Lib.hid hB
      clear hB
      by_cases k1 : a = (s.size : Int)
      case neg =>
        obtain rfl : r = ([], 4) := by rw [hr2]; unfold closeB; rw [if_neg (fun hh => hh rfl), if_pos (Or.inl k1)]
        have d1 : (a != (s.size : Int)) = true := nt k1
        clear k1 hr2
        go_wp2_with fail
        go_ret2
        exact gotrs_bad HB.out
      subst k1
      by_cases k2 : b = fin
      case neg =>
        obtain rfl : r = ([], 4) := by rw [hr2]; unfold closeB; rw [if_neg (fun hh => hh rfl), if_pos (Or.inr k2)]
        have d1 : ((b : Int) != (fin : Int)) = true := nt (by omega)
        clear k2 hr2
        go_wp2_with fail
        go_ret2
        exact gotrs_bad HB.out
      subst k2
      obtain rfl : r = (acc, 0) := by rw [hr2]; unfold closeB; rw [if_neg (fun hh => hh rfl), if_neg (by simp)]
      clear hr2
      go_wp2_with fail
      go_ret2
      exact ⟨p, c, rfl, hO.out, HB.out⟩
end Go.Proofs.Ytajfalffpcamhaa.Tw
