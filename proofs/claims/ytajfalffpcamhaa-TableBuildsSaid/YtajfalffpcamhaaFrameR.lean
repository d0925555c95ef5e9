/- The walks of the reference oxbowref03: Sum, Put, Get. -/
import Derived.Test.YtajfalffpcamhaaFrameG
namespace Go.Proofs.Ytajfalffpcamhaa.Fw
open Go.RowKit
open Fp B
set_option linter.unusedVariables false

theorem stp_odd {c : Nat} (h : c < 4294967296) (ho : c % 2 = 1) : bits .xor .u32 ((c : Int) / 2) 3988292384 = (stp c : Int) := by
  have e1 : (c : Int) / 2 = ((c / 2 : Nat) : Int) := by omega
  have e2 : (3988292384 : Int) = ((3988292384 : Nat) : Int) := rfl
  rw [e1, e2, u32_xor_nat _ _ (by omega) (by omega), stp, ho, Nat.one_mul]
theorem stp_even {c : Nat} (ho : c % 2 = 0) : (c : Int) / 2 = (stp c : Int) := by
  rw [stp, ho, Nat.zero_mul, Nat.xor_zero]; omega

set_option maxHeartbeats 400000 in
theorem rsum_any (s : ByteArray) (hs : s.size ≤ 4611686018427387904) (w : World) :
    Calls Try.prog 76 #[.string s] w fun e w' => e = .returned (.int .u32 (sum s.data.toList)) ∧ w = w' := by
  have hgb : ∀ (n : Nat) (h : n < s.size), (s[n]'h).toNat = bn s n := get_bn s
  go_enter Try.func76, Try.ntmps76
  go_wp2
  go_loop [3, 4] (fun x i => ∃ (k c : Nat), x = .int .u32 c ∧ i = .int .i64 k ∧ k ≤ s.size ∧ c < 4294967296 ∧ c = crc 4294967295 (s.data.toList.take k)) (fun _ i => s.size - (intOf i).toNat)
  case atStart => exact ⟨0, 4294967295, rfl, rfl, by omega, by omega, rfl⟩
  case round =>
    obtain ⟨k, c, rfl, rfl, hk, hc, hcr⟩ := hrel
    have HC := Lib.hid hcr
    clear hcr
    by_cases hlt : k < s.size
    · have hb := bn_lt s k
      have hx : bits .xor .u32 (c : Int) (bn s k) = ((c ^^^ bn s k : Nat) : Int) := u32_xor_nat c _ hc (by omega)
      have hxl := xor_lt32 hc (show bn s k < 4294967296 by omega)
      obtain ⟨d, hd⟩ : ∃ d, d = c ^^^ bn s k := ⟨_, rfl⟩
      rw [← hd] at hx hxl
      have HD := Lib.hid hd
      clear hd
      go_wp2
      go_loop [3, 5] (fun x i => ∃ (j e : Nat), x = .int .u32 e ∧ i = .int .i64 j ∧ j ≤ 8 ∧ e < 4294967296 ∧ e = stpN j d) (fun _ i => 8 - (intOf i).toNat)
      case atStart => exact ⟨0, d, rfl, rfl, by omega, hxl, rfl⟩
      case round =>
        obtain ⟨j, e, rfl, rfl, hj, he, her⟩ := hrel
        have HE := Lib.hid her
        clear her
        by_cases hj8 : j < 8
        · have hsl := stp_lt he
          by_cases ho : e % 2 = 1
          · have hp : ((e : Int) % 2 == 1) = true := et (by omega)
            have hst := stp_odd he ho
            clear ho
            go_wp2
            go_round
            case rel => exact ⟨j + 1, stp e, rfl, by go_num, by omega, hsl, by rw [HE.out]; rfl⟩
            case measure => simp [intOf]; omega
          · have hp : ((e : Int) % 2 == 1) = false := ef (by omega)
            have hst : (e : Int) / 2 = (stp e : Int) := stp_even (by omega)
            clear ho
            go_wp2
            go_round
            case rel => exact ⟨j + 1, stp e, rfl, by go_num, by omega, hsl, by rw [HE.out]; rfl⟩
            case measure => simp [intOf]; omega
        · go_wp2
          go_round
          case rel => exact ⟨k + 1, e, rfl, by go_num, by omega, he, by
            have h8 : j = 8 := by omega
            subst h8
            rw [HE.out, crc_take _ _ (by simpa using hlt), ← HC.out, HD.out]
            simp [crcB, bn, List.getD_eq_getElem?_getD, List.getElem?_eq_getElem (show k < s.data.toList.length by simpa using hlt)]⟩
          case measure => simp [intOf]; omega
    · go_wp2
      go_ret
      have hks : k = s.size := by omega
      subst hks
      have e : sum s.data.toList = 4294967295 - c := by rw [HC.out, sum, List.take_of_length_le (by simp)]
      rw [e]
      exact ⟨by rw [show ((4294967295 - c : Nat) : Int) = 4294967295 - (c : Int) from by omega]; rfl, rfl⟩

set_option maxHeartbeats 400000 in
set_option maxRecDepth 100000 in
theorem rput_ok (s : ByteArray) (hs : s.size ≤ 65535) (w : World) :
    Calls Try.prog 70 #[.string s] w fun e w' => e = .returned (.tuple #[.string (str (frm s.data.toList)), .int .i64 0]) ∧ Below w.heap.size w w' := by
  have hsl := sum_lt s.data.toList
  have hfin : str (frm s.data.toList) = str (head s.size (sum s.data.toList)) ++ s := by
    conv => rhs; rhs; rw [← str_toList s]
    rw [str_append]; rfl
  rw [hfin]
  clear hfin
  have hsum := rsum_any s (by omega) w
  generalize sum s.data.toList = c at hsl hsum ⊢
  have HS := Lib.hid hsum
  clear hsum
  have hcv := head_conv s.size c hs hsl w 5 8
  have hsz : (str (head s.size c)).size = 8 := rfl
  go_enter Try.func70, Try.ntmps70
  go_wp2_with fail
  refine HS.out.mono ?_
  rintro e w1 ⟨rfl, rfl⟩
  go_wp2_with fail
  go_ret2
  exact ⟨rfl, (Below.refl _ _).alloc (Nat.le_refl _) _⟩

set_option maxHeartbeats 400000 in
theorem rput_long (s : ByteArray) (hs : 65535 < s.size) (w : World) :
    Calls Try.prog 70 #[.string s] w fun e w' => e = .returned (.tuple #[.string ⟨#[]⟩, .int .i64 5]) ∧ w = w' := by
  go_enter Try.func70, Try.ntmps70
  go_wp2_with fail
  go_ret2
  exact ⟨rfl, rfl⟩

set_option maxHeartbeats 400000 in
theorem rget_out (s : ByteArray) (a : Int) (ha : a < 0 ∨ (s.size : Int) < a) (w : World) :
    Calls Try.prog 82 #[.string s, .int .i64 a] w fun e w' => e = retF (getF s a) ∧ ∃ n, w' = w.drewN n := by
  have hfin : getF s a = ⟨str [], 0, 2⟩ := by unfold getF; rw [if_pos ha]
  have HF := Lib.hid hfin
  clear hfin
  by_cases h : a < 0
  · have h1 : decide (a < 0) = true := dt h
    go_enter Try.func82, Try.ntmps82
    go_wp2_with fail
    go_ret3
    exact ⟨by rw [HF.out]; rfl, 0, rfl⟩
  · have h1 : decide (a < 0) = false := df h
    have h2 : decide ((s.size : Int) < a) = true := dt (by omega)
    go_enter Try.func82, Try.ntmps82
    go_wp2_with fail
    go_ret3
    exact ⟨by rw [HF.out]; rfl, 0, rfl⟩

set_option maxHeartbeats 800000 in
set_option maxRecDepth 100000 in
theorem rget_in (s : ByteArray) (a : Nat) (hs : s.size ≤ 4611686018427387904) (ha : a ≤ s.size) (w : World) :
    Calls Try.prog 82 #[.string s, .int .i64 a] w fun e w' => e = retF (getN s a) ∧ ∃ n, w' = w.drewN n := by
  have g1 : decide ((a : Int) < 0) = false := by simp
  have g2 : decide (s.size < a) = false := df (by omega)
  have hgb : ∀ (n : Nat) (h : n < s.size), (s[n]'h).toNat = bn s n := get_bn s
  by_cases h0 : s.size - a = 0
  · have hfin : getN s a = ⟨str [], 0, 10⟩ := by rw [getN, if_pos h0]
    have HF := Lib.hid hfin
    have t0 : ((s.size : Int) - (a : Int) == 0) = true := et (by omega)
    clear hfin h0
    go_enter Try.func82, Try.ntmps82
    go_wp2_with fail
    go_ret3
    exact ⟨by rw [HF.out]; rfl, 0, rfl⟩
  · have t0 : ((s.size : Int) - (a : Int) == 0) = false := ef (by omega)
    by_cases h4 : s.size - a < 4
    · have hfin : getN s a = ⟨str [], 0, 3⟩ := by rw [getN, if_neg h0, if_pos h4]
      have HF := Lib.hid hfin
      have h5 : decide ((s.size : Int) - (a : Int) < 4) = true := dt (by omega)
      clear hfin h0 h4
      go_enter Try.func82, Try.ntmps82
      go_wp2_with fail
      go_ret3
      exact ⟨by rw [HF.out]; rfl, 0, rfl⟩
    · have h5 : decide ((s.size : Int) - (a : Int) < 4) = false := df (by omega)
      have i0 : a < s.size := by omega
      have i1 : (a : Int) + 1 < (s.size : Int) := by omega
      have i2 : (a : Int) + 2 < (s.size : Int) := by omega
      have i3 : (a : Int) + 3 < (s.size : Int) := by omega
      have b0 := bn_lt s a
      have b1 := bn_lt s (a + 1)
      have b2 := bn_lt s (a + 2)
      have b3 := bn_lt s (a + 3)
      have hG : getN s a = if bn s a + bn s (a + 2) ≠ 255 ∨ bn s (a + 1) + bn s (a + 3) ≠ 255 then ⟨str [], 0, 4⟩
          else if s.size - a < 8 + (256 * bn s a + bn s (a + 1)) then ⟨str [], 0, 3⟩
          else if c4 s a 4 ≠ sum (s.extract (a + 8) (a + 8 + (256 * bn s a + bn s (a + 1)))).data.toList then ⟨str [], 0, 6⟩
          else ⟨s.extract (a + 8) (a + 8 + (256 * bn s a + bn s (a + 1))), ((a + 8 + (256 * bn s a + bn s (a + 1)) : Nat) : Int), 0⟩ := by
        rw [getN, if_neg h0, if_neg h4]
      have HG := Lib.hid hG
      clear hG h0 h4
      by_cases hA : bn s a + bn s (a + 2) = 255
      · have t1 : ((((bn s a : Int) + (bn s (a + 2) : Int)) % 256) != 255) = false := nf (by omega)
        have t1' : (IntKind.u8.wrap ((bn s a : Int) + (bn s (a + 2) : Int)) != 255) = false := by rw [IntKind.wrap_u8]; exact t1
        by_cases hB : bn s (a + 1) + bn s (a + 3) = 255
        · have t2 : ((((bn s (a + 1) : Int) + (bn s (a + 3) : Int)) % 256) != 255) = false := nf (by omega)
          have t2' : (IntKind.u8.wrap ((bn s (a + 1) : Int) + (bn s (a + 3) : Int)) != 255) = false := by rw [IntKind.wrap_u8]; exact t2
          obtain ⟨N, hN⟩ : ∃ N, N = 256 * bn s a + bn s (a + 1) := ⟨_, rfl⟩
          have HG2 := HG.out
          rw [if_neg (by omega), ← hN] at HG2
          have hNl : N ≤ 65535 := by omega
          have hN2 : 256 * (bn s a : Int) + (bn s (a + 1) : Int) = (N : Int) := by omega
          have hN3 : IntKind.i64.wrap (256 * (bn s a : Int) + (bn s (a + 1) : Int)) = (N : Int) := by rw [hN2]; exact IntWalk.i64_in _ ⟨by omega, by omega⟩
          clear HG hA hB hN
          by_cases hl : s.size - a < 8 + N
          · rw [if_pos hl] at HG2
            have HF := Lib.hid HG2
            have hl2 : (s.size : Int) - (a : Int) < 8 + N := by omega
            clear HG2 hl
            go_enter Try.func82, Try.ntmps82
            go_wp2_with fail
            go_quiet (fail)
            go_wp2_with fail
            generalize hw1 : World.drewN _ _ = w1
            have HW1 := Lib.hid hw1
            clear hw1
            go_quiet (fail)
            go_wp2_with fail
            go_ret3
            exact ⟨by rw [HF.out]; rfl, _, by rw [← HW1.out]; simp only [World.drewN_drewN]; rfl⟩
          · rw [if_neg hl] at HG2
            have hl2 : (N : Int) + 8 ≤ (s.size : Int) - (a : Int) := by omega
            have hbs : (s.extract (a + 8) (a + 8 + N)).size ≤ 4611686018427387904 := by simp only [ByteArray.size_extract]; omega
            obtain ⟨bd, hbd⟩ : ∃ bd, s.extract (a + 8) (a + 8 + N) = bd := ⟨_, rfl⟩
            rw [hbd] at hbs HG2
            have hsum := rsum_any bd hbs
            have hslt := sum_lt bd.data.toList
            generalize sum bd.data.toList = sm at hsum hslt HG2
            have HS := Lib.hid hsum
            have HF := Lib.hid HG2
            clear HG2 hsum hl
            go_enter Try.func82, Try.ntmps82
            go_wp2_with fail
            go_quiet (fail)
            go_wp2_with fail
            generalize hw1 : World.drewN _ _ = w1
            have HW1 := Lib.hid hw1
            clear hw1
            go_quiet (fail)
            go_wp2_with fail
            go_loop [10, 11] (fun x i => ∃ (j c : Nat), x = .int .u32 c ∧ i = .int .i64 j ∧ 4 ≤ j ∧ j ≤ 8 ∧ c < 4294967296 ∧ Hid (c = c4 s a (j - 4))) (fun _ i => 8 - (intOf i).toNat)
            case atStart => exact ⟨4, 0, rfl, rfl, by omega, by omega, by omega, rfl⟩
            case round =>
              obtain ⟨j, c, rfl, rfl, hj4, hj, hc, hcc⟩ := hrel
              by_cases hk4 : j < 8
              · have hc2 : c < 16777216 := by
                  rw [hcc.out]
                  exact Nat.lt_of_lt_of_le (c4_lt s a (j - 4)) (Nat.le_trans (Nat.pow_le_pow_right (n := 256) (by omega) (show j - 4 ≤ 3 by omega)) (by decide))
                have hb := bn_lt s (a + j)
                have hil : a + j < s.size := by omega
                go_wp2_with fail
                go_round
                case rel => exact ⟨j + 1, c * 256 + bn s (a + j), by go_num, by go_num, by omega, by omega, by omega, by
                  show _ = c4 s a (j + 1 - 4)
                  rw [show j + 1 - 4 = (j - 4) + 1 from by omega, c4, ← hcc.out, show a + 4 + (j - 4) = a + j from by omega]⟩
                case measure => simp [intOf]; omega
              · have hcf : c = c4 s a 4 := by rw [hcc.out, show j - 4 = 4 from by omega]
                have HF2 := HF.out
                rw [← hcf] at HF2
                clear HF
                by_cases he : c = sm
                · have hfin : getN s a = ⟨bd, ((a + 8 + N : Nat) : Int), 0⟩ := by rw [HF2, if_neg (by simpa using he)]
                  have HF := Lib.hid hfin
                  have heb : ((sm : Int) != (c : Int)) = false := nf (by omega)
                  clear HF2 hcf hfin he hcc
                  go_wp2_with fail
                  refine (HS.out _).mono ?_
                  rintro e w2 ⟨rfl, rfl⟩
                  go_wp2_with fail
                  go_ret3
                  exact ⟨by rw [HF.out]; simp only [retF, Int.natCast_add]; rfl, _, by rw [← HW1.out]; simp only [World.drewN_drewN]; rfl⟩
                · have hfin : getN s a = ⟨str [], 0, 6⟩ := by rw [HF2, if_pos he]
                  have HF := Lib.hid hfin
                  have heb : ((sm : Int) != (c : Int)) = true := nt (by omega)
                  clear HF2 hcf hfin he hcc
                  go_wp2_with fail
                  refine (HS.out _).mono ?_
                  rintro e w2 ⟨rfl, rfl⟩
                  go_wp2_with fail
                  go_ret3
                  exact ⟨by rw [HF.out]; rfl, _, by rw [← HW1.out]; simp only [World.drewN_drewN]; rfl⟩
        · have t2 : ((((bn s (a + 1) : Int) + (bn s (a + 3) : Int)) % 256) != 255) = true := nt (by omega)
          have t2' : (IntKind.u8.wrap ((bn s (a + 1) : Int) + (bn s (a + 3) : Int)) != 255) = true := by rw [IntKind.wrap_u8]; exact t2
          have hfin : getN s a = ⟨str [], 0, 4⟩ := by rw [HG.out, if_pos (by omega)]
          have HF := Lib.hid hfin
          clear hfin hA hB HG
          go_enter Try.func82, Try.ntmps82
          go_wp2_with fail
          go_quiet (fail)
          go_wp2_with fail
          go_ret3
          exact ⟨by rw [HF.out]; rfl, _, rfl⟩
      · have t1 : ((((bn s a : Int) + (bn s (a + 2) : Int)) % 256) != 255) = true := nt (by omega)
        have t1' : (IntKind.u8.wrap ((bn s a : Int) + (bn s (a + 2) : Int)) != 255) = true := by rw [IntKind.wrap_u8]; exact t1
        have hfin : getN s a = ⟨str [], 0, 4⟩ := by rw [HG.out, if_pos (by omega)]
        have HF := Lib.hid hfin
        clear hfin hA HG
        go_enter Try.func82, Try.ntmps82
        go_wp2_with fail
        go_quiet (fail)
        go_wp2_with fail
        go_ret3
        exact ⟨by rw [HF.out]; rfl, _, rfl⟩
theorem rget_any (s : ByteArray) (a : Int) (hs : s.size ≤ 4611686018427387904) (w : World) :
    Calls Try.prog 82 #[.string s, .int .i64 a] w fun e w' => e = retF (getF s a) ∧ ∃ n, w' = w.drewN n := by
  by_cases ha : a < 0 ∨ (s.size : Int) < a
  · exact rget_out s a ha w
  · obtain ⟨n, rfl⟩ := Int.eq_ofNat_of_zero_le (show 0 ≤ a by omega)
    have h : getF s n = getN s n := by unfold getF; rw [if_neg ha]; rfl
    rw [h]
    exact rget_in s n hs (by omega) w

end Go.Proofs.Ytajfalffpcamhaa.Fw
