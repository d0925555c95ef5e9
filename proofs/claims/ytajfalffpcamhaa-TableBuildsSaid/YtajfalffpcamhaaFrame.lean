/- The walks of package frame: Sum. -/
import Derived.Test.YtajfalffpcamhaaRows
import Derived.Test.YtajfalffpcamhaaGa
namespace Go.Proofs.Ytajfalffpcamhaa.Fw
open Go.RowKit
open Fp B
set_option linter.unusedVariables false

theorem and1_32 (c : Nat) (h : c < 4294967296) : bits .and .u32 (c : Int) 1 = (c : Int) % 2 := by
  rw [show (1 : Int) = ((1 : Nat) : Int) from rfl, u32_and_nat c 1 h (by omega), nat_mask1]; omega
theorem stp_bits (c : Nat) (h : c < 4294967296) : bits .xor .u32 ((c : Int) / 2) ((c : Int) % 2 * 3988292384) = (stp c : Int) := by
  have e1 : (c : Int) / 2 = ((c / 2 : Nat) : Int) := by omega
  have e2 : (c : Int) % 2 * 3988292384 = ((c % 2 * 3988292384 : Nat) : Int) := by omega
  rw [e1, e2, u32_xor_nat _ _ (by omega) (by omega)]; rfl

theorem not32 (c : Nat) (h : c < 4294967296) : bits .xor .u32 IntKind.u32.max (c : Int) = ((4294967295 - c : Nat) : Int) := by
  have e : IntKind.u32.max = ((4294967295 : Nat) : Int) := rfl
  rw [e, u32_xor_nat _ _ (by omega) h]
  have h2 : 4294967295 ^^^ c = 4294967295 - c := by
    have e : (BitVec.allOnes 32 ^^^ BitVec.ofNat 32 c).toNat = 4294967295 ^^^ c := by
      rw [BitVec.toNat_xor, BitVec.toNat_ofNat, Nat.mod_eq_of_lt (by omega)]; rfl
    rw [← e, BitVec.allOnes_xor, BitVec.toNat_not, BitVec.toNat_ofNat, Nat.mod_eq_of_lt (by omega)]
  rw [h2]

set_option maxHeartbeats 400000 in
theorem sum_any (s : ByteArray) (hs : s.size ≤ 4611686018427387904) (w : World) :
    Calls Try.prog 91 #[.string s] w fun e w' => e = .returned (.int .u32 (sum s.data.toList)) ∧ w = w' := by
  have hgb : ∀ (n : Nat) (h : n < s.size), (s[n]'h).toNat = bn s n := get_bn s
  go_enter Try.func91, Try.ntmps91
  go_wp2
  go_loop [3, 7] (fun x i => ∃ (k c : Nat), x = .int .u32 c ∧ i = .int .i64 k ∧ k ≤ s.size ∧ c < 4294967296 ∧ c = crc 4294967295 (s.data.toList.take k)) (fun _ i => s.size - (intOf i).toNat)
  case atStart => exact ⟨0, 4294967295, rfl, rfl, by omega, by omega, rfl⟩
  case round =>
    obtain ⟨k, c, rfl, rfl, hk, hc, hcr⟩ := hrel
    have HC := Lib.hid hcr
    clear hcr
    by_cases hlt : k < s.size
    · have hb := bn_lt s k
      have hx : bits .xor .u32 (c : Int) (bn s k) = ((c ^^^ bn s k : Nat) : Int) := u32_xor_nat c _ hc (by omega)
      have hxl := xor_lt32 hc (show bn s k < 4294967296 by omega)
      obtain ⟨d, hd⟩ : ∃ d, d = c ^^^ bn s k := ⟨_, rfl⟩
      rw [← hd] at hx hxl
      have HD := Lib.hid hd
      clear hd
      go_wp2
      go_loop [3, 16] (fun x i => ∃ (j e : Nat), x = .int .u32 e ∧ i = .int .i64 j ∧ j ≤ 8 ∧ e < 4294967296 ∧ e = stpN j d) (fun _ i => 8 - (intOf i).toNat)
      case atStart => exact ⟨0, d, rfl, rfl, by omega, hxl, rfl⟩
      case round =>
        obtain ⟨j, e, rfl, rfl, hj, he, her⟩ := hrel
        have HE := Lib.hid her
        clear her
        by_cases hj8 : j < 8
        · have ha := and1_32 e he
          have hst := stp_bits e he
          have hsl := stp_lt he
          go_wp2
          go_round
          case rel => exact ⟨j + 1, stp e, rfl, by go_num, by omega, hsl, by rw [HE.out]; rfl⟩
          case measure => simp [intOf]; omega
        · go_wp2
          go_round
          case rel => exact ⟨k + 1, e, rfl, by go_num, by omega, he, by
            have h8 : j = 8 := by omega
            subst h8
            rw [HE.out, crc_take _ _ (by simpa using hlt), ← HC.out, HD.out]
            simp [crcB, bn, List.getD_eq_getElem?_getD, List.getElem?_eq_getElem (show k < s.data.toList.length by simpa using hlt)]⟩
          case measure => simp [intOf]; omega
    · have hn := not32 c hc
      go_wp2
      go_ret
      have hks : k = s.size := by omega
      subst hks
      have e : sum s.data.toList = 4294967295 - c := by rw [HC.out, sum, List.take_of_length_le (by simp)]
      rw [e]
      exact ⟨rfl, rfl⟩
theorem not8 (x : Nat) (h : x < 256) : bits .xor .u8 IntKind.u8.max (x : Int) = 255 - (x : Int) := by
  have hk : ∀ y : Fin 256, 255 ^^^ y.val = 255 - y.val := by decide +kernel
  have e : IntKind.u8.max = ((255 : Nat) : Int) := rfl
  have := hk ⟨x, h⟩
  simp only at this
  rw [e, u8_xor_nat _ _ (by omega) h, this]; omega

theorem head_conv (n c : Nat) (hn : n ≤ 65535) (hc : c < 4294967296) (W : World) (t : TypeId) (cap : Nat) :
    (convert 64 9 (.slice (some ⟨W.heap.size, 0, none⟩) 8 cap)).run Try.prog (W.alloc (.cells #[.int .u8 ((n : Int) / 256), .int .u8 ((n : Int) % 256), .int .u8 (255 - (n : Int) / 256), .int .u8 (255 - (n : Int) % 256), .int .u8 ((c : Int) / 16777216), .int .u8 ((c : Int) / 65536 % 256), .int .u8 ((c : Int) / 256 % 256), .int .u8 ((c : Int) % 256)] t)) =
    .ok (.string (str (head n c))) (W.alloc (.cells #[.int .u8 ((n : Int) / 256), .int .u8 ((n : Int) % 256), .int .u8 (255 - (n : Int) / 256), .int .u8 (255 - (n : Int) % 256), .int .u8 ((c : Int) / 16777216), .int .u8 ((c : Int) / 65536 % 256), .int .u8 ((c : Int) / 256 % 256), .int .u8 ((c : Int) % 256)] t)) := by
  rw [← head_cells n c hn hc]
  exact conv_row (P := Try.prog) (dst := 9) Try.underlying64 Try.underlying5 Try.underlying9 (heap_alloc_new W _) rfl

set_option maxHeartbeats 400000 in
set_option maxRecDepth 100000 in
theorem put_ok (s : ByteArray) (hs : s.size ≤ 65535) (w : World) :
    Calls Try.prog 66 #[.string s] w fun e w' => e = .returned (.tuple #[.string (str (frm s.data.toList)), .int .i64 0]) ∧ Below w.heap.size w w' := by
  have hsl := sum_lt s.data.toList
  have hfin : str (frm s.data.toList) = str (head s.size (sum s.data.toList)) ++ s := by
    conv => rhs; rhs; rw [← str_toList s]
    rw [str_append]; rfl
  rw [hfin]
  clear hfin
  have hsum := sum_any s (by omega) w
  generalize sum s.data.toList = c at hsl hsum ⊢
  have HS := Lib.hid hsum
  clear hsum
  have hcv := head_conv s.size c hs hsl w 129 8
  have hsz : (str (head s.size c)).size = 8 := rfl
  have hn1 := not8 (s.size / 256) (by omega)
  have hn2 := not8 (s.size % 256) (by omega)
  rw [show ((s.size / 256 : Nat) : Int) = (s.size : Int) / 256 from by omega] at hn1
  rw [show ((s.size % 256 : Nat) : Int) = (s.size : Int) % 256 from by omega] at hn2
  go_enter Try.func66, Try.ntmps66
  go_wp2_with fail
  refine HS.out.mono ?_
  rintro e w1 ⟨rfl, rfl⟩
  go_wp2_with fail
  refine wp_loop_rounds 5 ?_
  repeat (rw [rounds_succ]; go_wp2_with fail)
  go_ret2
  exact ⟨rfl, (Below.refl _ _).alloc (Nat.le_refl _) _⟩

set_option maxHeartbeats 400000 in
theorem put_long (s : ByteArray) (hs : 65535 < s.size) (w : World) :
    Calls Try.prog 66 #[.string s] w fun e w' => e = .returned (.tuple #[.string ⟨#[]⟩, .int .i64 5]) ∧ w = w' := by
  go_enter Try.func66, Try.ntmps66
  go_wp2_with fail
  go_ret2
  exact ⟨rfl, rfl⟩

end Go.Proofs.Ytajfalffpcamhaa.Fw
