/- Several texts in one: Frame, FrameG, FrameR. -/
import Derived.Test.YtpihmjdljbienaaGreatDoorRows
import Derived.Test.YtpihmjdljbienaaGreatDoorGa
import Derived.Deep.QuietTactic
import Derived.BigQuiet
/- The walks of package frame: Sum. -/
namespace Go.Proofs.YtpihmjdljbienaaGreatDoor.Fw
open Go.RowKit
open Fp B
set_option linter.unusedVariables false

theorem and1_32 (c : Nat) (h : c < 4294967296) : bits .and .u32 (c : Int) 1 = (c : Int) % 2 := by
  rw [show (1 : Int) = ((1 : Nat) : Int) from rfl, u32_and_nat c 1 h (by omega), nat_mask1]; omega
theorem stp_bits (c : Nat) (h : c < 4294967296) : bits .xor .u32 ((c : Int) / 2) ((c : Int) % 2 * 3988292384) = (stp c : Int) := by
  have e1 : (c : Int) / 2 = ((c / 2 : Nat) : Int) := by omega
  have e2 : (c : Int) % 2 * 3988292384 = ((c % 2 * 3988292384 : Nat) : Int) := by omega
  rw [e1, e2, u32_xor_nat _ _ (by omega) (by omega)]; rfl

theorem not32 (c : Nat) (h : c < 4294967296) : bits .xor .u32 IntKind.u32.max (c : Int) = ((4294967295 - c : Nat) : Int) := by
  have e : IntKind.u32.max = ((4294967295 : Nat) : Int) := rfl
  rw [e, u32_xor_nat _ _ (by omega) h]
  have h2 : 4294967295 ^^^ c = 4294967295 - c := by
    have e : (BitVec.allOnes 32 ^^^ BitVec.ofNat 32 c).toNat = 4294967295 ^^^ c := by
      rw [BitVec.toNat_xor, BitVec.toNat_ofNat, Nat.mod_eq_of_lt (by omega)]; rfl
    rw [← e, BitVec.allOnes_xor, BitVec.toNat_not, BitVec.toNat_ofNat, Nat.mod_eq_of_lt (by omega)]
  rw [h2]

set_option maxHeartbeats 400000 in
theorem sum_any (s : ByteArray) (hs : s.size ≤ 4611686018427387904) (w : World) :
    Calls Tryz.prog 96 #[.string s] w fun e w' => e = .returned (.int .u32 (sum s.data.toList)) ∧ w = w' := by
  have hgb : ∀ (n : Nat) (h : n < s.size), (s[n]'h).toNat = bn s n := get_bn s
  go_enter Tryz.func96, Tryz.ntmps96
  go_wp2
  go_loop [3, 7] (fun x i => ∃ (k c : Nat), x = .int .u32 c ∧ i = .int .i64 k ∧ k ≤ s.size ∧ c < 4294967296 ∧ c = crc 4294967295 (s.data.toList.take k)) (fun _ i => s.size - (intOf i).toNat)
  case atStart => exact ⟨0, 4294967295, rfl, rfl, by omega, by omega, rfl⟩
  case round =>
    obtain ⟨k, c, rfl, rfl, hk, hc, hcr⟩ := hrel
    have HC := Lib.hid hcr
    clear hcr
    by_cases hlt : k < s.size
    · have hb := bn_lt s k
      have hx : bits .xor .u32 (c : Int) (bn s k) = ((c ^^^ bn s k : Nat) : Int) := u32_xor_nat c _ hc (by omega)
      have hxl := xor_lt32 hc (show bn s k < 4294967296 by omega)
      obtain ⟨d, hd⟩ : ∃ d, d = c ^^^ bn s k := ⟨_, rfl⟩
      rw [← hd] at hx hxl
      have HD := Lib.hid hd
      clear hd
      go_wp2
      go_loop [3, 16] (fun x i => ∃ (j e : Nat), x = .int .u32 e ∧ i = .int .i64 j ∧ j ≤ 8 ∧ e < 4294967296 ∧ e = stpN j d) (fun _ i => 8 - (intOf i).toNat)
      case atStart => exact ⟨0, d, rfl, rfl, by omega, hxl, rfl⟩
      case round =>
        obtain ⟨j, e, rfl, rfl, hj, he, her⟩ := hrel
        have HE := Lib.hid her
        clear her
        by_cases hj8 : j < 8
        · have ha := and1_32 e he
          have hst := stp_bits e he
          have hsl := stp_lt he
          go_wp2
          go_round
          case rel => exact ⟨j + 1, stp e, rfl, by go_num, by omega, hsl, by rw [HE.out]; rfl⟩
          case measure => simp [intOf]; omega
        · go_wp2
          go_round
          case rel => exact ⟨k + 1, e, rfl, by go_num, by omega, he, by
            have h8 : j = 8 := by omega
            subst h8
            rw [HE.out, crc_take _ _ (by simpa using hlt), ← HC.out, HD.out]
            simp [crcB, bn, List.getD_eq_getElem?_getD, List.getElem?_eq_getElem (show k < s.data.toList.length by simpa using hlt)]⟩
          case measure => simp [intOf]; omega
    · have hn := not32 c hc
      go_wp2
      go_ret
      have hks : k = s.size := by omega
      subst hks
      have e : sum s.data.toList = 4294967295 - c := by rw [HC.out, sum, List.take_of_length_le (by simp)]
      rw [e]
      exact ⟨rfl, rfl⟩
theorem not8 (x : Nat) (h : x < 256) : bits .xor .u8 IntKind.u8.max (x : Int) = 255 - (x : Int) := by
  have hk : ∀ y : Fin 256, 255 ^^^ y.val = 255 - y.val := by decide +kernel
  have e : IntKind.u8.max = ((255 : Nat) : Int) := rfl
  have := hk ⟨x, h⟩
  simp only at this
  rw [e, u8_xor_nat _ _ (by omega) h, this]; omega

theorem head_conv (n c : Nat) (hn : n ≤ 65535) (hc : c < 4294967296) (W : World) (t : TypeId) (cap : Nat) :
    (convert 80 9 (.slice (some ⟨W.heap.size, 0, none⟩) 8 cap)).run Tryz.prog (W.alloc (.cells #[.int .u8 ((n : Int) / 256), .int .u8 ((n : Int) % 256), .int .u8 (255 - (n : Int) / 256), .int .u8 (255 - (n : Int) % 256), .int .u8 ((c : Int) / 16777216), .int .u8 ((c : Int) / 65536 % 256), .int .u8 ((c : Int) / 256 % 256), .int .u8 ((c : Int) % 256)] t)) =
    .ok (.string (str (head n c))) (W.alloc (.cells #[.int .u8 ((n : Int) / 256), .int .u8 ((n : Int) % 256), .int .u8 (255 - (n : Int) / 256), .int .u8 (255 - (n : Int) % 256), .int .u8 ((c : Int) / 16777216), .int .u8 ((c : Int) / 65536 % 256), .int .u8 ((c : Int) / 256 % 256), .int .u8 ((c : Int) % 256)] t)) := by
  rw [← head_cells n c hn hc]
  exact conv_row (P := Tryz.prog) (dst := 9) Tryz.underlying80 Tryz.underlying5 Tryz.underlying9 (heap_alloc_new W _) rfl

set_option maxHeartbeats 400000 in
set_option maxRecDepth 100000 in
theorem put_ok (s : ByteArray) (hs : s.size ≤ 65535) (w : World) :
    Calls Tryz.prog 41 #[.string s] w fun e w' => e = .returned (.tuple #[.string (str (frm s.data.toList)), .int .i64 0]) ∧ Below w.heap.size w w' := by
  have hsl := sum_lt s.data.toList
  have hfin : str (frm s.data.toList) = str (head s.size (sum s.data.toList)) ++ s := by
    conv => rhs; rhs; rw [← str_toList s]
    rw [str_append]; rfl
  rw [hfin]
  clear hfin
  have hsum := sum_any s (by omega) w
  generalize sum s.data.toList = c at hsl hsum ⊢
  have HS := Lib.hid hsum
  clear hsum
  have hcv := head_conv s.size c hs hsl w 174 8
  have hsz : (str (head s.size c)).size = 8 := rfl
  have hn1 := not8 (s.size / 256) (by omega)
  have hn2 := not8 (s.size % 256) (by omega)
  rw [show ((s.size / 256 : Nat) : Int) = (s.size : Int) / 256 from by omega] at hn1
  rw [show ((s.size % 256 : Nat) : Int) = (s.size : Int) % 256 from by omega] at hn2
  go_enter Tryz.func41, Tryz.ntmps41
  go_wp2_with fail
  refine HS.out.mono ?_
  rintro e w1 ⟨rfl, rfl⟩
  go_wp2_with fail
  refine wp_loop_rounds 5 ?_
  repeat (rw [rounds_succ]; go_wp2_with fail)
  go_ret2
  exact ⟨rfl, (Below.refl _ _).alloc (Nat.le_refl _) _⟩

set_option maxHeartbeats 400000 in
theorem put_long (s : ByteArray) (hs : 65535 < s.size) (w : World) :
    Calls Tryz.prog 41 #[.string s] w fun e w' => e = .returned (.tuple #[.string ⟨#[]⟩, .int .i64 5]) ∧ w = w' := by
  go_enter Tryz.func41, Tryz.ntmps41
  go_wp2_with fail
  go_ret2
  exact ⟨rfl, rfl⟩

end Go.Proofs.YtpihmjdljbienaaGreatDoor.Fw

/- The walk of package frame's Get. -/
namespace Go.Proofs.YtpihmjdljbienaaGreatDoor.Fw
open Go.RowKit
open Fp B
set_option linter.unusedVariables false

def retF (g : GF) : Ending := .returned (.tuple #[.string g.t, .int .i64 g.next, .int .i64 g.e])

theorem rest_size (s : ByteArray) (a : Nat) : (s.extract a s.size).size = s.size - a := by simp [ByteArray.size_extract]
theorem rest_bn (s : ByteArray) (a j : Nat) (h : a + j < s.size) : bn (s.extract a s.size) j = bn s (a + j) := by
  unfold bn
  rw [extract_str, toList_str]
  simp only [List.getD_eq_getElem?_getD]
  rw [List.getElem?_take_of_lt (by omega), List.getElem?_drop]

theorem drop_cut {α : Type} (l : List α) (a i j n : Nat) (h : n = l.length) : ((((l.drop a).take (n - a)).drop i).take (j - i)) = (l.drop (a + i)).take (min (a + j) n - (a + i)) := by
  subst h
  rw [List.take_of_length_le (l := l.drop a) (by simp), List.drop_drop]
  apply List.ext_getElem?
  intro k
  simp only [List.getElem?_take, List.getElem?_drop]
  by_cases h1 : k < j - i
  · rw [if_pos h1]
    by_cases h2 : k < min (a + j) l.length - (a + i)
    · rw [if_pos h2]
    · rw [if_neg h2, List.getElem?_eq_none (by omega)]
  · rw [if_neg h1, if_neg (by omega)]
theorem rest_extract (s : ByteArray) (a i j : Nat) : (s.extract a s.size).extract i j = s.extract (a + i) (min (a + j) s.size) := by
  rw [extract_str, extract_str s a, extract_str s (a + i), toList_str]
  exact congrArg str (drop_cut s.data.toList a i j s.size rfl)

theorem or_i64 (x y : Nat) (hx : x < 256) (hy : y < 256) : bits .or .i64 ((x : Int) * 256) (y : Int) = ((256 * x + y : Nat) : Int) := by
  have e : (x : Int) * 256 = ((x * 256 : Nat) : Int) := by omega
  have h : x * 256 ||| y < 2 ^ 63 := Nat.or_lt_two_pow (n := 63) (by omega) (by omega)
  rw [e]
  show IntKind.i64.wrap ((BitVec.ofInt 64 ((x * 256 : Nat) : Int) ||| BitVec.ofInt 64 (y : Int)).toNat : Int) = _
  rw [BitVec.toNat_or, ofInt64_nat _ (by omega), ofInt64_nat _ (by omega), nat_join 8 _ _ (by omega) (by omega), IntKind.wrap_i64]
  omega
theorem or_u32 (x y : Nat) (hx : x < 16777216) (hy : y < 256) : bits .or .u32 ((x : Int) * 256) (y : Int) = ((x * 256 + y : Nat) : Int) := by
  have e : (x : Int) * 256 = ((x * 256 : Nat) : Int) := by omega
  rw [e, u32_or_nat _ _ (by omega) (by omega), nat_join 8 _ _ (by omega) (by omega)]

set_option maxHeartbeats 800000 in
set_option maxRecDepth 100000 in
theorem get_in (s : ByteArray) (a : Nat) (hs : s.size ≤ 4611686018427387904) (ha : a ≤ s.size) (w : World) :
    Calls Tryz.prog 100 #[.string s, .int .i64 a] w fun e w' => e = retF (getN s a) ∧ ∃ n, w' = w.drewN n := by
  have g1 : decide ((a : Int) < 0) = false := by simp
  have g2 : decide (s.size < a) = false := df (by omega)
  have hrs := rest_size s a
  have hrb := rest_bn s a
  have hxe := rest_extract s a
  obtain ⟨r, hr⟩ : ∃ r, s.extract a s.size = r := ⟨_, rfl⟩
  rw [hr] at hrs
  simp only [hr] at hrb hxe
  have HX := Lib.hid hxe
  have HB := Lib.hid hrb
  have HRS := Lib.hid hrs
  have hgb : ∀ (n : Nat) (h : n < r.size), (r[n]'h).toNat = bn r n := get_bn r
  clear hxe hrb
  by_cases h0 : s.size - a = 0
  · have hfin : getN s a = ⟨str [], 0, 10⟩ := by rw [getN, if_pos h0]
    have HF := Lib.hid hfin
    have hne := toList_nil (hrs.trans h0)
    clear hfin hrs h0
    go_enter Tryz.func100, Tryz.ntmps100
    go_wp2_with fail
    go_ret3
    exact ⟨by rw [HF.out]; rfl, 0, rfl⟩
  · have hne : r.toList.isEmpty = false := toList_ne (by omega)
    by_cases h4 : s.size - a < 4
    · have hfin : getN s a = ⟨str [], 0, 3⟩ := by rw [getN, if_neg h0, if_pos h4]
      have HF := Lib.hid hfin
      have hr4 : r.size < 4 := by omega
      clear hfin hrs h0 h4
      go_enter Tryz.func100, Tryz.ntmps100
      go_wp2_with fail
      go_ret3
      exact ⟨by rw [HF.out]; rfl, 0, rfl⟩
    · have hr4 : 4 ≤ r.size := by omega
      have hrb : r.size ≤ 4611686018427387904 := by omega
      have i0 : 0 < r.size := by omega
      have i1 : (1 : Int) < (r.size : Int) := by omega
      have i2 : (2 : Int) < (r.size : Int) := by omega
      have i3 : (3 : Int) < (r.size : Int) := by omega
      have b0 := bn_lt r 0
      have b1 := bn_lt r 1
      have e0 : bn s a = bn r 0 := (HB.out 0 (by omega)).symm
      have e1 : bn s (a + 1) = bn r 1 := (HB.out 1 (by omega)).symm
      have e2 : bn s (a + 2) = bn r 2 := (HB.out 2 (by omega)).symm
      have e3 : bn s (a + 3) = bn r 3 := (HB.out 3 (by omega)).symm
      have b2 := bn_lt r 2
      have b3 := bn_lt r 3
      have n0 := not8 (bn r 0) b0
      have n1 := not8 (bn r 1) b1
      have n2 : bits .xor .u8 (if IntKind.u8.signed = true then -1 else IntKind.u8.max) (bn r 0 : Int) = 255 - (bn r 0 : Int) := n0
      have n3 : bits .xor .u8 (if IntKind.u8.signed = true then -1 else IntKind.u8.max) (bn r 1 : Int) = 255 - (bn r 1 : Int) := n1
      have hor := or_i64 (bn r 0) (bn r 1) b0 b1
      have hG : getN s a = if bn r 0 + bn r 2 ≠ 255 ∨ bn r 1 + bn r 3 ≠ 255 then ⟨str [], 0, 4⟩
          else if s.size - a < 8 + (256 * bn r 0 + bn r 1) then ⟨str [], 0, 3⟩
          else if c4 s a 4 ≠ sum (s.extract (a + 8) (a + 8 + (256 * bn r 0 + bn r 1))).data.toList then ⟨str [], 0, 6⟩
          else ⟨s.extract (a + 8) (a + 8 + (256 * bn r 0 + bn r 1)), ((a + 8 + (256 * bn r 0 + bn r 1) : Nat) : Int), 0⟩ := by
        rw [getN, if_neg h0, if_neg h4, e0, e1, e2, e3]
      have HG := Lib.hid hG
      clear hG e0 e1 e2 e3 h0 h4
      by_cases hA : bn r 0 + bn r 2 = 255
      · by_cases hB : bn r 1 + bn r 3 = 255
        · have t1 : ((bn r 2 : Int) != 255 - (bn r 0 : Int)) = false := nf (by omega)
          have t2 : ((bn r 3 : Int) != 255 - (bn r 1 : Int)) = false := nf (by omega)
          obtain ⟨N, hN⟩ : ∃ N, N = 256 * bn r 0 + bn r 1 := ⟨_, rfl⟩
          rw [← hN] at hor
          have HG2 := HG.out
          rw [if_neg (by omega), ← hN] at HG2
          have hNl : N ≤ 65535 := by omega
          clear HG hA hB hN
          by_cases hl : s.size - a < 8 + N
          · rw [if_pos hl] at HG2
            have HF := Lib.hid HG2
            have hl2 : r.size < 8 + N := by omega
            clear HG2 hl hrs
            go_enter Tryz.func100, Tryz.ntmps100
            go_wp2_with fail
            go_quiet (fail)
            go_wp2_with fail
            generalize hw1 : World.drewN _ _ = w1
            have HW1 := Lib.hid hw1
            clear hw1
            go_quiet (fail)
            go_wp2_with fail
            go_ret3
            exact ⟨by rw [HF.out]; rfl, _, by rw [← HW1.out]; simp only [World.drewN_drewN]; rfl⟩
          · rw [if_neg hl] at HG2
            have HF := Lib.hid HG2
            have hl2 : 8 + N ≤ r.size := by omega
            have hx := HX.out 8 (8 + N)
            rw [show min (a + (8 + N)) s.size = a + 8 + N from by omega] at hx
            have hbs : (s.extract (a + 8) (a + 8 + N)).size ≤ 4611686018427387904 := by simp only [ByteArray.size_extract]; omega
            have hby : ∀ k, k < 4 → bn s (a + 4 + k) = bn r (4 + k) := fun k hk => by
              have := HB.out (4 + k) (by omega)
              rw [this, Nat.add_assoc]
            have HBY := Lib.hid hby
            obtain ⟨bd, hbd⟩ : ∃ bd, bd = s.extract (a + 8) (a + 8 + N) := ⟨_, rfl⟩
            rw [← hbd] at hx hbs
            have HBD := Lib.hid hbd
            have hsum := sum_any bd hbs
            have hslt := sum_lt bd.data.toList
            have HF2 := HF.out
            rw [← hbd] at HF2
            generalize sum bd.data.toList = sm at hsum hslt HF2
            have HS := Lib.hid hsum
            have HF := Lib.hid HF2
            clear HG2 hrs hby hbd hsum HF2
            go_enter Tryz.func100, Tryz.ntmps100
            go_wp2_with fail
            go_quiet (fail)
            go_wp2_with fail
            generalize hw1 : World.drewN _ _ = w1
            have HW1 := Lib.hid hw1
            clear hw1
            go_quiet (fail)
            go_wp2_with fail
            go_loop [10, 63] (fun x i => ∃ (k c : Nat), x = .int .u32 c ∧ i = .int .i64 k ∧ k ≤ 4 ∧ c < 4294967296 ∧ Hid (c = c4 s a k)) (fun _ i => 4 - (intOf i).toNat)
            case atStart => exact ⟨0, 0, rfl, rfl, by omega, by omega, rfl⟩
            case round =>
              obtain ⟨k, c, rfl, rfl, hk, hc, hcc⟩ := hrel
              by_cases hk4 : k < 4
              · have hc2 : c < 16777216 := by
                  rw [hcc.out]
                  exact Nat.lt_of_lt_of_le (c4_lt s a k) (Nat.le_trans (Nat.pow_le_pow_right (n := 256) (by omega) (show k ≤ 3 by omega)) (by decide))
                have hb := bn_lt r (4 + k)
                have ho := or_u32 c (bn r (4 + k)) hc2 hb
                have hil : 4 + k < r.size := by omega
                go_wp2_with fail
                go_round
                case rel => exact ⟨k + 1, c * 256 + bn r (4 + k), by go_num, by go_num, by omega, by omega, by show _ = c4 s a (k + 1); rw [c4, ← hcc.out, HBY.out k hk4]⟩
                case measure => simp [intOf]; omega
              · have hcf : c = c4 s a 4 := by rw [hcc.out, show k = 4 from by omega]
                have HF2 := HF.out
                rw [← hcf] at HF2
                clear HF
                by_cases he : c = sm
                · have hfin : getN s a = ⟨bd, ((a + 8 + N : Nat) : Int), 0⟩ := by rw [HF2, if_neg (by simpa using he)]
                  have HF := Lib.hid hfin
                  have heb : ((c : Int) != (sm : Int)) = false := nf (by omega)
                  clear HF2 hcf hfin he hcc
                  go_wp2_with fail
                  refine (HS.out _).mono ?_
                  rintro e w2 ⟨rfl, rfl⟩
                  go_wp2_with fail
                  go_ret3
                  exact ⟨by rw [HF.out]; simp only [retF, Int.natCast_add]; rfl, _, by rw [← HW1.out]; simp only [World.drewN_drewN]; rfl⟩
                · have hfin : getN s a = ⟨str [], 0, 6⟩ := by rw [HF2, if_pos he]
                  have HF := Lib.hid hfin
                  have heb : ((c : Int) != (sm : Int)) = true := nt (by omega)
                  clear HF2 hcf hfin he hcc
                  go_wp2_with fail
                  refine (HS.out _).mono ?_
                  rintro e w2 ⟨rfl, rfl⟩
                  go_wp2_with fail
                  go_ret3
                  exact ⟨by rw [HF.out]; rfl, _, by rw [← HW1.out]; simp only [World.drewN_drewN]; rfl⟩
        · have t1 : ((bn r 2 : Int) != 255 - (bn r 0 : Int)) = false := nf (by omega)
          have t2 : ((bn r 3 : Int) != 255 - (bn r 1 : Int)) = true := nt (by omega)
          have hfin : getN s a = ⟨str [], 0, 4⟩ := by rw [HG.out, if_pos (by omega)]
          have HF := Lib.hid hfin
          clear hfin hA hB HG hrs
          go_enter Tryz.func100, Tryz.ntmps100
          go_wp2_with fail
          go_quiet (fail)
          go_wp2_with fail
          generalize hw1 : World.drewN _ _ = w1
          have HW1 := Lib.hid hw1
          clear hw1
          go_quiet (fail)
          go_wp2_with fail
          go_ret3
          exact ⟨by rw [HF.out]; rfl, _, by rw [← HW1.out]; simp only [World.drewN_drewN]; rfl⟩
      · have t1 : ((bn r 2 : Int) != 255 - (bn r 0 : Int)) = true := nt (by omega)
        have hfin : getN s a = ⟨str [], 0, 4⟩ := by rw [HG.out, if_pos (by omega)]
        have HF := Lib.hid hfin
        clear hfin hA HG hrs
        go_enter Tryz.func100, Tryz.ntmps100
        go_wp2_with fail
        go_quiet (fail)
        go_wp2_with fail
        generalize hw1 : World.drewN _ _ = w1
        have HW1 := Lib.hid hw1
        clear hw1
        go_quiet (fail)
        go_wp2_with fail
        go_ret3
        exact ⟨by rw [HF.out]; rfl, _, by rw [← HW1.out]; simp only [World.drewN_drewN]; rfl⟩
set_option maxHeartbeats 400000 in
theorem get_out (s : ByteArray) (a : Int) (ha : a < 0 ∨ (s.size : Int) < a) (w : World) :
    Calls Tryz.prog 100 #[.string s, .int .i64 a] w fun e w' => e = retF (getF s a) ∧ ∃ n, w' = w.drewN n := by
  have hfin : getF s a = ⟨str [], 0, 2⟩ := by unfold getF; rw [if_pos ha]
  have HF := Lib.hid hfin
  clear hfin
  by_cases h : a < 0
  · have h1 : decide (a < 0) = true := dt h
    go_enter Tryz.func100, Tryz.ntmps100
    go_wp2_with fail
    go_ret3
    exact ⟨by rw [HF.out]; rfl, 0, rfl⟩
  · have h1 : decide (a < 0) = false := df h
    have h2 : decide ((s.size : Int) < a) = true := dt (by omega)
    go_enter Tryz.func100, Tryz.ntmps100
    go_wp2_with fail
    go_ret3
    exact ⟨by rw [HF.out]; rfl, 0, rfl⟩

theorem get_any (s : ByteArray) (a : Int) (hs : s.size ≤ 4611686018427387904) (w : World) :
    Calls Tryz.prog 100 #[.string s, .int .i64 a] w fun e w' => e = retF (getF s a) ∧ ∃ n, w' = w.drewN n := by
  by_cases ha : a < 0 ∨ (s.size : Int) < a
  · exact get_out s a ha w
  · obtain ⟨n, rfl⟩ := Int.eq_ofNat_of_zero_le (show 0 ≤ a by omega)
    have h : getF s n = getN s n := by unfold getF; rw [if_neg ha]; rfl
    rw [h]
    exact get_in s n hs (by omega) w

end Go.Proofs.YtpihmjdljbienaaGreatDoor.Fw

/- The walks of the reference oxbowref03: Sum, Put, Get. -/
namespace Go.Proofs.YtpihmjdljbienaaGreatDoor.Fw
open Go.RowKit
open Fp B
set_option linter.unusedVariables false

theorem stp_odd {c : Nat} (h : c < 4294967296) (ho : c % 2 = 1) : bits .xor .u32 ((c : Int) / 2) 3988292384 = (stp c : Int) := by
  have e1 : (c : Int) / 2 = ((c / 2 : Nat) : Int) := by omega
  have e2 : (3988292384 : Int) = ((3988292384 : Nat) : Int) := rfl
  rw [e1, e2, u32_xor_nat _ _ (by omega) (by omega), stp, ho, Nat.one_mul]
theorem stp_even {c : Nat} (ho : c % 2 = 0) : (c : Int) / 2 = (stp c : Int) := by
  rw [stp, ho, Nat.zero_mul, Nat.xor_zero]; omega

end Go.Proofs.YtpihmjdljbienaaGreatDoor.Fw
