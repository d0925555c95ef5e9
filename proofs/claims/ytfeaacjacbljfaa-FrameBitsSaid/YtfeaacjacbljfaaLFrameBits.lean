/- FrameBits: of frames in which one bit is turned all that end ahead of it are given, and none that wasn't there. No condition on the input. -/
import Derived.Test.YtfeaacjacbljfaaFramed
import Derived.Test.YtfeaacjacbljfaaFrameBP
import Derived.Deep.QuietTactic
import Derived.BigQuiet
import Derived.Lib.SmallJoins
import Derived.ProofKit
import Derived.OpenShut
import Derived.ShutString
import Derived.ChangeOld
import Derived.Below
import Derived.SizedLaws
import Derived.Test.YtfeaacjacbljfaaOpen
namespace Go.Proofs.Ytfeaacjacbljfaa.frameBits
open Go.ChangeShapes Go.WideShapes Go.ChangeAt Go.RowKit
open Go.ChangeMaps (open_string shut_string)
set_option linter.unusedVariables false
open Fp B Fw

theorem frames_mono (bs : List (List UInt8)) (k : Nat) : (frames (bs.take k)).length ≤ (frames bs).length := by
  have h : frames bs = frames (bs.take k) ++ frames (bs.drop k) := by rw [← frames_append, List.take_append_drop]
  rw [h, List.length_append]; omega
theorem getD_take_map (bs : List (List UInt8)) (k i : Nat) (h : i < k) (hk : k ≤ bs.length) : ((bs.take k).map str).getD i ByteArray.empty = str (bs.getD i []) := by
  simp only [List.getD_eq_getElem?_getD, List.getElem?_map, List.getElem?_take_of_lt h, List.getElem?_eq_getElem (show i < bs.length by omega), Option.map_some, Option.getD_some]
theorem endN_pos (bs : List (List UInt8)) (i : Nat) (h : i < bs.length) : 0 < endN bs i := by
  unfold endN
  rw [frames_take bs i h, List.length_append, frm_len]; omega
theorem xor_bits (y : UInt8) (k : Nat) (hk : k < 8) : bits .xor .u8 (y.toNat : Int) (2 ^ k % 256) = ((UInt8.ofNat (y.toNat ^^^ 2 ^ k)).toNat : Int) := by
  have hy := UInt8.toNat_lt y
  have hp : 2 ^ k < 256 := Nat.lt_of_lt_of_le (Nat.pow_lt_pow_right (by omega) hk) (by decide)
  have hx : y.toNat ^^^ 2 ^ k < 256 := Nat.xor_lt_two_pow (n := 8) hy hp
  have e : ((2 : Int) ^ k % 256) = ((2 ^ k : Nat) : Int) := by
    have : ((2 : Int) ^ k) = ((2 ^ k : Nat) : Int) := by rw [Int.natCast_pow]; rfl
    rw [this]
    generalize 2 ^ k = q at hp ⊢
    omega
  rw [e, u8_xor_nat _ _ hy hp, UInt8.toNat_ofNat', Nat.mod_eq_of_lt (by omega)]
theorem xor_bits0 (y : UInt8) : bits .xor .u8 (y.toNat : Int) 1 = ((UInt8.ofNat (y.toNat ^^^ 2 ^ 0)).toNat : Int) := xor_bits y 0 (by omega)
theorem set_row (l : List UInt8) (rest : List Value) (p : Nat) (y : UInt8) (h : p < l.length) : (l.map bv ++ rest).toArray.setIfInBounds p (bv y) = ((l.set p y).map bv ++ rest).toArray := by
  simp [List.set_append_left, h, List.map_set]
/-- a bit turned is another byte -/
theorem turned (y : UInt8) (k : Nat) (hk : k < 8) : UInt8.ofNat (y.toNat ^^^ 2 ^ k) ≠ y := by
  intro h
  have h1 := congrArg UInt8.toNat h
  have hy := UInt8.toNat_lt y
  have hp : 2 ^ k < 256 := Nat.lt_of_lt_of_le (Nat.pow_lt_pow_right (by omega) hk) (by decide)
  have hx : y.toNat ^^^ 2 ^ k < 256 := Nat.xor_lt_two_pow (n := 8) hy hp
  rw [UInt8.toNat_ofNat', Nat.mod_eq_of_lt (by omega)] at h1
  have h2 : (y.toNat ^^^ 2 ^ k).testBit k = y.toNat.testBit k := by rw [h1]
  rw [Nat.testBit_xor, Nat.testBit_two_pow_self] at h2
  cases y.toNat.testBit k <;> simp at h2

theorem bytesRow_eq (l : List UInt8) (cap : Nat) : bytesRow (str l) cap = (l.map bv ++ List.replicate (cap - l.length) (Value.int .u8 0)).toArray := by
  unfold bytesRow
  rw [str_size]
  simp [str, bv]

set_option maxHeartbeats 2000000 in
set_option maxRecDepth 100000 in
theorem walk (a : Option Addr) (n cap : Nat) (ss : List ByteArray) (bit : Int) (w : World)
    (hz : ss.length = n ∧ n ≤ cap ∧ cap ≤ 9223372036854775807 ∧ (∀ s ∈ ss, s.size ≤ 9223372036854775807) ∧ Row w a n (fun i => .string (ss.getD i ByteArray.empty))) (hcut : -9223372036854775808 ≤ bit ∧ bit ≤ 9223372036854775807) :
    Calls Try.prog 14 #[.slice a n cap, .int .i64 bit] w fun e w' => e = .returned (.bool true) ∧ Below w.heap.size w w' := by
  obtain ⟨hz, hn, hm, hsz, hrow⟩ := hz
  obtain ⟨hcut1, hcut2⟩ := hcut
  have HF := Lib.hid (framed_any a n cap ss hz hn hm hsz w hrow)
  have hbl := cutB_len ss
  have hle := cutB_le ss
  rw [hz] at hbl
  generalize cutB ss = bs at HF hbl hle
  have hfl := frames_len bs hle
  have hfl2 : (frames bs).length ≤ 40160 := by omega
  have hmn : (n ≤ 20 ∧ bs.length = n) ∨ (20 < n ∧ bs.length = 20) := by omega
  have hb20 : bs.length ≤ 20 := by omega
  have HLE := Lib.hid hle
  clear hz hsz hrow hle hfl hbl
  rcases hmn with ⟨hn1, hn2⟩ | ⟨hn1, hn2⟩
  all_goals
    first | (have hbt : ((bs.length : Int) != (n : Int)) = false := nf (by omega)) | (have hbt : ((bs.length : Int) != 20) = false := nf (by omega))
    clear hn2
    by_cases he : (frames bs).length = 0
    · have hse : (str (frames bs)).toList.isEmpty = true := by rw [ByteArray.toList_eq, toList_str, List.eq_nil_of_length_eq_zero he]; rfl
      clear he
      go_enter Try.func14, Try.ntmps14
      go_wp2_with fail
      refine HF.out.mono ?_
      rintro e w1 ⟨ea, ec, oa, oc, rfl, hre, hro, hb1⟩
      clear hre hro
      go_wp2_with fail
      have hA := allF_all [] (by simp)
      refine (all_any ⟨#[]⟩ (by decide) _).mono ?_
      rw [show allF ⟨#[]⟩ = ([], 0, 10) from hA]
      rintro e w2 ⟨la, lc, rfl, hrl, hb2⟩
      clear hrl
      have hb3 := chain hb1 hb2
      go_wp2_with fail
      go_ret
      exact ⟨rfl, hb3⟩
    · have hse : (str (frames bs)).toList.isEmpty = false := by
        rw [ByteArray.toList_eq, toList_str]
        cases hfr : frames bs with
        | nil => rw [hfr] at he; exact absurd rfl he
        | cons b t => rfl
      obtain ⟨L, hL⟩ : ∃ L, (frames bs).length = L := ⟨_, rfl⟩
      have hszL : (str (frames bs)).size = L := by rw [str_size, hL]
      have hL0 : 0 < L := by omega
      have hL2 : L ≤ 40160 := by omega
      obtain ⟨c, hc⟩ : ∃ c : Nat, (c : Int) = max 0 bit % (8 * (L : Int)) := ⟨(max 0 bit % (8 * (L : Int))).toNat, Int.toNat_of_nonneg (Int.emod_nonneg _ (by omega))⟩
      have hcl : c < 8 * L := by have := Int.emod_lt_of_pos (max 0 bit) (show (0 : Int) < 8 * (L : Int) by omega); omega
      have hcm : max 0 bit % (8 * (L : Int)) = (c : Int) := hc.symm
      obtain ⟨p, hp⟩ : ∃ p, p = c / 8 := ⟨_, rfl⟩
      obtain ⟨k, hk⟩ : ∃ k, k = c % 8 := ⟨_, rfl⟩
      have hpL : p < L := by omega
      have hk8 : k < 8 := by omega
      have hcp : (c : Int) / 8 = (p : Int) := by omega
      have hck : (c : Int) % 8 = (k : Int) := by omega
      have hcv := fun W : World => run_bytes_of_string (P := Try.prog) W 9 52 5 (str (frames bs)) Try.underlying9 Try.underlying52 Try.underlying5
      clear he hp hk hc
      by_cases h0 : 0 < bit
      · have hm1 : bit % (8 * (L : Int)) = (c : Int) := by rw [Int.max_eq_right (by omega)] at hcm; exact hcm
        clear hcm
        go_enter Try.func14, Try.ntmps14
        go_wp2_with fail
        refine HF.out.mono ?_
        rintro e w1 ⟨ea, ec, oa, oc, rfl, hre, hro, hb1⟩
        have HRE := Lib.hid hre
        have HRO := Lib.hid hro
        clear hre hro
        go_wp2_with fail
        have hrow2 := bytesRow_eq (frames bs) (grownCap w1 L 0 5)
        have hcapL := grownCap_ge w1 L 0 5
        have hrsz : (bytesRow (str (frames bs)) (grownCap w1 L 0 5)).size = grownCap w1 L 0 5 := by rw [hrow2]; simp; omega
        have hhe : (w1.alloc (.cells (bytesRow (str (frames bs)) (grownCap w1 L 0 5)) 5 ((bytesRow (str (frames bs)) (grownCap w1 L 0 5)).size, (bytesRow (str (frames bs)) (grownCap w1 L 0 5)).size + 1))).drew.heap[w1.heap.size]? = some (.cells ((frames bs).map bv ++ List.replicate (grownCap w1 L 0 5 - L) (Value.int .u8 0)).toArray 5 (grownCap w1 L 0 5, grownCap w1 L 0 5 + 1)) := by
          rw [hrsz]
          have h := heap_alloc_new w1 (.cells (bytesRow (str (frames bs)) (grownCap w1 L 0 5)) 5 (grownCap w1 L 0 5, grownCap w1 L 0 5 + 1))
          rw [hrow2, hL] at h ⊢
          exact h
        have hb2 : Below w1.heap.size w1 (w1.alloc (.cells (bytesRow (str (frames bs)) (grownCap w1 L 0 5)) 5 ((bytesRow (str (frames bs)) (grownCap w1 L 0 5)).size, (bytesRow (str (frames bs)) (grownCap w1 L 0 5)).size + 1))).drew := ((Below.refl _ _).alloc (Nat.le_refl _) _).drew
        clear hrsz hrow2 hcv
        generalize (w1.alloc (.cells (bytesRow (str (frames bs)) (grownCap w1 L 0 5)) 5 ((bytesRow (str (frames bs)) (grownCap w1 L 0 5)).size, (bytesRow (str (frames bs)) (grownCap w1 L 0 5)).size + 1))).drew = w2 at hhe hb2 ⊢
        generalize grownCap w1 L 0 5 = gc at hhe hcapL ⊢
        have hpl : p < (frames bs).length := by omega
        obtain ⟨y, hy⟩ : ∃ y, y = (frames bs).getD p 0 := ⟨_, rfl⟩
        have hce : w2.cell? ⟨w1.heap.size, p, none⟩ = some (.int .u8 y.toNat) := by
          rw [cell_of_row w2 _ _ _ _ _ hhe]
          simp only [List.getElem?_toArray]
          rw [List.getElem?_append_left (by simpa using hpl), List.getElem?_map, List.getElem?_eq_getElem hpl, hy, List.getD_eq_getElem?_getD, List.getElem?_eq_getElem hpl]
          rfl
        have hfz : w2.frozen? ⟨w1.heap.size, p, none⟩ = false := by
          simp only [World.frozen?, hhe]; simp; omega
        obtain ⟨z, hz⟩ : ∃ z, z = UInt8.ofNat (y.toNat ^^^ 2 ^ k) := ⟨_, rfl⟩
        have hx := xor_bits y k hk8
        rw [← hz] at hx
        have hzy : z ≠ (frames bs).getD p 0 := by rw [← hy, hz]; exact turned y k (by omega)
        have hset : (w2.setCell ⟨w1.heap.size, p, none⟩ (.int .u8 z.toNat)).drew.heap[w1.heap.size]? = some (.cells (((frames bs).set p z).map bv ++ List.replicate (gc - L) (Value.int .u8 0)).toArray 5 (gc, gc + 1)) := by
          have h := Joins.block_setCell hhe (i := p) (.int .u8 z.toNat)
          rw [show Value.int .u8 z.toNat = bv z from rfl, set_row _ _ _ _ hpl] at h
          exact h
        have hcv := conv_row (P := Try.prog) (dst := 9) Try.underlying52 Try.underlying5 Try.underlying9 hset (n := L) (cap := gc) (by rw [List.length_set, hL])
        have hb3 : Below w1.heap.size w1 (w2.setCell ⟨w1.heap.size, p, none⟩ (.int .u8 z.toNat)).drew := (hb2.setCell (p := ⟨w1.heap.size, p, none⟩) (Nat.le_refl _) _).drew
        obtain ⟨er, her0, her10, hA⟩ := allF_turn bs p z (fun b hb => by have := HLE.out b hb; omega) hpl hzy
        have hsz3 : (str ((frames bs).set p z)).size ≤ 16777216 := by rw [str_size, List.length_set]; omega
        have hkl := wholeN_le bs p
        have hwl := whole_len bs p
        have hei := end_iff bs p
        obtain ⟨KK, hKK⟩ : ∃ KK, KK = wholeN bs p := ⟨_, rfl⟩
        rw [← hKK] at hA hkl hwl hei
        obtain ⟨F, hF⟩ : ∃ F, F = (frames (bs.take KK)).length := ⟨_, rfl⟩
        rw [← hF] at hA hwl
        have HA := Lib.hid hA
        have HEI := Lib.hid hei
        have HFF := Lib.hid hF
        have hKm : min KK bs.length = KK := by omega
        have t10 : (er == 10) = false := ef her10
        have hFp : decide (p < F) = false := df (by omega)
        have HLL := Lib.hid hL
        clear hhe hy hpl hz hzy hset hA hei hKK hF her0 her10 hL hszL
        go_region
        go_wp2_with fail
        refine (all_any _ hsz3 _).mono ?_
        rw [HA.out]
        rintro e w5 ⟨la, lc, rfl, hrl, hb4⟩
        simp only [List.length_map, List.length_take, hKm] at hrl ⊢
        have HRL := Lib.hid hrl
        have hb5 := (hb3.trans (hb4.mono hb3.size))
        have hb6 := chain hb1 hb5
        clear hrl hce hfz hcv hx hb2 hb3 hb4
        go_wp2_with fail
        go_loopw [15, 67] (fun x i wr => ∃ j m : Nat, i = .int .i64 j ∧ j ≤ bs.length ∧ x = .int .i64 m ∧ m ≤ j ∧ Hid (m = min j KK) ∧ Below w5.heap.size w5 wr) (fun _ i _ => bs.length - (intOf i).toNat)
        case atStart => exact ⟨0, 0, rfl, by omega, rfl, by omega, by show 0 = min 0 KK; omega, Below.refl _ _⟩
        case round =>
          obtain ⟨j, m, rfl, hj, rfl, hmj, hmf, hbel⟩ := hrel
          by_cases hlt : j < bs.length
          · obtain ⟨b, off, rfl, hbw, hc1⟩ := ((HRE.out.below hb5).below hbel).at (by omega)
            have hck2 := hc1 j hlt
            have hee := HEI.out j hlt
            have hfl := frames_mono bs (j + 1)
            have hfe : endN bs j ≤ L := by rw [← HLL.out]; exact hfl
            have HM := hmf.out
            by_cases hjK : j < KK
            · have hle : decide (endN bs j ≤ p) = true := dt (hee.2 hjK)
              have hmj2 : m = j := by omega
              have HMJ := Lib.hid hmj2
              clear hc1 hee HM hmj2 hfl
              go_wp2_with fail
              go_roundw
              case rel => exact ⟨j + 1, j + 1, by go_num, by omega, by go_num, by omega, by show j + 1 = min (j + 1) KK; omega, hbel⟩
              case measure => simp [intOf]; omega
            · have hle : decide (endN bs j ≤ p) = false := df (fun h9 => hjK (hee.1 h9))
              have hmK : m = min (j + 1) KK := by omega
              have HMK := Lib.hid hmK
              clear hc1 hee HM hmK hfl
              go_wp2_with fail
              go_roundw
              case rel => exact ⟨j + 1, m, by go_num, by omega, rfl, by omega, HMK.out, hbel⟩
              case measure => simp [intOf]; omega
          · have hmK : m = KK := by have := hmf.out; omega
            subst hmK
            have hb7 := chain hb6 hbel
            obtain ⟨wo, rfl⟩ : ∃ wo : World, wo = wr := ⟨_, rfl⟩
            clear hmf
            go_wp2_with fail
            go_loopw [95] (fun i wr => ∃ q : Nat, i = .int .i64 q ∧ q ≤ m ∧ Below wo.heap.size wo wr) (fun i _ => m - (intOf i).toNat)
            case atStart => exact ⟨0, rfl, by omega, Below.refl _ _⟩
            case round =>
              obtain ⟨q, rfl, hq, hbel2⟩ := hrel
              by_cases hqm : q < m
              · obtain ⟨b, off, rfl, hbw, hc1⟩ := ((HRL.out.below hbel).below hbel2).at (by omega)
                obtain ⟨b', off', rfl, hbw', hc2⟩ := (((HRO.out.below hb5).below hbel).below hbel2).at (by omega)
                have hck1 := hc1 q hqm
                have hck' := hc2 q (by omega)
                rw [getD_take_map bs m q hqm hkl] at hck1
                have hq1 : (q : Int) < (m : Int) := by omega
                have hq2 : (q : Int) < (bs.length : Int) := by omega
                obtain ⟨x, hxd⟩ : ∃ x, x = str (bs.getD q []) := ⟨_, rfl⟩
                rw [← hxd] at hck1 hck'
                clear hc1 hc2 hxd
                go_wp2_with fail
                go_quiet (fail)
                have hb13 := drewN (n := nq) hbel2
                go_wp2_with fail
                go_roundw
                case rel => exact ⟨q + 1, by go_num, by omega, hb13⟩
                case measure => simp [intOf]; omega
              · have hb8 := chain hb7 hbel2
                go_wp2_with fail
                go_ret
                exact ⟨rfl, hb8⟩
      · have hc0 : c = 0 := by
          by_cases h9 : bit = 0
          · rw [h9] at hcm; simp at hcm; omega
          · rw [Int.max_eq_left (by omega)] at hcm; simp at hcm; omega
        clear hcm hcp hck hpL hk8 hcl hc0
        clear c
        go_enter Try.func14, Try.ntmps14
        go_wp2_with fail
        refine HF.out.mono ?_
        rintro e w1 ⟨ea, ec, oa, oc, rfl, hre, hro, hb1⟩
        have HRE := Lib.hid hre
        have HRO := Lib.hid hro
        clear hre hro
        go_wp2_with fail
        have hrow2 := bytesRow_eq (frames bs) (grownCap w1 L 0 5)
        have hcapL := grownCap_ge w1 L 0 5
        have hrsz : (bytesRow (str (frames bs)) (grownCap w1 L 0 5)).size = grownCap w1 L 0 5 := by rw [hrow2]; simp; omega
        have hhe : (w1.alloc (.cells (bytesRow (str (frames bs)) (grownCap w1 L 0 5)) 5 ((bytesRow (str (frames bs)) (grownCap w1 L 0 5)).size, (bytesRow (str (frames bs)) (grownCap w1 L 0 5)).size + 1))).drew.heap[w1.heap.size]? = some (.cells ((frames bs).map bv ++ List.replicate (grownCap w1 L 0 5 - L) (Value.int .u8 0)).toArray 5 (grownCap w1 L 0 5, grownCap w1 L 0 5 + 1)) := by
          rw [hrsz]
          have h := heap_alloc_new w1 (.cells (bytesRow (str (frames bs)) (grownCap w1 L 0 5)) 5 (grownCap w1 L 0 5, grownCap w1 L 0 5 + 1))
          rw [hrow2, hL] at h ⊢
          exact h
        have hb2 : Below w1.heap.size w1 (w1.alloc (.cells (bytesRow (str (frames bs)) (grownCap w1 L 0 5)) 5 ((bytesRow (str (frames bs)) (grownCap w1 L 0 5)).size, (bytesRow (str (frames bs)) (grownCap w1 L 0 5)).size + 1))).drew := ((Below.refl _ _).alloc (Nat.le_refl _) _).drew
        clear hrsz hrow2 hcv
        generalize (w1.alloc (.cells (bytesRow (str (frames bs)) (grownCap w1 L 0 5)) 5 ((bytesRow (str (frames bs)) (grownCap w1 L 0 5)).size, (bytesRow (str (frames bs)) (grownCap w1 L 0 5)).size + 1))).drew = w2 at hhe hb2 ⊢
        generalize grownCap w1 L 0 5 = gc at hhe hcapL ⊢
        have hpl : 0 < (frames bs).length := by omega
        obtain ⟨y, hy⟩ : ∃ y, y = (frames bs).getD 0 0 := ⟨_, rfl⟩
        have hce : w2.cell? ⟨w1.heap.size, 0, none⟩ = some (.int .u8 y.toNat) := by
          rw [cell_of_row w2 _ _ _ _ _ hhe]
          simp only [List.getElem?_toArray]
          rw [List.getElem?_append_left (by simpa using hpl), List.getElem?_map, List.getElem?_eq_getElem hpl, hy, List.getD_eq_getElem?_getD, List.getElem?_eq_getElem hpl]
          rfl
        have hfz : w2.frozen? ⟨w1.heap.size, 0, none⟩ = false := by
          simp only [World.frozen?, hhe]; simp; omega
        obtain ⟨z, hz⟩ : ∃ z, z = UInt8.ofNat (y.toNat ^^^ 2 ^ 0) := ⟨_, rfl⟩
        have hx := xor_bits0 y
        rw [← hz] at hx
        have hzy : z ≠ (frames bs).getD 0 0 := by rw [← hy, hz]; exact turned y 0 (by omega)
        have hset : (w2.setCell ⟨w1.heap.size, 0, none⟩ (.int .u8 z.toNat)).drew.heap[w1.heap.size]? = some (.cells (((frames bs).set 0 z).map bv ++ List.replicate (gc - L) (Value.int .u8 0)).toArray 5 (gc, gc + 1)) := by
          have h := Joins.block_setCell hhe (i := 0) (.int .u8 z.toNat)
          rw [show Value.int .u8 z.toNat = bv z from rfl, set_row _ _ _ _ hpl] at h
          exact h
        have hcv := conv_row (P := Try.prog) (dst := 9) Try.underlying52 Try.underlying5 Try.underlying9 hset (n := L) (cap := gc) (by rw [List.length_set, hL])
        have hb3 : Below w1.heap.size w1 (w2.setCell ⟨w1.heap.size, 0, none⟩ (.int .u8 z.toNat)).drew := (hb2.setCell (p := ⟨w1.heap.size, 0, none⟩) (Nat.le_refl _) _).drew
        obtain ⟨er, her0, her10, hA⟩ := allF_turn bs 0 z (fun b hb => by have := HLE.out b hb; omega) hpl hzy
        have hsz3 : (str ((frames bs).set 0 z)).size ≤ 16777216 := by rw [str_size, List.length_set]; omega
        have hkl := wholeN_le bs 0
        have hwl := whole_len bs 0
        have hei := end_iff bs 0
        obtain ⟨KK, hKK⟩ : ∃ KK, KK = wholeN bs 0 := ⟨_, rfl⟩
        rw [← hKK] at hA hkl hwl hei
        obtain ⟨F, hF⟩ : ∃ F, F = (frames (bs.take KK)).length := ⟨_, rfl⟩
        rw [← hF] at hA hwl
        have HA := Lib.hid hA
        have HEI := Lib.hid hei
        have HFF := Lib.hid hF
        have hKm : min KK bs.length = KK := by omega
        have t10 : (er == 10) = false := ef her10
        have hFp : decide (0 < F) = false := df (by omega)
        have HLL := Lib.hid hL
        clear hhe hy hpl hz hzy hset hA hei hKK hF her0 her10 hL hszL
        go_region
        go_wp2_with fail
        refine (all_any _ hsz3 _).mono ?_
        rw [HA.out]
        rintro e w5 ⟨la, lc, rfl, hrl, hb4⟩
        simp only [List.length_map, List.length_take, hKm] at hrl ⊢
        have HRL := Lib.hid hrl
        have hb5 := (hb3.trans (hb4.mono hb3.size))
        have hb6 := chain hb1 hb5
        clear hrl hce hfz hcv hx hb2 hb3 hb4
        go_wp2_with fail
        go_loopw [15, 67] (fun x i wr => ∃ j m : Nat, i = .int .i64 j ∧ j ≤ bs.length ∧ x = .int .i64 m ∧ m ≤ j ∧ Hid (m = min j KK) ∧ Below w5.heap.size w5 wr) (fun _ i _ => bs.length - (intOf i).toNat)
        case atStart => exact ⟨0, 0, rfl, by omega, rfl, by omega, by show 0 = min 0 KK; omega, Below.refl _ _⟩
        case round =>
          obtain ⟨j, m, rfl, hj, rfl, hmj, hmf, hbel⟩ := hrel
          by_cases hlt : j < bs.length
          · obtain ⟨b, off, rfl, hbw, hc1⟩ := ((HRE.out.below hb5).below hbel).at (by omega)
            have hck2 := hc1 j hlt
            have hee := HEI.out j hlt
            have hfl := frames_mono bs (j + 1)
            have hfe : endN bs j ≤ L := by rw [← HLL.out]; exact hfl
            have HM := hmf.out
            by_cases hjK : j < KK
            · exact absurd (hee.2 hjK) (by have := endN_pos bs j hlt; omega)
            · have hep := endN_pos bs j hlt
              have hle : decide (endN bs j = 0) = false := df (by omega)
              have hle2 : decide ((endN bs j : Int) ≤ 0) = false := df (by omega)
              have hmK : m = min (j + 1) KK := by omega
              have HMK := Lib.hid hmK
              clear hc1 hee HM hmK hfl
              go_wp2_with fail
              go_roundw
              case rel => exact ⟨j + 1, m, by go_num, by omega, rfl, by omega, HMK.out, hbel⟩
              case measure => simp [intOf]; omega
          · have hmK : m = KK := by have := hmf.out; omega
            subst hmK
            have hb7 := chain hb6 hbel
            obtain ⟨wo, rfl⟩ : ∃ wo : World, wo = wr := ⟨_, rfl⟩
            clear hmf
            go_wp2_with fail
            go_loopw [95] (fun i wr => ∃ q : Nat, i = .int .i64 q ∧ q ≤ m ∧ Below wo.heap.size wo wr) (fun i _ => m - (intOf i).toNat)
            case atStart => exact ⟨0, rfl, by omega, Below.refl _ _⟩
            case round =>
              obtain ⟨q, rfl, hq, hbel2⟩ := hrel
              by_cases hqm : q < m
              · obtain ⟨b, off, rfl, hbw, hc1⟩ := ((HRL.out.below hbel).below hbel2).at (by omega)
                obtain ⟨b', off', rfl, hbw', hc2⟩ := (((HRO.out.below hb5).below hbel).below hbel2).at (by omega)
                have hck1 := hc1 q hqm
                have hck' := hc2 q (by omega)
                rw [getD_take_map bs m q hqm hkl] at hck1
                have hq1 : (q : Int) < (m : Int) := by omega
                have hq2 : (q : Int) < (bs.length : Int) := by omega
                obtain ⟨x, hxd⟩ : ∃ x, x = str (bs.getD q []) := ⟨_, rfl⟩
                rw [← hxd] at hck1 hck'
                clear hc1 hc2 hxd
                go_wp2_with fail
                go_quiet (fail)
                have hb13 := drewN (n := nq) hbel2
                go_wp2_with fail
                go_roundw
                case rel => exact ⟨q + 1, by go_num, by omega, hb13⟩
                case measure => simp [intOf]; omega
              · have hb8 := chain hb7 hbel2
                go_wp2_with fail
                go_ret
                exact ⟨rfl, hb8⟩

theorem own : ownKnob Try.prog.godebug = none := by kernel_rfl
theorem laidOut : laidOutB Try.prog = true := by kernel_rfl

set_option maxRecDepth 100000 in
theorem lifted (os : Os) (started : os.Started) (H : Type) (enc : TypeId × Value → H) :
    ReturnsInHanded {} Try.checked os 14 .any (Rows.frameBitsSpec.pre6 enc Try.prog Try.f14 Rows.frameBitsRow.domain false) (Rows.frameBitsSpec.post enc Try.prog Try.f14 false true false false) := by
  refine returnsInHanded_of_change_sized (C := Try.checked) own started (by kernel_rfl) Try.func14
    (ChangeSpec.witness6 (enc := enc) (C := Try.checked) false ⟨#[], #[.slice none 0 0, .int .i64 0], []⟩ 8 (by kernel_rfl) (by kernel_rfl) (by kernel_rfl) (by kernel_rfl)) ?_
  intro W base args ds gs before hval0 hW hcnd hsz0 _
  have hval : ∀ (j : Nat) t v, Try.f14.params[j]? = some t → args[j]? = some v → Value.okWide Try.prog W .any base t v := hval0
  have hsz : (DataW.weightsEach Try.prog (Try.f14.params.toList ++ Rows.frameBitsSpec.plain.varTypes Try.prog) (ds ++ gs)).all (· ≤ reachBytes) = true := hsz0
  have hW' := hW
  obtain ⟨p, q, hA0, hV, rfl, hfz, hnd⟩ := hW
  have hA : DataW.TrodAll enc Try.prog W 0 (fun _ => true) true Try.f14.params.toList args.toList ds p := hA0
  rw [Try.params14] at hA hval hsz
  obtain ⟨v0, vs0, d0, ds0, p0, q0, hargs, rfl, rfl, h0, r0⟩ := trodAll_cons hA
  obtain ⟨v1, vs1, d1, ds1, p1, q1, rfl, rfl, rfl, h1, r1⟩ := trodAll_cons r0
  obtain ⟨rfl, rfl, rfl⟩ := trodAll_nil r1
  obtain rfl : args = #[v0, v1] := by cases args; simp_all
  obtain ⟨rfl, rfl⟩ := trodVars_none hV
  have k0 := h0
  have lt0 : ∀ x ∈ p0, x.block < W.heap.size := by obtain ⟨m, hm⟩ := k0; exact DataW.trod_lt m _ _ _ hm
  have k1 := h1
  have lt1 : ∀ x ∈ p1, x.block < W.heap.size := by obtain ⟨m, hm⟩ := k1; exact DataW.trod_lt m _ _ _ hm
  obtain ⟨a0, n0, cap0, z0, rfl, w0, row0, lc0, bk0, cm0, sm0⟩ := Op.strs1 Try.underlying35 Try.underlying9 (by kernel_rfl) (hval 0 35 v0 rfl rfl) h0
  have f0 : z0.length = n0 ∧ n0 ≤ cap0 ∧ cap0 ≤ 9223372036854775807 ∧ (∀ s ∈ z0, s.size ≤ 9223372036854775807) ∧ B.Row W a0 n0 (fun i => .string (z0.getD i ByteArray.empty)) := ⟨w0, lc0, by simpa [maxLen] using cm0, fun s hs => by simpa [maxLen] using sm0 s hs, row0⟩
  obtain ⟨a1, rfl, rfl, rfl, w1⟩ := open_int Try.underlying3 (hval 1 3 v1 rfl rfl) h1
  have b1 : -9223372036854775808 ≤ a1 ∧ a1 ≤ 9223372036854775807 := by simpa [Lit.wf, IntKind.min, IntKind.max, IntKind.signed, IntKind.bits] using w1
  clear hA0 hval0
  refine (walk a0 n0 cap0 z0 a1 W f0 b1).mono fun e W' ⟨he, bel⟩ => ?_
  subst he
  exact ⟨_, rfl, _, _, _, [], _, [], hW', trodAll_mk1 (shut_bool Try.underlying4 _), (trodAll_cons_mk (Below.trod laidOut (by kernel_rfl) (of_decide_eq_true (by kernel_rfl)) k0 bel lt0) (trodAll_cons_mk (Below.trod laidOut (by kernel_rfl) (of_decide_eq_true (by kernel_rfl)) k1 bel lt1) trodAll_mk0)), rfl, bel.frame _, fun h => by cases h⟩

theorem over : Rows.frameBitsRow.holds Try.pinned (OpenSpec.ofChange Rows.frameBitsSpec) :=
  OpenClaim.holds_of_wide 14 Try.f14 rfl rfl rfl rfl rfl rfl rfl ⟨rfl, rfl, rfl, rfl, rfl⟩ rfl rfl rfl rfl rfl (by kernel_rfl) Try.func14 (by kernel_rfl)
    (of_decide_eq_true (by kernel_rfl)) (by unfold Func.isWrapper; first | (rw [if_pos (by decide +kernel)]; kernel_rfl) | (rw [if_neg (by decide +kernel)]; exact ⟨rfl, rfl⟩))
    (fun os started H enc _ => lifted os started H enc)

/-- THE STATEMENT -/
theorem proved : Rows.FrameBitsSaid := over
end Go.Proofs.Ytfeaacjacbljfaa.frameBits
