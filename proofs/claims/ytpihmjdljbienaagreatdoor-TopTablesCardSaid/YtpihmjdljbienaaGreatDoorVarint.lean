/- The walks of package varint: Put, Get, PutText, GetText. -/
import Derived.Test.YtpihmjdljbienaaGreatDoorRows
import Derived.Test.YtpihmjdljbienaaGreatDoorGa
namespace Go.Proofs.YtpihmjdljbienaaGreatDoor.Vw
open Go.RowKit
open Vp B
set_option linter.unusedVariables false

theorem zz_bits (n : Int) (h0 : -9223372036854775808 ≤ n) (h1 : n ≤ 9223372036854775807) :
    bits .xor .u64 (IntKind.u64.wrap (wrap64 (n * 2))) (IntKind.u64.wrap (n / 9223372036854775808)) = (zz n : Int) := by
  by_cases hn : 0 ≤ n
  · rw [PlainAid.shr63_nonneg hn h1]
    have e : IntKind.u64.wrap (wrap64 (n * 2)) = ((2 * n).toNat : Int) := by
      rw [IntKind.wrap_u64]; unfold wrap64; omega
    have e0 : IntKind.u64.wrap 0 = ((0 : Nat) : Int) := rfl
    rw [e, e0, u64_xor_nat _ _ (by omega) (by omega)]
    simp [zz, hn]
  · rw [PlainAid.shr63_neg (by omega) h0]
    have e : IntKind.u64.wrap (wrap64 (n * 2)) = ((2 * n + 18446744073709551616).toNat : Int) := by
      rw [IntKind.wrap_u64]; unfold wrap64; omega
    have e0 : IntKind.u64.wrap (-1) = 18446744073709551615 := rfl
    rw [e, e0, xor_ones _ (by omega)]
    simp only [zz, if_neg hn]; omega

theorem row_at {pre : List UInt8} {k : Nat} (hp : pre.length = k) (hk : k ≤ 9) : (pre.map bv ++ List.replicate (10 - k) (Value.int .u8 0)).toArray[k]? = some (.int .u8 0) := by
  subst hp
  simp [List.getElem?_append_right, List.getElem?_replicate]; omega
theorem row_set {pre : List UInt8} {k : Nat} (hp : pre.length = k) (hk : k ≤ 9) (b : UInt8) :
    (pre.map bv ++ List.replicate (10 - k) (Value.int .u8 0)).toArray.setIfInBounds k (bv b) = ((pre ++ [b]).map bv ++ List.replicate (10 - (k + 1)) (Value.int .u8 0)).toArray := by
  subst hp
  have e : 10 - pre.length = (10 - (pre.length + 1)) + 1 := by omega
  rw [e, List.replicate_succ]
  simp [List.set_append_right]

set_option maxHeartbeats 400000 in
set_option maxRecDepth 100000 in
theorem put_any (n : Int) (h0 : -9223372036854775808 ≤ n) (h1 : n ≤ 9223372036854775807) (w : World) :
    Calls Tryz.prog 36 #[.int .i64 n] w fun e w' => e = .returned (.string (enc n)) ∧ Below w.heap.size w w' := by
  have hz := zz_bits n h0 h1
  have hlt := zz_lt h0 h1
  have hl10 := vb_len10 hlt
  go_enter Tryz.func36, Tryz.ntmps36
  go_wp2
  go_loopw [3, 5] (fun x i wr => ∃ (k u : Nat) (pre : List UInt8), x = .int .u64 u ∧ i = .int .i64 k ∧ vb (zz n) = pre ++ vb u ∧ pre.length = k ∧ k ≤ 9 ∧ u < 18446744073709551616 ∧
      wr.heap[w.heap.size]? = some (.cells (pre.map bv ++ List.replicate (10 - k) (Value.int .u8 0)).toArray 169 (0, 0)) ∧ Below w.heap.size w wr)
    (fun x _ _ => (intOf x).toNat)
  case atStart => 
    refine ⟨0, zz n, [], rfl, rfl, rfl, rfl, by omega, hlt, heap_alloc_new w _, ?_⟩
    exact (Below.refl _ _).alloc (Nat.le_refl _) _
  case round =>
    obtain ⟨k, u, pre, rfl, rfl, hv, hp, hk, hu, hb, hbel⟩ := hrel
    have HV := Lib.hid hv
    clear hv
    have HB := Lib.hid hb
    have HZ := Lib.hid hz
    have hcell : wr.cell? ⟨w.heap.size, k, none⟩ = some (.int .u8 0) := by
      rw [cell_of_row wr _ _ _ _ _ hb]; exact row_at hp hk
    have hfro : wr.frozen? ⟨w.heap.size, k, none⟩ = false := frozen_of_row wr _ _ _ _ hb
    have hlt2 : w.heap.size < wr.heap.size := lt_of_block hb
    have hsl : ∀ W : World, (Instr.sliceAt 169 (.pointer (some ⟨w.heap.size, 0, none⟩)) none (some (.int .i64 ((k : Int) + 1))) none).run Tryz.prog W = .ok (.slice (some ⟨w.heap.size, 0, none⟩) (k + 1) 10) W := fun W => by
      rw [run_sliceAt_array_h W 169 _ Tryz.underlying169 _ _ (by omega) (show (k : Int) + 1 ≤ (10 : Nat) from by omega)]
      rfl
    by_cases hs : u < 128
    · have hset : (wr.setCell ⟨w.heap.size, k, none⟩ (.int .u8 u)).heap[w.heap.size]? = some (.cells (((pre ++ [UInt8.ofNat u]).map bv ++ List.replicate (10 - (k + 1)) (Value.int .u8 0)).toArray) 169 (0, 0)) := by
        rw [heap_setCell_same wr _ _ _ _ _ hb, ← row_set hp hk]
        rw [bv_ofNat (by omega)]
      have hcv := conv_row (P := Tryz.prog) (dst := 9) Tryz.underlying80 Tryz.underlying5 Tryz.underlying9 hset (n := k + 1) (cap := 10) (by simp [hp])
      have hfin : str (pre ++ [UInt8.ofNat u]) = enc n := by rw [enc, HV.out, vb_small hs]
      rw [hfin] at hcv
      clear hfin hset hp hb hz
      go_wp2
      go_ret
      exact ⟨rfl, hbel.setCell (Nat.le_refl _) _⟩
    · have hset : (wr.setCell ⟨w.heap.size, k, none⟩ (.int .u8 ((u % 128 + 128 : Nat) : Int))).heap[w.heap.size]? = some (.cells (((pre ++ [UInt8.ofNat (u % 128 + 128)]).map bv ++ List.replicate (10 - (k + 1)) (Value.int .u8 0)).toArray) 169 (0, 0)) := by
        rw [heap_setCell_same wr _ _ _ _ _ hb, ← row_set hp hk, bv_ofNat (by omega)]
      have HS := Lib.hid hset
      have HP := Lib.hid hp
      have ho := or128 u
      have hkk : k ≤ 8 := by
        have h1 := congrArg List.length HV.out
        have h2 := vb_pos (u / 128)
        rw [vb_big (by omega : 128 ≤ u)] at h1
        simp only [List.length_append, List.length_cons, hp] at h1
        omega
      clear hb hz hp hsl hset
      go_wp2
      go_roundw
      case rel => exact ⟨k + 1, u / 128, pre ++ [UInt8.ofNat (u % 128 + 128)], by go_num, by go_num, by rw [HV.out, vb_big (by omega)]; simp, by simp [HP.out], by omega, by omega, HS.out, hbel.setCell (Nat.le_refl _) _⟩
      case measure => simp [intOf]; omega
def ret3 (g : G) : Ending := .returned (.tuple #[.int .i64 g.n, .int .i64 g.next, .int .i64 g.e])

theorem pow128_le {k : Nat} (hk : k ≤ 9) : 128 ^ k ≤ 9223372036854775808 :=
  Nat.le_trans (Nat.pow_le_pow_right (by omega) hk) (by decide)

theorem shl_or (u x k : Nat) (hu : u < 128 ^ k) (hx : x < 128) (hk : k < 9 ∨ k = 9 ∧ x ≤ 1) :
    bits .or .u64 (u : Int) (IntKind.u64.wrap (IntKind.u64.wrap (x : Int) * 2 ^ (7 * k))) = ((u + x * 128 ^ k : Nat) : Int) := by
  have hp : (2 : Int) ^ (7 * k) = ((128 ^ k : Nat) : Int) := by
    rw [Int.natCast_pow, Int.pow_mul]; rfl
  have hb : x * 128 ^ k < 18446744073709551616 := by
    rcases hk with hk | ⟨rfl, hx1⟩
    · have h1 := Nat.pow_le_pow_right (n := 128) (by omega) (show k ≤ 8 by omega)
      have : x * 128 ^ k ≤ 127 * 128 ^ 8 := Nat.mul_le_mul (by omega) h1
      exact Nat.lt_of_le_of_lt this (by decide)
    · have : x * 128 ^ 9 ≤ 1 * 128 ^ 9 := Nat.mul_le_mul hx1 (Nat.le_refl _)
      exact Nat.lt_of_le_of_lt this (by decide)
  have hul : u < 18446744073709551616 := Nat.lt_of_lt_of_le hu (Nat.le_trans (pow128_le (by omega)) (by decide))
  have e1 : IntKind.u64.wrap (x : Int) = (x : Int) := IntWalk.u64_in _ ⟨by omega, by omega⟩
  have e2 : IntKind.u64.wrap ((x : Int) * 2 ^ (7 * k)) = ((x * 128 ^ k : Nat) : Int) := by
    rw [hp, ← Int.natCast_mul]; exact IntWalk.u64_in _ ⟨by omega, by omega⟩
  rw [e1, e2, u64_or_nat _ _ hul hb]
  congr 1
  have : 128 ^ k = 2 ^ (7 * k) := by rw [Nat.pow_mul]
  rw [Nat.or_comm, nat_join (7 * k) _ _ (by rw [this]; simp) (by rw [← this]; exact hu)]
  omega

theorem shl_lt (u x k : Nat) (hu : u < 128 ^ k) (hx : x < 128) (hk : k < 9 ∨ k = 9 ∧ x ≤ 1) : u + x * 128 ^ k < 18446744073709551616 := by
  rcases hk with hk | ⟨rfl, hx1⟩
  · have h1 := Nat.pow_le_pow_right (n := 128) (by omega) (show k ≤ 8 by omega)
    have : x * 128 ^ k ≤ 127 * 128 ^ k := Nat.mul_le_mul (by omega) (Nat.le_refl _)
    exact Nat.lt_of_lt_of_le (show u + x * 128 ^ k < 128 ^ 8 * 128 by omega) (by decide)
  · have : x * 128 ^ 9 ≤ 1 * 128 ^ 9 := Nat.mul_le_mul hx1 (Nat.le_refl _)
    exact Nat.lt_of_lt_of_le (show u + x * 128 ^ 9 < 128 ^ 9 + 128 ^ 9 by omega) (by decide)

theorem unzz_bits (v : Nat) (h : v < 18446744073709551616) :
    bits .xor .i64 (wrap64 ((v : Int) / 2)) (wrap64 (-(wrap64 (bits .and .u64 (v : Int) 1)))) = unzz v := by
  have e1 : bits .and .u64 (v : Int) 1 = ((v % 2 : Nat) : Int) := by
    rw [show (1 : Int) = ((1 : Nat) : Int) from rfl, u64_and_nat v 1 h (by omega), nat_mask1]
  have e2 : wrap64 ((v : Int) / 2) = ((v / 2 : Nat) : Int) := by
    have : ((v : Int) / 2) = ((v / 2 : Nat) : Int) := by omega
    rw [this]; exact IntWalk.wrap64_in _ ⟨by omega, by omega⟩
  have e3 : wrap64 ((v % 2 : Nat) : Int) = ((v % 2 : Nat) : Int) := IntWalk.wrap64_in _ ⟨by omega, by omega⟩
  rw [e1, e2, e3]
  show IntKind.i64.wrap ((BitVec.ofInt 64 ((v / 2 : Nat) : Int) ^^^ BitVec.ofInt 64 (wrap64 (-((v % 2 : Nat) : Int)))).toNat : Int) = _
  rcases Nat.mod_two_eq_zero_or_one v with hv | hv
  · rw [hv, show wrap64 (-((0 : Nat) : Int)) = 0 from by decide +kernel, show BitVec.ofInt 64 0 = 0#64 from rfl, BitVec.xor_zero, ofInt64_nat _ (by omega), IntKind.wrap_i64]
    unfold unzz; rw [if_pos hv]; omega
  · rw [hv, show wrap64 (-((1 : Nat) : Int)) = -1 from by decide +kernel, show BitVec.ofInt 64 (-1) = BitVec.allOnes 64 from rfl, BitVec.xor_allOnes, BitVec.toNat_not, ofInt64_nat _ (by omega), IntKind.wrap_i64]
    unfold unzz; rw [if_neg (by omega)]; omega

set_option maxHeartbeats 400000 in
set_option maxRecDepth 100000 in
theorem get_in (s : ByteArray) (a : Nat) (hs : s.size ≤ 4611686018427387904) (ha : a ≤ s.size) (w : World) :
    Calls Tryz.prog 101 #[.string s, .int .i64 a] w fun e w' => e = ret3 (getS s a) ∧ w = w' := by
  have g1 : decide ((a : Int) < 0) = false := by simp
  have g2 : decide (s.size < a) = false := by simp; omega
  have hgb : ∀ (n : Nat) (h : n < s.size), (s[n]'h).toNat = bn s n := get_bn s
  have hG : getS s a = match getR s a with | .short => ⟨0, 0, 3⟩ | .form => ⟨0, 0, 4⟩ | .ok u k => ⟨unzz u, a + k, 0⟩ := by
    unfold getS; rw [if_neg (by omega)]; simp only [Int.toNat_natCast]; cases getR s a <;> rfl
  have HG := Lib.hid hG
  clear hG
  go_enter Tryz.func101, Tryz.ntmps101
  go_wp2
  go_loop [7, 18] (fun x i => ∃ (k u : Nat), x = .int .u64 u ∧ i = .int .i64 k ∧ k ≤ 10 ∧ k ≤ s.size - a ∧ u = val (fun i => bn s (a + i)) k ∧ getR s a = scan (fun i => bn s (a + i)) (s.size - a) (10 - k) k) (fun _ i => 10 - (intOf i).toNat)
  case atStart => exact ⟨0, 0, rfl, rfl, by omega, by omega, rfl, rfl⟩
  case round =>
    obtain ⟨k, u, rfl, rfl, hk, hm, hu, hr⟩ := hrel
    have HU := Lib.hid hu
    have HR := Lib.hid hr
    have hul := val_lt (fun i => bn s (a + i)) k
    rw [← hu] at hul
    clear hu hr
    by_cases hk10 : k = 10
    · subst hk10
      go_wp2
      go_ret3
      exact ⟨by rw [HG.out, HR.out]; rfl, rfl⟩
    · have e10 : 10 - k = (9 - k) + 1 := by omega
      have HR' := HR.out
      rw [e10, scan] at HR'
      clear HR
      have HR := Lib.hid HR'
      clear HR' e10
      by_cases hkm : k = s.size - a
      · have g3 : ((a : Int) + k == s.size) = true := by simp; omega
        go_wp2
        go_ret3
        exact ⟨by rw [HG.out, HR.out, if_pos hkm]; rfl, rfl⟩
      · have g3 : ((a : Int) + k == s.size) = false := by simp; omega
        have hb := bn_lt s (a + k)
        by_cases hbad : (k = 9 ∧ 1 < bn s (a + k)) ∨ (0 < k ∧ bn s (a + k) = 0)
        · have hfin : getS s a = ⟨0, 0, 4⟩ := by rw [HG.out, HR.out, if_neg hkm, if_pos hbad]
          have HF := Lib.hid hfin
          clear HG HR hfin
          by_cases h9 : k = 9
          · have H9 := Lib.hid h9
            have h9b : ((k : Int) == 9) = true := by simp; omega
            have h0 : decide (0 < k) = true := by simp; omega
            clear h9
            by_cases h1 : 1 < bn s (a + k)
            · have h2 : decide (1 < (bn s (a + k) : Int)) = true := by simp; omega
              clear hbad
              go_wp2
              go_ret3
              exact ⟨by rw [HF.out]; rfl, rfl⟩
            · have h2 : decide (1 < (bn s (a + k) : Int)) = false := by simp; omega
              have h3 : ((bn s (a + k) : Int) == 0) = true := by simp; omega
              clear hbad h1
              go_wp2
              go_ret3
              exact ⟨by rw [HF.out]; rfl, rfl⟩
          · have h9b : ((k : Int) == 9) = false := by simp; omega
            have h0 : decide (0 < k) = true := by simp; omega
            have h3 : ((bn s (a + k) : Int) == 0) = true := by simp; omega
            clear hbad h9
            go_wp2
            go_ret3
            exact ⟨by rw [HF.out]; rfl, rfl⟩
        · have hgood : k < 9 ∨ k = 9 ∧ bn s (a + k) % 128 ≤ 1 := by omega
          have ha1 : bits .and .u8 ((bn s (a + k) : Nat) : Int) 127 = (bn s (a + k) : Int) % 128 := by rw [and127 _ hb]; omega
          have ho := shl_or u (bn s (a + k) % 128) k hul (by omega) hgood
          have hv : u + bn s (a + k) % 128 * 128 ^ k = val (fun i => bn s (a + i)) (k + 1) := by rw [HU.out]; rfl
          have hv64 : u + bn s (a + k) % 128 * 128 ^ k < 18446744073709551616 := shl_lt u _ k hul (by omega) hgood
          rw [hv] at ho hv64
          have hx := unzz_bits _ hv64
          have e1 : IntKind.u64.wrap ((bn s (a + k) % 128 : Nat) : Int) = (bn s (a + k) : Int) % 128 := (IntWalk.u64_in _ ⟨by omega, by omega⟩).trans (by omega)
          rw [e1] at ho
          have HV := Lib.hid hv64
          clear hv e1 hv64
          by_cases hlt : bn s (a + k) < 128
          · have hfin : getS s a = ⟨unzz (val (fun i => bn s (a + i)) (k + 1)), (a : Int) + ((k + 1 : Nat) : Int), 0⟩ := by rw [HG.out, HR.out, if_neg hkm, if_neg hbad, if_pos hlt]
            have HF := Lib.hid hfin
            clear HG HR hfin
            by_cases h9 : k = 9
            · have H9 := Lib.hid h9
              have h9b : ((k : Int) == 9) = true := by simp; omega
              have h0 : decide (0 < k) = true := by simp; omega
              have h2 : decide (1 < (bn s (a + k) : Int)) = false := by simp; omega
              have h3 : ((bn s (a + k) : Int) == 0) = false := by simp; omega
              clear h9 hgood hbad
              go_wp2
              go_ret3
              exact ⟨by rw [HF.out]; rfl, rfl⟩
            · have h9b : ((k : Int) == 9) = false := by simp; omega
              clear h9
              by_cases h0 : 0 < k
              · have h0 : decide (0 < k) = true := by simp; omega
                have h3 : ((bn s (a + k) : Int) == 0) = false := by simp; omega
                clear hgood hbad
                go_wp2
                go_ret3
                exact ⟨by rw [HF.out]; rfl, rfl⟩
              · have h0 : decide (0 < k) = false := by simp; omega
                clear hgood hbad
                go_wp2
                go_ret3
                exact ⟨by rw [HF.out]; rfl, rfl⟩
          · have hfin : getR s a = scan (fun i => bn s (a + i)) (s.size - a) (9 - k) (k + 1) := by rw [HR.out, if_neg hkm, if_neg hbad, if_neg hlt]
            have HF := Lib.hid hfin
            clear HR hfin HG
            have h9b : ((k : Int) == 9) = false := by simp; omega
            by_cases h0 : 0 < k
            · have h0 : decide (0 < k) = true := by simp; omega
              have h3 : ((bn s (a + k) : Int) == 0) = false := by simp; omega
              clear hgood hbad
              go_wp2
              go_round
              case rel => exact ⟨k + 1, _, rfl, by go_num, by omega, by omega, rfl, by rw [HF.out]; congr 1; omega⟩
              case measure => simp [intOf]; omega
            · have h0 : decide (0 < k) = false := by simp; omega
              clear hgood hbad
              go_wp2
              go_round
              case rel => exact ⟨k + 1, _, rfl, by go_num, by omega, by omega, rfl, by rw [HF.out]; congr 1; omega⟩
              case measure => simp [intOf]; omega

set_option maxHeartbeats 400000 in
theorem get_out (s : ByteArray) (a : Int) (hs : s.size ≤ 4611686018427387904) (ha : a < 0 ∨ (s.size : Int) < a) (w : World) :
    Calls Tryz.prog 101 #[.string s, .int .i64 a] w fun e w' => e = ret3 (getS s a) ∧ w = w' := by
  have hfin : getS s a = ⟨0, 0, 2⟩ := by unfold getS; rw [if_pos ha]
  have HF := Lib.hid hfin
  clear hfin
  by_cases h : a < 0
  · have h1 : decide (a < 0) = true := by simp; omega
    go_enter Tryz.func101, Tryz.ntmps101
    go_wp2
    go_ret3
    exact ⟨by rw [HF.out]; rfl, rfl⟩
  · have h1 : decide (a < 0) = false := by simp; omega
    have h2 : decide ((s.size : Int) < a) = true := by simp; omega
    go_enter Tryz.func101, Tryz.ntmps101
    go_wp2
    go_ret3
    exact ⟨by rw [HF.out]; rfl, rfl⟩

theorem get_any (s : ByteArray) (a : Int) (hs : s.size ≤ 4611686018427387904) (w : World) :
    Calls Tryz.prog 101 #[.string s, .int .i64 a] w fun e w' => e = ret3 (getS s a) ∧ w = w' := by
  by_cases ha : a < 0 ∨ (s.size : Int) < a
  · exact get_out s a hs ha w
  · obtain ⟨n, rfl⟩ := Int.eq_ofNat_of_zero_le (show 0 ≤ a by omega)
    exact get_in s n hs (by omega) w

set_option maxHeartbeats 400000 in
theorem putText_any (s : ByteArray) (hs : s.size ≤ 4611686018427387904) (w : World) :
    Calls Tryz.prog 38 #[.string s] w fun e w' => e = .returned (.string (enc s.size ++ s)) ∧ Below w.heap.size w w' := by
  have he : (enc s.size).size ≤ 10 := by rw [enc, str_size]; exact vb_len10 (zz_lt (by omega) (by omega))
  go_enter Tryz.func38, Tryz.ntmps38
  go_wp2_with fail
  refine (put_any _ (by omega) (by omega) _).mono ?_
  rintro e w1 ⟨rfl, hb⟩
  go_wp2_with fail
  go_ret
  exact ⟨rfl, hb⟩

def retT (g : GT) : Ending := .returned (.tuple #[.string g.t, .int .i64 g.next, .int .i64 g.e])

set_option maxHeartbeats 400000 in
theorem getText_any (s : ByteArray) (a : Int) (hs : s.size ≤ 4611686018427387904) (w : World) :
    Calls Tryz.prog 126 #[.string s, .int .i64 a] w fun e w' => e = retT (getT s a) ∧ w = w' := by
  have hT : getT s a = if (getS s a).e ≠ 0 then ⟨str [], 0, (getS s a).e⟩ else if (getS s a).n < 0 then ⟨str [], 0, 4⟩ else if 65535 < (getS s a).n then ⟨str [], 0, 5⟩
    else if (s.size : Int) - (getS s a).next < (getS s a).n then ⟨str [], 0, 3⟩ else ⟨s.extract (getS s a).next.toNat ((getS s a).next.toNat + (getS s a).n.toNat), (getS s a).next + (getS s a).n, 0⟩ := rfl
  have hc := getS_cases s a
  have hk := @getS_ok s a
  have HC := get_any s a hs w
  generalize getS s a = g at hT hc hk HC
  obtain ⟨gn, gx, ge⟩ := g
  simp only at hT hc hk
  have H := Lib.hid HC
  clear HC
  by_cases he : ge = 0
  · subst he
    obtain ⟨b, k, rfl, hR, hbk, hg⟩ := hk rfl
    have hu := unzz_bd (val_bound hR)
    simp only [G.mk.injEq] at hg
    obtain ⟨hn, rfl, -⟩ := hg
    rw [← hn] at hu
    clear hn hR hk hc
    simp only [ne_eq, not_true_eq_false, if_false] at hT
    obtain ⟨hu1, hu2⟩ := hu
    by_cases h1 : gn < 0
    · rw [if_pos h1] at hT
      have HT := Lib.hid hT
      clear hT
      go_enter Tryz.func126, Tryz.ntmps126
      go_wp2_with fail
      refine H.out.mono ?_
      rintro e w1 ⟨rfl, rfl⟩
      simp only [ret3]
      go_wp2_with fail
      go_ret3
      exact ⟨by rw [HT.out]; rfl, rfl⟩
    · rw [if_neg h1] at hT
      by_cases h2 : 65535 < gn
      · rw [if_pos h2] at hT
        have HT := Lib.hid hT
        clear hT
        go_enter Tryz.func126, Tryz.ntmps126
        go_wp2_with fail
        refine H.out.mono ?_
        rintro e w1 ⟨rfl, rfl⟩
        simp only [ret3]
        go_wp2_with fail
        go_ret3
        exact ⟨by rw [HT.out]; rfl, rfl⟩
      · rw [if_neg h2] at hT
        by_cases h3 : (s.size : Int) - ((b + k : Nat) : Int) < gn
        · rw [if_pos h3] at hT
          have HT := Lib.hid hT
          clear hT
          go_enter Tryz.func126, Tryz.ntmps126
          go_wp2_with fail
          refine H.out.mono ?_
          rintro e w1 ⟨rfl, rfl⟩
          simp only [ret3]
          go_wp2_with fail
          go_ret3
          exact ⟨by rw [HT.out]; rfl, rfl⟩
        · rw [if_neg h3] at hT
          obtain ⟨n, rfl⟩ := Int.eq_ofNat_of_zero_le (show 0 ≤ gn by omega)
          simp only [Int.toNat_natCast] at hT
          have HT := Lib.hid hT
          clear hT
          go_enter Tryz.func126, Tryz.ntmps126
          go_wp2_with fail
          refine H.out.mono ?_
          rintro e w1 ⟨rfl, rfl⟩
          simp only [ret3]
          go_wp2_with fail
          go_ret3
          exact ⟨by rw [HT.out]; rfl, rfl⟩
  · have hg : gn = 0 ∧ gx = 0 := by
      simp only [G.mk.injEq] at hc
      omega
    obtain ⟨rfl, rfl⟩ := hg
    rw [if_pos he] at hT
    have HT := Lib.hid hT
    have hb : (ge != 0) = true := nt he
    clear hT hc hk he
    go_enter Tryz.func126, Tryz.ntmps126
    go_wp2_with fail
    refine H.out.mono ?_
    rintro e w1 ⟨rfl, rfl⟩
    simp only [ret3]
    go_wp2_with fail
    go_ret3
    exact ⟨by rw [HT.out]; rfl, rfl⟩
end Go.Proofs.YtpihmjdljbienaaGreatDoor.Vw
