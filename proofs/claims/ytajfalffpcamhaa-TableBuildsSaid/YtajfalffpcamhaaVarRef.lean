/- The walks of the reference oxbowref01: Put, Get, GetText. -/
import Derived.Test.YtajfalffpcamhaaVarint
namespace Go.Proofs.Ytajfalffpcamhaa.Vw
open Go.RowKit
open Vp B
set_option linter.unusedVariables false

set_option maxHeartbeats 400000 in
set_option maxRecDepth 100000 in
theorem rput_any (n : Int) (h0 : -9223372036854775808 ≤ n) (h1 : n ≤ 9223372036854775807) (w : World) :
    Calls Try.prog 40 #[.int .i64 n] w fun e w' => e = .returned (.string (enc n)) ∧ Below w.heap.size w w' := by
  have hlt := zz_lt h0 h1
  have hl10 := vb_len10 hlt
  have hcv : ∀ (W : World) (b : UInt8), (convert 64 9 (.slice (some ⟨W.heap.size, 0, none⟩) 1 1)).run Try.prog (W.alloc (.cells #[bv b] 5)) = .ok (.string (str [b])) (W.alloc (.cells #[bv b] 5)) := fun W b =>
    conv_row (P := Try.prog) (dst := 9) (bs := [b]) (rest := []) Try.underlying64 Try.underlying5 Try.underlying9 (heap_alloc_new W _) rfl
  by_cases hn : n < 0
  all_goals
    go_enter Try.func40, Try.ntmps40
    go_wp2
    go_loopw [3, 4] (fun x t wr => ∃ (u : Nat) (pre : List UInt8), x = .int .u64 u ∧ t = .string (str pre) ∧ vb (zz n) = pre ++ vb u ∧ u < 18446744073709551616 ∧ Below w.heap.size w wr)
      (fun x _ _ => (intOf x).toNat)
    case atStart =>
      refine ⟨zz n, [], ?_, rfl, rfl, hlt, Below.refl _ _⟩
      unfold zz
      split <;> (congr 1; omega)
    case round =>
      obtain ⟨u, pre, rfl, rfl, hv, hu, hbel⟩ := hrel
      have HV := Lib.hid hv
      have hpl : (str pre).size ≤ 10 := by rw [str_size]; have := congrArg List.length hv; simp only [List.length_append] at this; omega
      clear hv
      by_cases hs : u < 128
      · have e := bv_ofNat (show u < 256 by omega)
        have hc := hcv wr (UInt8.ofNat u)
        rw [e] at hc
        have hl1 : (str [UInt8.ofNat u]).size = 1 := rfl
        clear e hcv
        go_wp2
        go_ret
        exact ⟨by rw [enc, HV.out, vb_small hs, str_append]; rfl, hbel.alloc hbel.size _⟩
      · have e := bv_ofNat (show u % 128 + 128 < 256 by omega)
        obtain ⟨b, hb⟩ : ∃ b, b = UInt8.ofNat (u % 128 + 128) := ⟨_, rfl⟩
        rw [← hb] at e
        have hc := hcv wr b
        rw [e] at hc
        rw [show ((u % 128 + 128 : Nat) : Int) = (u : Int) % 128 + 128 from by omega] at hc
        have hl1 : (str [b]).size = 1 := rfl
        have HB := Lib.hid hb
        clear e hcv hb
        go_wp2
        go_roundw
        case rel => exact ⟨u / 128, pre ++ [b], by go_num, by rw [str_append], by rw [HV.out, vb_big (by omega), HB.out]; simp, by omega, hbel.alloc hbel.size _⟩
        case measure => simp [intOf]; omega

theorem rget_out (s : ByteArray) (a : Int) (hs : s.size ≤ 4611686018427387904) (ha : a < 0 ∨ (s.size : Int) < a) (w : World) :
    Calls Try.prog 88 #[.string s, .int .i64 a] w fun e w' => e = ret3 (getS s a) ∧ w = w' := by
  have hfin : getS s a = ⟨0, 0, 2⟩ := by unfold getS; rw [if_pos ha]
  have HF := Lib.hid hfin
  clear hfin
  by_cases h : a < 0
  · have h1 : decide (a < 0) = true := dt h
    go_enter Try.func88, Try.ntmps88
    go_wp2
    go_ret3
    exact ⟨by rw [HF.out]; rfl, rfl⟩
  · have h1 : decide (a < 0) = false := df h
    have h2 : decide ((s.size : Int) < a) = true := dt (by omega)
    go_enter Try.func88, Try.ntmps88
    go_wp2
    go_ret3
    exact ⟨by rw [HF.out]; rfl, rfl⟩

theorem val_step (f : Nat → Nat) (k j u : Nat) (h : val f (k + 1) = u * 128 ^ (j + 1) + val f (j + 1)) (hv : val f (k + 1) < 18446744073709551616) :
    val f (k + 1) = (u * 128 + f j % 128) * 128 ^ j + val f j ∧ u * 128 + f j % 128 < 18446744073709551616 := by
  have e : val f (k + 1) = (u * 128 + f j % 128) * 128 ^ j + val f j := by
    rw [h, val, Nat.pow_succ, Nat.add_mul, Nat.mul_assoc u 128, Nat.mul_comm 128 (128 ^ j)]
    omega
  refine ⟨e, ?_⟩
  have h1 : 0 < 128 ^ j := Nat.pow_pos (by omega)
  have : (u * 128 + f j % 128) * 1 ≤ (u * 128 + f j % 128) * 128 ^ j := Nat.mul_le_mul (Nat.le_refl _) h1
  omega

set_option maxHeartbeats 1000000 in
set_option maxRecDepth 100000 in
theorem rget_in (s : ByteArray) (a : Nat) (hs : s.size ≤ 4611686018427387904) (ha : a ≤ s.size) (w : World) :
    Calls Try.prog 88 #[.string s, .int .i64 a] w fun e w' => e = ret3 (getS s a) ∧ w = w' := by
  have g1 : decide ((a : Int) < 0) = false := by simp
  have g2 : decide (s.size < a) = false := by simp; omega
  have hgb : ∀ (n : Nat) (h : n < s.size), (s[n]'h).toNat = bn s n := get_bn s
  have hG : getS s a = match getR s a with | .short => ⟨0, 0, 3⟩ | .form => ⟨0, 0, 4⟩ | .ok u k => ⟨unzz u, a + k, 0⟩ := by
    unfold getS; rw [if_neg (by omega)]; simp only [Int.toNat_natCast]; cases getR s a <;> rfl
  have HG := Lib.hid hG
  clear hG
  go_enter Try.func88, Try.ntmps88
  go_wp2
  go_loop [7, 8] (fun x i => ∃ (k : Nat), x = .int .i64 (-1) ∧ i = .int .i64 k ∧ k ≤ 10 ∧ k ≤ s.size - a ∧ getR s a = scan (fun i => bn s (a + i)) (s.size - a) (10 - k) k) (fun _ i => 10 - (intOf i).toNat)
  case atStart => exact ⟨0, rfl, rfl, by omega, by omega, rfl⟩
  case round =>
    obtain ⟨k, rfl, rfl, hk, hm, hr⟩ := hrel
    have HR := Lib.hid hr
    clear hr
    by_cases hk10 : k = 10
    · subst hk10
      have hfin : getS s a = ⟨0, 0, 4⟩ := by rw [HG.out, HR.out]; rfl
      have HF := Lib.hid hfin
      have h3 : decide ((s.size : Int) - a < 10) = false := df (by omega)
      clear HG HR hfin
      go_wp2
      go_ret3
      exact ⟨by rw [HF.out]; rfl, rfl⟩
    · have e10 : 10 - k = (9 - k) + 1 := by omega
      have HR' := HR.out
      rw [e10, scan] at HR'
      clear HR
      have HR := Lib.hid HR'
      clear HR' e10
      have hk10' : decide ((k : Int) < 10) = true := dt (by omega)
      by_cases hkm : k = s.size - a
      · have hfin : getS s a = ⟨0, 0, 3⟩ := by rw [HG.out, HR.out, if_pos hkm]
        have HF := Lib.hid hfin
        have h2 : decide ((a : Int) + k < s.size) = false := df (by omega)
        have h3 : decide ((s.size : Int) - a < 10) = true := dt (by omega)
        clear HG HR hfin hkm
        go_wp2
        go_ret3
        exact ⟨by rw [HF.out]; rfl, rfl⟩
      · have h2 : decide ((a : Int) + k < s.size) = true := dt (by omega)
        have hkl : a + k < s.size := by omega
        have hb := bn_lt s (a + k)
        by_cases hlt : bn s (a + k) < 128
        · have h4 : decide ((bn s (a + k) : Int) < 128) = true := dt (by omega)
          by_cases hz : 0 < k ∧ bn s (a + k) = 0
          · have hfin : getS s a = ⟨0, 0, 4⟩ := by rw [HG.out, HR.out, if_neg hkm, if_pos (.inr hz)]
            have HF := Lib.hid hfin
            have h5 : decide (0 < k) = true := dt hz.1
            have h6 : ((bn s (a + k) : Int) == 0) = true := et (by omega)
            clear HG HR hfin hz hkm
            go_wp2
            go_ret3
            exact ⟨by rw [HF.out]; rfl, rfl⟩
          · by_cases h9 : k = 9 ∧ 1 < bn s (a + k)
            · have hfin : getS s a = ⟨0, 0, 4⟩ := by rw [HG.out, HR.out, if_neg hkm, if_pos (.inl h9)]
              have HF := Lib.hid hfin
              have h5 : decide (0 < k) = true := dt (by omega)
              have h6 : ((bn s (a + k) : Int) == 0) = false := ef (by omega)
              have h7 : ((k : Int) == 9) = true := et (by omega)
              have h8 : a + 9 < s.size := by omega
              have h10 : decide (1 < (bn s (a + 9) : Int)) = true := dt (by rw [← h9.1]; omega)
              clear HG HR hfin hz hkm h9
              go_wp2
              go_ret3
              exact ⟨by rw [HF.out]; rfl, rfl⟩
            · have hfin : getS s a = ⟨unzz (val (fun i => bn s (a + i)) (k + 1)), (a : Int) + ((k + 1 : Nat) : Int), 0⟩ := by
                rw [HG.out, HR.out, if_neg hkm, if_neg (by omega), if_pos hlt]
              have HF := Lib.hid hfin
              have hRd : Reads (fun i => bn s (a + i)) (s.size - a) k (k + 1) := ⟨by omega, by omega, by omega, by simpa using hlt, fun h => by
                have : k = 9 := by omega
                subst this; show bn s (a + 9) ≤ 1; omega, fun h => by simp only [Nat.add_sub_cancel]; omega, fun j h1 h2 => by omega⟩
              have hvl := val_bound hRd
              clear HG HR hfin hRd hkm
              have h5 : 0 < k → ((bn s (a + k) : Int) == 0) = false := fun h => ef (by omega)
              have h6 : k = 9 → bn s (a + 9) ≤ 1 := fun h => by subst h; omega
              have HZ := Lib.hid hz
              have H9 := Lib.hid h9
              have hsec : ∀ (j u : Nat), j ≤ k → val (fun i => bn s (a + i)) (k + 1) = u * 128 ^ (j + 1) + val (fun i => bn s (a + i)) (j + 1) → Hid (val (fun i => bn s (a + i)) (k + 1) = (u * 128 + bn s (a + j) % 128) * 128 ^ j + val (fun i => bn s (a + i)) j) ∧ u * 128 + bn s (a + j) % 128 < 18446744073709551616 :=
                fun j u hj h => val_step _ k j u h hvl
              have HS := Lib.hid hsec
              have HB := Lib.hid hgb
              clear hz h9 hsec
              obtain ⟨V, hV⟩ : ∃ V, V = val (fun i => bn s (a + i)) (k + 1) := ⟨_, rfl⟩
              have HV := Lib.hid hV
              rw [← hV] at hvl
              clear hV
              have hcase : (0 < k ∧ k = 9) ∨ (0 < k ∧ k ≠ 9) ∨ k = 0 := by omega
              rcases hcase with ⟨h0, h9⟩ | ⟨h0, h9⟩ | h0
              · have h0' : decide (0 < k) = true := dt h0
                have h5 := h5 h0
                have h7 : ((k : Int) == 9) = true := et (by omega)
                have h8 : a + 9 < s.size := by omega
                have h10 : decide (1 < (bn s (a + 9) : Int)) = false := df (by have := h6 h9; omega)
                clear h6 h9
                go_wp2
                go_loop [9, 10] (fun x i => ∃ (j u : Nat) (t : Int), x = .int .u64 u ∧ i = .int .i64 t ∧ t = (j : Int) - 1 ∧ j ≤ k + 1 ∧ u < 18446744073709551616 ∧ Hid (V = u * 128 ^ j + val (fun i => bn s (a + i)) j)) (fun _ i => (intOf i + 1).toNat)
                case atStart => exact ⟨k + 1, 0, k, rfl, rfl, by omega, by omega, by omega, by show V = _; rw [HV.out]; simp⟩
                case round =>
                  obtain ⟨j, u, t, rfl, rfl, ht, hj, hu64, hu⟩ := hrel
                  rcases Nat.eq_zero_or_pos j with hj0 | hj0
                  · obtain rfl : t = -1 := by omega
                    have hfin : getS s a = ⟨unzz u, (a : Int) + ((k + 1 : Nat) : Int), 0⟩ := by
                      have h := hu.out
                      subst hj0
                      simp only [val, Nat.pow_zero, Nat.mul_one, Nat.add_zero] at h
                      rw [HF.out, ← HV.out, h]
                    have HF2 := Lib.hid hfin
                    clear hu hfin ht hj hj0
                    by_cases hp : u % 2 = 1
                    · have hpb : ((u : Int) % 2 == 1) = true := et (by omega)
                      have hun : unzz u = -((u : Int) / 2) - 1 := by unfold unzz; rw [if_neg (by omega)]; omega
                      have HU := Lib.hid hun
                      clear hp hun
                      go_wp2
                      go_ret3
                      exact ⟨by rw [HF2.out, HU.out]; simp only [ret3, Int.natCast_add]; rfl, rfl⟩
                    · have hpb : ((u : Int) % 2 == 1) = false := ef (by omega)
                      have hun : unzz u = (u : Int) / 2 := by unfold unzz; rw [if_pos (by omega)]; omega
                      have HU := Lib.hid hun
                      clear hp hun
                      go_wp2
                      go_ret3
                      exact ⟨by rw [HF2.out, HU.out]; simp only [ret3, Int.natCast_add]; rfl, rfl⟩
                  · obtain ⟨i, rfl⟩ : ∃ i, j = i + 1 := ⟨j - 1, by omega⟩
                    obtain rfl : t = (i : Int) := by omega
                    have hs := HS.out i u (by omega) (by rw [← HV.out]; exact hu.out)
                    obtain ⟨hs1, hs2⟩ := hs
                    have hgb := HB.out
                    have hb2 := bn_lt s (a + i)
                    clear hu ht hj0
                    go_wp2
                    go_round
                    case rel => exact ⟨i, u * 128 + bn s (a + i) % 128, (i : Int) - 1, by go_num, rfl, rfl, by omega, hs2, by show V = _; rw [HV.out]; exact hs1.out⟩
                    case measure => simp [intOf]
              · have h0' : decide (0 < k) = true := dt h0
                have h5 := h5 h0
                have h9' : ((k : Int) == 9) = false := ef (by omega)
                clear h6 h9
                go_wp2
                go_loop [9, 10] (fun x i => ∃ (j u : Nat) (t : Int), x = .int .u64 u ∧ i = .int .i64 t ∧ t = (j : Int) - 1 ∧ j ≤ k + 1 ∧ u < 18446744073709551616 ∧ Hid (V = u * 128 ^ j + val (fun i => bn s (a + i)) j)) (fun _ i => (intOf i + 1).toNat)
                case atStart => exact ⟨k + 1, 0, k, rfl, rfl, by omega, by omega, by omega, by show V = _; rw [HV.out]; simp⟩
                case round =>
                  obtain ⟨j, u, t, rfl, rfl, ht, hj, hu64, hu⟩ := hrel
                  rcases Nat.eq_zero_or_pos j with hj0 | hj0
                  · obtain rfl : t = -1 := by omega
                    have hfin : getS s a = ⟨unzz u, (a : Int) + ((k + 1 : Nat) : Int), 0⟩ := by
                      have h := hu.out
                      subst hj0
                      simp only [val, Nat.pow_zero, Nat.mul_one, Nat.add_zero] at h
                      rw [HF.out, ← HV.out, h]
                    have HF2 := Lib.hid hfin
                    clear hu hfin ht hj hj0
                    by_cases hp : u % 2 = 1
                    · have hpb : ((u : Int) % 2 == 1) = true := et (by omega)
                      have hun : unzz u = -((u : Int) / 2) - 1 := by unfold unzz; rw [if_neg (by omega)]; omega
                      have HU := Lib.hid hun
                      clear hp hun
                      go_wp2
                      go_ret3
                      exact ⟨by rw [HF2.out, HU.out]; simp only [ret3, Int.natCast_add]; rfl, rfl⟩
                    · have hpb : ((u : Int) % 2 == 1) = false := ef (by omega)
                      have hun : unzz u = (u : Int) / 2 := by unfold unzz; rw [if_pos (by omega)]; omega
                      have HU := Lib.hid hun
                      clear hp hun
                      go_wp2
                      go_ret3
                      exact ⟨by rw [HF2.out, HU.out]; simp only [ret3, Int.natCast_add]; rfl, rfl⟩
                  · obtain ⟨i, rfl⟩ : ∃ i, j = i + 1 := ⟨j - 1, by omega⟩
                    obtain rfl : t = (i : Int) := by omega
                    have hs := HS.out i u (by omega) (by rw [← HV.out]; exact hu.out)
                    obtain ⟨hs1, hs2⟩ := hs
                    have hgb := HB.out
                    have hb2 := bn_lt s (a + i)
                    clear hu ht hj0
                    go_wp2
                    go_round
                    case rel => exact ⟨i, u * 128 + bn s (a + i) % 128, (i : Int) - 1, by go_num, rfl, rfl, by omega, hs2, by show V = _; rw [HV.out]; exact hs1.out⟩
                    case measure => simp [intOf]
              · have h0' : decide (0 < k) = false := df (by omega)
                have h9' : ((k : Int) == 9) = false := ef (by omega)
                have H0 := Lib.hid h0
                clear h5 h6 h0
                go_wp2
                go_loop [9, 10] (fun x i => ∃ (j u : Nat) (t : Int), x = .int .u64 u ∧ i = .int .i64 t ∧ t = (j : Int) - 1 ∧ j ≤ k + 1 ∧ u < 18446744073709551616 ∧ Hid (V = u * 128 ^ j + val (fun i => bn s (a + i)) j)) (fun _ i => (intOf i + 1).toNat)
                case atStart => exact ⟨k + 1, 0, k, rfl, rfl, by omega, by omega, by omega, by show V = _; rw [HV.out]; simp⟩
                case round =>
                  obtain ⟨j, u, t, rfl, rfl, ht, hj, hu64, hu⟩ := hrel
                  rcases Nat.eq_zero_or_pos j with hj0 | hj0
                  · obtain rfl : t = -1 := by omega
                    have hfin : getS s a = ⟨unzz u, (a : Int) + ((k + 1 : Nat) : Int), 0⟩ := by
                      have h := hu.out
                      subst hj0
                      simp only [val, Nat.pow_zero, Nat.mul_one, Nat.add_zero] at h
                      rw [HF.out, ← HV.out, h]
                    have HF2 := Lib.hid hfin
                    clear hu hfin ht hj hj0
                    by_cases hp : u % 2 = 1
                    · have hpb : ((u : Int) % 2 == 1) = true := et (by omega)
                      have hun : unzz u = -((u : Int) / 2) - 1 := by unfold unzz; rw [if_neg (by omega)]; omega
                      have HU := Lib.hid hun
                      clear hp hun
                      go_wp2
                      go_ret3
                      exact ⟨by rw [HF2.out, HU.out]; simp only [ret3, Int.natCast_add]; rfl, rfl⟩
                    · have hpb : ((u : Int) % 2 == 1) = false := ef (by omega)
                      have hun : unzz u = (u : Int) / 2 := by unfold unzz; rw [if_pos (by omega)]; omega
                      have HU := Lib.hid hun
                      clear hp hun
                      go_wp2
                      go_ret3
                      exact ⟨by rw [HF2.out, HU.out]; simp only [ret3, Int.natCast_add]; rfl, rfl⟩
                  · obtain ⟨i, rfl⟩ : ∃ i, j = i + 1 := ⟨j - 1, by omega⟩
                    obtain rfl : t = (i : Int) := by omega
                    have hs := HS.out i u (by omega) (by rw [← HV.out]; exact hu.out)
                    obtain ⟨hs1, hs2⟩ := hs
                    have hgb := HB.out
                    have hb2 := bn_lt s (a + i)
                    clear hu ht hj0
                    go_wp2
                    go_round
                    case rel => exact ⟨i, u * 128 + bn s (a + i) % 128, (i : Int) - 1, by go_num, rfl, rfl, by omega, hs2, by show V = _; rw [HV.out]; exact hs1.out⟩
                    case measure => simp [intOf]
        · have hfin : getR s a = scan (fun i => bn s (a + i)) (s.size - a) (9 - k) (k + 1) := by
            rw [HR.out, if_neg hkm]
            by_cases h9 : k = 9
            · rw [if_pos (by omega)]; subst h9; rfl
            · rw [if_neg (by omega), if_neg hlt]
          have HF := Lib.hid hfin
          clear HG HR hfin
          have h4 : decide ((bn s (a + k) : Int) < 128) = false := df (by omega)
          go_wp2
          go_round
          case rel => exact ⟨k + 1, rfl, by go_num, by omega, by omega, by rw [HF.out]; congr 1; omega⟩
          case measure => simp [intOf]; omega

theorem rget_any (s : ByteArray) (a : Int) (hs : s.size ≤ 4611686018427387904) (w : World) :
    Calls Try.prog 88 #[.string s, .int .i64 a] w fun e w' => e = ret3 (getS s a) ∧ w = w' := by
  by_cases ha : a < 0 ∨ (s.size : Int) < a
  · exact rget_out s a hs ha w
  · obtain ⟨n, rfl⟩ := Int.eq_ofNat_of_zero_le (show 0 ≤ a by omega)
    exact rget_in s n hs (by omega) w

set_option maxHeartbeats 400000 in
theorem rgetText_any (s : ByteArray) (a : Int) (hs : s.size ≤ 4611686018427387904) (w : World) :
    Calls Try.prog 94 #[.string s, .int .i64 a] w fun e w' => e = retT (getT s a) ∧ w = w' := by
  have hT : getT s a = if (getS s a).e ≠ 0 then ⟨str [], 0, (getS s a).e⟩ else if (getS s a).n < 0 then ⟨str [], 0, 4⟩ else if 65535 < (getS s a).n then ⟨str [], 0, 5⟩
    else if (s.size : Int) - (getS s a).next < (getS s a).n then ⟨str [], 0, 3⟩ else ⟨s.extract (getS s a).next.toNat ((getS s a).next.toNat + (getS s a).n.toNat), (getS s a).next + (getS s a).n, 0⟩ := rfl
  have hc := getS_cases s a
  have hk := @getS_ok s a
  have HC := rget_any s a hs w
  generalize getS s a = g at hT hc hk HC
  obtain ⟨gn, gx, ge⟩ := g
  simp only at hT hc hk
  have H := Lib.hid HC
  clear HC
  by_cases he : ge = 0
  · subst he
    obtain ⟨b, k, rfl, hR, hbk, hg⟩ := hk rfl
    have hu := unzz_bd (val_bound hR)
    simp only [G.mk.injEq] at hg
    obtain ⟨hn, rfl, -⟩ := hg
    rw [← hn] at hu
    clear hn hR hk hc
    simp only [ne_eq, not_true_eq_false, if_false] at hT
    obtain ⟨hu1, hu2⟩ := hu
    by_cases h1 : gn < 0
    · rw [if_pos h1] at hT
      have HT := Lib.hid hT
      clear hT
      go_enter Try.func94, Try.ntmps94
      go_wp2_with fail
      refine H.out.mono ?_
      rintro e w1 ⟨rfl, rfl⟩
      simp only [ret3]
      go_wp2_with fail
      go_ret3
      exact ⟨by rw [HT.out]; rfl, rfl⟩
    · rw [if_neg h1] at hT
      by_cases h2 : 65535 < gn
      · rw [if_pos h2] at hT
        have HT := Lib.hid hT
        clear hT
        go_enter Try.func94, Try.ntmps94
        go_wp2_with fail
        refine H.out.mono ?_
        rintro e w1 ⟨rfl, rfl⟩
        simp only [ret3]
        go_wp2_with fail
        go_ret3
        exact ⟨by rw [HT.out]; rfl, rfl⟩
      · rw [if_neg h2] at hT
        by_cases h3 : (s.size : Int) - ((b + k : Nat) : Int) < gn
        · rw [if_pos h3] at hT
          have HT := Lib.hid hT
          clear hT
          go_enter Try.func94, Try.ntmps94
          go_wp2_with fail
          refine H.out.mono ?_
          rintro e w1 ⟨rfl, rfl⟩
          simp only [ret3]
          go_wp2_with fail
          go_ret3
          exact ⟨by rw [HT.out]; rfl, rfl⟩
        · rw [if_neg h3] at hT
          obtain ⟨n, rfl⟩ := Int.eq_ofNat_of_zero_le (show 0 ≤ gn by omega)
          simp only [Int.toNat_natCast] at hT
          have HT := Lib.hid hT
          clear hT
          go_enter Try.func94, Try.ntmps94
          go_wp2_with fail
          refine H.out.mono ?_
          rintro e w1 ⟨rfl, rfl⟩
          simp only [ret3]
          go_wp2_with fail
          go_ret3
          exact ⟨by rw [HT.out]; rfl, rfl⟩
  · have hg : gn = 0 ∧ gx = 0 := by
      simp only [G.mk.injEq] at hc
      omega
    obtain ⟨rfl, rfl⟩ := hg
    rw [if_pos he] at hT
    have HT := Lib.hid hT
    have hb : (ge != 0) = true := nt he
    clear hT hc hk he
    go_enter Try.func94, Try.ntmps94
    go_wp2_with fail
    refine H.out.mono ?_
    rintro e w1 ⟨rfl, rfl⟩
    simp only [ret3]
    go_wp2_with fail
    go_ret3
    exact ⟨by rw [HT.out]; rfl, rfl⟩
end Go.Proofs.Ytajfalffpcamhaa.Vw
