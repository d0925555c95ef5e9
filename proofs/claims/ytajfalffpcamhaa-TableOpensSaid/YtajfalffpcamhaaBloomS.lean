/- The walk of the reference's Has. -/
import Derived.Test.YtajfalffpcamhaaBloomR
namespace Go.Proofs.Ytajfalffpcamhaa.Mw
open Go.RowKit
open Mp Fp B Fw
set_option linter.unusedVariables false

theorem drop_getD (l : List UInt8) (k i : Nat) : (l.drop k).getD i 0 = l.getD (k + i) 0 := by
  simp [List.getD_eq_getElem?_getD, List.getElem?_drop]
theorem bit_of (x pm : Nat) : (x / 2 ^ pm) % 2 = if x.testBit pm then 1 else 0 := by
  rw [Nat.testBit_eq_decide_div_mod_eq]
  split <;> simp_all

set_option maxHeartbeats 1600000 in
set_option maxRecDepth 100000 in
theorem rhas_any (f key : ByteArray) (hf : f.size ≤ 4611686018427387904) (hs : key.size ≤ 2305843009213693952) (w : World) :
    Calls Try.prog 17 #[.string f, .string key] w fun e w' => e = .returned (.bool (hasK f.data.toList key.data.toList)) ∧ Below w.heap.size w w' := by
  have hl : f.data.toList.length = f.size := by simp
  have hgb : ∀ (n : Nat) (h : n < f.size), (f[n]'h).toNat = bn f n := get_bn f
  have hbl := bn_lt f 0
  have hdl : (f.data.toList.drop 1).length = f.size - 1 := by rw [List.length_drop, hl]
  have hdb : ∀ i, ((f.data.toList.drop 1).getD i 0).toNat = bn f (1 + i) := by intro i; rw [drop_getD]; rfl
  obtain ⟨r, hr⟩ : ∃ r, r = hasK f.data.toList key.data.toList := ⟨_, rfl⟩
  rw [← hr]
  unfold hasK at hr
  rw [hl, bn_getD] at hr
  generalize f.data.toList.drop 1 = d at hdl hr hdb
  generalize hbe : bn f 0 = b at hbl hr
  have HR := Lib.hid hr
  have HBE := Lib.hid hbe
  have HDB := Lib.hid hdb
  have HGB := Lib.hid hgb
  clear hr hl hdb
  by_cases h1 : f.size < 2
  · have hrt : r = true := by rw [HR.out, if_pos (.inl h1)]
    subst hrt
    clear hgb hdl hbe
    go_enter Try.func17, Try.ntmps17
    go_wp2_with fail
    go_ret
    exact ⟨rfl, Below.refl _ _⟩
  by_cases h2 : 2097153 < f.size
  · have hrt : r = true := by rw [HR.out, if_pos (.inr (.inl h2))]
    subst hrt
    clear hgb hdl hbe
    go_enter Try.func17, Try.ntmps17
    go_wp2_with fail
    go_ret
    exact ⟨rfl, Below.refl _ _⟩
  have h0 := hgb 0 (by omega)
  rw [HBE.out] at h0
  clear hgb hbe
  by_cases h3 : b < 1
  · have hrt : r = true := by rw [HR.out, if_pos (.inr (.inr (.inl h3)))]
    subst hrt
    clear hdl
    go_enter Try.func17, Try.ntmps17
    go_wp2_with fail
    go_ret
    exact ⟨rfl, Below.refl _ _⟩
  by_cases h4 : 8 < b
  · have hrt : r = true := by rw [HR.out, if_pos (.inr (.inr (.inr h4)))]
    subst hrt
    clear hdl
    go_enter Try.func17, Try.ntmps17
    go_wp2_with fail
    go_ret
    exact ⟨rfl, Below.refl _ _⟩
  have hrt : r = (plsN key.data.toList b (8 * (f.size - 1))).all (hasBit d) := by rw [HR.out, if_neg (by omega)]
  obtain ⟨m, hm⟩ : ∃ m, m = f.size - 1 := ⟨_, rfl⟩
  have e1 : (f.size : Int) - 1 = (m : Int) := by omega
  rw [← hm] at hrt hdl
  have hm1 : 1 ≤ m := by omega
  have hm2 : m ≤ 2097152 := by omega
  obtain ⟨z, hz⟩ : ∃ z, z = 8 * m := ⟨_, rfl⟩
  rw [← hz] at hrt
  have HPL := Lib.hid (fun W : World => rplaces_ok key b z (by omega) (by omega) (by omega) (by omega) hs W)
  have hlt := plsN_lt key.data.toList b z (by omega)
  have hln := plsN_len key.data.toList b z
  generalize plsN key.data.toList b z = L at HPL hlt hrt hln
  have hp8 : ∀ p ∈ L, p / 8 < m := by intro p hp; have := hlt p hp; omega
  have HP8 := Lib.hid hp8
  have HDL := Lib.hid hdl
  have HRT := Lib.hid hrt
  have HLN := Lib.hid hln
  have HMM := Lib.hid hm
  have e2 : 8 * (m : Int) = (z : Int) := by omega
  have hLl : L.length ≤ 8 := by omega
  clear hlt hp8 hdl hrt hln hm hz
  go_enter Try.func17, Try.ntmps17
  go_wp2_with fail
  refine (HPL.out _).mono ?_
  rintro e w1 ⟨pa, pc, rfl, hrp, hfp, hb1⟩
  have HRP := Lib.hid hrp
  clear hrp hfp e1 e2
  go_wp2_with fail
  go_loopw [7] (fun i wr => ∃ j : Nat, i = .int .i64 j ∧ j ≤ L.length ∧ Hid (w1 = wr) ∧ Hid (∀ i, i < j → hasBit d (L.getD i 0) = true)) (fun i _ => L.length - (intOf i).toNat)
  case atStart => exact ⟨0, rfl, by omega, rfl, fun i hi => absurd hi (Nat.not_lt_zero _)⟩
  case round =>
    obtain ⟨j, rfl, hj, hwr, hall⟩ := hrel
    by_cases hlt : j < L.length
    · have hrw := HRP.out
      rw [hwr.out] at hrw
      obtain ⟨b2, off, rfl, hb, hc1⟩ := hrw.at (by omega)
      have hck := hc1 j hlt
      have hmem : L.getD j 0 ∈ L := by rw [List.getD_eq_getElem?_getD, List.getElem?_eq_getElem hlt]; exact List.getElem_mem _
      have hps := HP8.out _ hmem
      obtain ⟨p, hpe⟩ : ∃ p, p = L.getD j 0 := ⟨_, rfl⟩
      rw [← hpe] at hck hps hmem
      obtain ⟨pd, hpd⟩ : ∃ pd, pd = p / 8 := ⟨_, rfl⟩
      obtain ⟨pm, hpm⟩ : ∃ pm, pm = p % 8 := ⟨_, rfl⟩
      have e5 : (p : Int) / 8 = (pd : Int) := by omega
      have e6 : (p : Int) % 8 = (pm : Int) := by omega
      have hpm8 : pm < 8 := by omega
      rw [← hpd] at hps
      have hi1 : 1 + pd < f.size := by have := HMM.out; omega
      have hby := HGB.out (1 + pd) hi1
      have hbit : hasBit d p = (bn f (1 + pd)).testBit pm := by unfold hasBit; rw [← HDB.out, hpd, hpm]
      have hbt := bit_of (bn f (1 + pd)) pm
      generalize bn f (1 + pd) = y at hby hbit hbt
      have HPE := Lib.hid hpe
      have HM := Lib.hid hmem
      have HBIT := Lib.hid hbit
      obtain ⟨q, hq⟩ : ∃ q, q = y / 2 ^ pm := ⟨_, rfl⟩
      rw [← hq] at hbt
      have e7 : (y : Int) / 2 ^ pm = (q : Int) := by rw [hq, Int.natCast_ediv, Int.natCast_pow]; rfl
      clear hrw hc1 hpe hmem hbit hpd hpm hq
      cases hb9 : y.testBit pm with
      | true =>
        rw [hb9] at HBIT hbt
        have e8 : ((q : Int) % 2 == 0) = false := ef (by simp at hbt; omega)
        clear hbt hb9
        go_wp2_with fail
        go_roundw
        case rel =>
          refine ⟨j + 1, by go_num, by omega, hwr, fun i hi => ?_⟩
          by_cases hij : i < j
          · exact hall.out i hij
          · obtain rfl : i = j := by omega
            rw [← HPE.out]; exact HBIT.out
        case measure => simp [intOf]; omega
      | false =>
        rw [hb9] at HBIT hbt
        have e8 : ((q : Int) % 2 == 0) = true := et (by simp at hbt; omega)
        clear hbt hb9
        have hfin : r = false := by
          rw [HRT.out, List.all_eq_false]
          exact ⟨p, HM.out, by rw [HBIT.out]; simp⟩
        have HFI := Lib.hid hfin
        clear hfin
        go_wp2_with fail
        go_ret
        exact ⟨by rw [HFI.out]; rfl, by rw [← hwr.out]; exact hb1⟩
    · have hje : j = L.length := by omega
      have hfin : r = true := by
        rw [HRT.out, List.all_eq_true]
        intro x hx
        obtain ⟨i, hi, rfl⟩ := List.getElem_of_mem hx
        have := hall.out i (by omega)
        rw [List.getD_eq_getElem?_getD, List.getElem?_eq_getElem hi] at this
        exact this
      have HFI := Lib.hid hfin
      clear hfin hall
      go_wp2_with fail
      go_ret
      exact ⟨by rw [HFI.out]; rfl, by rw [← hwr.out]; exact hb1⟩

end Go.Proofs.Ytajfalffpcamhaa.Mw
