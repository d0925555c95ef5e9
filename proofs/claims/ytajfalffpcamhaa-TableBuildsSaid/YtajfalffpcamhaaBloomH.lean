/- The walk of bloom.Has. -/
import Derived.Test.YtajfalffpcamhaaBloomPl
import Derived.Test.YtajfalffpcamhaaGa
import Derived.Deep.QuietTactic
import Derived.BigQuiet
import Derived.Deep.RegionWith
import Derived.Deep.RegionHeld3
namespace Go.Proofs.Ytajfalffpcamhaa.Mw
open Go.RowKit
open Mp Fp B Fw
set_option linter.unusedVariables false

theorem and_bits (y : UInt8) (k : Nat) (hk : k < 8) : (bits .and .u8 (y.toNat : Int) (2 ^ k % 256) == 0) = !(y.toNat.testBit k) := by
  have hp : 2 ^ k < 256 := Nat.lt_of_lt_of_le (Nat.pow_lt_pow_right (by omega) hk) (by decide)
  have e : ((2 : Int) ^ k % 256) = ((2 ^ k : Nat) : Int) := by
    have : ((2 : Int) ^ k) = ((2 ^ k : Nat) : Int) := by rw [Int.natCast_pow]; rfl
    rw [this]
    generalize 2 ^ k = q at hp ⊢
    omega
  rw [e]
  have hy := UInt8.toNat_lt y
  have : ∀ (a : Fin 256) (j : Fin 8), (bits .and .u8 (a.val : Int) ((2 ^ j.val : Nat) : Int) == 0) = !(a.val.testBit j.val) := by decide +kernel
  exact this ⟨y.toNat, hy⟩ ⟨k, hk⟩

set_option maxHeartbeats 400000 in
theorem pred_any (f : List UInt8) (vb p : Nat) (hp : p / 8 < f.length) (hfl : f.length ≤ 2097153) (w : World) (hc : w.cell? ⟨vb, 0, none⟩ = some (.string (str f))) :
    Calls Try.prog 75 #[.int .i64 p, .pointer (some ⟨vb, 0, none⟩)] w fun e w' => e = .returned (.bool (!(hasBit f p))) ∧ ∃ q, w' = w.drewN q := by
  obtain ⟨pd, hpd⟩ : ∃ pd, pd = p / 8 := ⟨_, rfl⟩
  obtain ⟨pm, hpm⟩ : ∃ pm, pm = p % 8 := ⟨_, rfl⟩
  have e5 : (p : Int) / 8 = (pd : Int) := by omega
  have e6 : (p : Int) % 8 = (pm : Int) := by omega
  have hpm8 : pm < 8 := by omega
  have hb : hasBit f p = (f.getD pd 0).toNat.testBit pm := by rw [hpd, hpm]; rfl
  have hand := and_bits (f.getD pd 0) pm hpm8
  have hbn : bn (str f) pd = (f.getD pd 0).toNat := by unfold bn; rw [toList_str]
  have hsz : (str f).size = f.length := str_size f
  have hi : (pd : Int) < ((str f).size : Int) := by omega
  have hpd9 : pd ≤ 2097153 := by omega
  rw [hb]
  generalize str f = s at hc hbn hsz hi
  generalize f.getD pd 0 = y at hand hbn hb ⊢
  have hgb : ∀ (n : Nat) (h : n < s.size), (s[n]'h).toNat = bn s n := get_bn s
  clear hb hp hpd hpm hsz
  go_enter Try.func75, Try.ntmps75
  go_wp2_with fail
  have HAND := Lib.hid hand
  clear hand
  go_quiet (fail)
  go_wp2_with fail
  go_ret
  exact ⟨by rw [HAND.out]; rfl, _, rfl⟩

set_option maxHeartbeats 800000 in
theorem idx_any (f : List UInt8) (vb : Nat) (L : List Nat) (hp : ∀ p ∈ L, p / 8 < f.length) (hfl : f.length ≤ 2097153) (hL : L.length ≤ 8) (a : Option Addr) (c : Nat) (w : World) (hc : w.cell? ⟨vb, 0, none⟩ = some (.string (str f)))
    (hrow : Row w a L.length (fun i => .int .i64 ((L.getD i 0 : Nat) : Int))) :
    Calls Try.prog 96 #[.slice a L.length c, .func (.func 75) #[] #[.pointer (some ⟨vb, 0, none⟩)]] w fun e w' => (∃ r : Int, e = .returned (.int .i64 r) ∧ decide (r ≥ 0) = !(L.all (hasBit f))) ∧ ∃ q, w' = w.drewN q := by
  have HP := Lib.hid hp
  have HC := Lib.hid hc
  have HR := Lib.hid hrow
  clear hp hc hrow
  go_enter Try.func96, Try.ntmps96
  go_wp2_with fail
  go_loopw [8] (fun i wr => ∃ j q : Nat, i = .int .i64 j ∧ j ≤ L.length ∧ wr = w.drewN q ∧ Hid (∀ i, i < j → hasBit f (L.getD i 0) = true)) (fun i _ => L.length - (intOf i).toNat)
  case atStart => exact ⟨0, 0, rfl, by omega, rfl, fun i hi => absurd hi (Nat.not_lt_zero _)⟩
  case round =>
    obtain ⟨j, q, rfl, hj, rfl, hall⟩ := hrel
    by_cases hlt : j < L.length
    · have hrw := Row.below HR.out (drewN (n := q) (Below.refl _ _))
      obtain ⟨b, off, rfl, hb, hc1⟩ := hrw.at (by omega)
      have hck := hc1 j hlt
      have hmem : L.getD j 0 ∈ L := by rw [List.getD_eq_getElem?_getD, List.getElem?_eq_getElem hlt]; exact List.getElem_mem _
      have hps := HP.out _ hmem
      obtain ⟨p, hpe⟩ : ∃ p, p = L.getD j 0 := ⟨_, rfl⟩
      rw [← hpe] at hck hps hmem
      have hck0 := Lib.hid hck
      have hcall := pred_any f vb p hps hfl (w.drewN q) HC.out
      have HCA := Lib.hid hcall
      have HPE := Lib.hid hpe
      have HM := Lib.hid hmem
      clear hrw hc1 hcall hpe hps hmem hck
      have hck := hck0.out
      cases hbt : hasBit f p with
      | true =>
        rw [hbt] at HCA
        have HBT := Lib.hid hbt
        clear hbt
        go_wp2_with fail
        refine HCA.out.mono ?_
        rintro e w1 ⟨rfl, q1, rfl⟩
        go_wp2_with fail
        go_roundw
        case rel =>
          refine ⟨j + 1, q + q1, by go_num, by omega, rfl, fun i hi => ?_⟩
          by_cases hij : i < j
          · exact hall.out i hij
          · obtain rfl : i = j := by omega
            rw [← HPE.out]; exact HBT.out
        case measure => simp [intOf]; omega
      | false =>
        rw [hbt] at HCA
        have HBT := Lib.hid hbt
        clear hbt
        go_wp2_with fail
        refine HCA.out.mono ?_
        rintro e w1 ⟨rfl, q1, rfl⟩
        go_wp2_with fail
        go_ret
        refine ⟨⟨j, rfl, ?_⟩, q + q1, rfl⟩
        rw [dt (by omega)]
        symm
        rw [Bool.not_eq_true', List.all_eq_false]
        exact ⟨p, HM.out, by rw [HBT.out]; simp⟩
    · have hje : j = L.length := by omega
      have hfin : (!(L.all (hasBit f))) = false := by
        rw [Bool.not_eq_false', List.all_eq_true]
        intro x hx
        obtain ⟨i, hi, rfl⟩ := List.getElem_of_mem hx
        have := hall.out i (by omega)
        rw [List.getD_eq_getElem?_getD, List.getElem?_eq_getElem hi] at this
        exact this
      have HFI := Lib.hid hfin
      clear hfin hall
      go_wp2_with fail
      go_ret
      exact ⟨⟨-1, rfl, by rw [HFI.out]; rfl⟩, q, rfl⟩

theorem cont_any (f : List UInt8) (vb : Nat) (L : List Nat) (hp : ∀ p ∈ L, p / 8 < f.length) (hfl : f.length ≤ 2097153) (hL : L.length ≤ 8) (a : Option Addr) (c : Nat) (w : World) (hc : w.cell? ⟨vb, 0, none⟩ = some (.string (str f)))
    (hrow : Row w a L.length (fun i => .int .i64 ((L.getD i 0 : Nat) : Int))) :
    Calls Try.prog 74 #[.slice a L.length c, .func (.func 75) #[] #[.pointer (some ⟨vb, 0, none⟩)]] w fun e w' => e = .returned (.bool (!(L.all (hasBit f)))) ∧ ∃ q, w' = w.drewN q := by
  have HI := Lib.hid (idx_any f vb L hp hfl hL a c w hc hrow)
  clear hp hc hrow
  go_enter Try.func74, Try.ntmps74
  go_wp2_with fail
  refine HI.out.mono ?_
  rintro e w1 ⟨⟨r, rfl, hr⟩, q, rfl⟩
  have HR := Lib.hid hr
  clear hr
  go_wp2_with fail
  go_ret
  exact ⟨by rw [← HR.out]; rfl, q, rfl⟩

theorem keep1 {A : Nat} {v : Value} {w a b : World} (h : a.cell? ⟨A, 0, none⟩ = some v ∧ A < a.heap.size ∧ Below A w a) (k : Below a.heap.size a b) : b.cell? ⟨A, 0, none⟩ = some v ∧ A < b.heap.size ∧ Below A w b :=
  ⟨(k.cell (p := ⟨A, 0, none⟩) h.2.1).trans h.1, Nat.lt_of_lt_of_le h.2.1 k.size, h.2.2.trans (k.mono (Nat.le_of_lt h.2.1))⟩
theorem bn_getD (s : ByteArray) (k : Nat) : (s.data.toList.getD k 0).toNat = bn s k := rfl

set_option maxHeartbeats 800000 in
set_option maxRecDepth 100000 in
theorem has_any (f key : ByteArray) (hf : f.size ≤ 4611686018427387904) (hs : key.size ≤ 2305843009213693952) (w : World) :
    Calls Try.prog 46 #[.string f, .string key] w fun e w' => e = .returned (.bool (hasK f.data.toList key.data.toList)) ∧ Below w.heap.size w w' := by
  have hl : f.data.toList.length = f.size := by simp
  have hgb : ∀ (n : Nat) (h : n < f.size), (f[n]'h).toNat = bn f n := get_bn f
  have hbl := bn_lt f 0
  have hd : f.extract 1 f.size = str (f.data.toList.drop 1) := by rw [extract_str, List.take_of_length_le (by simp)]
  have hdl : (f.data.toList.drop 1).length = f.size - 1 := by rw [List.length_drop, hl]
  obtain ⟨r, hr⟩ : ∃ r, r = hasK f.data.toList key.data.toList := ⟨_, rfl⟩
  rw [← hr]
  unfold hasK at hr
  rw [hl, bn_getD] at hr
  generalize f.data.toList.drop 1 = d at hd hdl hr
  generalize hbe : bn f 0 = b at hbl hr
  have HR := Lib.hid hr
  have HBE := Lib.hid hbe
  clear hr hl
  by_cases h1 : f.size < 2
  · have hrt : r = true := by rw [HR.out, if_pos (.inl h1)]
    subst hrt
    clear hgb hd hdl hbe
    go_enter Try.func46, Try.ntmps46
    go_wp2_with fail
    go_ret
    exact ⟨rfl, Below.refl _ _⟩
  by_cases h2 : 2097153 < f.size
  · have hrt : r = true := by rw [HR.out, if_pos (.inr (.inl h2))]
    subst hrt
    clear hgb hd hdl hbe
    go_enter Try.func46, Try.ntmps46
    go_wp2_with fail
    go_ret
    exact ⟨rfl, Below.refl _ _⟩
  have h0 := hgb 0 (by omega)
  rw [HBE.out] at h0
  clear hgb hbe
  by_cases h3 : b < 1
  · have hrt : r = true := by rw [HR.out, if_pos (.inr (.inr (.inl h3)))]
    subst hrt
    clear hd hdl
    go_enter Try.func46, Try.ntmps46
    go_wp2_with fail
    go_ret
    exact ⟨rfl, Below.refl _ _⟩
  by_cases h4 : 8 < b
  · have hrt : r = true := by rw [HR.out, if_pos (.inr (.inr (.inr h4)))]
    subst hrt
    clear hd hdl
    go_enter Try.func46, Try.ntmps46
    go_wp2_with fail
    go_ret
    exact ⟨rfl, Below.refl _ _⟩
  have hrt : r = (plsN key.data.toList b (8 * (f.size - 1))).all (hasBit d) := by rw [HR.out, if_neg (by omega)]
  obtain ⟨m, hm⟩ : ∃ m, m = f.size - 1 := ⟨_, rfl⟩
  have e1 : (f.size : Int) - 1 = (m : Int) := by omega
  rw [← hm] at hrt hdl
  have hm1 : 1 ≤ m := by omega
  have hm2 : m ≤ 2097152 := by omega
  obtain ⟨z, hz⟩ : ∃ z, z = 8 * m := ⟨_, rfl⟩
  rw [← hz] at hrt
  have HPL := Lib.hid (fun W : World => places_ok key b z (by omega) (by omega) (by omega) (by omega) hs W)
  have hlt := plsN_lt key.data.toList b z (by omega)
  have hln := plsN_len key.data.toList b z
  generalize plsN key.data.toList b z = L at HPL hlt hrt hln
  have hp8 : ∀ p ∈ L, p / 8 < d.length := by intro p hp; have := hlt p hp; omega
  have HP8 := Lib.hid hp8
  have HDL := Lib.hid hdl
  have HRT := Lib.hid hrt
  have HLN := Lib.hid hln
  clear hlt hp8 hdl hrt hln hm
  have e2 : IntKind.i64.wrap (8 * (m : Int)) = (z : Int) := by rw [IntWalk.i64_in _ (by omega)]; omega
  clear hz
  have ewb : IntKind.i64.wrap (b : Int) = (b : Int) := IntWalk.i64_in _ (by omega)
  have hsz : (str d).size = m := by rw [str_size, HDL.out]
  have hc0 : ((w.alloc (.cells #[.string (str d)] 9)).drew.cell? ⟨w.heap.size, 0, none⟩ = some (.string (str d)) ∧ w.heap.size < (w.alloc (.cells #[.string (str d)] 9)).drew.heap.size ∧ Below w.heap.size w (w.alloc (.cells #[.string (str d)] 9)).drew) :=
    ⟨by rw [World.cell?_drew, World.cell?_alloc_at _ _ _ _ rfl]; rfl, by simp, ((Below.refl _ _).alloc (Nat.le_refl _) _).drew⟩
  have HC0 := Lib.hid hc0
  clear hc0
  go_enter Try.func46, Try.ntmps46
  go_wp2_with fail
  go_region_held3 (fun w' => w'.cell? ⟨w.heap.size, 0, none⟩ = some (.string (str d)) ∧ w.heap.size < w'.heap.size ∧ Below w.heap.size w w')
    (first | (refine ⟨?_, ?_, ?_⟩ <;> assumption) | exact HC0.out | exact keep1 HC0.out hb1 | exact keep1 (keep1 HC0.out hb1) (drewN (Below.refl _ _)))
    (first | (go_at_call 63; (with_reducible refine (HPL.out _).mono ?_); rintro e w1 ⟨pa, pc, rfl, hrp, hfp, hb1⟩; have HRP := Lib.hid hrp; clear hrp hfp) | (go_at_call 74; refine (cont_any d w.heap.size L HP8.out (by rw [HDL.out]; omega) (by rw [HLN.out]; omega) pa pc _ (keep1 HC0.out hb1).1 HRP.out).mono ?_; rintro e w2 ⟨rfl, q, rfl⟩))
  all_goals
    go_wp2_with fail
    go_ret
    exact ⟨by rw [HRT.out]; rfl, drewN (keep1 HC0.out hb1).2.2⟩

end Go.Proofs.Ytajfalffpcamhaa.Mw
