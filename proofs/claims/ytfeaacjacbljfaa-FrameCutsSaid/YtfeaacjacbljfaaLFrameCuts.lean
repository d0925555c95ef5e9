/- FrameCuts: of frames that are cut off anywhere just those that are whole are given, and that the rest is cut off is told. No condition on the input. -/
import Derived.Test.YtfeaacjacbljfaaFramed
import Derived.Test.YtfeaacjacbljfaaFrameCP
import Derived.Deep.QuietTactic
import Derived.BigQuiet
import Derived.ProofKit
import Derived.OpenShut
import Derived.ShutString
import Derived.ChangeOld
import Derived.Below
import Derived.SizedLaws
import Derived.Test.YtfeaacjacbljfaaOpen
namespace Go.Proofs.Ytfeaacjacbljfaa.frameCuts
open Go.ChangeShapes Go.WideShapes Go.ChangeAt Go.RowKit
open Go.ChangeMaps (open_string shut_string)
set_option linter.unusedVariables false
open Fp B Fw

theorem getD_take_map (bs : List (List UInt8)) (k i : Nat) (h : i < k) (hk : k ≤ bs.length) : ((bs.take k).map str).getD i ByteArray.empty = str (bs.getD i []) := by
  simp only [List.getD_eq_getElem?_getD, List.getElem?_map, List.getElem?_take_of_lt h, List.getElem?_eq_getElem (show i < bs.length by omega), Option.map_some, Option.getD_some]

theorem endN_pos (bs : List (List UInt8)) (i : Nat) (h : i < bs.length) : 0 < endN bs i := by
  unfold endN
  rw [frames_take bs i h, List.length_append, frm_len]; omega
theorem frames_mono (bs : List (List UInt8)) (k : Nat) : (frames (bs.take k)).length ≤ (frames bs).length := by
  have h : frames bs = frames (bs.take k) ++ frames (bs.drop k) := by rw [← frames_append, List.take_append_drop]
  rw [h, List.length_append]; omega

set_option maxHeartbeats 2000000 in
set_option maxRecDepth 100000 in
theorem walk (a : Option Addr) (n cap : Nat) (ss : List ByteArray) (cut : Int) (w : World)
    (hz : ss.length = n ∧ n ≤ cap ∧ cap ≤ 9223372036854775807 ∧ (∀ s ∈ ss, s.size ≤ 9223372036854775807) ∧ Row w a n (fun i => .string (ss.getD i ByteArray.empty))) (hcut : -9223372036854775808 ≤ cut ∧ cut ≤ 9223372036854775807) :
    Calls Try.prog 13 #[.slice a n cap, .int .i64 cut] w fun e w' => e = .returned (.bool true) ∧ Below w.heap.size w w' := by
  obtain ⟨hz, hn, hm, hsz, hrow⟩ := hz
  obtain ⟨hcut1, hcut2⟩ := hcut
  have HF := Lib.hid (framed_any a n cap ss hz hn hm hsz w hrow)
  have hbl := cutB_len ss
  have hle := cutB_le ss
  rw [hz] at hbl
  generalize cutB ss = bs at HF hbl hle
  have hfl := frames_len bs hle
  have hfl2 : (frames bs).length ≤ 40160 := by omega
  obtain ⟨L, hL⟩ : ∃ L, L = (frames bs).length := ⟨_, rfl⟩
  have hszL : (str (frames bs)).size = L := by rw [str_size, hL]
  obtain ⟨c, hc⟩ : ∃ c : Nat, (c : Int) = max 0 cut % ((L : Int) + 1) := ⟨(max 0 cut % ((L : Int) + 1)).toNat, Int.toNat_of_nonneg (Int.emod_nonneg _ (by omega))⟩
  have hcl : c ≤ L := by have := Int.emod_lt_of_pos (max 0 cut) (show (0 : Int) < (L : Int) + 1 by omega); omega
  have hcm : max 0 cut % ((L : Int) + 1) = (c : Int) := hc.symm
  have hA := allF_cut bs c (fun b hb => by have := hle b hb; omega) (by omega)
  have hkl := wholeN_le bs c
  have hwl := whole_len bs c
  have hei := end_iff bs c
  have hex : (str (frames bs)).extract 0 c = str ((frames bs).take c) := by rw [extract0, toList_str]
  obtain ⟨K, hK⟩ : ∃ K, K = wholeN bs c := ⟨_, rfl⟩
  rw [← hK] at hA hkl hwl hei
  have HEI := Lib.hid hei
  have HA := Lib.hid hA
  have HL := Lib.hid hL
  have HBL := Lib.hid hbl
  have HLE := Lib.hid hle
  have hcs : (str ((frames bs).take c)).size ≤ 16777216 := by rw [str_size, List.length_take]; omega
  have hb20 : bs.length ≤ 20 := by omega
  have hL2 : L ≤ 40160 := by omega
  clear hz hsz hrow hbl hle hfl hfl2 hL hc hA hei hK
  obtain ⟨F, hF⟩ : ∃ F, F = (frames (bs.take K)).length := ⟨_, rfl⟩
  rw [← hF] at hwl
  have hA2 := HA.out
  rw [← hF] at hA2
  obtain ⟨er, her⟩ : ∃ er : Int, er = if F = c then 10 else 3 := ⟨_, rfl⟩
  rw [← her] at hA2
  have HA := Lib.hid hA2
  have HER := Lib.hid her
  have HFF := Lib.hid hF
  have hKm : min K bs.length = K := by omega
  clear hA2 hF her
  by_cases h0 : 0 < cut
  · have hm1 : cut % ((L : Int) + 1) = (c : Int) := by rw [Int.max_eq_right (by omega)] at hcm; exact hcm
    clear hcm
    go_enter Try.func13, Try.ntmps13
    go_wp2_with fail
    refine HF.out.mono ?_
    rintro e w1 ⟨ea, ec, oa, oc, rfl, hre, hro, hb1⟩
    have HRE := Lib.hid hre
    have HRO := Lib.hid hro
    clear hre hro
    go_wp2_with fail
    refine (all_any _ hcs _).mono ?_
    rw [HA.out]
    rintro e w2 ⟨la, lc, rfl, hrl, hb2⟩
    simp only [List.length_map, List.length_take, hKm] at hrl ⊢
    have HRL := Lib.hid hrl
    have hb3 := chain hb1 hb2
    clear hrl
    go_wp2_with fail
    go_loopw [11, 12, 38] (fun x y i wr => ∃ j m f : Nat, i = .int .i64 j ∧ j ≤ bs.length ∧ x = .int .i64 m ∧ y = .int .i64 f ∧ m ≤ j ∧ f ≤ L ∧ Hid (m = min j K ∧ f = (frames (bs.take m)).length) ∧ Below w2.heap.size w2 wr) (fun _ _ i _ => bs.length - (intOf i).toNat)
    case atStart => exact ⟨0, 0, 0, rfl, by omega, rfl, rfl, by omega, by omega, ⟨by omega, rfl⟩, Below.refl _ _⟩
    case round =>
      obtain ⟨j, m, f, rfl, hj, rfl, rfl, hmj, hfL, hmf, hbel⟩ := hrel
      by_cases hlt : j < bs.length
      · obtain ⟨b, off, rfl, hbw, hc1⟩ := ((HRE.out.below hb2).below hbel).at (by omega)
        have hck := hc1 j hlt
        have hee := HEI.out j hlt
        have hfe : endN bs j = (frames (bs.take (j + 1))).length := rfl
        have hfl := frames_mono bs (j + 1)
        rw [← hfe, ← HL.out] at hfl
        have HFE := Lib.hid hfe
        have HM := hmf.out.1
        by_cases hjK : j < K
        · have hle : decide (endN bs j ≤ c) = true := dt (by have := hee.2 hjK; omega)
          have hmj2 : m = j := by omega
          have HMJ := Lib.hid hmj2
          clear hc1 hee hfe HM hmj2
          go_wp2_with fail
          go_roundw
          case rel => exact ⟨j + 1, j + 1, endN bs j, by go_num, by omega, by go_num, rfl, by omega, hfl, ⟨by omega, HFE.out⟩, hbel⟩
          case measure => simp [intOf]; omega
        · have hle : decide (endN bs j ≤ c) = false := df (by
            intro h9
            exact hjK (hee.1 (by omega)))
          have hmK : m = min (j + 1) K := by omega
          have HMK := Lib.hid hmK
          clear hc1 hee hfe HM hmK
          go_wp2_with fail
          go_roundw
          case rel => exact ⟨j + 1, m, f, by go_num, by omega, rfl, rfl, by omega, hfL, ⟨HMK.out, hmf.out.2⟩, hbel⟩
          case measure => simp [intOf]; omega
      · have hmK : m = K := by have := hmf.out.1; omega
        have hfF : f = F := by rw [hmf.out.2, hmK, HFF.out]
        subst hmK
        subst hfF
        have hmn : (n ≤ 20 ∧ bs.length = n) ∨ (20 < n ∧ bs.length = 20) := by have := HBL.out; omega
        have HMN := Lib.hid hmn
        have hb4 := chain hb3 hbel
        clear hmf hmn
        obtain ⟨wo, rfl⟩ : ∃ wo : World, wo = wr := ⟨_, rfl⟩
        rcases HMN.out with ⟨hn1, hn2⟩ | ⟨hn1, hn2⟩
        all_goals
          first | (have hbt : ((bs.length : Int) != (n : Int)) = false := nf (by omega)) | (have hbt : ((bs.length : Int) != 20) = false := nf (by omega))
          clear hn2
          go_wp2_with fail
          go_loopw [69] (fun i wr => ∃ q : Nat, i = .int .i64 q ∧ q ≤ m ∧ Below wo.heap.size wo wr) (fun i _ => m - (intOf i).toNat)
          case atStart => exact ⟨0, rfl, by omega, Below.refl _ _⟩
          case round =>
            obtain ⟨q, rfl, hq, hbel2⟩ := hrel
            by_cases hqm : q < m
            · obtain ⟨b, off, rfl, hbw, hc1⟩ := ((HRL.out.below hbel).below hbel2).at (by omega)
              obtain ⟨b', off', rfl, hbw', hc2⟩ := (((HRO.out.below hb2).below hbel).below hbel2).at (by omega)
              have hck := hc1 q hqm
              have hck' := hc2 q (by omega)
              rw [getD_take_map bs m q hqm hkl] at hck
              have hq1 : (q : Int) < (m : Int) := by omega
              have hq2 : (q : Int) < (bs.length : Int) := by omega
              obtain ⟨z, hzd⟩ : ∃ z, z = str (bs.getD q []) := ⟨_, rfl⟩
              rw [← hzd] at hck hck'
              clear hc1 hc2 hzd
              go_wp2_with fail
              go_quiet (fail)
              have hb13 := drewN (n := nq) hbel2
              go_wp2_with fail
              go_roundw
              case rel => exact ⟨q + 1, by go_num, by omega, hb13⟩
              case measure => simp [intOf]; omega
            · have hb5 := chain hb4 hbel2
              by_cases hfc : f = c
              · have her : er = 10 := by rw [HER.out, if_pos hfc]
                have hfb : ((f : Int) == (c : Int)) = true := et (by omega)
                have hrb : (er == 10) = true := et her
                clear her hfc
                go_wp2_with fail
                go_ret
                exact ⟨rfl, hb5⟩
              · have her : er = 3 := by rw [HER.out, if_neg hfc]
                have hfb : ((f : Int) == (c : Int)) = false := ef (by omega)
                have hrb : (er == 3) = true := et her
                clear her hfc
                go_wp2_with fail
                go_ret
                exact ⟨rfl, hb5⟩
  · have hc0 : c = 0 := by
      by_cases h9 : cut = 0
      · rw [h9] at hcm; simp at hcm; omega
      · rw [Int.max_eq_left (by omega)] at hcm; simp at hcm; omega
    subst hc0
    have hA3 := HA.out
    rw [show str ((frames bs).take 0) = ByteArray.empty from rfl] at hA3
    have HA := Lib.hid hA3
    clear hA3 hex hcm hcs
    go_enter Try.func13, Try.ntmps13
    go_wp2_with fail
    refine HF.out.mono ?_
    rintro e w1 ⟨ea, ec, oa, oc, rfl, hre, hro, hb1⟩
    have HRE := Lib.hid hre
    have HRO := Lib.hid hro
    clear hre hro
    go_wp2_with fail
    refine (all_any ByteArray.empty (by decide) _).mono ?_
    rw [HA.out]
    rintro e w2 ⟨la, lc, rfl, hrl, hb2⟩
    simp only [List.length_map, List.length_take, hKm] at hrl ⊢
    have HRL := Lib.hid hrl
    have hb3 := chain hb1 hb2
    clear hrl
    go_wp2_with fail
    go_loopw [11, 12, 38] (fun x y i wr => ∃ j m f : Nat, i = .int .i64 j ∧ j ≤ bs.length ∧ x = .int .i64 m ∧ y = .int .i64 f ∧ m ≤ j ∧ f ≤ L ∧ Hid (m = min j K ∧ f = (frames (bs.take m)).length) ∧ Below w2.heap.size w2 wr) (fun _ _ i _ => bs.length - (intOf i).toNat)
    case atStart => exact ⟨0, 0, 0, rfl, by omega, rfl, rfl, by omega, by omega, ⟨by omega, rfl⟩, Below.refl _ _⟩
    case round =>
      obtain ⟨j, m, f, rfl, hj, rfl, rfl, hmj, hfL, hmf, hbel⟩ := hrel
      by_cases hlt : j < bs.length
      · obtain ⟨b, off, rfl, hbw, hc1⟩ := ((HRE.out.below hb2).below hbel).at (by omega)
        have hck := hc1 j hlt
        have hee := HEI.out j hlt
        have hfe : endN bs j = (frames (bs.take (j + 1))).length := rfl
        have hfl := frames_mono bs (j + 1)
        rw [← hfe, ← HL.out] at hfl
        have HFE := Lib.hid hfe
        have HM := hmf.out.1
        by_cases hjK : j < K
        · exact absurd (hee.2 hjK) (by have := endN_pos bs j hlt; omega)
        · have hep := endN_pos bs j hlt
          have hle : decide (endN bs j = 0) = false := df (by omega)
          have hle2 : decide ((endN bs j : Int) ≤ 0) = false := df (by omega)
          have hmK : m = min (j + 1) K := by omega
          have HMK := Lib.hid hmK
          clear hc1 hee hfe HM hmK
          go_wp2_with fail
          go_roundw
          case rel => exact ⟨j + 1, m, f, by go_num, by omega, rfl, rfl, by omega, hfL, ⟨HMK.out, hmf.out.2⟩, hbel⟩
          case measure => simp [intOf]; omega
      · have hmK : m = K := by have := hmf.out.1; omega
        have hfF : f = F := by rw [hmf.out.2, hmK, HFF.out]
        subst hmK
        subst hfF
        have hmn : (n ≤ 20 ∧ bs.length = n) ∨ (20 < n ∧ bs.length = 20) := by have := HBL.out; omega
        have HMN := Lib.hid hmn
        have hb4 := chain hb3 hbel
        clear hmf hmn
        obtain ⟨wo, rfl⟩ : ∃ wo : World, wo = wr := ⟨_, rfl⟩
        rcases HMN.out with ⟨hn1, hn2⟩ | ⟨hn1, hn2⟩
        all_goals
          first | (have hbt : ((bs.length : Int) != (n : Int)) = false := nf (by omega)) | (have hbt : ((bs.length : Int) != 20) = false := nf (by omega))
          clear hn2
          go_wp2_with fail
          go_loopw [69] (fun i wr => ∃ q : Nat, i = .int .i64 q ∧ q ≤ m ∧ Below wo.heap.size wo wr) (fun i _ => m - (intOf i).toNat)
          case atStart => exact ⟨0, rfl, by omega, Below.refl _ _⟩
          case round =>
            obtain ⟨q, rfl, hq, hbel2⟩ := hrel
            by_cases hqm : q < m
            · obtain ⟨b, off, rfl, hbw, hc1⟩ := ((HRL.out.below hbel).below hbel2).at (by omega)
              obtain ⟨b', off', rfl, hbw', hc2⟩ := (((HRO.out.below hb2).below hbel).below hbel2).at (by omega)
              have hck := hc1 q hqm
              have hck' := hc2 q (by omega)
              rw [getD_take_map bs m q hqm hkl] at hck
              have hq1 : (q : Int) < (m : Int) := by omega
              have hq2 : (q : Int) < (bs.length : Int) := by omega
              obtain ⟨z, hzd⟩ : ∃ z, z = str (bs.getD q []) := ⟨_, rfl⟩
              rw [← hzd] at hck hck'
              clear hc1 hc2 hzd
              go_wp2_with fail
              go_quiet (fail)
              have hb13 := drewN (n := nq) hbel2
              go_wp2_with fail
              go_roundw
              case rel => exact ⟨q + 1, by go_num, by omega, hb13⟩
              case measure => simp [intOf]; omega
            · have hb5 := chain hb4 hbel2
              by_cases hfc : f = 0
              · have her : er = 10 := by rw [HER.out, if_pos hfc]
                have hfb : ((f : Int) == 0) = true := et (by omega)
                have hrb : (er == 10) = true := et her
                clear her hfc
                go_wp2_with fail
                go_ret
                exact ⟨rfl, hb5⟩
              · have her : er = 3 := by rw [HER.out, if_neg hfc]
                have hfb : ((f : Int) == 0) = false := ef (by omega)
                have hrb : (er == 3) = true := et her
                clear her hfc
                go_wp2_with fail
                go_ret
                exact ⟨rfl, hb5⟩

theorem own : ownKnob Try.prog.godebug = none := by kernel_rfl
theorem laidOut : laidOutB Try.prog = true := by kernel_rfl

set_option maxRecDepth 100000 in
theorem lifted (os : Os) (started : os.Started) (H : Type) (enc : TypeId × Value → H) :
    ReturnsInHanded {} Try.checked os 13 .any (Rows.frameCutsSpec.pre6 enc Try.prog Try.f13 Rows.frameCutsRow.domain false) (Rows.frameCutsSpec.post enc Try.prog Try.f13 false true false false) := by
  refine returnsInHanded_of_change_sized (C := Try.checked) own started (by kernel_rfl) Try.func13
    (ChangeSpec.witness6 (enc := enc) (C := Try.checked) false ⟨#[], #[.slice none 0 0, .int .i64 0], []⟩ 8 (by kernel_rfl) (by kernel_rfl) (by kernel_rfl) (by kernel_rfl)) ?_
  intro W base args ds gs before hval0 hW hcnd hsz0 _
  have hval : ∀ (j : Nat) t v, Try.f13.params[j]? = some t → args[j]? = some v → Value.okWide Try.prog W .any base t v := hval0
  have hsz : (DataW.weightsEach Try.prog (Try.f13.params.toList ++ Rows.frameCutsSpec.plain.varTypes Try.prog) (ds ++ gs)).all (· ≤ reachBytes) = true := hsz0
  have hW' := hW
  obtain ⟨p, q, hA0, hV, rfl, hfz, hnd⟩ := hW
  have hA : DataW.TrodAll enc Try.prog W 0 (fun _ => true) true Try.f13.params.toList args.toList ds p := hA0
  rw [Try.params13] at hA hval hsz
  obtain ⟨v0, vs0, d0, ds0, p0, q0, hargs, rfl, rfl, h0, r0⟩ := trodAll_cons hA
  obtain ⟨v1, vs1, d1, ds1, p1, q1, rfl, rfl, rfl, h1, r1⟩ := trodAll_cons r0
  obtain ⟨rfl, rfl, rfl⟩ := trodAll_nil r1
  obtain rfl : args = #[v0, v1] := by cases args; simp_all
  obtain ⟨rfl, rfl⟩ := trodVars_none hV
  have k0 := h0
  have lt0 : ∀ x ∈ p0, x.block < W.heap.size := by obtain ⟨m, hm⟩ := k0; exact DataW.trod_lt m _ _ _ hm
  have k1 := h1
  have lt1 : ∀ x ∈ p1, x.block < W.heap.size := by obtain ⟨m, hm⟩ := k1; exact DataW.trod_lt m _ _ _ hm
  obtain ⟨a0, n0, cap0, z0, rfl, w0, row0, lc0, bk0, cm0, sm0⟩ := Op.strs1 Try.underlying35 Try.underlying9 (by kernel_rfl) (hval 0 35 v0 rfl rfl) h0
  have f0 : z0.length = n0 ∧ n0 ≤ cap0 ∧ cap0 ≤ 9223372036854775807 ∧ (∀ s ∈ z0, s.size ≤ 9223372036854775807) ∧ B.Row W a0 n0 (fun i => .string (z0.getD i ByteArray.empty)) := ⟨w0, lc0, by simpa [maxLen] using cm0, fun s hs => by simpa [maxLen] using sm0 s hs, row0⟩
  obtain ⟨a1, rfl, rfl, rfl, w1⟩ := open_int Try.underlying3 (hval 1 3 v1 rfl rfl) h1
  have b1 : -9223372036854775808 ≤ a1 ∧ a1 ≤ 9223372036854775807 := by simpa [Lit.wf, IntKind.min, IntKind.max, IntKind.signed, IntKind.bits] using w1
  clear hA0 hval0
  refine (walk a0 n0 cap0 z0 a1 W f0 b1).mono fun e W' ⟨he, bel⟩ => ?_
  subst he
  exact ⟨_, rfl, _, _, _, [], _, [], hW', trodAll_mk1 (shut_bool Try.underlying4 _), (trodAll_cons_mk (Below.trod laidOut (by kernel_rfl) (of_decide_eq_true (by kernel_rfl)) k0 bel lt0) (trodAll_cons_mk (Below.trod laidOut (by kernel_rfl) (of_decide_eq_true (by kernel_rfl)) k1 bel lt1) trodAll_mk0)), rfl, bel.frame _, fun h => by cases h⟩

theorem over : Rows.frameCutsRow.holds Try.pinned (OpenSpec.ofChange Rows.frameCutsSpec) :=
  OpenClaim.holds_of_wide 13 Try.f13 rfl rfl rfl rfl rfl rfl rfl ⟨rfl, rfl, rfl, rfl, rfl⟩ rfl rfl rfl rfl rfl (by kernel_rfl) Try.func13 (by kernel_rfl)
    (of_decide_eq_true (by kernel_rfl)) (by unfold Func.isWrapper; first | (rw [if_pos (by decide +kernel)]; kernel_rfl) | (rw [if_neg (by decide +kernel)]; exact ⟨rfl, rfl⟩))
    (fun os started H enc _ => lifted os started H enc)

/-- THE STATEMENT -/
theorem proved : Rows.FrameCutsSaid := over
end Go.Proofs.Ytfeaacjacbljfaa.frameCuts
