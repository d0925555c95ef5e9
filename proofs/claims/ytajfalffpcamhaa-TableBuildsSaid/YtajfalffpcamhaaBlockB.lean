/- The walks of block's shared and Build. -/
import Derived.Test.YtajfalffpcamhaaBlockO
import Derived.Test.YtajfalffpcamhaaVarint
import Derived.Test.YtajfalffpcamhaaGa
namespace Go.Proofs.Ytajfalffpcamhaa.Ew
open Go.RowKit
open En B Vp Vw Bd
set_option linter.unusedVariables false

theorem getD_bn (s : ByteArray) (k : Nat) : (s.data.toList.getD k 0).toNat = bn s k := rfl
theorem u8_eq (x y : UInt8) : x = y ↔ x.toNat = y.toNat := ⟨fun h => by rw [h], UInt8.toNat_inj.1⟩

set_option maxHeartbeats 800000 in
set_option maxRecDepth 100000 in
theorem shared_any (a b : ByteArray) (ha : a.size ≤ 4611686018427387904) (hb : b.size ≤ 4611686018427387904) (w : World) :
    Calls Try.prog 65 #[.string a, .string b] w fun e w' => e = .returned (.int .i64 (pref a.data.toList b.data.toList : Nat)) ∧ ∃ q, w' = w.drewN q := by
  obtain ⟨r, hr⟩ : ∃ r, r = pref a.data.toList b.data.toList := ⟨_, rfl⟩
  rw [← hr]
  have HR := Lib.hid hr
  have HGA := Lib.hid (get_bn a)
  have HGB := Lib.hid (get_bn b)
  have la : a.data.toList.length = a.size := by simp
  have lb : b.data.toList.length = b.size := by simp
  have HLA := Lib.hid la
  have HLB := Lib.hid lb
  clear hr la lb
  go_enter Try.func65, Try.ntmps65
  go_wp2_with fail
  go_loopw [5] (fun i wr => ∃ j mq : Nat, i = .int .i64 j ∧ j ≤ a.size ∧ j ≤ b.size ∧ wr = w.drewN mq ∧ Hid (r = j + pref (a.data.toList.drop j) (b.data.toList.drop j))) (fun i _ => a.size - (intOf i).toNat)
  case atStart => exact ⟨0, 0, rfl, by omega, by omega, rfl, by show r = 0 + _; rw [HR.out, Nat.zero_add]; rfl⟩
  case round =>
    obtain ⟨j, mq, rfl, hja, hjb, rfl, hp⟩ := hrel
    have i0 : (0 : Int) ≤ (j : Int) := by omega
    by_cases h1 : j < a.size
    case neg =>
      have e1 : decide (j < a.size) = false := df h1
      have hre : r = j := by rw [hp.out, pref_end _ _ _ (.inl (by rw [HLA.out]; omega))]; rfl
      have HRE := Lib.hid hre
      clear hre hp
      go_wp2_with fail
      go_quiet (fail)
      go_wp2_with fail
      go_ret
      exact ⟨by rw [HRE.out]; rfl, _, (World.drewN_drewN ..)⟩
    case pos =>
    have e1 : decide (j < a.size) = true := dt h1
    by_cases h2 : j < b.size
    case neg =>
      have e2 : decide (j < b.size) = false := df h2
      have hre : r = j := by rw [hp.out, pref_end _ _ _ (.inr (by rw [HLB.out]; omega))]; rfl
      have HRE := Lib.hid hre
      clear hre hp
      go_wp2_with fail
      go_quiet (fail)
      go_wp2_with fail
      go_ret
      exact ⟨by rw [HRE.out]; rfl, _, (World.drewN_drewN ..)⟩
    case pos =>
    have e2 : decide (j < b.size) = true := dt h2
    have hps := pref_step a.data.toList b.data.toList j (by rw [HLA.out]; exact h1) (by rw [HLB.out]; exact h2)
    have g1 := HGA.out j h1
    have g2 := HGB.out j h2
    have hbe : a.data.toList.getD j 0 = b.data.toList.getD j 0 ↔ bn a j = bn b j := by rw [u8_eq, getD_bn, getD_bn]
    have l1 := bn_lt a j
    have l2 := bn_lt b j
    generalize bn a j = x at g1 hbe l1
    generalize bn b j = y at g2 hbe l2
    by_cases h3 : x = y
    · have e3 : ((x : Int) == (y : Int)) = true := et (by omega)
      have hre : r = (j + 1) + pref (a.data.toList.drop (j + 1)) (b.data.toList.drop (j + 1)) := by rw [hp.out, hps, if_pos (hbe.2 h3)]; omega
      have HRE := Lib.hid hre
      have H3 := Lib.hid h3
      clear hre hp hps hbe h3
      go_wp2_with fail
      go_quiet (fail)
      go_wp2_with fail
      go_roundw
      case rel => exact ⟨j + 1, mq + _, by go_num, by omega, by omega, rfl, HRE.out⟩
      case measure => simp [intOf]; omega
    · have e3 : ((x : Int) == (y : Int)) = false := ef (by omega)
      have hre : r = j := by rw [hp.out, hps, if_neg (fun hh => h3 (hbe.1 hh))]; rfl
      have HRE := Lib.hid hre
      clear hre hp hps hbe h3
      go_wp2_with fail
      go_quiet (fail)
      go_wp2_with fail
      go_ret
      exact ⟨by rw [HRE.out]; rfl, _, (World.drewN_drewN ..)⟩
end Go.Proofs.Ytajfalffpcamhaa.Ew
