/- The walks of the reference's eight and frame. -/
import Derived.Test.YtajfalffpcamhaaTabC
import Derived.Test.YtajfalffpcamhaaFrameR
namespace Go.Proofs.Ytajfalffpcamhaa.Tw
open Go.RowKit
open Tb Fp Fw Vp Vw B En
set_option linter.unusedVariables false

theorem conv1 (x : Nat) (hx : x < 256) (W : World) (cap : Nat) : (convert 64 9 (.slice (some ⟨W.heap.size, 0, none⟩) 1 cap)).run Try.prog (W.alloc (.cells #[.int .u8 (x : Int)] 5)) = .ok (.string (str [UInt8.ofNat x])) (W.alloc (.cells #[.int .u8 (x : Int)] 5)) := by
  have h : (#[.int .u8 (x : Int)] : Array Value) = (([UInt8.ofNat x]).map bv ++ []).toArray := by
    simp only [List.map_cons, List.map_nil, List.append_nil]
    rw [bv_ofNat hx]
  rw [h]
  exact conv_row (P := Try.prog) (dst := 9) Try.underlying64 Try.underlying5 Try.underlying9 (bs := [UInt8.ofNat x]) (rest := []) (heap_alloc_new W _) rfl
/-- the last i of a number's eight bytes -/
def tail8 (n : Nat) : Nat → List UInt8
  | 0 => []
  | i + 1 => UInt8.ofNat (n / 256 ^ i % 256) :: tail8 n i
theorem tail8_len (n : Nat) : ∀ i, (tail8 n i).length = i
  | 0 => rfl
  | i + 1 => by simp [tail8, tail8_len n i]
theorem tail8_all (n : Nat) : tail8 n 8 = eight n := rfl

set_option maxHeartbeats 800000 in
set_option maxRecDepth 100000 in
theorem reight_any (n : Nat) (hn : n < 9223372036854775808) (w : World) :
    Calls Try.prog 41 #[.int .i64 n] w fun e w' => e = .returned (.string (str (eight n))) ∧ Below w.heap.size w w' := by
  rw [← tail8_all]
  go_enter Try.func41, Try.ntmps41
  go_wp2_with fail
  go_loopw [0, 3, 4] (fun sn ss si wr => ∃ i m : Nat, si = .int .i64 i ∧ i ≤ 8 ∧ sn = .int .i64 m ∧ m < 9223372036854775808 ∧ Hid (m = n / 256 ^ i) ∧ ss = .string (str (tail8 n i)) ∧ Below w.heap.size w wr) (fun sn ss si _ => 8 - (intOf si).toNat)
  case atStart => exact ⟨0, n, rfl, by omega, rfl, hn, by show n = n / 256 ^ 0; simp, rfl, Below.refl _ _⟩
  case round =>
    obtain ⟨i, m, rfl, hi, rfl, hm, hmm, rfl, hb⟩ := hrel
    by_cases hlt : i < 8
    · obtain ⟨x, hx⟩ : ∃ x, m % 256 = x := ⟨_, rfl⟩
      obtain ⟨m2, hm2⟩ : ∃ m2, m / 256 = m2 := ⟨_, rfl⟩
      have hxl : x < 256 := by omega
      have hst : tail8 n (i + 1) = UInt8.ofNat x :: tail8 n i := by rw [tail8, ← hmm.out, hx]
      have hml : m2 < 9223372036854775808 := by omega
      have hmm2 : m2 = n / 256 ^ (i + 1) := by rw [← hm2, hmm.out, Nat.pow_succ, Nat.div_div_eq_div_mul]
      have t1 : (m : Int) % 256 = (x : Int) := by omega
      have t2 : (m : Int).tmod 256 = (x : Int) := by rw [Int.tmod_eq_emod_of_nonneg (by omega)]; omega
      have t3 : (m : Int) / 256 = (m2 : Int) := by omega
      have t4 : (m : Int).tdiv 256 = (m2 : Int) := by rw [Int.tdiv_eq_ediv_of_nonneg (by omega)]; omega
      have t5 : IntKind.u8.wrap (x : Int) = (x : Int) := by rw [IntKind.wrap_u8]; omega
      have hcv := fun W cap => conv1 x hxl W cap
      have hl := tail8_len n i
      have hts : (str (tail8 n i)).size ≤ 8 := by rw [str_size, hl]; omega
      have hone : (str [UInt8.ofNat x]).size = 1 := by rw [str_size]; rfl
      have hss : str [UInt8.ofNat x] ++ str (tail8 n i) = str (tail8 n (i + 1)) := by rw [str_append, hst]; rfl
      generalize str (tail8 n i) = s at hts hss ⊢
      generalize str [UInt8.ofNat x] = c at hcv hone hss
      have hsz : ¬ (9223372036854775807 < c.size + s.size) := by omega
      have HSS := Lib.hid hss
      have HM2 := Lib.hid hmm2
      have HB := Lib.hid (below_alloc hb (.cells #[.int .u8 (x : Int)] 5))
      clear hss hst hmm hmm2 hx hm2 hl hb
      go_wp2_with fail
      go_roundw
      case rel => exact ⟨i + 1, m2, by go_num, by omega, rfl, hml, HM2.out, by rw [HSS.out], HB.out⟩
      case measure => simp [intOf]; omega
    · obtain rfl : i = 8 := by omega
      go_wp2_with fail
      go_ret
      exact ⟨rfl, hb⟩

set_option maxHeartbeats 400000 in
theorem rframe_any (s : ByteArray) (w : World) :
    Calls Try.prog 39 #[.string s] w fun e w' => e = .returned (.string (str (fr s.data.toList))) ∧ Below w.heap.size w w' := by
  have HF : Hid (Calls Try.prog 70 #[.string s] w fun e w' => (∃ x : Int, e = .returned (.tuple #[.string (str (fr s.data.toList)), .int .i64 x])) ∧ Below w.heap.size w w') := by
    show Calls _ _ _ _ _
    by_cases hs : s.size ≤ 65535
    · rw [fr_is (by simpa using hs)]
      exact (Fw.rput_ok s hs w).mono fun e w' ⟨h1, h2⟩ => ⟨⟨_, h1⟩, h2⟩
    · have hz : fr s.data.toList = [] := by unfold fr; rw [if_neg (by simpa using hs)]
      rw [hz]
      refine (Fw.rput_long s (by omega) w).mono ?_
      rintro e w' ⟨rfl, rfl⟩
      exact ⟨⟨5, rfl⟩, Below.refl _ _⟩
  generalize str (fr s.data.toList) = t at HF ⊢
  go_enter Try.func39, Try.ntmps39
  go_wp2_with fail
  refine HF.out.mono ?_
  rintro e w1 ⟨⟨x, rfl⟩, hb1⟩
  go_wp2_with fail
  go_ret
  exact ⟨rfl, hb1⟩
end Go.Proofs.Ytajfalffpcamhaa.Tw
