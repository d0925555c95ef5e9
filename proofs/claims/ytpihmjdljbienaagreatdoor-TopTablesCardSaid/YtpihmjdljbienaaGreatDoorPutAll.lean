/- The walk of varint's PutAll. -/
import Derived.Test.YtpihmjdljbienaaGreatDoorVarint
import Derived.Test.YtpihmjdljbienaaGreatDoorGa
namespace Go.Proofs.YtpihmjdljbienaaGreatDoor.Vw
open Go.RowKit
open Vp B
set_option linter.unusedVariables false

/-- the numbers' bytes, one behind the other -/
def encs (l : List Int) : List UInt8 := l.flatMap fun n => vb (zz n)
theorem encs_append (l m : List Int) : encs (l ++ m) = encs l ++ encs m := by simp [encs]
theorem encs_len : ∀ (l : List Int), (∀ n ∈ l, -9223372036854775808 ≤ n ∧ n ≤ 9223372036854775807) → (encs l).length ≤ 10 * l.length
  | [], _ => by simp [encs]
  | n :: t, h => by
    have h1 := vb_len10 (zz_lt (h n (by simp)).1 (h n (by simp)).2)
    have h2 := encs_len t fun m hm => h m (by simp [hm])
    simp only [encs, List.flatMap_cons, List.length_append, List.length_cons] at h2 ⊢
    omega

theorem encs_take (zs : List Int) (k : Nat) (h : k < zs.length) : encs (zs.take (k + 1)) = encs (zs.take k) ++ vb (zz (zs.getD k 0)) := by
  rw [List.take_succ_eq_append_getElem h, encs_append]
  simp [encs, List.getD_eq_getElem?_getD, List.getElem?_eq_getElem h]

set_option maxHeartbeats 800000 in
set_option maxRecDepth 100000 in
theorem putAll_any (a : Option Addr) (n cap : Nat) (zs : List Int) (hz : zs.length = n) (hn : n ≤ 1048576) (hwf : ∀ x ∈ zs, -9223372036854775808 ≤ x ∧ x ≤ 9223372036854775807) (w : World)
    (h : Row w a n (fun i => .int .i64 (zs.getD i 0))) :
    Calls Tryz.prog 67 #[.slice a n cap] w fun e w' => e = .returned (.string (str (encs zs))) ∧ Below w.heap.size w w' := by
  have hfr := Bd.fresh w
  have HFR := Lib.hid hfr
  have HR := Lib.hid h
  have HZ := Lib.hid hz
  clear hfr h hz
  go_enter Tryz.func67, Tryz.ntmps67
  go_wp2_with fail
  go_loopw [8] (fun x wr => ∃ k : Nat, x = .int .i64 k ∧ k ≤ n ∧ Hid (Bd.Holds w.heap.size w.heap.size (encs (zs.take k)) wr) ∧ Below w.heap.size w wr) (fun x _ => n - (intOf x).toNat)
  case atStart => exact ⟨0, rfl, by omega, HFR.out, (Below.refl _ _).alloc (Nat.le_refl _) _⟩
  case round =>
    obtain ⟨k, rfl, hk, hH, hbel⟩ := hrel
    by_cases hlt : k < n
    · obtain ⟨b, off, rfl, hbw, hc⟩ := HR.out.at (by omega)
      have hck : wr.cell? ⟨b, off + k, none⟩ = some (.int .i64 (zs.getD k 0)) := (hbel.cell (p := ⟨b, off + k, none⟩) hbw).trans (hc k hlt)
      have hzk : -9223372036854775808 ≤ zs.getD k 0 ∧ zs.getD k 0 ≤ 9223372036854775807 := hwf _ (by
        have hl : k < zs.length := by have := HZ.out; omega
        rw [List.getD_eq_getElem?_getD, List.getElem?_eq_getElem hl]; simp)
      have het := encs_take zs k (by have := HZ.out; omega)
      have hel := encs_len (zs.take k) (fun x hx => hwf x (List.mem_of_mem_take hx))
      have hlt2 : (zs.take k).length ≤ k := List.length_take_le _ _
      have hvl := vb_len10 (zz_lt hzk.1 hzk.2)
      obtain ⟨z, hzd⟩ : ∃ z, z = zs.getD k 0 := ⟨_, rfl⟩
      rw [← hzd] at hck hzk het hvl
      have HET := Lib.hid het
      obtain ⟨hz1, hz2⟩ := hzk
      clear hc het hzd
      go_wp2_with fail
      refine (put_any z hz1 hz2 _).mono ?_
      rintro e w1 ⟨rfl, hb1⟩
      go_wp2_with fail
      refine (Bd.writeString_any _ _ _ _ _ (hH.out.below hb1) ?_ ?_).mono ?_
      · rw [enc, str_size]; omega
      · have := hbel.size; have := hb1.size; omega
      rintro e w2 ⟨rfl, hH2, hb2⟩
      have hb3 := (hbel.trans (hb1.mono hbel.size)).trans hb2
      have HH2 := Lib.hid hH2
      clear hH2
      go_wp2_with fail
      go_roundw
      case rel => exact ⟨k + 1, by go_num, by omega, by show Bd.Holds _ _ _ _; rw [HET.out]; exact HH2.out, hb3⟩
      case measure => simp [intOf]; omega
    · have hkn : zs.take k = zs := List.take_of_length_le (by have := HZ.out; omega)
      have HKN := Lib.hid hkn
      clear hkn
      go_wp2_with fail
      refine (Bd.string_any _ _ _ _ hH.out hbel.size).mono ?_
      rw [HKN.out]
      rintro e w2 ⟨rfl, hb2⟩
      have hb3 := hbel.trans hb2
      go_wp2_with fail
      go_ret
      exact ⟨rfl, hb3⟩

end Go.Proofs.YtpihmjdljbienaaGreatDoor.Vw
