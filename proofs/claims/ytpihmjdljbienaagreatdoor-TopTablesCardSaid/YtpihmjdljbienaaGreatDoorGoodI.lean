/- The walks of a batch's good item. -/
import Derived.Test.YtpihmjdljbienaaGreatDoorGood
namespace Go.Proofs.YtpihmjdljbienaaGreatDoor.Ew
open Go.RowKit
open En B
set_option linter.unusedVariables false

set_option maxHeartbeats 800000 in
theorem igood_any (k : ByteArray) (q : Int) (g : Bool) (v : ByteArray) (u : Int) (w : World) :
    Calls Tryz.prog 37 #[.agg #[.string k, .int .i64 q, .bool g, .string v, .int .i64 u]] w fun e w' => e = .returned (.int .i64 (goodI ⟨k, q, g, v, u⟩)) ∧ Below w.heap.size w w' := by
  obtain ⟨r, hr⟩ : ∃ r, r = goodI ⟨k, q, g, v, u⟩ := ⟨_, rfl⟩
  rw [← hr]
  unfold goodI at hr
  simp only at hr
  have HG := Lib.hid (fun W : World => good_any k 1 g v u W)
  generalize goodE ⟨k, 1, g, v, u⟩ = b at hr HG
  have HR := Lib.hid hr
  clear hr
  by_cases c1 : b = 0
  · subst c1
    by_cases c2 : u = 9223372036854775807
    · obtain rfl : r = 2 := by rw [HR.out, if_neg (by simp), if_pos c2]
      subst c2
      go_enter Tryz.func37, Tryz.ntmps37
      go_wp2_with fail
      refine (HG.out _).mono ?_
      rintro e w1 ⟨rfl, hb⟩
      have hc := hb.cell (p := ⟨w.heap.size, 4, none⟩) (by simp)
      rw [World.cell?_alloc_at _ _ _ _ rfl] at hc
      have hbz := chain ((Below.refl _ _).alloc (Nat.le_refl _) _) hb
      go_wp2_with fail
      go_ret
      exact ⟨rfl, hbz⟩
    · obtain rfl : r = 0 := by rw [HR.out, if_neg (by simp), if_neg c2]
      have e2 : (u == 9223372036854775807) = false := ef c2
      go_enter Tryz.func37, Tryz.ntmps37
      go_wp2_with fail
      refine (HG.out _).mono ?_
      rintro e w1 ⟨rfl, hb⟩
      have hc := hb.cell (p := ⟨w.heap.size, 4, none⟩) (by simp)
      rw [World.cell?_alloc_at _ _ _ _ rfl] at hc
      have hbz := chain ((Below.refl _ _).alloc (Nat.le_refl _) _) hb
      go_wp2_with fail
      go_ret
      exact ⟨rfl, hbz⟩
  · obtain rfl : r = b := by rw [HR.out, if_pos c1]
    have e1 : (r != 0) = true := nt c1
    go_enter Tryz.func37, Tryz.ntmps37
    go_wp2_with fail
    refine (HG.out _).mono ?_
    rintro e w1 ⟨rfl, hb⟩
    have hbz := chain ((Below.refl _ _).alloc (Nat.le_refl _) _) hb
    go_wp2_with fail
    go_ret
    exact ⟨rfl, hbz⟩

end Go.Proofs.YtpihmjdljbienaaGreatDoor.Ew
