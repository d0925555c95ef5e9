/- The walk of layer 9's wakes. -/
import Derived.Test.YtfeaacjacbljfaaBloomS
namespace Go.Proofs.Ytfeaacjacbljfaa.Mw
open Go.RowKit
open Mp Fp B Fw
set_option linter.unusedVariables false

theorem wk_has : hasK (filt 10 [[97]]) [97] = true := hasK_in 10 [[97]] [97] (by decide) (by decide) (by simp)
theorem wk_len : (filt 10 [[97]]).length = 9 := by unfold filt; rw [List.length_cons, marks_len]; decide
theorem wk_first : ((filt 10 [[97]]).getD 0 0).toNat = 6 := by unfold filt; rw [List.getD_cons_zero]; decide
theorem mk_10 : mk (10 : Int) [[97]] = (filt 10 [[97]], 0) := by unfold mk; rw [if_neg (by decide), if_neg (by decide)]; rfl

set_option maxHeartbeats 800000 in
set_option maxRecDepth 100000 in
theorem wakes_any (w : World) : Calls Try.prog 25 #[] w fun e w' => e = .returned (.bool true) ∧ Below w.heap.size w w' := by
  have HN := Lib.hid (new_any 10 (some ⟨w.heap.size, 0, none⟩) 1 1 [⟨#[97]⟩] rfl (by decide) (by decide) (by intro s hs; rw [List.mem_singleton.1 hs]; show 1 ≤ _; omega) (w.alloc (.cells #[.string ⟨#[97]⟩] 9))
    (.inr ⟨w.heap.size, 0, rfl, by simp, fun i hi => by
      obtain rfl : i = 0 := by omega
      rw [World.cell?_alloc_at _ _ _ _ rfl]; rfl⟩))
  have e1 : ([(⟨#[97]⟩ : ByteArray)].map fun s => s.data.toList) = [[97]] := rfl
  rw [e1, mk_10] at HN
  have h1 := wk_has
  have h2 := wk_len
  have h3 := wk_first
  generalize filt 10 [[97]] = F at HN h1 h2 h3
  have hsz : (str F).size = 9 := by rw [str_size, h2]
  have hb0 : ∀ h : 0 < (str F).size, ((str F)[0]'h).toNat = 6 := by intro h; rw [get_bn]; unfold bn; rw [toList_str]; exact h3
  have h1' : hasK (str F).data.toList (⟨#[97]⟩ : ByteArray).data.toList = true := by rw [toList_str]; exact h1
  have hF : (str F).size ≤ 9 := by omega
  have HG : GotM (w.alloc (.cells #[.string ⟨#[97]⟩] 9)) (F, 0) = fun e w' => e = .returned (.tuple #[.string (str F), .int .i64 0]) ∧ Below (w.alloc (.cells #[.string ⟨#[97]⟩] 9)).heap.size (w.alloc (.cells #[.string ⟨#[97]⟩] 9)) w' := rfl
  rw [HG] at HN
  clear HG
  generalize str F = s at HN hsz hb0 h1' hF
  have hb := hb0 (by omega)
  have HB := Lib.hid h1'
  clear e1 h1 h2 h3 hb0 h1'
  go_enter Try.func25, Try.ntmps25
  go_wp2_with fail
  refine HN.out.mono ?_
  rintro e w1 ⟨rfl, hb1⟩
  have hbw : Below w.heap.size w w1 := chain ((Below.refl _ _).alloc (Nat.le_refl _) _) hb1
  go_wp2_with fail
  refine (has_any s ⟨#[97]⟩ (by omega) (by decide) _).mono ?_
  rw [HB.out]
  rintro e w2 ⟨rfl, hb2⟩
  go_wp2_with fail
  refine (places_ok ⟨#[97]⟩ 3 64 (by decide) (by decide) (by decide) (by decide) (by decide) _).mono ?_
  rintro e w3 ⟨pa, pc, rfl, hrp, hfp, hb3⟩
  rw [plsN_len]
  have hbz := chain (chain hbw hb2) hb3
  clear hrp hfp
  go_wp2_with fail
  go_ret
  exact ⟨rfl, hbz⟩

end Go.Proofs.Ytfeaacjacbljfaa.Mw
