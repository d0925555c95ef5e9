/- Law 11's wakes. -/
import Derived.Test.YtajfalffpcamhaaTabZ
namespace Go.Proofs.Ytajfalffpcamhaa.Tw
open Go.RowKit
open Tb Fp Vp B En
set_option linter.unusedVariables false

set_option maxHeartbeats 800000 in
set_option maxRecDepth 100000 in
theorem wakes11_any (w : World) : Calls Try.prog 12 #[] w fun e w' => e = .returned (.bool true) ∧ Below w.heap.size w w' := by
  obtain ⟨T, f, sp, hT, hTl, hop, hsl, hwh, hall, hmay, hfl⟩ := wk11_tab
  rw [← str_size T] at hop hTl
  have hgd := open_good (s := str T) (z := ((str T).size : Nat)) (by rw [hop])
  rw [hop] at hgd
  simp only at hgd
  have HBU := Lib.hid (fun c h1 h2 W hr => tbuild_any (some ⟨w.heap.size, 0, none⟩) 1 c wk11 rfl h1 h2 wk11_fits 9 10 W hr)
  rw [hT] at HBU
  simp only [retB] at HBU
  have HOP := Lib.hid (fun g W hc => open_any g (str T) (by omega) ((str T).size : Nat) (by omega) W hc)
  rw [hop] at HOP
  generalize str T = s at HBU HOP hall hTl
  have HALL := Lib.hid (fun tb g W h => all_any tb g s (str f) (by omega) sp hgd.1 hgd.2 ⟨#[]⟩ W h)
  rw [hall] at HALL
  have HSP := Lib.hid (fun tb g W h => tspans_any tb g s (str f) sp hgd.2 W h)
  rw [hsl] at HSP
  have hfs : (str f).size ≤ 4611686018427387904 := by rw [str_size]; omega
  have HMAY := Lib.hid (fun tb g W h => may_any tb g s (str f) hfs sp ⟨#[97]⟩ (by decide) W h)
  rw [toList_str, show (⟨#[97]⟩ : ByteArray).data.toList = [97] from rfl, hmay] at HMAY
  have HWH := Lib.hid (fun tb g W h => which_any tb g s (str f) sp hgd.1 hgd.2 ⟨#[98]⟩ W h)
  rw [hwh] at HWH
  clear hT hop hall hmay hwh hgd hsl
  go_enter Try.func12, Try.ntmps12
  go_wp2_with fail
  refine (HBU.out _ (by decide) (by decide) _ ?_).mono ?_
  · refine .inr ⟨w.heap.size, 0, rfl, by simp, fun i hi => ?_⟩
    have hc := fun j => cell_of_row (w.alloc (.cells #[.string ⟨#[97]⟩, .int .i64 1, .bool false, .string ⟨#[120]⟩, .int .i64 0] 57)) w.heap.size j _ _ _ (heap_alloc_new _ _)
    obtain rfl : i = 0 := by omega
    exact ⟨hc 0, hc 1, hc 2, hc 3, hc 4⟩
  rintro e w1 ⟨rfl, hb1⟩
  have HB1 := Lib.hid (chain ((Below.refl w.heap.size w).alloc (Nat.le_refl _) _) hb1)
  clear hb1 HBU
  go_wp2_with fail
  refine (source_any s _).mono ?_
  rintro e w2 ⟨rfl, rfl⟩
  have HC2 : Hid (Cell1 (w1.alloc (.cells #[.string s] 9)) w1.heap.size 9 (.string s)) := heap_alloc_new _ _
  have HB2 := Lib.hid (below_alloc HB1.out (.cells #[.string s] 9))
  generalize hW : World.alloc _ _ = W2 at HC2 HB2 ⊢
  clear hW HB1
  generalize w1.heap.size = g at HC2 ⊢
  go_wp2_with fail
  refine (HOP.out g _ HC2.out).mono ?_
  rintro e w3 ⟨hb3, hor⟩
  have hor2 : ∃ tb, e = .returned (.tuple #[.pointer (some ⟨tb, 0, none⟩), .int .i64 0]) ∧ TBox w3 tb g s sp (str f) := by
    rcases hor with ⟨_, h⟩ | ⟨h, _⟩
    · exact h
    · exact absurd rfl h
  obtain ⟨tb, rfl, hT3⟩ := hor2
  have HT3 := Lib.hid hT3
  have HB3 := Lib.hid (chain HB2.out hb3)
  clear hor hT3 hb3 HB2 HC2 HOP
  go_wp2_with fail
  refine (HALL.out tb g _ HT3.out).mono ?_
  rintro e w4 ⟨al, cl, rfl, hO4, hb4⟩
  have HT4 := Lib.hid (HT3.out.below hb4)
  have HB4 := Lib.hid (chain HB3.out hb4)
  have hr4 := (own_erow hO4).2.2
  have hl1 : wk11.length = 1 := rfl
  simp only [hl1] at hr4 ⊢
  obtain ⟨lb, lo, rfl, hlb, hlc⟩ := hr4.at (by decide)
  have hv := (hlc 0 (by decide)).2.2.2.1
  simp only [Nat.zero_mul, Nat.add_zero] at hv
  have hv2 : w4.cell? ⟨lb, lo + 3, none⟩ = some (.string ⟨#[120]⟩) := hv
  clear hO4 hb4 hr4 hlc hv HT3 HB3 HALL
  go_wp2_with fail
  refine (HSP.out tb g _ HT4.out).mono ?_
  rintro e w5 ⟨a5, c5, rfl, _, hb5⟩
  have HT5 := Lib.hid (HT4.out.below hb5)
  have HB5 := Lib.hid (chain HB4.out hb5)
  clear hb5 HT4 HB4 HSP hv2
  go_wp2_with fail
  refine (HMAY.out tb g _ HT5.out).mono ?_
  rintro e w6 ⟨rfl, hb6⟩
  have HT6 := Lib.hid (HT5.out.below hb6)
  have HB6 := Lib.hid (chain HB5.out hb6)
  clear hb6 HT5 HB5 HMAY
  go_wp2_with fail
  refine (HWH.out tb g _ HT6.out).mono ?_
  rintro e w7 ⟨rfl, hb7⟩
  have HB7 := Lib.hid (chain HB6.out hb7)
  clear hb7
  go_wp2_with fail
  go_ret
  exact ⟨rfl, HB7.out⟩
end Go.Proofs.Ytajfalffpcamhaa.Tw
