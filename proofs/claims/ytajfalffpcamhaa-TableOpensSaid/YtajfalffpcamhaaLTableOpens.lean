/- TableOpens: every bytes, of whatever size they are said to be, are the document's table, or its error. No condition on the input. -/
import Derived.Test.YtajfalffpcamhaaTabD
import Derived.Test.YtajfalffpcamhaaBloomS
import Derived.ProofKit
import Derived.OpenShut
import Derived.ShutString
import Derived.ChangeOld
import Derived.Below
import Derived.SizedLaws
namespace Go.Proofs.Ytajfalffpcamhaa.tableOpens
open Go.ChangeShapes Go.WideShapes Go.ChangeAt Go.RowKit
open Go.ChangeMaps (open_string shut_string)
set_option linter.unusedVariables false
open Tw Tb En Ew B Vp Fp

set_option maxHeartbeats 3200000 in
set_option maxRecDepth 100000 in
theorem walk (s : ByteArray) (size : Int) (key : ByteArray) (hs : s.size ≤ 140737488351232) (hz : -9223372036854775808 ≤ size ∧ size ≤ 9223372036854775807) (hk : key.size ≤ 140737488351232) (w : World) :
    Calls Try.prog 4 #[.string s, .int .i64 size, .string key] w fun e w' => e = .returned (.bool true) ∧ Below w.heap.size w w' := by
  have HW := Lib.hid wakes11_any
  have hb0 := below_alloc (Below.refl w.heap.size w) (.cells #[.int .i64 (s.size : Nat), .int .i64 size] 3)
  have hk0 : (w.alloc (.cells #[.int .i64 (s.size : Nat), .int .i64 size] 3)).heap[w.heap.size]? = some (.cells #[.int .i64 (s.size : Nat), .int .i64 size] 3 (0, 0)) := heap_alloc_new _ _
  have HB0 := Lib.hid hb0
  have HK0 := Lib.hid hk0
  clear hb0 hk0
  go_enter Try.func4, Try.ntmps4
  go_wp2_with fail
  go_loopw [19] (fun si wr => ∃ j : Nat, si = .int .i64 j ∧ j ≤ 2 ∧ Below w.heap.size w wr ∧ Hid (wr.heap[w.heap.size]? = some (.cells #[.int .i64 (s.size : Nat), .int .i64 size] 3 (0, 0)))) (fun si _ => 2 - (intOf si).toNat)
  case atStart => exact ⟨0, rfl, by omega, HB0.out, HK0.out⟩
  case round =>
    obtain ⟨j, rfl, hj, hbel, hke⟩ := hrel
    have HBE := Lib.hid hbel
    clear hbel
    by_cases hlt : j < 2
    · obtain ⟨z, hcz, hz1⟩ : ∃ z : Int, wr.cell? ⟨w.heap.size, j, none⟩ = some (.int .i64 z) ∧ z ≤ 9223372036854775807 := by
        have h0 := cell_of_row wr w.heap.size j _ _ _ hke.out
        have hj2 : j = 0 ∨ j = 1 := by omega
        rcases hj2 with rfl | rfl
        · exact ⟨(s.size : Nat), h0, by omega⟩
        · exact ⟨size, h0, hz.2⟩
      have HTA := Lib.hid (fun W => tables_any s hs z hz1 W)
      have hgd := @open_good s z
      have hfo := @open_fl s z
      generalize openB s z = r at HTA hgd hfo
      obtain ⟨sp, fl, re⟩ := r
      simp only at hgd hfo
      have i1 : (0 : Int) ≤ (j : Int) := by omega
      have i2 : (j : Int) < 2 := by omega
      go_wp2_with fail
      refine (HTA.out _).mono ?_
      rintro e w1 ⟨hb1, hor⟩
      have HB1 := Lib.hid (HBE.out.trans (hb1.mono HBE.out.size))
      have HK1 : Hid (w1.heap[w.heap.size]? = some (.cells #[.int .i64 (s.size : Nat), .int .i64 size] 3 (0, 0))) := (hb1.block _ (lt_of_block hke.out)).trans hke.out
      by_cases h0 : re = 0
      case neg =>
        have he : e = .returned (.tuple #[.pointer none, .pointer none, .bool true]) := by
          rcases hor with ⟨h, _⟩ | ⟨_, h⟩
          · exact absurd h h0
          · exact h
        subst he
        clear hor hb1 HTA hgd hfo hcz
        go_wp2_with fail
        go_roundw
        case rel => exact ⟨j + 1, by go_num, by omega, HB1.out, HK1⟩
        case measure => simp [intOf]; omega
      subst h0
      obtain ⟨tb, g, rb, rfl, hT1, hR1⟩ : ∃ tb g rb, e = .returned (.tuple #[.pointer (some ⟨tb, 0, none⟩), .pointer (some ⟨rb, 0, none⟩), .bool true]) ∧ TBox w1 tb g s sp fl ∧ RBox w1 rb s sp fl := by
        rcases hor with ⟨_, h⟩ | ⟨h, _⟩
        · exact h
        · exact absurd rfl h
      obtain ⟨hss, hl⟩ := hgd rfl
      have HT1 := Lib.hid hT1
      have HR1 := Lib.hid hR1
      obtain ⟨a, c, ⟨t0, t1, t2⟩, _⟩ := hR1.cells
      have hrb := hR1.lt
      have hfl : fl.size ≤ 4611686018427387904 := by have := hfo rfl; omega
      have HWH := Lib.hid (fun W h => which_any tb g s fl sp hss hl key W h)
      have HRW := Lib.hid (fun W h => rwhich_any rb s fl sp hl key W h)
      have HMY := Lib.hid (fun W h => may_any tb g s fl hfl sp key (by omega) W h)
      have HHS := Lib.hid (fun W => Mw.rhas_any fl key hfl (by omega) W)
      generalize whichB key sp = wp at HWH HRW
      generalize Mp.hasK fl.data.toList key.data.toList = hk at HMY HHS
      have hne1 : ((wp : Int) != (wp : Int)) = false := by simp
      have hne2 : (hk != hk) = false := by simp
      have T2 : Hid (w1.cell? ⟨rb, 2, none⟩ = some (.string fl) ∧ rb < w1.heap.size) := ⟨t2, hrb⟩
      clear hor hT1 hR1 hb1 hcz hgd hfo hfl hss hl t0 t1 t2 hrb HTA
      go_wp2_with fail
      go_region_held3 (fun w' => w'.cell? ⟨rb, 2, none⟩ = some (.string fl) ∧ Below w1.heap.size w1 w')
        (first | exact ⟨T2.out.1, Below.refl _ _⟩ | exact ⟨T2.out.1, Below.drew (Below.refl _ _)⟩ | (have hB3 : Below w1.heap.size w1 w3 := chain (Below.drew (Below.refl _ _)) hb3; exact ⟨(hB3.cell (p := ⟨rb, 2, none⟩) T2.out.2).trans T2.out.1, hB3⟩) | (have hB4 : Below w1.heap.size w1 w4 := chain (And.right (a := w3.cell? ⟨rb, 2, none⟩ = some (.string fl)) (by assumption)) hb4; exact ⟨(hB4.cell (p := ⟨rb, 2, none⟩) T2.out.2).trans T2.out.1, hB4⟩) | (have hB5 : Below w1.heap.size w1 w5 := chain (And.right (a := w4.cell? ⟨rb, 2, none⟩ = some (.string fl)) (by assumption)) hb5; exact ⟨(hB5.cell (p := ⟨rb, 2, none⟩) T2.out.2).trans T2.out.1, hB5⟩) | (have hB6 : Below w1.heap.size w1 w6 := chain (And.right (a := w5.cell? ⟨rb, 2, none⟩ = some (.string fl)) (by assumption)) hb6; exact ⟨(hB6.cell (p := ⟨rb, 2, none⟩) T2.out.2).trans T2.out.1, hB6⟩))
        (first
          | (go_at_call 14; refine (HWH.out _ (HT1.out.below (Below.drew (Below.refl _ _)))).mono ?_; rintro e w3 ⟨rfl, hb3⟩)
          | (go_at_call 15; refine (HRW.out _ (HR1.out.below (And.right (a := w3.cell? ⟨rb, 2, none⟩ = some (.string fl)) (by assumption)))).mono ?_; rintro e w4 ⟨rfl, hb4⟩)
          | (go_at_call 16; refine (HMY.out _ (HT1.out.below (And.right (a := w4.cell? ⟨rb, 2, none⟩ = some (.string fl)) (by assumption)))).mono ?_; rintro e w5 ⟨rfl, hb5⟩)
          | (go_at_call 17; refine (HHS.out _).mono ?_; rintro e w6 ⟨rfl, hb6⟩))
      all_goals
        have hB6 : Below w1.heap.size w1 w6 := (And.right (a := w6.cell? ⟨rb, 2, none⟩ = some (.string fl)) (by assumption))
        have HB6 := Lib.hid (HB1.out.trans (hB6.mono HB1.out.size))
        have HK6 : Hid (w6.heap[w.heap.size]? = some (.cells #[.int .i64 (s.size : Nat), .int .i64 size] 3 (0, 0))) := (hB6.block _ (lt_of_block HK1.out)).trans HK1.out
        clear hb3 hb4 hb5 hb6 hB6
        go_wp2_with fail
        go_roundw
        case rel => exact ⟨j + 1, by go_num, by omega, HB6.out, HK6⟩
        case measure => simp [intOf]; omega
    · obtain rfl : j = 2 := by omega
      go_wp2_with fail
      refine (open_nil size _).mono ?_
      rintro e w1 ⟨rfl, hb1⟩
      have HB1 := Lib.hid (HBE.out.trans (hb1.mono HBE.out.size))
      clear hb1
      go_wp2_with fail
      refine (HW.out _).mono ?_
      rintro e w2 ⟨rfl, hb2⟩
      have HB2 := Lib.hid (HB1.out.trans (hb2.mono HB1.out.size))
      clear hb2
      go_wp2_with fail
      go_ret
      exact ⟨rfl, HB2.out⟩

theorem own : ownKnob Try.prog.godebug = none := by kernel_rfl
theorem laidOut : laidOutB Try.prog = true := by kernel_rfl

set_option maxRecDepth 100000 in
theorem lifted (os : Os) (started : os.Started) (H : Type) (enc : TypeId × Value → H) :
    ReturnsInHanded {} Try.checked os 4 .any (Rows.tableOpensSpec.pre6 enc Try.prog Try.f4 Rows.tableOpensRow.domain false) (Rows.tableOpensSpec.post enc Try.prog Try.f4 false true false false) := by
  refine returnsInHanded_of_change_sized (C := Try.checked) own started (by kernel_rfl) Try.func4
    (ChangeSpec.witness6 (enc := enc) (C := Try.checked) false ⟨#[], #[.string ByteArray.empty, .int .i64 0, .string ByteArray.empty], []⟩ 8 (by kernel_rfl) (by kernel_rfl) (by kernel_rfl) (by kernel_rfl)) ?_
  intro W base args ds gs before hval0 hW hcnd hsz0 _
  have hval : ∀ (j : Nat) t v, Try.f4.params[j]? = some t → args[j]? = some v → Value.okWide Try.prog W .any base t v := hval0
  have hsz : (DataW.weightsEach Try.prog (Try.f4.params.toList ++ Rows.tableOpensSpec.plain.varTypes Try.prog) (ds ++ gs)).all (· ≤ reachBytes) = true := hsz0
  have hW' := hW
  obtain ⟨p, q, hA0, hV, rfl, hfz, hnd⟩ := hW
  have hA : DataW.TrodAll enc Try.prog W 0 (fun _ => true) true Try.f4.params.toList args.toList ds p := hA0
  rw [Try.params4] at hA hval hsz
  obtain ⟨v0, vs0, d0, ds0, p0, q0, hargs, rfl, rfl, h0, r0⟩ := trodAll_cons hA
  obtain ⟨v1, vs1, d1, ds1, p1, q1, rfl, rfl, rfl, h1, r1⟩ := trodAll_cons r0
  obtain ⟨v2, vs2, d2, ds2, p2, q2, rfl, rfl, rfl, h2, r2⟩ := trodAll_cons r1
  obtain ⟨rfl, rfl, rfl⟩ := trodAll_nil r2
  obtain rfl : args = #[v0, v1, v2] := by cases args; simp_all
  obtain ⟨rfl, rfl⟩ := trodVars_none hV
  have k0 := h0
  have lt0 : ∀ x ∈ p0, x.block < W.heap.size := by obtain ⟨m, hm⟩ := k0; exact DataW.trod_lt m _ _ _ hm
  have k1 := h1
  have lt1 : ∀ x ∈ p1, x.block < W.heap.size := by obtain ⟨m, hm⟩ := k1; exact DataW.trod_lt m _ _ _ hm
  have k2 := h2
  have lt2 : ∀ x ∈ p2, x.block < W.heap.size := by obtain ⟨m, hm⟩ := k2; exact DataW.trod_lt m _ _ _ hm
  obtain ⟨a0, rfl, rfl, rfl, w0⟩ := open_string Try.underlying9 (hval 0 9 v0 rfl rfl) h0
  have b0 : a0.size ≤ 140737488351232 := by have := sized_string hsz (j := 0) rfl rfl; simpa [reachBytes] using this
  obtain ⟨a1, rfl, rfl, rfl, w1⟩ := open_int Try.underlying3 (hval 1 3 v1 rfl rfl) h1
  have b1 : -9223372036854775808 ≤ a1 ∧ a1 ≤ 9223372036854775807 := by simpa [Lit.wf, IntKind.min, IntKind.max, IntKind.signed, IntKind.bits] using w1
  obtain ⟨a2, rfl, rfl, rfl, w2⟩ := open_string Try.underlying9 (hval 2 9 v2 rfl rfl) h2
  have b2 : a2.size ≤ 140737488351232 := by have := sized_string hsz (j := 2) rfl rfl; simpa [reachBytes] using this
  clear hA0 hval0
  refine (walk a0 a1 a2 b0 b1 b2 W).mono fun e W' ⟨he, bel⟩ => ?_
  subst he
  exact ⟨_, rfl, _, _, _, [], _, [], hW', trodAll_mk1 (shut_bool Try.underlying4 _), (trodAll_cons_mk (Below.trod laidOut (by kernel_rfl) (of_decide_eq_true (by kernel_rfl)) k0 bel lt0) (trodAll_cons_mk (Below.trod laidOut (by kernel_rfl) (of_decide_eq_true (by kernel_rfl)) k1 bel lt1) (trodAll_cons_mk (Below.trod laidOut (by kernel_rfl) (of_decide_eq_true (by kernel_rfl)) k2 bel lt2) trodAll_mk0))), rfl, bel.frame _, fun h => by cases h⟩

theorem over : Rows.tableOpensRow.holds Try.pinned (OpenSpec.ofChange Rows.tableOpensSpec) :=
  OpenClaim.holds_of_wide 4 Try.f4 rfl rfl rfl rfl rfl rfl rfl ⟨rfl, rfl, rfl, rfl, rfl⟩ rfl rfl rfl rfl rfl (by kernel_rfl) Try.func4 (by kernel_rfl)
    (of_decide_eq_true (by kernel_rfl)) (by unfold Func.isWrapper; first | (rw [if_pos (by decide +kernel)]; kernel_rfl) | (rw [if_neg (by decide +kernel)]; exact ⟨rfl, rfl⟩))
    (fun os started H enc _ => lifted os started H enc)

/-- THE STATEMENT -/
theorem proved : Rows.TableOpensSaid := over
end Go.Proofs.Ytajfalffpcamhaa.tableOpens
