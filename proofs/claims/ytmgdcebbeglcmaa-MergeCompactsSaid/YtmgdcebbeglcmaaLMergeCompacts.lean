/- MergeCompacts: of every entries in order what is left for any snaps is the document's answer. No condition on the input. -/
import Derived.Test.YtmgdcebbeglcmaaMrgL
import Derived.ProofKit
import Derived.OpenShut
import Derived.ShutString
import Derived.ChangeOld
import Derived.Below
import Derived.SizedLaws
import Derived.Test.YtmgdcebbeglcmaaOpen
import Derived.Test.YtmgdcebbeglcmaaOpenE
namespace Go.Proofs.Ytmgdcebbeglcmaa.mergeCompacts
open Go.ChangeShapes Go.WideShapes Go.ChangeAt Go.RowKit
open Go.ChangeMaps (open_string shut_string)
set_option linter.unusedVariables false
open En Ew B

set_option maxHeartbeats 1600000 in
set_option maxRecDepth 100000 in
theorem walk (a1 : Option Addr) (n1 c1 : Nat) (z1 : List Ent) (sa : Option Addr) (sn sc : Nat) (z : List Int) (now : Int) (w : World)
    (f1 : z1.length = n1 ∧ n1 ≤ c1 ∧ n1 * 56 ≤ 140737488351232 ∧ (∀ e ∈ z1, Fits e) ∧ ERow w a1 n1 (fun i => z1.getD i ent0))
    (f2 : z.length = sn ∧ sn ≤ sc ∧ sc ≤ 9223372036854775807 ∧ sn * 8 ≤ 140737488351232 ∧ (∀ x ∈ z, -9223372036854775808 ≤ x ∧ x ≤ 9223372036854775807) ∧ Row w sa sn (fun i => .int .i64 (z.getD i 0)))
    (_ : -9223372036854775808 ≤ now ∧ now ≤ 9223372036854775807) :
    Calls Try.prog 5 #[.slice a1 n1 c1, .slice sa sn sc, .int .i64 now] w fun e w' => e = .returned (.bool true) ∧ Below w.heap.size w w' := by
  have HA1 := Lib.hid (ordered_any a1 n1 c1 z1 f1.1 f1.2.1 f1.2.2.1 w f1.2.2.2.2)
  have HL1 := ord_len z1
  have HS1 := Lib.hid (ord_sorted z1)
  generalize mpAll [] (z1.take 100) = R1 at HA1 HL1 HS1
  obtain ⟨hzl, hsc, hsc2, hsb, _, hzr⟩ := f2
  have HZL := Lib.hid hzl
  have HZR := Lib.hid hzr
  clear f1 hzl hzr
  go_enter Try.func5, Try.ntmps5
  go_wp2_with fail
  refine HA1.out.mono ?_
  rintro e w1 ⟨p1, d1, q1, g1, rfl, o1, s1, hb1⟩
  have P1 := Lib.hid (at_own o1)
  have Q1 := Lib.hid (at_own s1)
  have HB1 := Lib.hid hb1
  have HZR := Lib.hid (HZR.out.below hb1)
  clear o1 s1 hb1 HA1
  go_upto_region 2 with fail
  go_cut [1, 17, 18] (fun s1 s17 s18 wx => ∃ k : Nat, s1 = .slice sa k sc ∧ k ≤ sn ∧ k ≤ 20 ∧ wx = w1)
  case first =>
    go_wp2_with fail
    · go_meet
      exact ⟨20, rfl, by omega, by omega, rfl⟩
    · go_meet
      exact ⟨sn, rfl, by omega, by omega, rfl⟩
  case rest =>
  obtain ⟨k, rfl, hk1, hk2, rfl⟩ := hcut
  have HZT := Lib.hid (row_take HZR.out hk1)
  have HZK := Lib.hid (show (z.take k).length = k by rw [List.length_take, HZL.out]; omega)
  generalize z.take k = y at HZT HZK
  clear HZR HZL
  have HC := Lib.hid (fun W h hz bot => comp_any p1 R1.length d1 R1 rfl P1.out.cap P1.out.top (by omega) HS1.out W h sa k sc y HZK.out (by omega) hz now bot)
  have HR := Lib.hid (fun W h hz bot => rcomp_any q1 R1.length g1 R1 rfl (by omega) HS1.out W h sa k sc y HZK.out (by omega) hz now bot)
  have hlen := fun bot => comp_len R1 y now bot
  generalize compE R1 y now = V at HC HR hlen
  have HLEN := Lib.hid hlen
  clear hlen
  go_wp2_with fail
  refine (wakes13_any wc).mono ?_
  rintro e w2 ⟨rfl, hb2⟩
  have P2 := Lib.hid (P1.out.below hb2)
  have Q2 := Lib.hid (Q1.out.below hb2)
  have Z2 := Lib.hid (HZT.out.below hb2)
  have HB2 := Lib.hid (chain HB1.out hb2)
  clear hb2 P1 Q1 HZT HB1
  go_wp2_with fail
  refine (HC.out w2 P2.out.row Z2.out false).mono ?_
  rintro e w3 ⟨p3, d3, rfl, o3, hb3⟩
  have P3 := Lib.hid (at_own o3)
  have P2 := Lib.hid (P2.out.below hb3)
  have Q2 := Lib.hid (Q2.out.below hb3)
  have Z2 := Lib.hid (Z2.out.below hb3)
  have HB3 := Lib.hid (chain HB2.out hb3)
  clear o3 hb3
  go_wp2_with fail
  refine (HR.out w3 Q2.out.row Z2.out false).mono ?_
  rintro e w4 ⟨p4, d4, rfl, o4, hb4⟩
  have P4 := Lib.hid (at_own o4)
  have P3 := Lib.hid (P3.out.below hb4)
  have P2 := Lib.hid (P2.out.below hb4)
  have Q2 := Lib.hid (Q2.out.below hb4)
  have Z2 := Lib.hid (Z2.out.below hb4)
  have HB4 := Lib.hid (chain HB3.out hb4)
  clear o4 hb4
  go_wp2_with fail
  refine (same_yes p3 (V false).length d3 p4 d4 (V false) rfl (by have := HLEN.out false; omega) w4 P3.out.row P4.out.row).mono ?_
  rintro e w5 ⟨rfl, hb5⟩
  have P2 := Lib.hid (P2.out.below hb5)
  have Q2 := Lib.hid (Q2.out.below hb5)
  have Z2 := Lib.hid (Z2.out.below hb5)
  have HB5 := Lib.hid (chain HB4.out hb5)
  clear hb5 P3 P4
  go_wp2_with fail
  refine (HC.out w5 P2.out.row Z2.out true).mono ?_
  rintro e w6 ⟨p6, d6, rfl, o6, hb6⟩
  have P6 := Lib.hid (at_own o6)
  have Q2 := Lib.hid (Q2.out.below hb6)
  have Z2 := Lib.hid (Z2.out.below hb6)
  have HB6 := Lib.hid (chain HB5.out hb6)
  clear o6 hb6
  go_wp2_with fail
  refine (HR.out w6 Q2.out.row Z2.out true).mono ?_
  rintro e w7 ⟨p7, d7, rfl, o7, hb7⟩
  have P7 := Lib.hid (at_own o7)
  have P6 := Lib.hid (P6.out.below hb7)
  have HB7 := Lib.hid (chain HB6.out hb7)
  clear o7 hb7
  go_wp2_with fail
  refine (same_yes p6 (V true).length d6 p7 d7 (V true) rfl (by have := HLEN.out true; omega) w7 P6.out.row P7.out.row).mono ?_
  rintro e w8 ⟨rfl, hb8⟩
  have hB8 := chain HB7.out hb8
  clear hb8
  go_wp2_with fail
  go_ret
  exact ⟨rfl, hB8⟩

theorem entT : Op.EntT Try.prog 54 ((match Try.prog.underlying 54 with | some (.struct fs) => fs | _ => #[])) := by
  rw [Try.underlying54]
  exact ⟨Try.underlying54, by kernel_rfl, by kernel_rfl, ⟨_, rfl, Try.underlying9⟩, ⟨_, rfl, Try.underlying2⟩, ⟨_, rfl, Try.underlying4⟩, ⟨_, rfl, Try.underlying9⟩, ⟨_, rfl, Try.underlying2⟩, rfl⟩
theorem bd64 {n : Int} (h : (Lit.int .i64 n).wf = true) : -9223372036854775808 ≤ n ∧ n ≤ 9223372036854775807 := by
  simpa [Lit.wf, IntKind.min, IntKind.max, IntKind.signed, IntKind.bits] using h


theorem own : ownKnob Try.prog.godebug = none := by kernel_rfl
theorem laidOut : laidOutB Try.prog = true := by kernel_rfl

set_option maxRecDepth 100000 in
theorem lifted (os : Os) (started : os.Started) (H : Type) (enc : TypeId × Value → H) :
    ReturnsInHanded {} Try.checked os 5 .any (Rows.mergeCompactsSpec.pre6 enc Try.prog Try.f5 Rows.mergeCompactsRow.domain false) (Rows.mergeCompactsSpec.post enc Try.prog Try.f5 false true false false) := by
  refine returnsInHanded_of_change_sized (C := Try.checked) own started (by kernel_rfl) Try.func5
    (ChangeSpec.witness6 (enc := enc) (C := Try.checked) false ⟨#[], #[.slice none 0 0, .slice none 0 0, .int .i64 0], []⟩ 8 (by kernel_rfl) (by kernel_rfl) (by kernel_rfl) (by kernel_rfl)) ?_
  intro W base args ds gs before hval0 hW hcnd hsz0 _
  have hval : ∀ (j : Nat) t v, Try.f5.params[j]? = some t → args[j]? = some v → Value.okWide Try.prog W .any base t v := hval0
  have hsz : (DataW.weightsEach Try.prog (Try.f5.params.toList ++ Rows.mergeCompactsSpec.plain.varTypes Try.prog) (ds ++ gs)).all (· ≤ reachBytes) = true := hsz0
  have hW' := hW
  obtain ⟨p, q, hA0, hV, rfl, hfz, hnd⟩ := hW
  have hA : DataW.TrodAll enc Try.prog W 0 (fun _ => true) true Try.f5.params.toList args.toList ds p := hA0
  rw [Try.params5] at hA hval hsz
  obtain ⟨v0, vs0, d0, ds0, p0, q0, hargs, rfl, rfl, h0, r0⟩ := trodAll_cons hA
  obtain ⟨v1, vs1, d1, ds1, p1, q1, rfl, rfl, rfl, h1, r1⟩ := trodAll_cons r0
  obtain ⟨v2, vs2, d2, ds2, p2, q2, rfl, rfl, rfl, h2, r2⟩ := trodAll_cons r1
  obtain ⟨rfl, rfl, rfl⟩ := trodAll_nil r2
  obtain rfl : args = #[v0, v1, v2] := by cases args; simp_all
  obtain ⟨rfl, rfl⟩ := trodVars_none hV
  have k0 := h0
  have lt0 : ∀ x ∈ p0, x.block < W.heap.size := by obtain ⟨m, hm⟩ := k0; exact DataW.trod_lt m _ _ _ hm
  have k1 := h1
  have lt1 : ∀ x ∈ p1, x.block < W.heap.size := by obtain ⟨m, hm⟩ := k1; exact DataW.trod_lt m _ _ _ hm
  have k2 := h2
  have lt2 : ∀ x ∈ p2, x.block < W.heap.size := by obtain ⟨m, hm⟩ := k2; exact DataW.trod_lt m _ _ _ hm
  obtain ⟨a0, n0, cap0, z0, rfl, w0, row0, lc0, cm0, wf0, wt0, bk0⟩ := Op.ents1 entT Try.underlying22 (hval 0 22 v0 rfl rfl) h0
  have wb0 := wt0 reachBytes (fun m hm => of_decide_eq_true (List.all_eq_true.1 hsz _ (DataW.weights_mem_each (j := 0) rfl rfl m hm)))
  have f0 : z0.length = n0 ∧ n0 ≤ cap0 ∧ n0 * 56 ≤ 140737488351232 ∧ (∀ e ∈ z0, En.Fits e) ∧ En.ERow W a0 n0 (fun i => z0.getD i En.ent0) := ⟨w0, lc0, by have h9 := wb0.2; rw [show Try.prog.bytesOf 54 = 56 from by kernel_rfl] at h9; exact h9, fun x hx => by have h9 := wf0 x hx; have h8 := wb0.1 x hx; exact ⟨h8.1, h8.2, (bd64 h9.2.2.1).1, (bd64 h9.2.2.1).2, (bd64 h9.2.2.2).1, (bd64 h9.2.2.2).2⟩, row0⟩
  obtain ⟨a1, n1, cap1, z1, rfl, w1, wf1, row1, lc1, cm1, wt1⟩ := Op.ints2 Try.underlying43 Try.underlying2 (by kernel_rfl) (hval 1 43 v1 rfl rfl) h1
  have wb1 := wt1 reachBytes (fun m hm => of_decide_eq_true (List.all_eq_true.1 hsz _ (DataW.weights_mem_each (j := 1) rfl rfl m hm)))
  have f1 : z1.length = n1 ∧ n1 ≤ cap1 ∧ cap1 ≤ 9223372036854775807 ∧ n1 * 8 ≤ 140737488351232 ∧ (∀ x ∈ z1, -9223372036854775808 ≤ x ∧ x ≤ 9223372036854775807) ∧ B.Row W a1 n1 (fun i => .int .i64 (z1.getD i 0)) := ⟨w1, lc1, by simpa [maxLen] using cm1, by rw [show Try.prog.bytesOf 2 = 8 from by kernel_rfl] at wb1; exact wb1, fun x hx => by simpa [Lit.wf, IntKind.min, IntKind.max, IntKind.signed, IntKind.bits] using wf1 x hx, row1⟩
  obtain ⟨a2, rfl, rfl, rfl, w2⟩ := open_int Try.underlying2 (hval 2 2 v2 rfl rfl) h2
  have b2 : -9223372036854775808 ≤ a2 ∧ a2 ≤ 9223372036854775807 := by simpa [Lit.wf, IntKind.min, IntKind.max, IntKind.signed, IntKind.bits] using w2
  clear hA0 hval0
  refine (walk a0 n0 cap0 z0 a1 n1 cap1 z1 a2 W f0 f1 b2).mono fun e W' ⟨he, bel⟩ => ?_
  subst he
  exact ⟨_, rfl, _, _, _, [], _, [], hW', trodAll_mk1 (shut_bool Try.underlying4 _), (trodAll_cons_mk (Below.trod laidOut (by kernel_rfl) (of_decide_eq_true (by kernel_rfl)) k0 bel lt0) (trodAll_cons_mk (Below.trod laidOut (by kernel_rfl) (of_decide_eq_true (by kernel_rfl)) k1 bel lt1) (trodAll_cons_mk (Below.trod laidOut (by kernel_rfl) (of_decide_eq_true (by kernel_rfl)) k2 bel lt2) trodAll_mk0))), rfl, bel.frame _, fun h => by cases h⟩

theorem over : Rows.mergeCompactsRow.holds Try.pinned (OpenSpec.ofChange Rows.mergeCompactsSpec) :=
  OpenClaim.holds_of_wide 5 Try.f5 rfl rfl rfl rfl rfl rfl rfl ⟨rfl, rfl, rfl, rfl, rfl⟩ rfl rfl rfl rfl rfl (by kernel_rfl) Try.func5 (by kernel_rfl)
    (of_decide_eq_true (by kernel_rfl)) (by unfold Func.isWrapper; first | (rw [if_pos (by decide +kernel)]; kernel_rfl) | (rw [if_neg (by decide +kernel)]; exact ⟨rfl, rfl⟩))
    (fun os started H enc _ => lifted os started H enc)

/-- THE STATEMENT -/
theorem proved : Rows.MergeCompactsSaid := over
end Go.Proofs.Ytmgdcebbeglcmaa.mergeCompacts
