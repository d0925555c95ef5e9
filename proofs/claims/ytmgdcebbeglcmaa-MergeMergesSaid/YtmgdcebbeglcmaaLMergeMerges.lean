/- MergeMerges: every lists in order are merged as the document says. No condition on the input. -/
import Derived.Test.YtmgdcebbeglcmaaMrgL
import Derived.ProofKit
import Derived.OpenShut
import Derived.ShutString
import Derived.ChangeOld
import Derived.Below
import Derived.SizedLaws
import Derived.Test.YtmgdcebbeglcmaaOpen
import Derived.Test.YtmgdcebbeglcmaaOpenE
namespace Go.Proofs.Ytmgdcebbeglcmaa.mergeMerges
open Go.ChangeShapes Go.WideShapes Go.ChangeAt Go.RowKit
open Go.ChangeMaps (open_string shut_string)
set_option linter.unusedVariables false
open En Ew B

set_option maxHeartbeats 1600000 in
set_option maxRecDepth 100000 in
theorem walk (a1 : Option Addr) (n1 c1 : Nat) (z1 : List Ent) (a2 : Option Addr) (n2 c2 : Nat) (z2 : List Ent) (a3 : Option Addr) (n3 c3 : Nat) (z3 : List Ent) (w : World)
    (f1 : z1.length = n1 ∧ n1 ≤ c1 ∧ n1 * 56 ≤ 140737488351232 ∧ (∀ e ∈ z1, Fits e) ∧ ERow w a1 n1 (fun i => z1.getD i ent0))
    (f2 : z2.length = n2 ∧ n2 ≤ c2 ∧ n2 * 56 ≤ 140737488351232 ∧ (∀ e ∈ z2, Fits e) ∧ ERow w a2 n2 (fun i => z2.getD i ent0))
    (f3 : z3.length = n3 ∧ n3 ≤ c3 ∧ n3 * 56 ≤ 140737488351232 ∧ (∀ e ∈ z3, Fits e) ∧ ERow w a3 n3 (fun i => z3.getD i ent0)) :
    Calls Try.prog 3 #[.slice a1 n1 c1, .slice a2 n2 c2, .slice a3 n3 c3] w fun e w' => e = .returned (.bool true) ∧ Below w.heap.size w w' := by
  have HF2 := Lib.hid f2.2.2.2.2
  have HF3 := Lib.hid f3.2.2.2.2
  have HA1 := Lib.hid (ordered_any a1 n1 c1 z1 f1.1 f1.2.1 f1.2.2.1 w f1.2.2.2.2)
  have HA2 := Lib.hid (fun W h => ordered_any a2 n2 c2 z2 f2.1 f2.2.1 f2.2.2.1 W h)
  have HA3 := Lib.hid (fun W h => ordered_any a3 n3 c3 z3 f3.1 f3.2.1 f3.2.2.1 W h)
  have HL1 := ord_len z1
  have HL2 := ord_len z2
  have HL3 := ord_len z3
  have HS1 := Lib.hid (ord_sorted z1)
  have HS2 := Lib.hid (ord_sorted z2)
  have HS3 := Lib.hid (ord_sorted z3)
  generalize mpAll [] (z1.take 100) = R1 at HA1 HL1 HS1
  generalize mpAll [] (z2.take 100) = R2 at HA2 HL2 HS2
  generalize mpAll [] (z3.take 100) = R3 at HA3 HL3 HS3
  clear f1 f2 f3
  go_enter Try.func3, Try.ntmps3
  go_wp2_with fail
  refine HA1.out.mono ?_
  rintro e w1 ⟨p1, d1, q1, g1, rfl, o1, s1, hb1⟩
  have P1 := Lib.hid (at_own o1)
  have Q1 := Lib.hid (at_own s1)
  have HB1 := Lib.hid hb1
  clear o1 s1 hb1
  go_wp2_with fail
  refine (HA2.out w1 (HF2.out.below HB1.out)).mono ?_
  rintro e w2 ⟨p2, d2, q2, g2, rfl, o2, s2, hb2⟩
  have P2 := Lib.hid (at_own o2)
  have Q2 := Lib.hid (at_own s2)
  have P1 := Lib.hid (P1.out.below hb2)
  have Q1 := Lib.hid (Q1.out.below hb2)
  have HB2 := Lib.hid (chain HB1.out hb2)
  clear o2 s2 hb2
  go_wp2_with fail
  refine (HA3.out w2 (HF3.out.below HB2.out)).mono ?_
  rintro e w3 ⟨p3, d3, q3, g3, rfl, o3, s3, hb3⟩
  have P3 := Lib.hid (at_own o3)
  have Q3 := Lib.hid (at_own s3)
  have P1 := Lib.hid (P1.out.below hb3)
  have Q1 := Lib.hid (Q1.out.below hb3)
  have P2 := Lib.hid (P2.out.below hb3)
  have Q2 := Lib.hid (Q2.out.below hb3)
  have HB3 := Lib.hid (chain HB2.out hb3)
  clear o3 s3 hb3 HA1 HA2 HA3
  go_wp2_with fail
  refine (wakes13_any w3).mono ?_
  rintro e w4 ⟨rfl, hb4⟩
  have hbx := hb4.trans (below_alloc (Below.refl w4.heap.size w4) (.cells #[.slice p1 R1.length d1, .slice p2 R2.length d2, .slice p3 R3.length d3] 23) |>.mono hb4.size)
  have hbk : (w4.alloc (.cells #[.slice p1 R1.length d1, .slice p2 R2.length d2, .slice p3 R3.length d3] 23)).heap[w4.heap.size]? = some (.cells #[.slice p1 R1.length d1, .slice p2 R2.length d2, .slice p3 R3.length d3] 23 (0, 0)) := heap_alloc_new _ _
  have hrow := lsrow3 hbk ⟨P1.out.cap, (P1.out.below hbx).row⟩ ⟨P2.out.cap, (P2.out.below hbx).row⟩ ⟨P3.out.cap, (P3.out.below hbx).row⟩
  have HROW := Lib.hid hrow
  have HB4 := Lib.hid (chain HB3.out hbx)
  have Q1 := Lib.hid (Q1.out.below hbx)
  have Q2 := Lib.hid (Q2.out.below hbx)
  have Q3 := Lib.hid (Q3.out.below hbx)
  have hfl : [R1, R2, R3].flatten.length ≤ 300 := by simp; omega
  have hml := mpAll_len [R1, R2, R3].flatten []
  have HFL := Lib.hid hfl
  have hmx : (mpAll [] [R1, R2, R3].flatten).length ≤ 300 := by simp only [List.length_nil] at hml; omega
  have HSO : Hid (∀ j, j < [R1, R2, R3].length → Sorted ([R1, R2, R3].getD j [])) := fun j hj => by
    have : j < 3 := hj
    obtain rfl | rfl | rfl : j = 0 ∨ j = 1 ∨ j = 2 := by omega
    · exact HS1.out
    · exact HS2.out
    · exact HS3.out
  clear hbx hbk hrow hb4 hml hfl
  go_wp2_with fail
  refine (merge_any _ 3 3 _ [R1, R2, R3] _ HROW.out (by omega) (by have := HFL.out; omega) HSO.out).mono ?_
  have HRM := Lib.hid (fun la lc sl W h => rmerge_any la 3 lc sl [R1, R2, R3] W h (by omega) (by have := HFL.out; omega))
  generalize mpAll [] [R1, R2, R3].flatten = M at hmx HRM
  rintro e w5 ⟨p5, d5, rfl, o5, hb5⟩
  have P5 := Lib.hid (at_own o5)
  have Q1 := Lib.hid (Q1.out.below hb5)
  have Q2 := Lib.hid (Q2.out.below hb5)
  have Q3 := Lib.hid (Q3.out.below hb5)
  have HB5 := Lib.hid (chain HB4.out hb5)
  clear o5 hb5 HROW
  have hbx := below_alloc (Below.refl w5.heap.size w5) (.cells #[.slice q1 R1.length g1, .slice q2 R2.length g2, .slice q3 R3.length g3] 32)
  have hbk : (w5.alloc (.cells #[.slice q1 R1.length g1, .slice q2 R2.length g2, .slice q3 R3.length g3] 32)).heap[w5.heap.size]? = some (.cells #[.slice q1 R1.length g1, .slice q2 R2.length g2, .slice q3 R3.length g3] 32 (0, 0)) := heap_alloc_new _ _
  have HROW := Lib.hid (lsrow3 hbk ⟨Q1.out.cap, (Q1.out.below hbx).row⟩ ⟨Q2.out.cap, (Q2.out.below hbx).row⟩ ⟨Q3.out.cap, (Q3.out.below hbx).row⟩)
  have P5 := Lib.hid (P5.out.below hbx)
  have HB6 := Lib.hid (chain HB5.out hbx)
  clear hbx hbk Q1 Q2 Q3
  go_wp2_with fail
  refine (HRM.out _ _ _ _ HROW.out).mono ?_
  rintro e w7 ⟨p7, d7, rfl, o7, hb7⟩
  have P7 := Lib.hid (at_own o7)
  have P5 := Lib.hid (P5.out.below hb7)
  have HB7 := Lib.hid (chain HB6.out hb7)
  clear o7 hb7 HROW HRM
  go_wp2_with fail
  refine (same_yes p5 M.length d5 p7 d7 M rfl (by omega) w7 P5.out.row P7.out.row).mono ?_
  rintro e w8 ⟨rfl, hb8⟩
  have HB8 := Lib.hid (chain HB7.out hb8)
  clear hb8
  go_wp2_with fail
  refine (merge_any none 0 0 (fun _ => (none, 0, 0)) [] w8 (lsrow0 _ _) (by omega) (by simp) (fun j hj => by simp at hj)).mono ?_
  rintro e w9 ⟨p9, d9, rfl, o9, hb9⟩
  rw [show (mpAll [] ([] : List (List Ent)).flatten).length = 0 from rfl]
  have hB9 := chain HB8.out hb9
  clear o9 hb9
  go_wp2_with fail
  go_ret
  exact ⟨rfl, hB9⟩

theorem entT : Op.EntT Try.prog 54 ((match Try.prog.underlying 54 with | some (.struct fs) => fs | _ => #[])) := by
  rw [Try.underlying54]
  exact ⟨Try.underlying54, by kernel_rfl, by kernel_rfl, ⟨_, rfl, Try.underlying9⟩, ⟨_, rfl, Try.underlying2⟩, ⟨_, rfl, Try.underlying4⟩, ⟨_, rfl, Try.underlying9⟩, ⟨_, rfl, Try.underlying2⟩, rfl⟩
theorem bd64 {n : Int} (h : (Lit.int .i64 n).wf = true) : -9223372036854775808 ≤ n ∧ n ≤ 9223372036854775807 := by
  simpa [Lit.wf, IntKind.min, IntKind.max, IntKind.signed, IntKind.bits] using h


theorem own : ownKnob Try.prog.godebug = none := by kernel_rfl
theorem laidOut : laidOutB Try.prog = true := by kernel_rfl

set_option maxRecDepth 100000 in
theorem lifted (os : Os) (started : os.Started) (H : Type) (enc : TypeId × Value → H) :
    ReturnsInHanded {} Try.checked os 3 .any (Rows.mergeMergesSpec.pre6 enc Try.prog Try.f3 Rows.mergeMergesRow.domain false) (Rows.mergeMergesSpec.post enc Try.prog Try.f3 false true false false) := by
  refine returnsInHanded_of_change_sized (C := Try.checked) own started (by kernel_rfl) Try.func3
    (ChangeSpec.witness6 (enc := enc) (C := Try.checked) false ⟨#[], #[.slice none 0 0, .slice none 0 0, .slice none 0 0], []⟩ 8 (by kernel_rfl) (by kernel_rfl) (by kernel_rfl) (by kernel_rfl)) ?_
  intro W base args ds gs before hval0 hW hcnd hsz0 _
  have hval : ∀ (j : Nat) t v, Try.f3.params[j]? = some t → args[j]? = some v → Value.okWide Try.prog W .any base t v := hval0
  have hsz : (DataW.weightsEach Try.prog (Try.f3.params.toList ++ Rows.mergeMergesSpec.plain.varTypes Try.prog) (ds ++ gs)).all (· ≤ reachBytes) = true := hsz0
  have hW' := hW
  obtain ⟨p, q, hA0, hV, rfl, hfz, hnd⟩ := hW
  have hA : DataW.TrodAll enc Try.prog W 0 (fun _ => true) true Try.f3.params.toList args.toList ds p := hA0
  rw [Try.params3] at hA hval hsz
  obtain ⟨v0, vs0, d0, ds0, p0, q0, hargs, rfl, rfl, h0, r0⟩ := trodAll_cons hA
  obtain ⟨v1, vs1, d1, ds1, p1, q1, rfl, rfl, rfl, h1, r1⟩ := trodAll_cons r0
  obtain ⟨v2, vs2, d2, ds2, p2, q2, rfl, rfl, rfl, h2, r2⟩ := trodAll_cons r1
  obtain ⟨rfl, rfl, rfl⟩ := trodAll_nil r2
  obtain rfl : args = #[v0, v1, v2] := by cases args; simp_all
  obtain ⟨rfl, rfl⟩ := trodVars_none hV
  have k0 := h0
  have lt0 : ∀ x ∈ p0, x.block < W.heap.size := by obtain ⟨m, hm⟩ := k0; exact DataW.trod_lt m _ _ _ hm
  have k1 := h1
  have lt1 : ∀ x ∈ p1, x.block < W.heap.size := by obtain ⟨m, hm⟩ := k1; exact DataW.trod_lt m _ _ _ hm
  have k2 := h2
  have lt2 : ∀ x ∈ p2, x.block < W.heap.size := by obtain ⟨m, hm⟩ := k2; exact DataW.trod_lt m _ _ _ hm
  obtain ⟨a0, n0, cap0, z0, rfl, w0, row0, lc0, cm0, wf0, wt0, bk0⟩ := Op.ents1 entT Try.underlying22 (hval 0 22 v0 rfl rfl) h0
  have wb0 := wt0 reachBytes (fun m hm => of_decide_eq_true (List.all_eq_true.1 hsz _ (DataW.weights_mem_each (j := 0) rfl rfl m hm)))
  have f0 : z0.length = n0 ∧ n0 ≤ cap0 ∧ n0 * 56 ≤ 140737488351232 ∧ (∀ e ∈ z0, En.Fits e) ∧ En.ERow W a0 n0 (fun i => z0.getD i En.ent0) := ⟨w0, lc0, by have h9 := wb0.2; rw [show Try.prog.bytesOf 54 = 56 from by kernel_rfl] at h9; exact h9, fun x hx => by have h9 := wf0 x hx; have h8 := wb0.1 x hx; exact ⟨h8.1, h8.2, (bd64 h9.2.2.1).1, (bd64 h9.2.2.1).2, (bd64 h9.2.2.2).1, (bd64 h9.2.2.2).2⟩, row0⟩
  obtain ⟨a1, n1, cap1, z1, rfl, w1, row1, lc1, cm1, wf1, wt1, bk1⟩ := Op.ents1 entT Try.underlying22 (hval 1 22 v1 rfl rfl) h1
  have wb1 := wt1 reachBytes (fun m hm => of_decide_eq_true (List.all_eq_true.1 hsz _ (DataW.weights_mem_each (j := 1) rfl rfl m hm)))
  have f1 : z1.length = n1 ∧ n1 ≤ cap1 ∧ n1 * 56 ≤ 140737488351232 ∧ (∀ e ∈ z1, En.Fits e) ∧ En.ERow W a1 n1 (fun i => z1.getD i En.ent0) := ⟨w1, lc1, by have h9 := wb1.2; rw [show Try.prog.bytesOf 54 = 56 from by kernel_rfl] at h9; exact h9, fun x hx => by have h9 := wf1 x hx; have h8 := wb1.1 x hx; exact ⟨h8.1, h8.2, (bd64 h9.2.2.1).1, (bd64 h9.2.2.1).2, (bd64 h9.2.2.2).1, (bd64 h9.2.2.2).2⟩, row1⟩
  obtain ⟨a2, n2, cap2, z2, rfl, w2, row2, lc2, cm2, wf2, wt2, bk2⟩ := Op.ents1 entT Try.underlying22 (hval 2 22 v2 rfl rfl) h2
  have wb2 := wt2 reachBytes (fun m hm => of_decide_eq_true (List.all_eq_true.1 hsz _ (DataW.weights_mem_each (j := 2) rfl rfl m hm)))
  have f2 : z2.length = n2 ∧ n2 ≤ cap2 ∧ n2 * 56 ≤ 140737488351232 ∧ (∀ e ∈ z2, En.Fits e) ∧ En.ERow W a2 n2 (fun i => z2.getD i En.ent0) := ⟨w2, lc2, by have h9 := wb2.2; rw [show Try.prog.bytesOf 54 = 56 from by kernel_rfl] at h9; exact h9, fun x hx => by have h9 := wf2 x hx; have h8 := wb2.1 x hx; exact ⟨h8.1, h8.2, (bd64 h9.2.2.1).1, (bd64 h9.2.2.1).2, (bd64 h9.2.2.2).1, (bd64 h9.2.2.2).2⟩, row2⟩
  clear hA0 hval0
  refine (walk a0 n0 cap0 z0 a1 n1 cap1 z1 a2 n2 cap2 z2 W f0 f1 f2).mono fun e W' ⟨he, bel⟩ => ?_
  subst he
  exact ⟨_, rfl, _, _, _, [], _, [], hW', trodAll_mk1 (shut_bool Try.underlying4 _), (trodAll_cons_mk (Below.trod laidOut (by kernel_rfl) (of_decide_eq_true (by kernel_rfl)) k0 bel lt0) (trodAll_cons_mk (Below.trod laidOut (by kernel_rfl) (of_decide_eq_true (by kernel_rfl)) k1 bel lt1) (trodAll_cons_mk (Below.trod laidOut (by kernel_rfl) (of_decide_eq_true (by kernel_rfl)) k2 bel lt2) trodAll_mk0))), rfl, bel.frame _, fun h => by cases h⟩

theorem over : Rows.mergeMergesRow.holds Try.pinned (OpenSpec.ofChange Rows.mergeMergesSpec) :=
  OpenClaim.holds_of_wide 3 Try.f3 rfl rfl rfl rfl rfl rfl rfl ⟨rfl, rfl, rfl, rfl, rfl⟩ rfl rfl rfl rfl rfl (by kernel_rfl) Try.func3 (by kernel_rfl)
    (of_decide_eq_true (by kernel_rfl)) (by unfold Func.isWrapper; first | (rw [if_pos (by decide +kernel)]; kernel_rfl) | (rw [if_neg (by decide +kernel)]; exact ⟨rfl, rfl⟩))
    (fun os started H enc _ => lifted os started H enc)

/-- THE STATEMENT -/
theorem proved : Rows.MergeMergesSaid := over
end Go.Proofs.Ytmgdcebbeglcmaa.mergeMerges
