/- TableBuilds: every entries have the document's table, or its error. No condition on the input. -/
import Derived.Test.YtajfalffpcamhaaTabM
import Derived.Test.YtajfalffpcamhaaTabQ
import Derived.Test.YtajfalffpcamhaaTabL
import Derived.ProofKit
import Derived.OpenShut
import Derived.ShutString
import Derived.ChangeOld
import Derived.Below
import Derived.SizedLaws
import Derived.Test.YtajfalffpcamhaaOpen
import Derived.Test.YtajfalffpcamhaaOpenE
namespace Go.Proofs.Ytajfalffpcamhaa.tableBuilds
open Go.ChangeShapes Go.WideShapes Go.ChangeAt Go.RowKit
open Go.ChangeMaps (open_string shut_string)
set_option linter.unusedVariables false
open Tw Tb En Ew B Vp Fp

set_option maxHeartbeats 3200000 in
set_option maxRecDepth 100000 in
theorem walk (a0 : Option Addr) (n0 c0 : Nat) (z : List Ent) (size bits : Int) (w : World)
    (f0 : z.length = n0 ∧ n0 ≤ c0 ∧ n0 * 56 ≤ 140737488351232 ∧ (∀ e ∈ z, Fits e) ∧ ERow w a0 n0 (fun i => z.getD i ent0)) (hs : -9223372036854775808 ≤ size ∧ size ≤ 9223372036854775807) (hbi : -9223372036854775808 ≤ bits ∧ bits ≤ 9223372036854775807) :
    Calls Try.prog 3 #[.slice a0 n0 c0, .int .i64 size, .int .i64 bits] w fun e w' => e = .returned (.bool true) ∧ Below w.heap.size w w' := by
  obtain ⟨hl, hc, hn, hfit, hrow⟩ := f0
  have HLS := Lib.hid (lists11_any a0 n0 c0 z hl hc w hrow)
  have hfL : ∀ e ∈ z.take 3000, Fits e := fun e he => hfit e (List.mem_of_mem_take he)
  generalize z.take 3000 = L at HLS hfL
  have HW := Lib.hid wakes11_any
  have HBU := Lib.hid (fun a c h1 h2 W hr => tbuild_any a L.length c L rfl h1 h2 hfL size bits W hr)
  have HRB := Lib.hid (fun a c h1 h2 W hr => rtbuild_any a L.length c L rfl h1 h2 hfL size bits W hr)
  generalize tabB L size bits = t at HBU HRB
  obtain ⟨T, te⟩ := t
  simp only [retB] at HBU HRB
  generalize str T = s at HBU HRB
  have hne1 : (s.toList == s.toList) = true := by simp
  have hne2 : (te == te) = true := by simp
  clear hl hc hn hfit hrow hfL
  go_enter Try.func3, Try.ntmps3
  go_wp2_with fail
  refine HLS.out.mono ?_
  rintro e w1 ⟨a1, c1, a2, c2, rfl, ho1, ho2, hb1⟩
  have HB1 := Lib.hid hb1
  have HR1 := Lib.hid (own_erow ho1).2.2
  have HR2 := Lib.hid (own_erow ho2).2.2
  have hcp := cap_own ho1
  have hcp2 := cap_own ho2
  clear ho1 ho2 hb1 HLS
  go_wp2_with fail
  refine (HBU.out _ _ hcp.1 hcp.2 _ HR1.out).mono ?_
  rintro e w2 ⟨rfl, hb2⟩
  have HB2 := Lib.hid (chain HB1.out hb2)
  have HR2 := Lib.hid (HR2.out.below hb2)
  clear hb2 HB1 HR1 HBU
  go_wp2_with fail
  refine (HRB.out _ _ hcp2.1 hcp2.2 _ HR2.out).mono ?_
  rintro e w3 ⟨rfl, hb3⟩
  have HB3 := Lib.hid (chain HB2.out hb3)
  clear hb3 HB2 HR2 HRB
  go_wp2_with fail
  refine (HW.out _).mono ?_
  rintro e w4 ⟨rfl, hb4⟩
  have HB4 := Lib.hid (chain HB3.out hb4)
  clear hb4 HB3
  go_wp2_with fail
  go_ret
  exact ⟨rfl, HB4.out⟩

theorem entT : Op.EntT Try.prog 69 ((match Try.prog.underlying 69 with | some (.struct fs) => fs | _ => #[])) := by
  rw [Try.underlying69]
  exact ⟨Try.underlying69, by kernel_rfl, by kernel_rfl, ⟨_, rfl, Try.underlying9⟩, ⟨_, rfl, Try.underlying2⟩, ⟨_, rfl, Try.underlying4⟩, ⟨_, rfl, Try.underlying9⟩, ⟨_, rfl, Try.underlying2⟩, rfl⟩
theorem bd64 {n : Int} (h : (Lit.int .i64 n).wf = true) : -9223372036854775808 ≤ n ∧ n ≤ 9223372036854775807 := by
  simpa [Lit.wf, IntKind.min, IntKind.max, IntKind.signed, IntKind.bits] using h


theorem own : ownKnob Try.prog.godebug = none := by kernel_rfl
theorem laidOut : laidOutB Try.prog = true := by kernel_rfl

set_option maxRecDepth 100000 in
theorem lifted (os : Os) (started : os.Started) (H : Type) (enc : TypeId × Value → H) :
    ReturnsInHanded {} Try.checked os 3 .any (Rows.tableBuildsSpec.pre6 enc Try.prog Try.f3 Rows.tableBuildsRow.domain false) (Rows.tableBuildsSpec.post enc Try.prog Try.f3 false true false false) := by
  refine returnsInHanded_of_change_sized (C := Try.checked) own started (by kernel_rfl) Try.func3
    (ChangeSpec.witness6 (enc := enc) (C := Try.checked) false ⟨#[], #[.slice none 0 0, .int .i64 0, .int .i64 0], []⟩ 8 (by kernel_rfl) (by kernel_rfl) (by kernel_rfl) (by kernel_rfl)) ?_
  intro W base args ds gs before hval0 hW hcnd hsz0 _
  have hval : ∀ (j : Nat) t v, Try.f3.params[j]? = some t → args[j]? = some v → Value.okWide Try.prog W .any base t v := hval0
  have hsz : (DataW.weightsEach Try.prog (Try.f3.params.toList ++ Rows.tableBuildsSpec.plain.varTypes Try.prog) (ds ++ gs)).all (· ≤ reachBytes) = true := hsz0
  have hW' := hW
  obtain ⟨p, q, hA0, hV, rfl, hfz, hnd⟩ := hW
  have hA : DataW.TrodAll enc Try.prog W 0 (fun _ => true) true Try.f3.params.toList args.toList ds p := hA0
  rw [Try.params3] at hA hval hsz
  obtain ⟨v0, vs0, d0, ds0, p0, q0, hargs, rfl, rfl, h0, r0⟩ := trodAll_cons hA
  obtain ⟨v1, vs1, d1, ds1, p1, q1, rfl, rfl, rfl, h1, r1⟩ := trodAll_cons r0
  obtain ⟨v2, vs2, d2, ds2, p2, q2, rfl, rfl, rfl, h2, r2⟩ := trodAll_cons r1
  obtain ⟨rfl, rfl, rfl⟩ := trodAll_nil r2
  obtain rfl : args = #[v0, v1, v2] := by cases args; simp_all
  obtain ⟨rfl, rfl⟩ := trodVars_none hV
  have k0 := h0
  have lt0 : ∀ x ∈ p0, x.block < W.heap.size := by obtain ⟨m, hm⟩ := k0; exact DataW.trod_lt m _ _ _ hm
  have k1 := h1
  have lt1 : ∀ x ∈ p1, x.block < W.heap.size := by obtain ⟨m, hm⟩ := k1; exact DataW.trod_lt m _ _ _ hm
  have k2 := h2
  have lt2 : ∀ x ∈ p2, x.block < W.heap.size := by obtain ⟨m, hm⟩ := k2; exact DataW.trod_lt m _ _ _ hm
  obtain ⟨a0, n0, cap0, z0, rfl, w0, row0, lc0, cm0, wf0, wt0, bk0⟩ := Op.ents1 entT Try.underlying22 (hval 0 22 v0 rfl rfl) h0
  have wb0 := wt0 reachBytes (fun m hm => of_decide_eq_true (List.all_eq_true.1 hsz _ (DataW.weights_mem_each (j := 0) rfl rfl m hm)))
  have f0 : z0.length = n0 ∧ n0 ≤ cap0 ∧ n0 * 56 ≤ 140737488351232 ∧ (∀ e ∈ z0, En.Fits e) ∧ En.ERow W a0 n0 (fun i => z0.getD i En.ent0) := ⟨w0, lc0, by have h9 := wb0.2; rw [show Try.prog.bytesOf 69 = 56 from by kernel_rfl] at h9; exact h9, fun x hx => by have h9 := wf0 x hx; have h8 := wb0.1 x hx; exact ⟨h8.1, h8.2, (bd64 h9.2.2.1).1, (bd64 h9.2.2.1).2, (bd64 h9.2.2.2).1, (bd64 h9.2.2.2).2⟩, row0⟩
  obtain ⟨a1, rfl, rfl, rfl, w1⟩ := open_int Try.underlying3 (hval 1 3 v1 rfl rfl) h1
  have b1 : -9223372036854775808 ≤ a1 ∧ a1 ≤ 9223372036854775807 := by simpa [Lit.wf, IntKind.min, IntKind.max, IntKind.signed, IntKind.bits] using w1
  obtain ⟨a2, rfl, rfl, rfl, w2⟩ := open_int Try.underlying3 (hval 2 3 v2 rfl rfl) h2
  have b2 : -9223372036854775808 ≤ a2 ∧ a2 ≤ 9223372036854775807 := by simpa [Lit.wf, IntKind.min, IntKind.max, IntKind.signed, IntKind.bits] using w2
  clear hA0 hval0
  refine (walk a0 n0 cap0 z0 a1 a2 W f0 b1 b2).mono fun e W' ⟨he, bel⟩ => ?_
  subst he
  exact ⟨_, rfl, _, _, _, [], _, [], hW', trodAll_mk1 (shut_bool Try.underlying4 _), (trodAll_cons_mk (Below.trod laidOut (by kernel_rfl) (of_decide_eq_true (by kernel_rfl)) k0 bel lt0) (trodAll_cons_mk (Below.trod laidOut (by kernel_rfl) (of_decide_eq_true (by kernel_rfl)) k1 bel lt1) (trodAll_cons_mk (Below.trod laidOut (by kernel_rfl) (of_decide_eq_true (by kernel_rfl)) k2 bel lt2) trodAll_mk0))), rfl, bel.frame _, fun h => by cases h⟩

theorem over : Rows.tableBuildsRow.holds Try.pinned (OpenSpec.ofChange Rows.tableBuildsSpec) :=
  OpenClaim.holds_of_wide 3 Try.f3 rfl rfl rfl rfl rfl rfl rfl ⟨rfl, rfl, rfl, rfl, rfl⟩ rfl rfl rfl rfl rfl (by kernel_rfl) Try.func3 (by kernel_rfl)
    (of_decide_eq_true (by kernel_rfl)) (by unfold Func.isWrapper; first | (rw [if_pos (by decide +kernel)]; kernel_rfl) | (rw [if_neg (by decide +kernel)]; exact ⟨rfl, rfl⟩))
    (fun os started H enc _ => lifted os started H enc)

/-- THE STATEMENT -/
theorem proved : Rows.TableBuildsSaid := over
end Go.Proofs.Ytajfalffpcamhaa.tableBuilds
