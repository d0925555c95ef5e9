/- BloomMakes: every keys have the document's filter, or its error. No condition on the input. -/
import Derived.Test.YtfeaacjacbljfaaBloomW
import Derived.ProofKit
import Derived.OpenShut
import Derived.ShutString
import Derived.ChangeOld
import Derived.Below
import Derived.SizedLaws
import Derived.Test.YtfeaacjacbljfaaOpen
namespace Go.Proofs.Ytfeaacjacbljfaa.bloomMakes
open Go.ChangeShapes Go.WideShapes Go.ChangeAt Go.RowKit
open Go.ChangeMaps (open_string shut_string)
set_option linter.unusedVariables false
open Mp Fp B Fw Mw

set_option maxHeartbeats 400000 in
theorem walk (bits : Int) (a : Option Addr) (n cap : Nat) (ss : List ByteArray) (w : World) (hb : -9223372036854775808 ≤ bits ∧ bits ≤ 9223372036854775807)
    (hz : ss.length = n ∧ n ≤ cap ∧ cap ≤ 9223372036854775807 ∧ (∀ s ∈ ss, s.size ≤ 140737488351232) ∧ Row w a n (fun i => .string (ss.getD i ByteArray.empty))) :
    Calls Try.prog 9 #[.int .i64 bits, .slice a n cap] w fun e w' => e = .returned (.bool true) ∧ Below w.heap.size w w' := by
  obtain ⟨hz, hn, hm, hsz, hrow⟩ := hz
  have hs2 : ∀ s ∈ ss, s.size ≤ 2305843009213693952 := fun s hs => by have := hsz s hs; omega
  have hA := new_any bits a n cap ss hz hn hm hs2
  have hB := rnew_any bits a n cap ss hz hn hm hs2
  generalize mk bits (ss.map fun s => s.data.toList) = m at hA hB
  obtain ⟨f, g⟩ := m
  have HA := Lib.hid hA
  have HB := Lib.hid hB
  have HR := Lib.hid hrow
  clear hA hB hrow hs2 hsz hz
  go_enter Try.func9, Try.ntmps9
  go_wp2_with fail
  refine (HA.out w HR.out).mono ?_
  rintro e w1 ⟨rfl, hb1⟩
  go_wp2_with fail
  refine (HB.out w1 (HR.out.below hb1)).mono ?_
  rintro e w2 ⟨rfl, hb2⟩
  go_wp2_with fail
  refine (wakes_any _).mono ?_
  rintro e w3 ⟨rfl, hb3⟩
  have hbz := chain (chain hb1 hb2) hb3
  go_wp2_with fail
  go_ret
  exact ⟨rfl, hbz⟩

theorem own : ownKnob Try.prog.godebug = none := by kernel_rfl
theorem laidOut : laidOutB Try.prog = true := by kernel_rfl

set_option maxRecDepth 100000 in
theorem lifted (os : Os) (started : os.Started) (H : Type) (enc : TypeId × Value → H) :
    ReturnsInHanded {} Try.checked os 9 .any (Rows.bloomMakesSpec.pre6 enc Try.prog Try.f9 Rows.bloomMakesRow.domain false) (Rows.bloomMakesSpec.post enc Try.prog Try.f9 false true false false) := by
  refine returnsInHanded_of_change_sized (C := Try.checked) own started (by kernel_rfl) Try.func9
    (ChangeSpec.witness6 (enc := enc) (C := Try.checked) false ⟨#[], #[.int .i64 0, .slice none 0 0], []⟩ 8 (by kernel_rfl) (by kernel_rfl) (by kernel_rfl) (by kernel_rfl)) ?_
  intro W base args ds gs before hval0 hW hcnd hsz0 _
  have hval : ∀ (j : Nat) t v, Try.f9.params[j]? = some t → args[j]? = some v → Value.okWide Try.prog W .any base t v := hval0
  have hsz : (DataW.weightsEach Try.prog (Try.f9.params.toList ++ Rows.bloomMakesSpec.plain.varTypes Try.prog) (ds ++ gs)).all (· ≤ reachBytes) = true := hsz0
  have hW' := hW
  obtain ⟨p, q, hA0, hV, rfl, hfz, hnd⟩ := hW
  have hA : DataW.TrodAll enc Try.prog W 0 (fun _ => true) true Try.f9.params.toList args.toList ds p := hA0
  rw [Try.params9] at hA hval hsz
  obtain ⟨v0, vs0, d0, ds0, p0, q0, hargs, rfl, rfl, h0, r0⟩ := trodAll_cons hA
  obtain ⟨v1, vs1, d1, ds1, p1, q1, rfl, rfl, rfl, h1, r1⟩ := trodAll_cons r0
  obtain ⟨rfl, rfl, rfl⟩ := trodAll_nil r1
  obtain rfl : args = #[v0, v1] := by cases args; simp_all
  obtain ⟨rfl, rfl⟩ := trodVars_none hV
  have k0 := h0
  have lt0 : ∀ x ∈ p0, x.block < W.heap.size := by obtain ⟨m, hm⟩ := k0; exact DataW.trod_lt m _ _ _ hm
  have k1 := h1
  have lt1 : ∀ x ∈ p1, x.block < W.heap.size := by obtain ⟨m, hm⟩ := k1; exact DataW.trod_lt m _ _ _ hm
  obtain ⟨a0, rfl, rfl, rfl, w0⟩ := open_int Try.underlying3 (hval 0 3 v0 rfl rfl) h0
  have b0 : -9223372036854775808 ≤ a0 ∧ a0 ≤ 9223372036854775807 := by simpa [Lit.wf, IntKind.min, IntKind.max, IntKind.signed, IntKind.bits] using w0
  obtain ⟨a1, n1, cap1, z1, rfl, w1, row1, lc1, cm1, wt1⟩ := Op.strs2 Try.underlying35 Try.underlying9 (by kernel_rfl) (hval 1 35 v1 rfl rfl) h1
  have f1 : z1.length = n1 ∧ n1 ≤ cap1 ∧ cap1 ≤ 9223372036854775807 ∧ (∀ s ∈ z1, s.size ≤ 140737488351232) ∧ B.Row W a1 n1 (fun i => .string (z1.getD i ByteArray.empty)) := ⟨w1, lc1, by simpa [maxLen] using cm1, fun s hs => (wt1 reachBytes (fun m hm => of_decide_eq_true (List.all_eq_true.1 hsz _ (DataW.weights_mem_each (j := 1) rfl rfl m hm)))).1 s hs, row1⟩
  clear hA0 hval0
  refine (walk a0 a1 n1 cap1 z1 W b0 f1).mono fun e W' ⟨he, bel⟩ => ?_
  subst he
  exact ⟨_, rfl, _, _, _, [], _, [], hW', trodAll_mk1 (shut_bool Try.underlying4 _), (trodAll_cons_mk (Below.trod laidOut (by kernel_rfl) (of_decide_eq_true (by kernel_rfl)) k0 bel lt0) (trodAll_cons_mk (Below.trod laidOut (by kernel_rfl) (of_decide_eq_true (by kernel_rfl)) k1 bel lt1) trodAll_mk0)), rfl, bel.frame _, fun h => by cases h⟩

theorem over : Rows.bloomMakesRow.holds Try.pinned (OpenSpec.ofChange Rows.bloomMakesSpec) :=
  OpenClaim.holds_of_wide 9 Try.f9 rfl rfl rfl rfl rfl rfl rfl ⟨rfl, rfl, rfl, rfl, rfl⟩ rfl rfl rfl rfl rfl (by kernel_rfl) Try.func9 (by kernel_rfl)
    (of_decide_eq_true (by kernel_rfl)) (by unfold Func.isWrapper; first | (rw [if_pos (by decide +kernel)]; kernel_rfl) | (rw [if_neg (by decide +kernel)]; exact ⟨rfl, rfl⟩))
    (fun os started H enc _ => lifted os started H enc)

/-- THE STATEMENT -/
theorem proved : Rows.BloomMakesSaid := over
end Go.Proofs.Ytfeaacjacbljfaa.bloomMakes
