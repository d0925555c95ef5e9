/- BlockParses: every bytes are the document's entries, or its error. No condition on the input. -/
import Derived.Test.YtimkopihjldhnaaBlockK
import Derived.Test.YtimkopihjldhnaaParseE
import Derived.Test.YtimkopihjldhnaaParseT
import Derived.Test.YtimkopihjldhnaaParseM
import Derived.Test.YtimkopihjldhnaaEqE
import Derived.ProofKit
import Derived.OpenShut
import Derived.ShutString
import Derived.ChangeOld
import Derived.Below
import Derived.SizedLaws
namespace Go.Proofs.Ytimkopihjldhnaa.blockParses
open Go.ChangeShapes Go.WideShapes Go.ChangeAt Go.RowKit
open Go.ChangeMaps (open_string shut_string)
set_option linter.unusedVariables false
open En Ew B

set_option maxHeartbeats 800000 in
theorem walk (s : ByteArray) (hs : s.size ≤ 140737488351232) (w : World) :
    Calls Try.prog 6 #[.string s] w fun e w' => e = .returned (.bool true) ∧ Below w.heap.size w w' := by
  have HA := Lib.hid (fun W : World => parse_any s (by omega) W)
  have HB := Lib.hid (fun W : World => rparse_any s (by omega) W)
  have hll := parse_len s
  generalize parseE s = r at HA HB hll
  obtain ⟨l, g⟩ := r
  simp only at hll
  go_enter Try.func6, Try.ntmps6
  go_wp2_with fail
  refine (HA.out _).mono ?_
  rintro e w1 ⟨a1, c1, rfl, ho1, hb1⟩
  simp only at ho1
  have R1 := Lib.hid (own_erow ho1).2.2
  clear ho1
  go_wp2_with fail
  refine (HB.out _).mono ?_
  rintro e w2 ⟨a2, c2, rfl, ho2, hb2⟩
  simp only at ho2
  have R2 := Lib.hid (own_erow ho2).2.2
  clear ho2
  go_wp2_with fail
  refine (wakes10_any _).mono ?_
  rintro e w3 ⟨rfl, hb3⟩
  have HB3 := Lib.hid (chain (chain hb1 hb2) hb3)
  have RA := Lib.hid ((R1.out.below hb2).below hb3)
  have RB := Lib.hid (R2.out.below hb3)
  go_wp2_with fail
  go_loopw [34] (fun i wr => ∃ j q : Nat, i = .int .i64 j ∧ j ≤ l.length ∧ wr = w3.drewN q) (fun i _ => l.length - (intOf i).toNat)
  case atStart => exact ⟨0, 0, rfl, by omega, rfl⟩
  case round =>
    obtain ⟨j, mq, rfl, hj, rfl⟩ := hrel
    by_cases hlt : j < l.length
    · obtain ⟨b1, o1, rfl, _, hc1⟩ := RA.out.at (by omega)
      obtain ⟨b2, o2, rfl, _, hc2⟩ := RB.out.at (by omega)
      have hd1 := hc1 j hlt
      have hd2 := hc2 j hlt
      generalize l.getD j ent0 = x at hd1 hd2
      obtain ⟨k, q, g, v, u⟩ := x
      simp only at hd1 hd2
      obtain ⟨p0, p1, p2, p3, p4⟩ := hd1
      obtain ⟨q0, q1, q2, q3, q4⟩ := hd2
      have i1 : (0 : Int) ≤ (j : Int) := by omega
      have i2 : (j : Int) < (l.length : Int) := by omega
      have hne1 : ∀ W : World, (binOp .neq 44 (.agg #[.string k, .int .i64 q, .bool g, .string v, .int .i64 u]) (.agg #[.string k, .int .i64 q, .bool g, .string v, .int .i64 u])).run Try.prog W = .ok (.bool false) W := fun W => by rw [neq_ref, eqE_refl]; rfl
      clear hc1 hc2
      go_wp2_with fail
      go_quiet (fail)
      go_wp2_with fail
      go_roundw
      case rel => exact ⟨j + 1, mq + _, by go_num, by omega, rfl⟩
      case measure => simp [intOf]; omega
    · go_wp2_with fail
      go_ret
      exact ⟨rfl, drewN HB3.out⟩

theorem own : ownKnob Try.prog.godebug = none := by kernel_rfl
theorem laidOut : laidOutB Try.prog = true := by kernel_rfl

set_option maxRecDepth 100000 in
theorem lifted (os : Os) (started : os.Started) (H : Type) (enc : TypeId × Value → H) :
    ReturnsInHanded {} Try.checked os 6 .any (Rows.blockParsesSpec.pre6 enc Try.prog Try.f6 Rows.blockParsesRow.domain false) (Rows.blockParsesSpec.post enc Try.prog Try.f6 false true false false) := by
  refine returnsInHanded_of_change_sized (C := Try.checked) own started (by kernel_rfl) Try.func6
    (ChangeSpec.witness6 (enc := enc) (C := Try.checked) false ⟨#[], #[.string ByteArray.empty], []⟩ 8 (by kernel_rfl) (by kernel_rfl) (by kernel_rfl) (by kernel_rfl)) ?_
  intro W base args ds gs before hval0 hW hcnd hsz0 _
  have hval : ∀ (j : Nat) t v, Try.f6.params[j]? = some t → args[j]? = some v → Value.okWide Try.prog W .any base t v := hval0
  have hsz : (DataW.weightsEach Try.prog (Try.f6.params.toList ++ Rows.blockParsesSpec.plain.varTypes Try.prog) (ds ++ gs)).all (· ≤ reachBytes) = true := hsz0
  have hW' := hW
  obtain ⟨p, q, hA0, hV, rfl, hfz, hnd⟩ := hW
  have hA : DataW.TrodAll enc Try.prog W 0 (fun _ => true) true Try.f6.params.toList args.toList ds p := hA0
  rw [Try.params6] at hA hval hsz
  obtain ⟨v0, vs0, d0, ds0, p0, q0, hargs, rfl, rfl, h0, r0⟩ := trodAll_cons hA
  obtain ⟨rfl, rfl, rfl⟩ := trodAll_nil r0
  obtain rfl : args = #[v0] := by cases args; simp_all
  obtain ⟨rfl, rfl⟩ := trodVars_none hV
  have k0 := h0
  have lt0 : ∀ x ∈ p0, x.block < W.heap.size := by obtain ⟨m, hm⟩ := k0; exact DataW.trod_lt m _ _ _ hm
  obtain ⟨a0, rfl, rfl, rfl, w0⟩ := open_string Try.underlying9 (hval 0 9 v0 rfl rfl) h0
  have b0 : a0.size ≤ 140737488351232 := by have := sized_string hsz (j := 0) rfl rfl; simpa [reachBytes] using this
  clear hA0 hval0
  refine (walk a0 b0 W).mono fun e W' ⟨he, bel⟩ => ?_
  subst he
  exact ⟨_, rfl, _, _, _, [], _, [], hW', trodAll_mk1 (shut_bool Try.underlying4 _), (trodAll_cons_mk (Below.trod laidOut (by kernel_rfl) (of_decide_eq_true (by kernel_rfl)) k0 bel lt0) trodAll_mk0), rfl, bel.frame _, fun h => by cases h⟩

theorem over : Rows.blockParsesRow.holds Try.pinned (OpenSpec.ofChange Rows.blockParsesSpec) :=
  OpenClaim.holds_of_wide 6 Try.f6 rfl rfl rfl rfl rfl rfl rfl ⟨rfl, rfl, rfl, rfl, rfl⟩ rfl rfl rfl rfl rfl (by kernel_rfl) Try.func6 (by kernel_rfl)
    (of_decide_eq_true (by kernel_rfl)) (by unfold Func.isWrapper; first | (rw [if_pos (by decide +kernel)]; kernel_rfl) | (rw [if_neg (by decide +kernel)]; exact ⟨rfl, rfl⟩))
    (fun os started H enc _ => lifted os started H enc)

/-- THE STATEMENT -/
theorem proved : Rows.BlockParsesSaid := over
end Go.Proofs.Ytimkopihjldhnaa.blockParses
