/- FrameAlls: of every bytes the bodies, where they end, and why, are the reference's. Where what the argument holds is of bulk at most 1048576. -/
import Derived.Test.YtfeaacjacbljfaaFrameA
import Derived.Deep.QuietTactic
import Derived.BigQuiet
import Derived.ProofKit
import Derived.OpenShut
import Derived.ShutString
import Derived.ChangeOld
import Derived.Below
import Derived.SizedLaws
import Derived.JoinedCond
import Derived.Deep.CondSized
import Derived.Test.YtfeaacjacbljfaaOpen
namespace Go.Proofs.Ytfeaacjacbljfaa.frameAlls
open Go.ChangeShapes Go.WideShapes Go.ChangeAt Go.RowKit
open Go.ChangeMaps (open_string shut_string)
set_option linter.unusedVariables false
open Fp B Fw

theorem fAll_err (s : ByteArray) : ∀ f a acc, (fAll s f a acc).2.2 ≠ 0
  | 0, _, _ => by simp [fAll]
  | f + 1, a, acc => by
    rw [fAll]
    by_cases h : (getF s a).e ≠ 0
    · rw [if_pos h]; exact h
    · rw [if_neg h]; exact fAll_err s f _ _
theorem fAll_pos (s : ByteArray) : ∀ f a acc, a ≤ s.size → acc.length ≤ a → (fAll s f a acc).2.1 ≤ s.size ∧ (fAll s f a acc).1.length ≤ s.size
  | 0, _, _, h, h2 => by simp only [fAll]; omega
  | f + 1, a, acc, h, h2 => by
    rw [fAll]
    by_cases he : (getF s a).e ≠ 0
    · rw [if_pos he]; simp only; omega
    · rw [if_neg he]
      obtain ⟨k, hk, h3, h4⟩ := getF_step (s := s) (a := a) (by simpa using he)
      rw [hk]
      exact fAll_pos s f _ _ (by simpa using h4) (by simp; omega)

set_option maxHeartbeats 1000000 in
set_option maxRecDepth 100000 in
theorem walk (s : ByteArray) (w : World) (hs : s.size ≤ 1048575) :
    Calls Try.prog 6 #[.string s] w fun e w' => e = .returned (.bool true) ∧ Below w.heap.size w w' := by
  have hne := fAll_err s (s.size + 2) 0 []
  have hpo := fAll_pos s (s.size + 2) 0 [] (by omega) (by simp)
  have H1 := Lib.hid (all_any s (by omega))
  have H2 := Lib.hid (rall_any s (by omega))
  rw [show fAll s (s.size + 2) 0 [] = allF s from rfl] at hne hpo
  generalize allF s = r at hne hpo H1 H2
  obtain ⟨l, k, er⟩ := r
  simp only at hne hpo
  obtain ⟨hk, hl⟩ := hpo
  have hnb : (er != 0) = true := nt hne
  clear hne
  go_enter Try.func6, Try.ntmps6
  go_wp2_with fail
  refine (H1.out _).mono ?_
  rintro e w1 ⟨a1, c1, rfl, hr1, hb1⟩
  simp only at hr1
  go_wp2_with fail
  refine (H2.out _).mono ?_
  rintro e w2 ⟨a2, c2, rfl, hr2, hb2⟩
  simp only at hr2
  have HR1 := Lib.hid (hr1.below hb2)
  have HR2 := Lib.hid hr2
  have hb3 := chain hb1 hb2
  clear hr1 hr2 hb1 hb2
  go_wp2_with fail
  go_loopw [39] (fun i wr => ∃ j : Nat, i = .int .i64 j ∧ j ≤ l.length ∧ Below w2.heap.size w2 wr) (fun i _ => l.length - (intOf i).toNat)
  case atStart => exact ⟨0, rfl, by omega, Below.refl _ _⟩
  case round =>
    obtain ⟨j, rfl, hj, hbel⟩ := hrel
    by_cases hlt : j < l.length
    · obtain ⟨b, off, rfl, hbw, hc⟩ := (HR1.out.below hbel).at (by omega)
      obtain ⟨b', off', rfl, hbw', hc'⟩ := (HR2.out.below hbel).at (by omega)
      have hck := hc j hlt
      have hck' := hc' j hlt
      have hjn : (j : Int) < (l.length : Int) := by omega
      obtain ⟨z, hzd⟩ : ∃ z, z = l.getD j ByteArray.empty := ⟨_, rfl⟩
      rw [← hzd] at hck hck'
      clear hc hc' hzd
      go_wp2_with fail
      go_quiet (fail)
      have hb13 := drewN (n := nq) hbel
      go_wp2_with fail
      go_roundw
      case rel => exact ⟨j + 1, by go_num, by omega, hb13⟩
      case measure => simp [intOf]; omega
    · go_wp2_with fail
      go_ret
      exact ⟨rfl, chain hb3 hbel⟩

theorem own : ownKnob Try.prog.godebug = none := by kernel_rfl
theorem laidOut : laidOutB Try.prog = true := by kernel_rfl

set_option maxRecDepth 100000 in
theorem lifted (os : Os) (started : os.Started) (H : Type) (enc : TypeId × Value → H) (FI : Stop.Interp) :
    ReturnsInHanded {} Try.checked os 6 .any ((Rows.OpenSpec.upto Rows.frameAllsSpec).pre6 enc Try.prog Try.f6 Rows.frameAllsUptoRow.domain false) (((Rows.OpenSpec.upto Rows.frameAllsSpec).at FI).post enc Try.prog Try.f6 false true false false) := by
  refine returnsInHanded_of_cond_sized (C := Try.checked) (s := Rows.OpenSpec.upto Rows.frameAllsSpec) (k := Rows.uptoSmall) rfl own started (by kernel_rfl) Try.func6
    (OpenSpec.witness (enc := enc) (C := Try.checked) (s := Rows.OpenSpec.upto Rows.frameAllsSpec) (k := Rows.uptoSmall) rfl false ⟨#[], #[.string ByteArray.empty], []⟩ 8 (by kernel_rfl) (by kernel_rfl) (by kernel_rfl)
      (x := ([.lit (.string [])], [], [])) (by kernel_rfl) rfl (by kernel_rfl)) ?_
  intro W base args ds gs before hval0 hW hcnd hk hsz0 _
  have hval : ∀ (j : Nat) t v, Try.f6.params[j]? = some t → args[j]? = some v → Value.okWide Try.prog W .any base t v := hval0
  have hsz : (DataW.weightsEach Try.prog (Try.f6.params.toList ++ (Rows.OpenSpec.upto Rows.frameAllsSpec).bare.plain.varTypes Try.prog) (ds ++ gs)).all (· ≤ reachBytes) = true := hsz0
  have hW' := hW
  obtain ⟨p, q, hA0, hV, rfl, hfz, hnd⟩ := hW
  have hA : DataW.TrodAll enc Try.prog W 0 (fun _ => true) true Try.f6.params.toList args.toList ds p := hA0
  rw [Try.params6] at hA hval hsz
  obtain ⟨v0, vs0, d0, ds0, p0, q0, hargs, rfl, rfl, h0, r0⟩ := trodAll_cons hA
  obtain ⟨rfl, rfl, rfl⟩ := trodAll_nil r0
  obtain rfl : args = #[v0] := by cases args; simp_all
  obtain ⟨rfl, rfl⟩ := trodVars_none hV
  have k0 := h0
  have lt0 : ∀ x ∈ p0, x.block < W.heap.size := by obtain ⟨m, hm⟩ := k0; exact DataW.trod_lt m _ _ _ hm
  have u0 : Rows.uptoBulk d0 ≤ 1048576 := Nat.le_trans (Op.part_le (by simp)) (of_decide_eq_true hk)
  obtain ⟨a0, rfl, w0⟩ := Op.str1 Try.underlying9 (hval 0 9 v0 rfl rfl) h0
  have f0 : a0.size ≤ 1048575 := by omega
  clear hA0 hval0
  refine (walk a0 W f0).mono fun e W' ⟨he, bel⟩ => ?_
  subst he
  exact ⟨_, rfl, _, _, _, [], _, [], hW', trodAll_mk1 (shut_bool Try.underlying4 _), (trodAll_cons_mk (Below.trod laidOut (by kernel_rfl) (of_decide_eq_true (by kernel_rfl)) k0 bel lt0) trodAll_mk0), rfl, bel.frame _, fun h => by cases h⟩

theorem over : Rows.frameAllsUptoRow.holds Try.pinned (Rows.OpenSpec.upto Rows.frameAllsSpec) :=
  OpenClaim.holds_of_cond 6 Try.f6 rfl rfl rfl rfl rfl rfl rfl ⟨rfl, rfl, rfl, rfl, rfl⟩ rfl rfl rfl rfl rfl (by kernel_rfl) Try.func6 (by kernel_rfl)
    (of_decide_eq_true (by kernel_rfl)) (by unfold Func.isWrapper; first | (rw [if_pos (by decide +kernel)]; kernel_rfl) | (rw [if_neg (by decide +kernel)]; exact ⟨rfl, rfl⟩))
    (fun os started H enc _ F => lifted os started H enc F)

/-- THE STATEMENT -/
theorem proved : Rows.FrameAllsUptoSaid := over
end Go.Proofs.Ytfeaacjacbljfaa.frameAlls
