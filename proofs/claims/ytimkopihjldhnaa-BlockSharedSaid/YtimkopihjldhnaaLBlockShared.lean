/- BlockShared: telling keys by what they share never takes more bytes than telling each whole. No condition on the input. -/
import Derived.Test.YtimkopihjldhnaaBlockK
import Derived.Test.YtimkopihjldhnaaBlockS
import Derived.ProofKit
import Derived.OpenShut
import Derived.ShutString
import Derived.ChangeOld
import Derived.Below
import Derived.SizedLaws
import Derived.Test.YtimkopihjldhnaaOpen
import Derived.Test.YtimkopihjldhnaaOpenE
namespace Go.Proofs.Ytimkopihjldhnaa.blockShared
open Go.ChangeShapes Go.WideShapes Go.ChangeAt Go.RowKit
open Go.ChangeMaps (open_string shut_string)
set_option linter.unusedVariables false
open En Ew B

set_option maxHeartbeats 800000 in
theorem walk (a : Option Addr) (n cap : Nat) (l : List Ent) (every : Int) (w : World) (hz : l.length = n ∧ n ≤ cap ∧ n * 56 ≤ 140737488351232 ∧ (∀ e ∈ l, Fits e) ∧ ERow w a n (fun i => l.getD i ent0)) (_ : -9223372036854775808 ≤ every ∧ every ≤ 9223372036854775807) :
    Calls Try.prog 5 #[.slice a n cap, .int .i64 every] w fun e w' => e = .returned (.bool true) ∧ Below w.heap.size w w' := by
  obtain ⟨hl, hn, hm, hf, hrow⟩ := hz
  have HLS := Lib.hid (lists_any a n cap l hl hm w hrow)
  have HA := Lib.hid (fun a1 c1 h1 h2 W hr => build_any a1 n c1 l every hl h1 h2 hf W hr)
  have HB := Lib.hid (fun a1 c1 h1 h2 W hr => build_any a1 n c1 l 1 hl h1 h2 hf W hr)
  have hsh := build_short l every
  generalize buildE l every = r at HA hsh
  generalize buildE l 1 = r2 at HB hsh
  obtain ⟨s, g⟩ := r
  obtain ⟨s2, g2⟩ := r2
  simp only at hsh
  have HSH := Lib.hid hsh
  have HL := Lib.hid hl
  clear hl hf hrow hsh
  go_enter Try.func5, Try.ntmps5
  go_wp2_with fail
  refine HLS.out.mono ?_
  unfold GotL
  rw [HL.out]
  rintro e w1 ⟨a1, c1, a2, c2, rfl, ho1, _, hb1⟩
  have R1 := Lib.hid (own_erow ho1).2.2
  have z1 := own_cap ho1
  obtain ⟨_, _, ev1, y1⟩ := own_form ho1
  cases ev1
  clear ho1
  go_wp2_with fail
  refine (HA.out _ _ y1 z1 _ R1.out).mono ?_
  rintro e w2 ⟨rfl, hb2⟩
  go_wp2_with fail
  refine (HB.out _ _ y1 z1 _ (R1.out.below hb2)).mono ?_
  rintro e w3 ⟨rfl, hb3⟩
  have hbz3 := chain (chain hb1 hb2) hb3
  clear hb1 hb2 hb3 z1 y1
  by_cases hg : g = 0
  · have e1 : (g != 0) = false := nf hg
    by_cases hg2 : g2 = 0
    · have e2 : (g2 != 0) = false := nf hg2
      have hs := HSH.out hg hg2
      have e3 : decide (s.size ≤ s2.size) = true := dt hs
      have e4 : decide ((s.size : Int) ≤ (s2.size : Int)) = true := dt (by omega)
      clear hg hg2 hs
      go_wp2_with fail
      refine (wakes10_any _).mono ?_
      rintro e w4 ⟨rfl, hb4⟩
      have hbz := chain hbz3 hb4
      go_wp2_with fail
      go_ret
      exact ⟨rfl, hbz⟩
    · have e2 : (g2 != 0) = true := nt hg2
      clear hg hg2
      go_wp2_with fail
      refine (wakes10_any _).mono ?_
      rintro e w4 ⟨rfl, hb4⟩
      have hbz := chain hbz3 hb4
      go_wp2_with fail
      refine (wakes10_any _).mono ?_
      rintro e w5 ⟨rfl, hb5⟩
      have hbz5 := chain hbz hb5
      go_wp2_with fail
      go_ret
      exact ⟨rfl, hbz5⟩
  · have e1 : (g != 0) = true := nt hg
    clear hg
    go_wp2_with fail
    refine (wakes10_any _).mono ?_
    rintro e w4 ⟨rfl, hb4⟩
    have hbz := chain hbz3 hb4
    go_wp2_with fail
    refine (wakes10_any _).mono ?_
    rintro e w5 ⟨rfl, hb5⟩
    have hbz5 := chain hbz hb5
    go_wp2_with fail
    go_ret
    exact ⟨rfl, hbz5⟩

theorem entT : Op.EntT Try.prog 57 ((match Try.prog.underlying 57 with | some (.struct fs) => fs | _ => #[])) := by
  rw [Try.underlying57]
  exact ⟨Try.underlying57, by kernel_rfl, by kernel_rfl, ⟨_, rfl, Try.underlying9⟩, ⟨_, rfl, Try.underlying2⟩, ⟨_, rfl, Try.underlying4⟩, ⟨_, rfl, Try.underlying9⟩, ⟨_, rfl, Try.underlying2⟩, rfl⟩
theorem bd64 {n : Int} (h : (Lit.int .i64 n).wf = true) : -9223372036854775808 ≤ n ∧ n ≤ 9223372036854775807 := by
  simpa [Lit.wf, IntKind.min, IntKind.max, IntKind.signed, IntKind.bits] using h


theorem own : ownKnob Try.prog.godebug = none := by kernel_rfl
theorem laidOut : laidOutB Try.prog = true := by kernel_rfl

set_option maxRecDepth 100000 in
theorem lifted (os : Os) (started : os.Started) (H : Type) (enc : TypeId × Value → H) :
    ReturnsInHanded {} Try.checked os 5 .any (Rows.blockSharedSpec.pre6 enc Try.prog Try.f5 Rows.blockSharedRow.domain false) (Rows.blockSharedSpec.post enc Try.prog Try.f5 false true false false) := by
  refine returnsInHanded_of_change_sized (C := Try.checked) own started (by kernel_rfl) Try.func5
    (ChangeSpec.witness6 (enc := enc) (C := Try.checked) false ⟨#[], #[.slice none 0 0, .int .i64 0], []⟩ 8 (by kernel_rfl) (by kernel_rfl) (by kernel_rfl) (by kernel_rfl)) ?_
  intro W base args ds gs before hval0 hW hcnd hsz0 _
  have hval : ∀ (j : Nat) t v, Try.f5.params[j]? = some t → args[j]? = some v → Value.okWide Try.prog W .any base t v := hval0
  have hsz : (DataW.weightsEach Try.prog (Try.f5.params.toList ++ Rows.blockSharedSpec.plain.varTypes Try.prog) (ds ++ gs)).all (· ≤ reachBytes) = true := hsz0
  have hW' := hW
  obtain ⟨p, q, hA0, hV, rfl, hfz, hnd⟩ := hW
  have hA : DataW.TrodAll enc Try.prog W 0 (fun _ => true) true Try.f5.params.toList args.toList ds p := hA0
  rw [Try.params5] at hA hval hsz
  obtain ⟨v0, vs0, d0, ds0, p0, q0, hargs, rfl, rfl, h0, r0⟩ := trodAll_cons hA
  obtain ⟨v1, vs1, d1, ds1, p1, q1, rfl, rfl, rfl, h1, r1⟩ := trodAll_cons r0
  obtain ⟨rfl, rfl, rfl⟩ := trodAll_nil r1
  obtain rfl : args = #[v0, v1] := by cases args; simp_all
  obtain ⟨rfl, rfl⟩ := trodVars_none hV
  have k0 := h0
  have lt0 : ∀ x ∈ p0, x.block < W.heap.size := by obtain ⟨m, hm⟩ := k0; exact DataW.trod_lt m _ _ _ hm
  have k1 := h1
  have lt1 : ∀ x ∈ p1, x.block < W.heap.size := by obtain ⟨m, hm⟩ := k1; exact DataW.trod_lt m _ _ _ hm
  obtain ⟨a0, n0, cap0, z0, rfl, w0, row0, lc0, cm0, wf0, wt0, bk0⟩ := Op.ents1 entT Try.underlying22 (hval 0 22 v0 rfl rfl) h0
  have wb0 := wt0 reachBytes (fun m hm => of_decide_eq_true (List.all_eq_true.1 hsz _ (DataW.weights_mem_each (j := 0) rfl rfl m hm)))
  have f0 : z0.length = n0 ∧ n0 ≤ cap0 ∧ n0 * 56 ≤ 140737488351232 ∧ (∀ e ∈ z0, En.Fits e) ∧ En.ERow W a0 n0 (fun i => z0.getD i En.ent0) := ⟨w0, lc0, by have h9 := wb0.2; rw [show Try.prog.bytesOf 57 = 56 from by kernel_rfl] at h9; exact h9, fun x hx => by have h9 := wf0 x hx; have h8 := wb0.1 x hx; exact ⟨h8.1, h8.2, (bd64 h9.2.2.1).1, (bd64 h9.2.2.1).2, (bd64 h9.2.2.2).1, (bd64 h9.2.2.2).2⟩, row0⟩
  obtain ⟨a1, rfl, rfl, rfl, w1⟩ := open_int Try.underlying3 (hval 1 3 v1 rfl rfl) h1
  have b1 : -9223372036854775808 ≤ a1 ∧ a1 ≤ 9223372036854775807 := by simpa [Lit.wf, IntKind.min, IntKind.max, IntKind.signed, IntKind.bits] using w1
  clear hA0 hval0
  refine (walk a0 n0 cap0 z0 a1 W f0 b1).mono fun e W' ⟨he, bel⟩ => ?_
  subst he
  exact ⟨_, rfl, _, _, _, [], _, [], hW', trodAll_mk1 (shut_bool Try.underlying4 _), (trodAll_cons_mk (Below.trod laidOut (by kernel_rfl) (of_decide_eq_true (by kernel_rfl)) k0 bel lt0) (trodAll_cons_mk (Below.trod laidOut (by kernel_rfl) (of_decide_eq_true (by kernel_rfl)) k1 bel lt1) trodAll_mk0)), rfl, bel.frame _, fun h => by cases h⟩

theorem over : Rows.blockSharedRow.holds Try.pinned (OpenSpec.ofChange Rows.blockSharedSpec) :=
  OpenClaim.holds_of_wide 5 Try.f5 rfl rfl rfl rfl rfl rfl rfl ⟨rfl, rfl, rfl, rfl, rfl⟩ rfl rfl rfl rfl rfl (by kernel_rfl) Try.func5 (by kernel_rfl)
    (of_decide_eq_true (by kernel_rfl)) (by unfold Func.isWrapper; first | (rw [if_pos (by decide +kernel)]; kernel_rfl) | (rw [if_neg (by decide +kernel)]; exact ⟨rfl, rfl⟩))
    (fun os started H enc _ => lifted os started H enc)

/-- THE STATEMENT -/
theorem proved : Rows.BlockSharedSaid := over
end Go.Proofs.Ytimkopihjldhnaa.blockShared
