/- BlockEvery: how often keys are told whole makes no difference to what is read. No condition on the input. -/
import Derived.Test.YtimkopihjldhnaaBlockK
import Derived.Test.YtimkopihjldhnaaParseE
import Derived.Test.YtimkopihjldhnaaParseM
import Derived.Test.YtimkopihjldhnaaEqE
import Derived.ProofKit
import Derived.OpenShut
import Derived.ShutString
import Derived.ChangeOld
import Derived.Below
import Derived.SizedLaws
import Derived.Test.YtimkopihjldhnaaOpen
import Derived.Test.YtimkopihjldhnaaOpenE
namespace Go.Proofs.Ytimkopihjldhnaa.blockEvery
open Go.ChangeShapes Go.WideShapes Go.ChangeAt Go.RowKit
open Go.ChangeMaps (open_string shut_string)
set_option linter.unusedVariables false
open En Ew B

set_option maxHeartbeats 800000 in
theorem walk (a : Option Addr) (n cap : Nat) (l : List Ent) (one two : Int) (w : World) (hz : l.length = n ∧ n ≤ cap ∧ n * 56 ≤ 140737488351232 ∧ (∀ e ∈ l, Fits e) ∧ ERow w a n (fun i => l.getD i ent0)) (h1 : -9223372036854775808 ≤ one ∧ one ≤ 9223372036854775807) (h2 : -9223372036854775808 ≤ two ∧ two ≤ 9223372036854775807) :
    Calls Try.prog 7 #[.slice a n cap, .int .i64 one, .int .i64 two] w fun e w' => e = .returned (.bool true) ∧ Below w.heap.size w w' := by
  obtain ⟨hl, hn, hm, hf, hrow⟩ := hz
  have HLS := Lib.hid (lists_any a n cap l hl hm w hrow)
  have HL := Lib.hid hl
  obtain ⟨x, hx⟩ : ∃ x, x = 1 + max 0 one % 64 := ⟨_, rfl⟩
  obtain ⟨y, hy⟩ : ∃ y, y = 1 + max 0 two % 64 := ⟨_, rfl⟩
  have HXX := Lib.hid hx
  have HYY := Lib.hid hy
  have HA := Lib.hid (fun a1 c1 h1 h2 W hr => build_any a1 n c1 l x hl h1 h2 hf W hr)
  have HB := Lib.hid (fun a1 c1 h1 h2 W hr => build_any a1 n c1 l y hl h1 h2 hf W hr)
  have hee := build_err l (x := x) (y := y) (by omega) (by omega)
  have hpx := @build_parse l x
  have hpy := @build_parse l y
  generalize buildE l x = r at HA hee hpx
  generalize buildE l y = r2 at HB hee hpy
  obtain ⟨s, g⟩ := r
  obtain ⟨s2, g2⟩ := r2
  simp only at hee hpx hpy HA HB
  subst hee
  have HPX := Lib.hid (fun h => hpx h hf)
  have HPY := Lib.hid (fun h => hpy h hf)
  rw [HXX.out] at HA
  rw [HYY.out] at HB
  clear hpx hpy hx hy hl hf hrow
  go_enter Try.func7, Try.ntmps7
  go_wp2_with fail
  refine HLS.out.mono ?_
  unfold GotL
  rw [HL.out]
  rintro e w1 ⟨a1, c1, a2, c2, rfl, ho1, _, hb1⟩
  have R1 := Lib.hid (own_erow ho1).2.2
  have z1 := cap_own ho1
  obtain ⟨_, _, ev1, y1⟩ := own_form ho1
  cases ev1
  clear ho1
  go_wp2_with fail
  refine (HA.out _ _ y1 z1.2 _ R1.out).mono ?_
  rintro e w2 ⟨rfl, hb2⟩
  go_wp2_with fail
  refine (HB.out _ _ y1 z1.2 _ (R1.out.below hb2)).mono ?_
  rintro e w3 ⟨rfl, hb3⟩
  have hbz3 := chain (chain hb1 hb2) hb3
  clear hb1 hb2 hb3 z1 y1
  by_cases hg : g = 0
  case neg =>
    have e1 : (g != 0) = true := nt hg
    clear hg
    go_wp2_with fail
    refine (wakes10_any _).mono ?_
    rintro e w4 ⟨rfl, hb4⟩
    have hbz := chain hbz3 hb4
    go_wp2_with fail
    refine (wakes10_any _).mono ?_
    rintro e w5 ⟨rfl, hb5⟩
    have hbz5 := chain hbz hb5
    go_wp2_with fail
    go_ret
    exact ⟨rfl, hbz5⟩
  case pos =>
  subst hg
  obtain ⟨px, sx, _, hl4⟩ := HPX.out rfl
  obtain ⟨py, sy, _, _⟩ := HPY.out rfl
  have HP := Lib.hid (fun W : World => parse_any s (by omega) W)
  have HQ := Lib.hid (fun W : World => parse_any s2 (by omega) W)
  rw [px] at HP
  rw [py] at HQ
  rw [HL.out] at hl4
  clear px py
  go_wp2_with fail
  refine (wakes10_any _).mono ?_
  rintro e w4 ⟨rfl, hb4⟩
  have hbz4 := chain hbz3 hb4
  clear hb4 hbz3
  go_wp2_with fail
  refine (HP.out _).mono ?_
  rintro e w5 ⟨p1, d1, rfl, ho1, hb5⟩
  simp only at ho1
  have R1 := Lib.hid (own_erow ho1).2.2
  have hbz5 := chain hbz4 hb5
  clear ho1 hb5 hbz4
  go_wp2_with fail
  refine (HQ.out _).mono ?_
  rintro e w6 ⟨p2, d2, rfl, ho2, hb6⟩
  simp only at ho2
  have RB := Lib.hid (own_erow ho2).2.2
  have RA := Lib.hid (R1.out.below hb6)
  have HB3 := Lib.hid (chain hbz5 hb6)
  clear ho2 hb6 hbz5 R1
  rw [HL.out] at RA RB
  have hln := HL.out
  go_wp2_with fail
  go_loopw [83] (fun i wr => ∃ j q : Nat, i = .int .i64 j ∧ j ≤ n ∧ wr = w6.drewN q) (fun i _ => n - (intOf i).toNat)
  case atStart => exact ⟨0, 0, rfl, by omega, rfl⟩
  case round =>
    obtain ⟨j, mq, rfl, hj, rfl⟩ := hrel
    by_cases hlt : j < n
    · obtain ⟨b1, o1, rfl, _, hc1⟩ := RA.out.at (by omega)
      obtain ⟨b2, o2, rfl, _, hc2⟩ := RB.out.at (by omega)
      have hd1 := hc1 j hlt
      have hd2 := hc2 j hlt
      generalize l.getD j ent0 = x at hd1 hd2
      obtain ⟨k, q, g, v, u⟩ := x
      simp only at hd1 hd2
      obtain ⟨p0, p1, p2, p3, p4⟩ := hd1
      obtain ⟨q0, q1, q2, q3, q4⟩ := hd2
      have i1 : (0 : Int) ≤ (j : Int) := by omega
      have i2 : (j : Int) < (n : Int) := by omega
      have hne1 : ∀ W : World, (binOp .neq 45 (.agg #[.string k, .int .i64 q, .bool g, .string v, .int .i64 u]) (.agg #[.string k, .int .i64 q, .bool g, .string v, .int .i64 u])).run Try.prog W = .ok (.bool false) W := fun W => by rw [neq_api, eqE_refl]; rfl
      clear hc1 hc2
      go_wp2_with fail
      go_quiet (fail)
      go_wp2_with fail
      go_roundw
      case rel => exact ⟨j + 1, mq + _, by go_num, by omega, rfl⟩
      case measure => simp [intOf]; omega
    · go_wp2_with fail
      go_ret
      exact ⟨rfl, drewN HB3.out⟩

theorem entT : Op.EntT Try.prog 57 ((match Try.prog.underlying 57 with | some (.struct fs) => fs | _ => #[])) := by
  rw [Try.underlying57]
  exact ⟨Try.underlying57, by kernel_rfl, by kernel_rfl, ⟨_, rfl, Try.underlying9⟩, ⟨_, rfl, Try.underlying2⟩, ⟨_, rfl, Try.underlying4⟩, ⟨_, rfl, Try.underlying9⟩, ⟨_, rfl, Try.underlying2⟩, rfl⟩
theorem bd64 {n : Int} (h : (Lit.int .i64 n).wf = true) : -9223372036854775808 ≤ n ∧ n ≤ 9223372036854775807 := by
  simpa [Lit.wf, IntKind.min, IntKind.max, IntKind.signed, IntKind.bits] using h


theorem own : ownKnob Try.prog.godebug = none := by kernel_rfl
theorem laidOut : laidOutB Try.prog = true := by kernel_rfl

set_option maxRecDepth 100000 in
theorem lifted (os : Os) (started : os.Started) (H : Type) (enc : TypeId × Value → H) :
    ReturnsInHanded {} Try.checked os 7 .any (Rows.blockEverySpec.pre6 enc Try.prog Try.f7 Rows.blockEveryRow.domain false) (Rows.blockEverySpec.post enc Try.prog Try.f7 false true false false) := by
  refine returnsInHanded_of_change_sized (C := Try.checked) own started (by kernel_rfl) Try.func7
    (ChangeSpec.witness6 (enc := enc) (C := Try.checked) false ⟨#[], #[.slice none 0 0, .int .i64 0, .int .i64 0], []⟩ 8 (by kernel_rfl) (by kernel_rfl) (by kernel_rfl) (by kernel_rfl)) ?_
  intro W base args ds gs before hval0 hW hcnd hsz0 _
  have hval : ∀ (j : Nat) t v, Try.f7.params[j]? = some t → args[j]? = some v → Value.okWide Try.prog W .any base t v := hval0
  have hsz : (DataW.weightsEach Try.prog (Try.f7.params.toList ++ Rows.blockEverySpec.plain.varTypes Try.prog) (ds ++ gs)).all (· ≤ reachBytes) = true := hsz0
  have hW' := hW
  obtain ⟨p, q, hA0, hV, rfl, hfz, hnd⟩ := hW
  have hA : DataW.TrodAll enc Try.prog W 0 (fun _ => true) true Try.f7.params.toList args.toList ds p := hA0
  rw [Try.params7] at hA hval hsz
  obtain ⟨v0, vs0, d0, ds0, p0, q0, hargs, rfl, rfl, h0, r0⟩ := trodAll_cons hA
  obtain ⟨v1, vs1, d1, ds1, p1, q1, rfl, rfl, rfl, h1, r1⟩ := trodAll_cons r0
  obtain ⟨v2, vs2, d2, ds2, p2, q2, rfl, rfl, rfl, h2, r2⟩ := trodAll_cons r1
  obtain ⟨rfl, rfl, rfl⟩ := trodAll_nil r2
  obtain rfl : args = #[v0, v1, v2] := by cases args; simp_all
  obtain ⟨rfl, rfl⟩ := trodVars_none hV
  have k0 := h0
  have lt0 : ∀ x ∈ p0, x.block < W.heap.size := by obtain ⟨m, hm⟩ := k0; exact DataW.trod_lt m _ _ _ hm
  have k1 := h1
  have lt1 : ∀ x ∈ p1, x.block < W.heap.size := by obtain ⟨m, hm⟩ := k1; exact DataW.trod_lt m _ _ _ hm
  have k2 := h2
  have lt2 : ∀ x ∈ p2, x.block < W.heap.size := by obtain ⟨m, hm⟩ := k2; exact DataW.trod_lt m _ _ _ hm
  obtain ⟨a0, n0, cap0, z0, rfl, w0, row0, lc0, cm0, wf0, wt0, bk0⟩ := Op.ents1 entT Try.underlying22 (hval 0 22 v0 rfl rfl) h0
  have wb0 := wt0 reachBytes (fun m hm => of_decide_eq_true (List.all_eq_true.1 hsz _ (DataW.weights_mem_each (j := 0) rfl rfl m hm)))
  have f0 : z0.length = n0 ∧ n0 ≤ cap0 ∧ n0 * 56 ≤ 140737488351232 ∧ (∀ e ∈ z0, En.Fits e) ∧ En.ERow W a0 n0 (fun i => z0.getD i En.ent0) := ⟨w0, lc0, by have h9 := wb0.2; rw [show Try.prog.bytesOf 57 = 56 from by kernel_rfl] at h9; exact h9, fun x hx => by have h9 := wf0 x hx; have h8 := wb0.1 x hx; exact ⟨h8.1, h8.2, (bd64 h9.2.2.1).1, (bd64 h9.2.2.1).2, (bd64 h9.2.2.2).1, (bd64 h9.2.2.2).2⟩, row0⟩
  obtain ⟨a1, rfl, rfl, rfl, w1⟩ := open_int Try.underlying3 (hval 1 3 v1 rfl rfl) h1
  have b1 : -9223372036854775808 ≤ a1 ∧ a1 ≤ 9223372036854775807 := by simpa [Lit.wf, IntKind.min, IntKind.max, IntKind.signed, IntKind.bits] using w1
  obtain ⟨a2, rfl, rfl, rfl, w2⟩ := open_int Try.underlying3 (hval 2 3 v2 rfl rfl) h2
  have b2 : -9223372036854775808 ≤ a2 ∧ a2 ≤ 9223372036854775807 := by simpa [Lit.wf, IntKind.min, IntKind.max, IntKind.signed, IntKind.bits] using w2
  clear hA0 hval0
  refine (walk a0 n0 cap0 z0 a1 a2 W f0 b1 b2).mono fun e W' ⟨he, bel⟩ => ?_
  subst he
  exact ⟨_, rfl, _, _, _, [], _, [], hW', trodAll_mk1 (shut_bool Try.underlying4 _), (trodAll_cons_mk (Below.trod laidOut (by kernel_rfl) (of_decide_eq_true (by kernel_rfl)) k0 bel lt0) (trodAll_cons_mk (Below.trod laidOut (by kernel_rfl) (of_decide_eq_true (by kernel_rfl)) k1 bel lt1) (trodAll_cons_mk (Below.trod laidOut (by kernel_rfl) (of_decide_eq_true (by kernel_rfl)) k2 bel lt2) trodAll_mk0))), rfl, bel.frame _, fun h => by cases h⟩

theorem over : Rows.blockEveryRow.holds Try.pinned (OpenSpec.ofChange Rows.blockEverySpec) :=
  OpenClaim.holds_of_wide 7 Try.f7 rfl rfl rfl rfl rfl rfl rfl ⟨rfl, rfl, rfl, rfl, rfl⟩ rfl rfl rfl rfl rfl (by kernel_rfl) Try.func7 (by kernel_rfl)
    (of_decide_eq_true (by kernel_rfl)) (by unfold Func.isWrapper; first | (rw [if_pos (by decide +kernel)]; kernel_rfl) | (rw [if_neg (by decide +kernel)]; exact ⟨rfl, rfl⟩))
    (fun os started H enc _ => lifted os started H enc)

/-- THE STATEMENT -/
theorem proved : Rows.BlockEverySaid := over
end Go.Proofs.Ytimkopihjldhnaa.blockEvery
