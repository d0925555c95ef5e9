/- MergeVisible: of every entries in order what is there, for whom, and when, is the document's answer. No condition on the input. -/
import Derived.Test.YtmgdcebbeglcmaaMrgL
import Derived.ProofKit
import Derived.OpenShut
import Derived.ShutString
import Derived.ChangeOld
import Derived.Below
import Derived.SizedLaws
import Derived.Test.YtmgdcebbeglcmaaOpen
import Derived.Test.YtmgdcebbeglcmaaOpenE
namespace Go.Proofs.Ytmgdcebbeglcmaa.mergeVisible
open Go.ChangeShapes Go.WideShapes Go.ChangeAt Go.RowKit
open Go.ChangeMaps (open_string shut_string)
set_option linter.unusedVariables false
open En Ew B

set_option maxHeartbeats 1600000 in
set_option maxRecDepth 100000 in
theorem walk (a1 : Option Addr) (n1 c1 : Nat) (z1 : List Ent) (s now : Int) (w : World)
    (f1 : z1.length = n1 ∧ n1 ≤ c1 ∧ n1 * 56 ≤ 140737488351232 ∧ (∀ e ∈ z1, Fits e) ∧ ERow w a1 n1 (fun i => z1.getD i ent0))
    (_ : -9223372036854775808 ≤ s ∧ s ≤ 9223372036854775807) (_ : -9223372036854775808 ≤ now ∧ now ≤ 9223372036854775807) :
    Calls Try.prog 4 #[.slice a1 n1 c1, .int .i64 s, .int .i64 now] w fun e w' => e = .returned (.bool true) ∧ Below w.heap.size w w' := by
  have HA1 := Lib.hid (ordered_any a1 n1 c1 z1 f1.1 f1.2.1 f1.2.2.1 w f1.2.2.2.2)
  have HL1 := ord_len z1
  have HS1 := Lib.hid (ord_sorted z1)
  generalize mpAll [] (z1.take 100) = R1 at HA1 HL1 HS1
  clear f1
  go_enter Try.func4, Try.ntmps4
  go_wp2_with fail
  refine HA1.out.mono ?_
  rintro e w1 ⟨p1, d1, q1, g1, rfl, o1, s1, hb1⟩
  have P1 := Lib.hid (at_own o1)
  have Q1 := Lib.hid (at_own s1)
  have HB1 := Lib.hid hb1
  clear o1 s1 hb1 HA1
  obtain ⟨n, hn⟩ : ∃ n, n = R1.length := ⟨_, rfl⟩
  rw [← hn]
  have HN := Lib.hid hn
  have hn100 : n ≤ 100 := by omega
  clear hn HL1
  go_wp2_with fail
  go_loopw [17] (fun si wr => ∃ i : Nat, si = .int .i64 i ∧ i ≤ n ∧ Hid (Below w1.heap.size w1 wr)) (fun si _ => n - (intOf si).toNat)
  case atStart => exact ⟨0, rfl, by omega, Below.refl _ _⟩
  case round =>
    obtain ⟨i, rfl, hi, hbel⟩ := hrel
    have P2 := Lib.hid (P1.out.below hbel.out)
    have Q2 := Lib.hid (Q1.out.below hbel.out)
    by_cases hlt : i < n
    · obtain ⟨b, off, rfl, hb, hc⟩ := P2.out.row.at (by have := HN.out; omega)
      obtain ⟨b2, off2, rfl, hb2, hc2⟩ := Q2.out.row.at (by have := HN.out; omega)
      have hd := hc i (by have := HN.out; omega)
      have hd2 := hc2 i (by have := HN.out; omega)
      generalize R1.getD i ent0 = x at hd hd2
      obtain ⟨k0, q0, g0, v0, u0⟩ := x
      simp only at hd hd2
      have HD := Lib.hid hd
      have HD2 := Lib.hid hd2
      obtain ⟨x0, x1, x2, x3, x4⟩ := hd
      obtain ⟨y0, y1, y2, y3, y4⟩ := hd2
      have i1 : (0 : Int) ≤ (i : Int) := by omega
      have i2 : (i : Int) < (n : Int) := by omega
      have HLA := Lib.hid (fun W => alive_any k0 q0 g0 v0 u0 now W)
      have HLR := Lib.hid (fun W => ralive_any k0 q0 g0 v0 u0 now W)
      generalize aliveE ⟨k0, q0, g0, v0, u0⟩ now = al at HLA HLR
      clear hc hc2
      have H0 : Hid (((wr.cell? ⟨b, off + i * 5, none⟩ = some (.string k0) ∧ wr.cell? ⟨b, off + i * 5 + 1, none⟩ = some (.int .i64 q0) ∧ wr.cell? ⟨b, off + i * 5 + 2, none⟩ = some (.bool g0) ∧ wr.cell? ⟨b, off + i * 5 + 3, none⟩ = some (.string v0) ∧ wr.cell? ⟨b, off + i * 5 + 4, none⟩ = some (.int .i64 u0)) ∧
        (wr.cell? ⟨b2, off2 + i * 5, none⟩ = some (.string k0) ∧ wr.cell? ⟨b2, off2 + i * 5 + 1, none⟩ = some (.int .i64 q0) ∧ wr.cell? ⟨b2, off2 + i * 5 + 2, none⟩ = some (.bool g0) ∧ wr.cell? ⟨b2, off2 + i * 5 + 3, none⟩ = some (.string v0) ∧ wr.cell? ⟨b2, off2 + i * 5 + 4, none⟩ = some (.int .i64 u0)) ∧ b < wr.heap.size ∧ b2 < wr.heap.size)) :=
        ⟨HD.out, HD2.out, hb, hb2⟩
      go_upto_region 5 with fail
      go_cut [32] (fun s32 wx => s32 = .bool false ∧ Below wr.heap.size wr wx)
      case first =>
        go_region_held3 (fun w' => ((w'.cell? ⟨b, off + i * 5, none⟩ = some (.string k0) ∧ w'.cell? ⟨b, off + i * 5 + 1, none⟩ = some (.int .i64 q0) ∧ w'.cell? ⟨b, off + i * 5 + 2, none⟩ = some (.bool g0) ∧ w'.cell? ⟨b, off + i * 5 + 3, none⟩ = some (.string v0) ∧ w'.cell? ⟨b, off + i * 5 + 4, none⟩ = some (.int .i64 u0)) ∧
          (w'.cell? ⟨b2, off2 + i * 5, none⟩ = some (.string k0) ∧ w'.cell? ⟨b2, off2 + i * 5 + 1, none⟩ = some (.int .i64 q0) ∧ w'.cell? ⟨b2, off2 + i * 5 + 2, none⟩ = some (.bool g0) ∧ w'.cell? ⟨b2, off2 + i * 5 + 3, none⟩ = some (.string v0) ∧ w'.cell? ⟨b2, off2 + i * 5 + 4, none⟩ = some (.int .i64 u0)) ∧ b < w'.heap.size ∧ b2 < w'.heap.size))
          (first | exact H0.out | exact HK.out)
          (first
            | (go_at_call 14; refine (HLA.out _).mono ?_; rintro e w5 ⟨rfl, hb5⟩
               have HK := Lib.hid (keep10 (W := wr.drew) H0.out hb5)
               have HB := Lib.hid (chain (Below.refl wr.heap.size wr).drew hb5))
            | (go_at_call 15; refine (HLR.out _).mono ?_; rintro e w6 ⟨rfl, hb6⟩
               have HK := Lib.hid (keep10 HK.out hb6)
               have HB := Lib.hid (chain HB.out hb6)))
        all_goals
          have hz := HB.out
          go_wp2_with fail
          go_meet
          exact ⟨by simp, hz⟩
      case rest =>
      obtain ⟨rfl, hwc⟩ := hcut
      have HBc := Lib.hid (chain hbel.out hwc)
      clear hwc x0 x1 x2 x3 x4 y0 y1 y2 y3 y4
      go_wp2_with fail
      go_roundw
      case rel => exact ⟨i + 1, by go_num, by omega, HBc⟩
      case measure => simp [intOf]; omega
    · obtain rfl : i = n := by omega
      go_wp2_with fail
      refine (wakes13_any wr).mono ?_
      rintro e w2 ⟨rfl, hb2⟩
      have P2 := Lib.hid (P2.out.below hb2)
      have Q2 := Lib.hid (Q2.out.below hb2)
      have HB2 := Lib.hid (chain (chain HB1.out hbel.out) hb2)
      clear hb2
      go_wp2_with fail
      rw [HN.out]
      refine (vis_any p1 R1.length d1 R1 rfl P2.out.cap P2.out.top (by have := HN.out; omega) HS1.out w2 P2.out.row s now).mono ?_
      have HRV := Lib.hid (fun W h => rvis_any q1 R1.length g1 R1 rfl (by have := HN.out; omega) HS1.out W h s now)
      have hvl := vis_len R1 s now
      generalize visE R1 s now = V at HRV hvl
      rintro e w3 ⟨p3, d3, rfl, o3, hb3⟩
      have P3 := Lib.hid (at_own o3)
      have Q3 := Lib.hid (Q2.out.below hb3)
      have HB3 := Lib.hid (chain HB2.out hb3)
      clear o3 hb3
      go_wp2_with fail
      refine (HRV.out w3 Q3.out.row).mono ?_
      rintro e w4 ⟨p4, d4, rfl, o4, hb4⟩
      have P4 := Lib.hid (at_own o4)
      have P3 := Lib.hid (P3.out.below hb4)
      have HB4 := Lib.hid (chain HB3.out hb4)
      clear o4 hb4
      go_wp2_with fail
      refine (same_yes p3 V.length d3 p4 d4 V rfl (by have := HN.out; omega) w4 P3.out.row P4.out.row).mono ?_
      rintro e w5 ⟨rfl, hb5⟩
      have hB5 := chain HB4.out hb5
      clear hb5
      go_wp2_with fail
      go_ret
      exact ⟨rfl, hB5⟩

theorem entT : Op.EntT Try.prog 54 ((match Try.prog.underlying 54 with | some (.struct fs) => fs | _ => #[])) := by
  rw [Try.underlying54]
  exact ⟨Try.underlying54, by kernel_rfl, by kernel_rfl, ⟨_, rfl, Try.underlying9⟩, ⟨_, rfl, Try.underlying2⟩, ⟨_, rfl, Try.underlying4⟩, ⟨_, rfl, Try.underlying9⟩, ⟨_, rfl, Try.underlying2⟩, rfl⟩
theorem bd64 {n : Int} (h : (Lit.int .i64 n).wf = true) : -9223372036854775808 ≤ n ∧ n ≤ 9223372036854775807 := by
  simpa [Lit.wf, IntKind.min, IntKind.max, IntKind.signed, IntKind.bits] using h


theorem own : ownKnob Try.prog.godebug = none := by kernel_rfl
theorem laidOut : laidOutB Try.prog = true := by kernel_rfl

set_option maxRecDepth 100000 in
theorem lifted (os : Os) (started : os.Started) (H : Type) (enc : TypeId × Value → H) :
    ReturnsInHanded {} Try.checked os 4 .any (Rows.mergeVisibleSpec.pre6 enc Try.prog Try.f4 Rows.mergeVisibleRow.domain false) (Rows.mergeVisibleSpec.post enc Try.prog Try.f4 false true false false) := by
  refine returnsInHanded_of_change_sized (C := Try.checked) own started (by kernel_rfl) Try.func4
    (ChangeSpec.witness6 (enc := enc) (C := Try.checked) false ⟨#[], #[.slice none 0 0, .int .i64 0, .int .i64 0], []⟩ 8 (by kernel_rfl) (by kernel_rfl) (by kernel_rfl) (by kernel_rfl)) ?_
  intro W base args ds gs before hval0 hW hcnd hsz0 _
  have hval : ∀ (j : Nat) t v, Try.f4.params[j]? = some t → args[j]? = some v → Value.okWide Try.prog W .any base t v := hval0
  have hsz : (DataW.weightsEach Try.prog (Try.f4.params.toList ++ Rows.mergeVisibleSpec.plain.varTypes Try.prog) (ds ++ gs)).all (· ≤ reachBytes) = true := hsz0
  have hW' := hW
  obtain ⟨p, q, hA0, hV, rfl, hfz, hnd⟩ := hW
  have hA : DataW.TrodAll enc Try.prog W 0 (fun _ => true) true Try.f4.params.toList args.toList ds p := hA0
  rw [Try.params4] at hA hval hsz
  obtain ⟨v0, vs0, d0, ds0, p0, q0, hargs, rfl, rfl, h0, r0⟩ := trodAll_cons hA
  obtain ⟨v1, vs1, d1, ds1, p1, q1, rfl, rfl, rfl, h1, r1⟩ := trodAll_cons r0
  obtain ⟨v2, vs2, d2, ds2, p2, q2, rfl, rfl, rfl, h2, r2⟩ := trodAll_cons r1
  obtain ⟨rfl, rfl, rfl⟩ := trodAll_nil r2
  obtain rfl : args = #[v0, v1, v2] := by cases args; simp_all
  obtain ⟨rfl, rfl⟩ := trodVars_none hV
  have k0 := h0
  have lt0 : ∀ x ∈ p0, x.block < W.heap.size := by obtain ⟨m, hm⟩ := k0; exact DataW.trod_lt m _ _ _ hm
  have k1 := h1
  have lt1 : ∀ x ∈ p1, x.block < W.heap.size := by obtain ⟨m, hm⟩ := k1; exact DataW.trod_lt m _ _ _ hm
  have k2 := h2
  have lt2 : ∀ x ∈ p2, x.block < W.heap.size := by obtain ⟨m, hm⟩ := k2; exact DataW.trod_lt m _ _ _ hm
  obtain ⟨a0, n0, cap0, z0, rfl, w0, row0, lc0, cm0, wf0, wt0, bk0⟩ := Op.ents1 entT Try.underlying22 (hval 0 22 v0 rfl rfl) h0
  have wb0 := wt0 reachBytes (fun m hm => of_decide_eq_true (List.all_eq_true.1 hsz _ (DataW.weights_mem_each (j := 0) rfl rfl m hm)))
  have f0 : z0.length = n0 ∧ n0 ≤ cap0 ∧ n0 * 56 ≤ 140737488351232 ∧ (∀ e ∈ z0, En.Fits e) ∧ En.ERow W a0 n0 (fun i => z0.getD i En.ent0) := ⟨w0, lc0, by have h9 := wb0.2; rw [show Try.prog.bytesOf 54 = 56 from by kernel_rfl] at h9; exact h9, fun x hx => by have h9 := wf0 x hx; have h8 := wb0.1 x hx; exact ⟨h8.1, h8.2, (bd64 h9.2.2.1).1, (bd64 h9.2.2.1).2, (bd64 h9.2.2.2).1, (bd64 h9.2.2.2).2⟩, row0⟩
  obtain ⟨a1, rfl, rfl, rfl, w1⟩ := open_int Try.underlying2 (hval 1 2 v1 rfl rfl) h1
  have b1 : -9223372036854775808 ≤ a1 ∧ a1 ≤ 9223372036854775807 := by simpa [Lit.wf, IntKind.min, IntKind.max, IntKind.signed, IntKind.bits] using w1
  obtain ⟨a2, rfl, rfl, rfl, w2⟩ := open_int Try.underlying2 (hval 2 2 v2 rfl rfl) h2
  have b2 : -9223372036854775808 ≤ a2 ∧ a2 ≤ 9223372036854775807 := by simpa [Lit.wf, IntKind.min, IntKind.max, IntKind.signed, IntKind.bits] using w2
  clear hA0 hval0
  refine (walk a0 n0 cap0 z0 a1 a2 W f0 b1 b2).mono fun e W' ⟨he, bel⟩ => ?_
  subst he
  exact ⟨_, rfl, _, _, _, [], _, [], hW', trodAll_mk1 (shut_bool Try.underlying4 _), (trodAll_cons_mk (Below.trod laidOut (by kernel_rfl) (of_decide_eq_true (by kernel_rfl)) k0 bel lt0) (trodAll_cons_mk (Below.trod laidOut (by kernel_rfl) (of_decide_eq_true (by kernel_rfl)) k1 bel lt1) (trodAll_cons_mk (Below.trod laidOut (by kernel_rfl) (of_decide_eq_true (by kernel_rfl)) k2 bel lt2) trodAll_mk0))), rfl, bel.frame _, fun h => by cases h⟩

theorem over : Rows.mergeVisibleRow.holds Try.pinned (OpenSpec.ofChange Rows.mergeVisibleSpec) :=
  OpenClaim.holds_of_wide 4 Try.f4 rfl rfl rfl rfl rfl rfl rfl ⟨rfl, rfl, rfl, rfl, rfl⟩ rfl rfl rfl rfl rfl (by kernel_rfl) Try.func4 (by kernel_rfl)
    (of_decide_eq_true (by kernel_rfl)) (by unfold Func.isWrapper; first | (rw [if_pos (by decide +kernel)]; kernel_rfl) | (rw [if_neg (by decide +kernel)]; exact ⟨rfl, rfl⟩))
    (fun os started H enc _ => lifted os started H enc)

/-- THE STATEMENT -/
theorem proved : Rows.MergeVisibleSaid := over
end Go.Proofs.Ytmgdcebbeglcmaa.mergeVisible
