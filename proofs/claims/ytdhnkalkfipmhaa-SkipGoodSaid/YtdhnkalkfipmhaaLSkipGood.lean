/- SkipGood: which entries may be put, and which stands ahead of which, is the document's answer. No condition on the input. -/
import Derived.Test.YtdhnkalkfipmhaaSkipK
import Derived.Deep.RegionHeld3
import Derived.ProofKit
import Derived.OpenShut
import Derived.ShutString
import Derived.ChangeOld
import Derived.Below
import Derived.SizedLaws
import Derived.Test.YtdhnkalkfipmhaaOpen
import Derived.Test.YtdhnkalkfipmhaaOpenE
namespace Go.Proofs.Ytdhnkalkfipmhaa.skipGood
open Go.ChangeShapes Go.WideShapes Go.ChangeAt Go.RowKit
open Go.ChangeMaps (open_string shut_string)
set_option linter.unusedVariables false
open En Ew B

set_option maxHeartbeats 1600000 in
set_option maxRecDepth 100000 in
theorem walk (x y : Ent) (w : World) (_ : Fits x) (_ : Fits y) :
    Calls Try.prog 7 #[x.v, y.v] w fun e w' => e = .returned (.bool true) ∧ Below w.heap.size w w' := by
  obtain ⟨k, q, g, v, u⟩ := x
  obtain ⟨k2, q2, g2, v2, u2⟩ := y
  simp only [Ent.v]
  have HG := Lib.hid (fun W => good_any k q g v u W)
  have HR := Lib.hid (fun W => rgood_any k q g v u W)
  have HL := Lib.hid (fun W => less_any k q g v u k2 q2 g2 v2 u2 W)
  have HM := Lib.hid (fun W => rless_any k q g v u k2 q2 g2 v2 u2 W)
  generalize goodE ⟨k, q, g, v, u⟩ = gd at HG HR
  generalize lessE ⟨k, q, g, v, u⟩ ⟨k2, q2, g2, v2, u2⟩ = ls at HL HM
  have hB0 := below_alloc (below_alloc (Below.refl w.heap.size w) (.cells #[.string k, .int .i64 q, .bool g, .string v, .int .i64 u] 51)) (.cells #[.string k2, .int .i64 q2, .bool g2, .string v2, .int .i64 u2] 51)
  have hE1 : EBox ((w.alloc (.cells #[.string k, .int .i64 q, .bool g, .string v, .int .i64 u] 51)).alloc (.cells #[.string k2, .int .i64 q2, .bool g2, .string v2, .int .i64 u2] 51)) w.heap.size 51 ⟨k, q, g, v, u⟩ := blk_alloc (heap_alloc_new _ _)
  have hE2 : EBox ((w.alloc (.cells #[.string k, .int .i64 q, .bool g, .string v, .int .i64 u] 51)).alloc (.cells #[.string k2, .int .i64 q2, .bool g2, .string v2, .int .i64 u2] 51)) (w.heap.size + 1) 51 ⟨k2, q2, g2, v2, u2⟩ := blk_new (by simp)
  go_enter Try.func7, Try.ntmps7
  go_wp2_with fail
  generalize hW : World.alloc _ _ = W0
  rw [hW] at hB0 hE1 hE2
  clear hW
  have H0 : Hid ((W0.cell? ⟨w.heap.size, 0, none⟩ = some (.string k) ∧ W0.cell? ⟨w.heap.size, 0 + 1, none⟩ = some (.int .i64 q) ∧ W0.cell? ⟨w.heap.size, 0 + 2, none⟩ = some (.bool g) ∧ W0.cell? ⟨w.heap.size, 0 + 3, none⟩ = some (.string v) ∧ W0.cell? ⟨w.heap.size, 0 + 4, none⟩ = some (.int .i64 u)) ∧
    (W0.cell? ⟨w.heap.size + 1, 0, none⟩ = some (.string k2) ∧ W0.cell? ⟨w.heap.size + 1, 0 + 1, none⟩ = some (.int .i64 q2) ∧ W0.cell? ⟨w.heap.size + 1, 0 + 2, none⟩ = some (.bool g2) ∧ W0.cell? ⟨w.heap.size + 1, 0 + 3, none⟩ = some (.string v2) ∧ W0.cell? ⟨w.heap.size + 1, 0 + 4, none⟩ = some (.int .i64 u2)) ∧ w.heap.size < W0.heap.size ∧ w.heap.size + 1 < W0.heap.size) :=
    ⟨hE1.cells, hE2.cells, lt_of_block hE1, lt_of_block hE2⟩
  clear hE1 hE2
  go_region_held3 (fun w' => (w'.cell? ⟨w.heap.size, 0, none⟩ = some (.string k) ∧ w'.cell? ⟨w.heap.size, 0 + 1, none⟩ = some (.int .i64 q) ∧ w'.cell? ⟨w.heap.size, 0 + 2, none⟩ = some (.bool g) ∧ w'.cell? ⟨w.heap.size, 0 + 3, none⟩ = some (.string v) ∧ w'.cell? ⟨w.heap.size, 0 + 4, none⟩ = some (.int .i64 u)) ∧
    (w'.cell? ⟨w.heap.size + 1, 0, none⟩ = some (.string k2) ∧ w'.cell? ⟨w.heap.size + 1, 0 + 1, none⟩ = some (.int .i64 q2) ∧ w'.cell? ⟨w.heap.size + 1, 0 + 2, none⟩ = some (.bool g2) ∧ w'.cell? ⟨w.heap.size + 1, 0 + 3, none⟩ = some (.string v2) ∧ w'.cell? ⟨w.heap.size + 1, 0 + 4, none⟩ = some (.int .i64 u2)) ∧ w.heap.size < w'.heap.size ∧ w.heap.size + 1 < w'.heap.size)
    (first | exact H0.out | exact HK.out)
    (first
      | (go_at_call 18; refine (wakes6_any _).mono ?_; rintro e w3 ⟨rfl, hb3⟩
         have HK := Lib.hid (keep10s (W := W0.drew) H0.out hb3)
         have HB := Lib.hid (chain hB0.drew hb3))
      | (go_at_call 23; refine (HG.out _).mono ?_; rintro e w4 ⟨rfl, hb4⟩
         have HK := Lib.hid (keep10s HK.out hb4)
         have HB := Lib.hid (chain HB.out hb4))
      | (go_at_call 24; refine (HR.out _).mono ?_; rintro e w5 ⟨rfl, hb5⟩
         have HK := Lib.hid (keep10s HK.out hb5)
         have HB := Lib.hid (chain HB.out hb5))
      | (go_at_call 25; refine (HL.out _).mono ?_; rintro e w6 ⟨rfl, hb6⟩
         have HK := Lib.hid (keep10s HK.out hb6)
         have HB := Lib.hid (chain HB.out hb6))
      | (go_at_call 26; refine (HM.out _).mono ?_; rintro e w7 ⟨rfl, hb7⟩
         have HK := Lib.hid (keep10s HK.out hb7)
         have HB := Lib.hid (chain HB.out hb7)))
  all_goals
    have hz := HB.out
    go_wp2_with fail
    go_ret
    exact ⟨rfl, hz⟩

theorem entT : Op.EntT Try.prog 51 ((match Try.prog.underlying 51 with | some (.struct fs) => fs | _ => #[])) := by
  rw [Try.underlying51]
  exact ⟨Try.underlying51, by kernel_rfl, by kernel_rfl, ⟨_, rfl, Try.underlying9⟩, ⟨_, rfl, Try.underlying2⟩, ⟨_, rfl, Try.underlying4⟩, ⟨_, rfl, Try.underlying9⟩, ⟨_, rfl, Try.underlying2⟩, rfl⟩
theorem bd64 {n : Int} (h : (Lit.int .i64 n).wf = true) : -9223372036854775808 ≤ n ∧ n ≤ 9223372036854775807 := by
  simpa [Lit.wf, IntKind.min, IntKind.max, IntKind.signed, IntKind.bits] using h


theorem own : ownKnob Try.prog.godebug = none := by kernel_rfl
theorem laidOut : laidOutB Try.prog = true := by kernel_rfl

set_option maxRecDepth 100000 in
theorem lifted (os : Os) (started : os.Started) (H : Type) (enc : TypeId × Value → H) :
    ReturnsInHanded {} Try.checked os 7 .any (Rows.skipGoodSpec.pre6 enc Try.prog Try.f7 Rows.skipGoodRow.domain false) (Rows.skipGoodSpec.post enc Try.prog Try.f7 false true false false) := by
  refine returnsInHanded_of_change_sized (C := Try.checked) own started (by kernel_rfl) Try.func7
    (ChangeSpec.witness6 (enc := enc) (C := Try.checked) false ⟨#[], #[.agg #[.string ByteArray.empty, .int .i64 0, .bool false, .string ByteArray.empty, .int .i64 0], .agg #[.string ByteArray.empty, .int .i64 0, .bool false, .string ByteArray.empty, .int .i64 0]], []⟩ 8 (by kernel_rfl) (by kernel_rfl) (by kernel_rfl) (by kernel_rfl)) ?_
  intro W base args ds gs before hval0 hW hcnd hsz0 _
  have hval : ∀ (j : Nat) t v, Try.f7.params[j]? = some t → args[j]? = some v → Value.okWide Try.prog W .any base t v := hval0
  have hsz : (DataW.weightsEach Try.prog (Try.f7.params.toList ++ Rows.skipGoodSpec.plain.varTypes Try.prog) (ds ++ gs)).all (· ≤ reachBytes) = true := hsz0
  have hW' := hW
  obtain ⟨p, q, hA0, hV, rfl, hfz, hnd⟩ := hW
  have hA : DataW.TrodAll enc Try.prog W 0 (fun _ => true) true Try.f7.params.toList args.toList ds p := hA0
  rw [Try.params7] at hA hval hsz
  obtain ⟨v0, vs0, d0, ds0, p0, q0, hargs, rfl, rfl, h0, r0⟩ := trodAll_cons hA
  obtain ⟨v1, vs1, d1, ds1, p1, q1, rfl, rfl, rfl, h1, r1⟩ := trodAll_cons r0
  obtain ⟨rfl, rfl, rfl⟩ := trodAll_nil r1
  obtain rfl : args = #[v0, v1] := by cases args; simp_all
  obtain ⟨rfl, rfl⟩ := trodVars_none hV
  have k0 := h0
  have lt0 : ∀ x ∈ p0, x.block < W.heap.size := by obtain ⟨m, hm⟩ := k0; exact DataW.trod_lt m _ _ _ hm
  have k1 := h1
  have lt1 : ∀ x ∈ p1, x.block < W.heap.size := by obtain ⟨m, hm⟩ := k1; exact DataW.trod_lt m _ _ _ hm
  obtain ⟨a0, rfl, wf0, wt0⟩ := Op.ent1 entT (hval 0 51 v0 rfl rfl) h0
  have wb0 := wt0 reachBytes (fun m hm => of_decide_eq_true (List.all_eq_true.1 hsz _ (DataW.weights_mem_each (j := 0) rfl rfl m hm)))
  have f0 : En.Fits a0 := ⟨wb0.1, wb0.2, (bd64 wf0.2.2.1).1, (bd64 wf0.2.2.1).2, (bd64 wf0.2.2.2).1, (bd64 wf0.2.2.2).2⟩
  obtain ⟨a1, rfl, wf1, wt1⟩ := Op.ent1 entT (hval 1 51 v1 rfl rfl) h1
  have wb1 := wt1 reachBytes (fun m hm => of_decide_eq_true (List.all_eq_true.1 hsz _ (DataW.weights_mem_each (j := 1) rfl rfl m hm)))
  have f1 : En.Fits a1 := ⟨wb1.1, wb1.2, (bd64 wf1.2.2.1).1, (bd64 wf1.2.2.1).2, (bd64 wf1.2.2.2).1, (bd64 wf1.2.2.2).2⟩
  clear hA0 hval0
  refine (walk a0 a1 W f0 f1).mono fun e W' ⟨he, bel⟩ => ?_
  subst he
  exact ⟨_, rfl, _, _, _, [], _, [], hW', trodAll_mk1 (shut_bool Try.underlying4 _), (trodAll_cons_mk (Below.trod laidOut (by kernel_rfl) (of_decide_eq_true (by kernel_rfl)) k0 bel lt0) (trodAll_cons_mk (Below.trod laidOut (by kernel_rfl) (of_decide_eq_true (by kernel_rfl)) k1 bel lt1) trodAll_mk0)), rfl, bel.frame _, fun h => by cases h⟩

theorem over : Rows.skipGoodRow.holds Try.pinned (OpenSpec.ofChange Rows.skipGoodSpec) :=
  OpenClaim.holds_of_wide 7 Try.f7 rfl rfl rfl rfl rfl rfl rfl ⟨rfl, rfl, rfl, rfl, rfl⟩ rfl rfl rfl rfl rfl (by kernel_rfl) Try.func7 (by kernel_rfl)
    (of_decide_eq_true (by kernel_rfl)) (by unfold Func.isWrapper; first | (rw [if_pos (by decide +kernel)]; kernel_rfl) | (rw [if_neg (by decide +kernel)]; exact ⟨rfl, rfl⟩))
    (fun os started H enc _ => lifted os started H enc)

/-- THE STATEMENT -/
theorem proved : Rows.SkipGoodSaid := over
end Go.Proofs.Ytdhnkalkfipmhaa.skipGood
