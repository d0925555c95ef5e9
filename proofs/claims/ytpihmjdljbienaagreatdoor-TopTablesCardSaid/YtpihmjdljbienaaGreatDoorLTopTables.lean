/- TopTables: entries that are put into memory by any coins, cut into any tables on a disk, and read back out of these, come together again as what each key has for who reads up to any number, at any time. No condition on the input. -/
import Derived.Test.YtpihmjdljbienaaGreatDoorGs
import Derived.Test.YtpihmjdljbienaaGreatDoorGn
import Derived.Test.YtpihmjdljbienaaGreatDoorCards
import Derived.Test.YtpihmjdljbienaaGreatDoorTie
import Derived.ProofKit
import Derived.OpenShut
import Derived.ShutString
import Derived.ChangeOld
import Derived.Below
import Derived.SizedLaws
import Derived.Lay
import Derived.LaidMore
import Derived.LaidOnce
import Derived.SevenTiedAt
namespace Go.Proofs.YtpihmjdljbienaaGreatDoor.topTables
open Go.ChangeShapes Go.WideShapes Go.ChangeAt Go.RowKit
open B En Dw
set_option linter.unusedVariables false
set_option linter.constructorNameAsVariable false

theorem entT : Op.EntT Tryz.prog 78 ((match Tryz.prog.underlying 78 with | some (.struct fs) => fs | _ => #[])) := by
  rw [Tryz.underlying78]
  exact ⟨Tryz.underlying78, by kernel_rfl, by kernel_rfl, ⟨_, rfl, Tryz.underlying9⟩, ⟨_, rfl, Tryz.underlying2⟩, ⟨_, rfl, Tryz.underlying4⟩, ⟨_, rfl, Tryz.underlying9⟩, ⟨_, rfl, Tryz.underlying2⟩, rfl⟩
theorem bd64 {n : Int} (h : (Lit.int .i64 n).wf = true) : -9223372036854775808 ≤ n ∧ n ≤ 9223372036854775807 := by
  simpa [Lit.wf, IntKind.min, IntKind.max, IntKind.signed, IntKind.bits] using h
theorem own : ownKnob Tryz.prog.godebug = none := by kernel_rfl
theorem laidOut : laidOutB Tryz.prog = true := by kernel_rfl
set_option maxHeartbeats 2000000 in
set_option maxRecDepth 100000 in
theorem lifted (os : Os) (started : os.Started) (H : Type) (enc : TypeId × Value → H) :
    ReturnsInHanded {} Tryz.checked os 4 .any (fun w args => (Rows.topTablesSpec.pre enc Tryz.prog Tryz.f4 [] false w args ∧ laidMetH Tryz.prog Rows.topTablesRow.laid w) ∧ sizedMet enc Tryz.prog Tryz.f4 (OpenSpec.ofChange Rows.topTablesSpec) false w args)
      (Rows.topTablesSpec.post enc Tryz.prog Tryz.f4 false true false false) := by
  refine returnsInHanded_of_change_and (C := Tryz.checked) (X := fun w _ => laidMetH Tryz.prog Rows.topTablesRow.laid w) (fun _ _ _ hh h => h.of_heap hh) own started (by kernel_rfl) Tryz.func4
    (ChangeSpec.witness_shaped (enc := enc) (C := Tryz.checked) (os := os) (X := fun w _ => laidMetH Tryz.prog Rows.topTablesRow.laid w) false (World.laidAll Tryz.prog os Rows.topTablesRow.laid) #[.slice none 0 0, .slice none 0 0, .agg #[.int .i64 0, .int .i64 0]] 8 (World.laidAll_os _ _ _)
      (World.shaped_of_ZipB (by kernel_rfl) (by kernel_rfl)) (by kernel_rfl) (by kernel_rfl) (by kernel_rfl)
      (by rw [MakeChecks.laidMetH_plain _ _ _ (by kernel_rfl)]; exact laidMet_laidAll _ (by kernel_rfl) (by kernel_rfl))) ?_
  intro W base args ds gs before hval0 hW _ hsz0 hL _
  have hval : ∀ (j : Nat) t v, Tryz.f4.params[j]? = some t → args[j]? = some v → Value.okWide Tryz.prog W .any base t v := hval0
  have hsz : (DataW.weightsEach Tryz.prog (Tryz.f4.params.toList ++ Rows.topTablesSpec.plain.varTypes Tryz.prog) (ds ++ gs)).all (· ≤ reachBytes) = true := hsz0
  have hW' := hW
  obtain ⟨p, q, hA0, hV, rfl, hfz, hnd⟩ := hW
  have hA : DataW.TrodAll enc Tryz.prog W 0 (fun _ => true) true Tryz.f4.params.toList args.toList ds p := hA0
  rw [Tryz.params4] at hA hval hsz
  obtain ⟨v0, vs0, d0, ds0, p0, q0, hargs, rfl, rfl, h0, r0⟩ := trodAll_cons hA
  obtain ⟨v1, vs1, d1, ds1, p1, q1, rfl, rfl, rfl, h1, r1⟩ := trodAll_cons r0
  obtain ⟨v2, vs2, d2, ds2, p2, q2, rfl, rfl, rfl, h2, r2⟩ := trodAll_cons r1
  obtain ⟨rfl, rfl, rfl⟩ := trodAll_nil r2
  obtain rfl : args = #[v0, v1, v2] := by cases args; simp_all
  obtain ⟨rfl, rfl⟩ := trodVars_none hV
  have k0 := h0
  have lt0 : ∀ x ∈ p0, x.block < W.heap.size := by obtain ⟨m, hm⟩ := k0; exact DataW.trod_lt m _ _ _ hm
  have k1 := h1
  have lt1 : ∀ x ∈ p1, x.block < W.heap.size := by obtain ⟨m, hm⟩ := k1; exact DataW.trod_lt m _ _ _ hm
  have k2 := h2
  have lt2 : ∀ x ∈ p2, x.block < W.heap.size := by obtain ⟨m, hm⟩ := k2; exact DataW.trod_lt m _ _ _ hm
  obtain ⟨a0, n0, cap0, z0, rfl, w0, row0, lc0, cm0, wf0, wt0, bk0⟩ := Op.ents1 entT Tryz.underlying32 (hval 0 32 v0 rfl rfl) h0
  have wb0 := (wt0 reachBytes (fun m hm => of_decide_eq_true (List.all_eq_true.1 hsz _ (DataW.weights_mem_each (j := 0) rfl rfl m hm)))).2
  obtain ⟨a1, n1, cap1, z1, rfl, w1, wf1, row1, lc1, cm1, wt1⟩ := Op.ints2 Tryz.underlying24 Tryz.underlying3 (by kernel_rfl) (hval 1 24 v1 rfl rfl) h1
  have wb1 := wt1 reachBytes (fun m hm => of_decide_eq_true (List.all_eq_true.1 hsz _ (DataW.weights_mem_each (j := 1) rfl rfl m hm)))
  obtain ⟨c0, c1, rfl, wa2, wc2⟩ := Op.pair1 Tryz.underlying47 Tryz.underlying2 (by kernel_rfl) (by kernel_rfl) (hval 2 47 v2 rfl rfl) h2
  have by1 : Tryz.prog.bytesOf 78 = 56 := by kernel_rfl
  have by2 : Tryz.prog.bytesOf 3 = 8 := by kernel_rfl
  rw [by1] at wb0
  rw [by2] at wb1
  have hre : reachBytes = 140737488351232 := rfl
  rw [hre] at wb0 wb1
  clear hA0 hval0
  refine (tables_any a0 n0 cap0 z0 w0 lc0 wb0 a1 n1 cap1 z1 w1 lc1 (by simpa [maxLen] using cm1) wb1 (fun x hx => bd64 (wf1 x hx)) c0 c1 W row0 row1).mono fun e W' ⟨he, bel⟩ => ?_
  subst he
  exact ⟨_, rfl, _, _, _, [], _, [], hW', trodAll_mk1 (shut_bool Tryz.underlying4 _), (trodAll_cons_mk (Below.trod laidOut (by kernel_rfl) (of_decide_eq_true (by kernel_rfl)) k0 bel lt0) (trodAll_cons_mk (Below.trod laidOut (by kernel_rfl) (of_decide_eq_true (by kernel_rfl)) k1 bel lt1) (trodAll_cons_mk (Below.trod laidOut (by kernel_rfl) (of_decide_eq_true (by kernel_rfl)) k2 bel lt2) trodAll_mk0))), rfl, bel.frame _, fun h => by cases h⟩

theorem over : Rows.topTablesRow.holds Tryz.pinned (OpenSpec.ofChange Rows.topTablesSpec) :=
  OpenClaim.holds_of_wide 4 Tryz.f4 rfl rfl rfl rfl rfl rfl rfl ⟨rfl, rfl, rfl, rfl, rfl⟩ rfl rfl rfl rfl rfl (by kernel_rfl) Tryz.func4 (by kernel_rfl)
    (of_decide_eq_true (by kernel_rfl)) (by unfold Func.isWrapper; first | (rw [if_pos (by decide +kernel)]; kernel_rfl) | (rw [if_neg (by decide +kernel)]; exact ⟨rfl, rfl⟩))
    (fun os started H enc _ => lifted os started H enc)
/-- THE STATEMENT -/
theorem proved : Rows.TopTablesCardSaid :=
  Claim7.holds_tied_plain_at .later [] [.data, .data, .data, .data, .pinned] true (true, "4e8fe92f03f80e062dde2f86a4073b0732d560bb566b8e9976a236a1975217ce") true over (fun _ h => by cases h) (by kernel_rfl) (fun _ h => by cases h) topTables_row_tie rfl ⟨rfl, rfl⟩ (by kernel_rfl) rfl
    (fun f fn hf hfn => by
      obtain rfl : f = 4 := Option.some.inj ((show Tryz.prog.funcNamed "oxbow/oxbowtop.TopTables" = some 4 by kernel_rfl).symm.trans hf) |>.symm
      obtain rfl : fn = Tryz.f4 := (Option.some.inj (Tryz.func4.symm.trans hfn)).symm
      exact ⟨by kernel_rfl, fun j t ht => by
        rw [Tryz.params4] at ht
        have hm : t ∈ [32, 24, 47] := by simpa using Array.mem_of_getElem? ht
        have hall : ([32, 24, 47].all fun u => !Tryz.prog.wantsStandIn u) = true := by kernel_rfl
        exact (show Tryz.prog.wantsStandIn t = false by simpa using List.all_eq_true.1 hall t hm)⟩)
    (by kernel_rfl)
end Go.Proofs.YtpihmjdljbienaaGreatDoor.topTables
