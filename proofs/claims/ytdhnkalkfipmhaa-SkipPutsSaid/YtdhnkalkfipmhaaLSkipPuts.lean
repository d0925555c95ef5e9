/- SkipPuts: whatever is put, with whatever coins, each put is answered, and costs, what the document says; so do all together. No condition on the input. -/
import Derived.Test.YtdhnkalkfipmhaaSkipL
import Derived.ProofKit
import Derived.OpenShut
import Derived.ShutString
import Derived.ChangeOld
import Derived.Below
import Derived.SizedLaws
import Derived.Test.YtdhnkalkfipmhaaOpen
import Derived.Test.YtdhnkalkfipmhaaOpenE
namespace Go.Proofs.Ytdhnkalkfipmhaa.skipPuts
open Go.ChangeShapes Go.WideShapes Go.ChangeAt Go.RowKit
open Go.ChangeMaps (open_string shut_string)
set_option linter.unusedVariables false
open En Ew B

set_option maxHeartbeats 1600000 in
set_option maxRecDepth 100000 in
theorem walk (a : Option Addr) (n cap : Nat) (z : List Int) (b : Option Addr) (m capb : Nat) (l : List Ent) (w : World) (hz : z.length = n ∧ n ≤ cap ∧ cap ≤ 9223372036854775807 ∧ n * 8 ≤ 140737488351232 ∧ (∀ x ∈ z, -9223372036854775808 ≤ x ∧ x ≤ 9223372036854775807) ∧ B.Row w a n (fun i => .int .i64 (z.getD i 0)))
    (hl : l.length = m ∧ m ≤ capb ∧ m * 56 ≤ 140737488351232 ∧ (∀ e ∈ l, Fits e) ∧ ERow w b m (fun i => l.getD i ent0)) :
    Calls Try.prog 5 #[.slice a n cap, .slice b m capb] w fun e w' => e = .returned (.bool true) ∧ Below w.heap.size w w' := by
  obtain ⟨z1, z2, z3, z4, z5, z6⟩ := hz
  obtain ⟨l1, l2, l3, l4, l5⟩ := hl
  have HLS := Lib.hid (lists6_any a n cap z z1 z4 z5 b m capb l l1 l2 l3 l4 w z6 l5)
  clear z1 z2 z3 z4 z5 z6 l1 l2 l3 l4 l5
  go_enter Try.func5, Try.ntmps5
  go_wp2_with fail
  refine HLS.out.mono ?_
  rintro e w1 ⟨lb, rb, L, rfl, ns, size, hsk, hm, hrs, hso, hl, hs0, hs1, hb1⟩
  have hlen : ns.length = L.length := by rw [← hm, List.length_map]
  have HS := Lib.hid hsk
  have HR := Lib.hid hrs
  have HB := Lib.hid hb1
  clear hsk hrs hb1 hm hso
  go_wp2_with fail
  have HLN := Lib.hid (fun W h => len_any W w.heap.size lb z ns size h)
  have HSZ := Lib.hid (fun W h => ssize_any W w.heap.size lb z ns size h)
  rw [hlen] at HLN
  obtain ⟨ca, cc, la, lc, hrb, hRB, hOC, hOL⟩ := HR.out
  have hcells := hRB.cells
  have H0 : Hid (w1.cell? ⟨rb, 1, none⟩ = some (.slice la L.length lc) ∧ w1.cell? ⟨rb, 2, none⟩ = some (.int .i64 size)) := ⟨hcells.2.1, hcells.2.2⟩
  have hrl := lt_of_block hRB
  clear hcells hRB hOC hOL hlen HR
  go_region_held3 (fun w' => w'.cell? ⟨rb, 1, none⟩ = some (.slice la L.length lc) ∧ w'.cell? ⟨rb, 2, none⟩ = some (.int .i64 size))
    (first | exact H0.out | exact HK.out)
    (first
      | (go_at_call 18; refine (wakes6_any _).mono ?_; rintro e w3 ⟨rfl, hb3⟩
         have HK : Hid (w3.cell? ⟨rb, 1, none⟩ = some (.slice la L.length lc) ∧ w3.cell? ⟨rb, 2, none⟩ = some (.int .i64 size)) := ⟨(hb3.cell (p := ⟨rb, 1, Option.none⟩) hrl).trans H0.out.1, (hb3.cell (p := ⟨rb, 2, Option.none⟩) hrl).trans H0.out.2⟩
         have HS := Lib.hid ((HS.out.below (Below.refl _ _).drew).below hb3)
         have HB := Lib.hid (chain HB.out.drew hb3))
      | (go_at_call 19; refine (HLN.out _ HS.out).mono ?_; rintro e w4 ⟨rfl, rfl⟩)
      | (go_at_call 20; refine (HSZ.out _ HS.out).mono ?_; rintro e w5 ⟨rfl, rfl⟩))
  all_goals
    have hz := HB.out
    go_wp2_with fail
    go_ret
    exact ⟨rfl, hz⟩

theorem entT : Op.EntT Try.prog 51 ((match Try.prog.underlying 51 with | some (.struct fs) => fs | _ => #[])) := by
  rw [Try.underlying51]
  exact ⟨Try.underlying51, by kernel_rfl, by kernel_rfl, ⟨_, rfl, Try.underlying9⟩, ⟨_, rfl, Try.underlying2⟩, ⟨_, rfl, Try.underlying4⟩, ⟨_, rfl, Try.underlying9⟩, ⟨_, rfl, Try.underlying2⟩, rfl⟩
theorem bd64 {n : Int} (h : (Lit.int .i64 n).wf = true) : -9223372036854775808 ≤ n ∧ n ≤ 9223372036854775807 := by
  simpa [Lit.wf, IntKind.min, IntKind.max, IntKind.signed, IntKind.bits] using h


theorem own : ownKnob Try.prog.godebug = none := by kernel_rfl
theorem laidOut : laidOutB Try.prog = true := by kernel_rfl

set_option maxRecDepth 100000 in
theorem lifted (os : Os) (started : os.Started) (H : Type) (enc : TypeId × Value → H) :
    ReturnsInHanded {} Try.checked os 5 .any (Rows.skipPutsSpec.pre6 enc Try.prog Try.f5 Rows.skipPutsRow.domain false) (Rows.skipPutsSpec.post enc Try.prog Try.f5 false true false false) := by
  refine returnsInHanded_of_change_sized (C := Try.checked) own started (by kernel_rfl) Try.func5
    (ChangeSpec.witness6 (enc := enc) (C := Try.checked) false ⟨#[], #[.slice none 0 0, .slice none 0 0], []⟩ 8 (by kernel_rfl) (by kernel_rfl) (by kernel_rfl) (by kernel_rfl)) ?_
  intro W base args ds gs before hval0 hW hcnd hsz0 _
  have hval : ∀ (j : Nat) t v, Try.f5.params[j]? = some t → args[j]? = some v → Value.okWide Try.prog W .any base t v := hval0
  have hsz : (DataW.weightsEach Try.prog (Try.f5.params.toList ++ Rows.skipPutsSpec.plain.varTypes Try.prog) (ds ++ gs)).all (· ≤ reachBytes) = true := hsz0
  have hW' := hW
  obtain ⟨p, q, hA0, hV, rfl, hfz, hnd⟩ := hW
  have hA : DataW.TrodAll enc Try.prog W 0 (fun _ => true) true Try.f5.params.toList args.toList ds p := hA0
  rw [Try.params5] at hA hval hsz
  obtain ⟨v0, vs0, d0, ds0, p0, q0, hargs, rfl, rfl, h0, r0⟩ := trodAll_cons hA
  obtain ⟨v1, vs1, d1, ds1, p1, q1, rfl, rfl, rfl, h1, r1⟩ := trodAll_cons r0
  obtain ⟨rfl, rfl, rfl⟩ := trodAll_nil r1
  obtain rfl : args = #[v0, v1] := by cases args; simp_all
  obtain ⟨rfl, rfl⟩ := trodVars_none hV
  have k0 := h0
  have lt0 : ∀ x ∈ p0, x.block < W.heap.size := by obtain ⟨m, hm⟩ := k0; exact DataW.trod_lt m _ _ _ hm
  have k1 := h1
  have lt1 : ∀ x ∈ p1, x.block < W.heap.size := by obtain ⟨m, hm⟩ := k1; exact DataW.trod_lt m _ _ _ hm
  obtain ⟨a0, n0, cap0, z0, rfl, w0, wf0, row0, lc0, cm0, wt0⟩ := Op.ints2 Try.underlying40 Try.underlying3 (by kernel_rfl) (hval 0 40 v0 rfl rfl) h0
  have wb0 := wt0 reachBytes (fun m hm => of_decide_eq_true (List.all_eq_true.1 hsz _ (DataW.weights_mem_each (j := 0) rfl rfl m hm)))
  have f0 : z0.length = n0 ∧ n0 ≤ cap0 ∧ cap0 ≤ 9223372036854775807 ∧ n0 * 8 ≤ 140737488351232 ∧ (∀ x ∈ z0, -9223372036854775808 ≤ x ∧ x ≤ 9223372036854775807) ∧ B.Row W a0 n0 (fun i => .int .i64 (z0.getD i 0)) := ⟨w0, lc0, by simpa [maxLen] using cm0, by rw [show Try.prog.bytesOf 3 = 8 from by kernel_rfl] at wb0; exact wb0, fun x hx => by simpa [Lit.wf, IntKind.min, IntKind.max, IntKind.signed, IntKind.bits] using wf0 x hx, row0⟩
  obtain ⟨a1, n1, cap1, z1, rfl, w1, row1, lc1, cm1, wf1, wt1, bk1⟩ := Op.ents1 entT Try.underlying41 (hval 1 41 v1 rfl rfl) h1
  have wb1 := wt1 reachBytes (fun m hm => of_decide_eq_true (List.all_eq_true.1 hsz _ (DataW.weights_mem_each (j := 1) rfl rfl m hm)))
  have f1 : z1.length = n1 ∧ n1 ≤ cap1 ∧ n1 * 56 ≤ 140737488351232 ∧ (∀ e ∈ z1, En.Fits e) ∧ En.ERow W a1 n1 (fun i => z1.getD i En.ent0) := ⟨w1, lc1, by have h9 := wb1.2; rw [show Try.prog.bytesOf 51 = 56 from by kernel_rfl] at h9; exact h9, fun x hx => by have h9 := wf1 x hx; have h8 := wb1.1 x hx; exact ⟨h8.1, h8.2, (bd64 h9.2.2.1).1, (bd64 h9.2.2.1).2, (bd64 h9.2.2.2).1, (bd64 h9.2.2.2).2⟩, row1⟩
  clear hA0 hval0
  refine (walk a0 n0 cap0 z0 a1 n1 cap1 z1 W f0 f1).mono fun e W' ⟨he, bel⟩ => ?_
  subst he
  exact ⟨_, rfl, _, _, _, [], _, [], hW', trodAll_mk1 (shut_bool Try.underlying4 _), (trodAll_cons_mk (Below.trod laidOut (by kernel_rfl) (of_decide_eq_true (by kernel_rfl)) k0 bel lt0) (trodAll_cons_mk (Below.trod laidOut (by kernel_rfl) (of_decide_eq_true (by kernel_rfl)) k1 bel lt1) trodAll_mk0)), rfl, bel.frame _, fun h => by cases h⟩

theorem over : Rows.skipPutsRow.holds Try.pinned (OpenSpec.ofChange Rows.skipPutsSpec) :=
  OpenClaim.holds_of_wide 5 Try.f5 rfl rfl rfl rfl rfl rfl rfl ⟨rfl, rfl, rfl, rfl, rfl⟩ rfl rfl rfl rfl rfl (by kernel_rfl) Try.func5 (by kernel_rfl)
    (of_decide_eq_true (by kernel_rfl)) (by unfold Func.isWrapper; first | (rw [if_pos (by decide +kernel)]; kernel_rfl) | (rw [if_neg (by decide +kernel)]; exact ⟨rfl, rfl⟩))
    (fun os started H enc _ => lifted os started H enc)

/-- THE STATEMENT -/
theorem proved : Rows.SkipPutsSaid := over
end Go.Proofs.Ytdhnkalkfipmhaa.skipPuts
