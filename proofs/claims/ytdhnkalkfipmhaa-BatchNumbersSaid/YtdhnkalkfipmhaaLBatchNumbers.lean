/- BatchNumbers: numbered items are the items with rising numbers, in a new list. No condition on the input. -/
import Derived.Test.YtdhnkalkfipmhaaBatchK
import Derived.Test.YtdhnkalkfipmhaaNumW
import Derived.Test.YtdhnkalkfipmhaaSetE
import Derived.Test.YtdhnkalkfipmhaaEqE
import Derived.Deep.QuietTactic
import Derived.BigQuiet
import Derived.ProofKit
import Derived.OpenShut
import Derived.ShutString
import Derived.ChangeOld
import Derived.Below
import Derived.SizedLaws
import Derived.Test.YtdhnkalkfipmhaaOpen
import Derived.Test.YtdhnkalkfipmhaaOpenE
namespace Go.Proofs.Ytdhnkalkfipmhaa.batchNumbers
open Go.ChangeShapes Go.WideShapes Go.ChangeAt Go.RowKit
open Go.ChangeMaps (open_string shut_string)
set_option linter.unusedVariables false
open En Ew B

/-- what the new list holds behind k rounds -/
def zl (l : List Ent) (q : Int) (k : Nat) : List Ent := List.replicate k ent0 ++ (numsTo l q l.length).drop k
theorem zl_len (l : List Ent) (q : Int) (k : Nat) (h : k ≤ l.length) : (zl l q k).length = l.length := by simp [zl, numsTo_len]; omega
theorem zl_at (l : List Ent) (q : Int) (k : Nat) (h : k < l.length) : (zl l q k).getD k ent0 = numE (l.getD k ent0) (q + k) := by
  unfold zl
  rw [List.getD_eq_getElem?_getD, List.getElem?_append_right (by simp), List.length_replicate, Nat.sub_self, List.getElem?_drop]
  simp [numsTo, h]
theorem zl_succ (l : List Ent) (q : Int) (k : Nat) (h : k < l.length) : (zl l q k).set k ent0 = zl l q (k + 1) := by
  unfold zl
  rw [List.set_append_right _ _ (by simp), List.length_replicate, Nat.sub_self, List.drop_eq_getElem_cons (by rw [numsTo_len]; exact h), List.set_cons_zero, List.replicate_succ', List.append_assoc]
  rfl

set_option maxHeartbeats 1600000 in
set_option maxRecDepth 100000 in
theorem walk (a : Option Addr) (n cap : Nat) (l : List Ent) (q0 : Int) (w : World) (hz : l.length = n ∧ n ≤ cap ∧ n * 56 ≤ 140737488351232 ∧ (∀ e ∈ l, Fits e) ∧ ERow w a n (fun i => l.getD i ent0)) (hq0 : -9223372036854775808 ≤ q0 ∧ q0 ≤ 9223372036854775807) :
    Calls Try.prog 4 #[.slice a n cap, .int .i64 q0] w fun e w' => e = .returned (.bool true) ∧ Below w.heap.size w w' := by
  obtain ⟨hl, hn, hm, hf, hrow⟩ := hz
  obtain ⟨q, hq⟩ : ∃ q : Int, q = max (-4611686018427387904) (min q0 4611686018427387904) := ⟨_, rfl⟩
  have hq1 : -4611686018427387904 ≤ q := by omega
  have hq2 : q ≤ 4611686018427387904 := by omega
  have hqe : max (-4611686018427387904) (min q0 4611686018427387904) = q := hq.symm
  have HLS := Lib.hid (lists_any a n cap l hl hm w hrow)
  have HNU := Lib.hid (fun a1 c1 W hr => number_any a1 n c1 l q hl hm hq1 hq2 W hr)
  have HSI := Lib.hid (fun a1 c1 W hr => size_any a1 n c1 l hl hm hf W hr)
  have HF := Lib.hid hf
  have HL := Lib.hid hl
  have HR := Lib.hid hrow
  clear hl hf hrow hq
  go_enter Try.func4, Try.ntmps4
  go_wp2_with fail
  refine HLS.out.mono ?_
  unfold GotL
  rw [HL.out]
  rintro e w1 ⟨a1, c1, a2, c2, rfl, ho1, ho2, hb1⟩
  have R1 := Lib.hid (own_erow ho1).2.2
  have R0 := Lib.hid (HR.out.below hb1)
  clear ho1 ho2
  go_wp2_with fail
  clear hqe
  refine (HNU.out _ _ _ R1.out).mono ?_
  rintro e w2 ⟨a3, c3, rfl, ho3, hb2⟩
  have O3 := Lib.hid ho3
  clear ho3
  go_wp2_with fail
  refine (wakes7_any _).mono ?_
  rintro e w3 ⟨rfl, hb3⟩
  have O4 := Lib.hid (own_below O3.out hb3)
  have hb4 := chain hb2 hb3
  go_wp2_with fail
  have hS0 : (0 : Int) = wrap64 (sizeL (l.take 0)) := by rw [List.take_zero]; simp [sizeL, wrap64]
  have hZ0 : zl l q 0 = numsTo l q n := by unfold zl; rw [HL.out]; rfl
  go_loopw [8, 35] (fun s i wr => ∃ j : Nat, i = .int .i64 j ∧ j ≤ n ∧ s = .int .i64 (wrap64 (sizeL (l.take j))) ∧ wr.ownsRow w1.heap.size 36 5 (.slice a3 n c3) n (ecells (zl l q j)) ∧ Below w1.heap.size w1 wr) (fun _ i _ => n - (intOf i).toNat)
  case atStart => exact ⟨0, rfl, by omega, congrArg _ hS0, by rw [hZ0]; exact O4.out, hb4⟩
  case round =>
    obtain ⟨j, rfl, hj, rfl, hown, hbel⟩ := hrel
    clear hS0 hZ0
    by_cases hlt : j < n
    · obtain ⟨b0, o0, rfl, hl0, hc0⟩ := (R0.out.below hbel).at (by omega)
      obtain ⟨b1, o1, rfl, hl1, hc1⟩ := (R1.out.below hbel).at (by omega)
      obtain ⟨g3, cap3, hv, hg1, hg2⟩ := hown.form (by omega)
      cases hv
      have hd0 := hc0 j hlt
      have hd1 := hc1 j hlt
      have hd3 := own_at5 hown j (by rw [zl_len l q j (by rw [HL.out]; omega), HL.out]; exact hlt)
      rw [zl_at l q j (by rw [HL.out]; exact hlt)] at hd3
      obtain ⟨f0, f1, f2, f3, f4⟩ := own_fz5 hown (j * 5)
      have hst := take_snoc l j ent0 (by rw [HL.out]; exact hlt)
      have hfit : Fits (l.getD j ent0) := HF.out _ (by rw [List.getD_eq_getElem?_getD, List.getElem?_eq_getElem (by rw [HL.out]; exact hlt)]; exact List.getElem_mem _)
      generalize l.getD j ent0 = x at hd0 hd1 hd3 hst hfit
      obtain ⟨k, sq, g, v, u⟩ := x
      have hk1 := hfit.key
      have hv1 := hfit.val
      simp only [numE] at hd0 hd1 hd3 hk1 hv1
      obtain ⟨p0, p1, p2, p3, p4⟩ := hd0
      obtain ⟨q0, q1, q2, q3, q4⟩ := hd1
      obtain ⟨r0, r1, r2, r3, r4⟩ := hd3
      have hsz : ∀ z, z = wrap64 (sizeL (l.take j)) → wrap64 (sizeL (l.take (j + 1))) = wrap64 (z + ((k.size : Int) + (v.size : Int))) := by
        rintro z rfl
        rw [wrap_add, hst, sizeL_snoc]
        congr 1
      obtain ⟨z, hz⟩ : ∃ z, z = wrap64 (sizeL (l.take j)) := ⟨_, rfl⟩
      have HSZ := Lib.hid (hsz z hz)
      rw [← hz]
      have HO := Lib.hid hown
      have i1 : (0 : Int) ≤ (j : Int) := by omega
      have i2 : (j : Int) < (n : Int) := by omega
      have i3 : (n : Int) ≤ (cap : Int) := by omega
      clear hc0 hc1 hst hfit hsz hz hown
      have hne1 : ∀ W : World, (binOp .neq 36 (.agg #[.string k, .int .i64 sq, .bool g, .string v, .int .i64 u]) (.agg #[.string k, .int .i64 sq, .bool g, .string v, .int .i64 u])).run Try.prog W = .ok (.bool false) W := fun W => by rw [neq_api, eqE_refl]; rfl
      have hne2 : ∀ W : World, (binOp .neq 36 (.agg #[.string k, .int .i64 (q + j), .bool g, .string v, .int .i64 u]) (.agg #[.string k, .int .i64 (q + j), .bool g, .string v, .int .i64 u])).run Try.prog W = .ok (.bool false) W := fun W => by rw [neq_api, eqE_refl]; rfl
      go_wp2_with fail
      go_quiet (fail)
      go_wp2_with fail
      go_roundw
      case rel =>
        refine ⟨j + 1, by go_num, by omega, by rw [HSZ.out], ?_, ?_⟩
        · rw [← zl_succ l q j (by rw [HL.out]; exact hlt)]
          exact own_set5 (own_far (own_drewN ((HO.out.alloc _).alloc _) _) (by show g3 ≠ wr.heap.size + 1; omega) _) j (by rw [zl_len l q j (by rw [HL.out]; omega), HL.out]; exact hlt) ent0
        · refine below_set5 (x := ent0) ?_ hg1
          exact (drewN ((hbel.alloc hbel.size _).alloc (by have := hbel.size; simp; omega) _)).setCell (p := ⟨wr.heap.size + 1, 1, none⟩) (by have := hbel.size; show w1.heap.size ≤ wr.heap.size + 1; omega) _
      case measure => simp [intOf]; omega
    · obtain rfl : j = n := by omega
      have e1 : l.take j = l := List.take_of_length_le (by rw [HL.out]; exact Nat.le_refl _)
      rw [e1]
      obtain ⟨z, hz⟩ : ∃ z, z = wrap64 (sizeL l) := ⟨_, rfl⟩
      rw [← hz] at HSI ⊢
      have R01 := Lib.hid (R0.out.below hbel)
      have R11 := Lib.hid (R1.out.below hbel)
      have HBZ := Lib.hid (chain hb1 hbel)
      clear e1 hown hz
      go_wp2_with fail
      go_loopw [73] (fun i wi => ∃ k q : Nat, i = .int .i64 k ∧ k ≤ j ∧ wi = wr.drewN q) (fun i _ => j - (intOf i).toNat)
      case atStart => exact ⟨0, 0, rfl, by omega, rfl⟩
      case round =>
        obtain ⟨k, mq, rfl, hk, rfl⟩ := hrel
        by_cases hlt2 : k < j
        · obtain ⟨b0, o0, rfl, hl0, hc0⟩ := R01.out.at (by omega)
          obtain ⟨b1, o1, rfl, hl1, hc1⟩ := R11.out.at (by omega)
          have hd0 := hc0 k hlt2
          have hd1 := hc1 k hlt2
          generalize l.getD k ent0 = x at hd0 hd1
          obtain ⟨ky, sq, g, v, u⟩ := x
          simp only at hd0 hd1
          obtain ⟨p0, p1, p2, p3, p4⟩ := hd0
          obtain ⟨q0, q1, q2, q3, q4⟩ := hd1
          have i1 : (0 : Int) ≤ (k : Int) := by omega
          have i2 : (k : Int) < (j : Int) := by omega
          have hne1 : ∀ W : World, (binOp .neq 36 (.agg #[.string ky, .int .i64 sq, .bool g, .string v, .int .i64 u]) (.agg #[.string ky, .int .i64 sq, .bool g, .string v, .int .i64 u])).run Try.prog W = .ok (.bool false) W := fun W => by rw [neq_api, eqE_refl]; rfl
          clear hc0 hc1
          go_wp2_with fail
          go_quiet (fail)
          go_wp2_with fail
          go_roundw
          case rel => exact ⟨k + 1, mq + _, by go_num, by omega, rfl⟩
          case measure => simp [intOf]; omega
        · go_wp2_with fail
          refine (HSI.out _ _ _ (R11.out.below (drewN (Below.refl _ _)))).mono ?_
          rintro e w5 ⟨rfl, hb5⟩
          have hbz := chain (drewN (n := mq) HBZ.out) hb5
          go_wp2_with fail
          go_ret
          exact ⟨rfl, hbz⟩

theorem entT : Op.EntT Try.prog 37 ((match Try.prog.underlying 37 with | some (.struct fs) => fs | _ => #[])) := by
  rw [Try.underlying37]
  exact ⟨Try.underlying37, by kernel_rfl, by kernel_rfl, ⟨_, rfl, Try.underlying9⟩, ⟨_, rfl, Try.underlying2⟩, ⟨_, rfl, Try.underlying4⟩, ⟨_, rfl, Try.underlying9⟩, ⟨_, rfl, Try.underlying2⟩, rfl⟩
theorem bd64 {n : Int} (h : (Lit.int .i64 n).wf = true) : -9223372036854775808 ≤ n ∧ n ≤ 9223372036854775807 := by
  simpa [Lit.wf, IntKind.min, IntKind.max, IntKind.signed, IntKind.bits] using h


theorem own : ownKnob Try.prog.godebug = none := by kernel_rfl
theorem laidOut : laidOutB Try.prog = true := by kernel_rfl

set_option maxRecDepth 100000 in
theorem lifted (os : Os) (started : os.Started) (H : Type) (enc : TypeId × Value → H) :
    ReturnsInHanded {} Try.checked os 4 .any (Rows.batchNumbersSpec.pre6 enc Try.prog Try.f4 Rows.batchNumbersRow.domain false) (Rows.batchNumbersSpec.post enc Try.prog Try.f4 false true false false) := by
  refine returnsInHanded_of_change_sized (C := Try.checked) own started (by kernel_rfl) Try.func4
    (ChangeSpec.witness6 (enc := enc) (C := Try.checked) false ⟨#[], #[.slice none 0 0, .int .i64 0], []⟩ 8 (by kernel_rfl) (by kernel_rfl) (by kernel_rfl) (by kernel_rfl)) ?_
  intro W base args ds gs before hval0 hW hcnd hsz0 _
  have hval : ∀ (j : Nat) t v, Try.f4.params[j]? = some t → args[j]? = some v → Value.okWide Try.prog W .any base t v := hval0
  have hsz : (DataW.weightsEach Try.prog (Try.f4.params.toList ++ Rows.batchNumbersSpec.plain.varTypes Try.prog) (ds ++ gs)).all (· ≤ reachBytes) = true := hsz0
  have hW' := hW
  obtain ⟨p, q, hA0, hV, rfl, hfz, hnd⟩ := hW
  have hA : DataW.TrodAll enc Try.prog W 0 (fun _ => true) true Try.f4.params.toList args.toList ds p := hA0
  rw [Try.params4] at hA hval hsz
  obtain ⟨v0, vs0, d0, ds0, p0, q0, hargs, rfl, rfl, h0, r0⟩ := trodAll_cons hA
  obtain ⟨v1, vs1, d1, ds1, p1, q1, rfl, rfl, rfl, h1, r1⟩ := trodAll_cons r0
  obtain ⟨rfl, rfl, rfl⟩ := trodAll_nil r1
  obtain rfl : args = #[v0, v1] := by cases args; simp_all
  obtain ⟨rfl, rfl⟩ := trodVars_none hV
  have k0 := h0
  have lt0 : ∀ x ∈ p0, x.block < W.heap.size := by obtain ⟨m, hm⟩ := k0; exact DataW.trod_lt m _ _ _ hm
  have k1 := h1
  have lt1 : ∀ x ∈ p1, x.block < W.heap.size := by obtain ⟨m, hm⟩ := k1; exact DataW.trod_lt m _ _ _ hm
  obtain ⟨a0, n0, cap0, z0, rfl, w0, row0, lc0, cm0, wf0, wt0, bk0⟩ := Op.ents1 entT Try.underlying22 (hval 0 22 v0 rfl rfl) h0
  have wb0 := wt0 reachBytes (fun m hm => of_decide_eq_true (List.all_eq_true.1 hsz _ (DataW.weights_mem_each (j := 0) rfl rfl m hm)))
  have f0 : z0.length = n0 ∧ n0 ≤ cap0 ∧ n0 * 56 ≤ 140737488351232 ∧ (∀ e ∈ z0, En.Fits e) ∧ En.ERow W a0 n0 (fun i => z0.getD i En.ent0) := ⟨w0, lc0, by have h9 := wb0.2; rw [show Try.prog.bytesOf 37 = 56 from by kernel_rfl] at h9; exact h9, fun x hx => by have h9 := wf0 x hx; have h8 := wb0.1 x hx; exact ⟨h8.1, h8.2, (bd64 h9.2.2.1).1, (bd64 h9.2.2.1).2, (bd64 h9.2.2.2).1, (bd64 h9.2.2.2).2⟩, row0⟩
  obtain ⟨a1, rfl, rfl, rfl, w1⟩ := open_int Try.underlying2 (hval 1 2 v1 rfl rfl) h1
  have b1 : -9223372036854775808 ≤ a1 ∧ a1 ≤ 9223372036854775807 := by simpa [Lit.wf, IntKind.min, IntKind.max, IntKind.signed, IntKind.bits] using w1
  clear hA0 hval0
  refine (walk a0 n0 cap0 z0 a1 W f0 b1).mono fun e W' ⟨he, bel⟩ => ?_
  subst he
  exact ⟨_, rfl, _, _, _, [], _, [], hW', trodAll_mk1 (shut_bool Try.underlying4 _), (trodAll_cons_mk (Below.trod laidOut (by kernel_rfl) (of_decide_eq_true (by kernel_rfl)) k0 bel lt0) (trodAll_cons_mk (Below.trod laidOut (by kernel_rfl) (of_decide_eq_true (by kernel_rfl)) k1 bel lt1) trodAll_mk0)), rfl, bel.frame _, fun h => by cases h⟩

theorem over : Rows.batchNumbersRow.holds Try.pinned (OpenSpec.ofChange Rows.batchNumbersSpec) :=
  OpenClaim.holds_of_wide 4 Try.f4 rfl rfl rfl rfl rfl rfl rfl ⟨rfl, rfl, rfl, rfl, rfl⟩ rfl rfl rfl rfl rfl (by kernel_rfl) Try.func4 (by kernel_rfl)
    (of_decide_eq_true (by kernel_rfl)) (by unfold Func.isWrapper; first | (rw [if_pos (by decide +kernel)]; kernel_rfl) | (rw [if_neg (by decide +kernel)]; exact ⟨rfl, rfl⟩))
    (fun os started H enc _ => lifted os started H enc)

/-- THE STATEMENT -/
theorem proved : Rows.BatchNumbersSaid := over
end Go.Proofs.Ytdhnkalkfipmhaa.batchNumbers
