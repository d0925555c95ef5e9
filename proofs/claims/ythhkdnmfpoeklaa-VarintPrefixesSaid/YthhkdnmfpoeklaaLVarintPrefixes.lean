/- VarintPrefixes: a number's bytes, cut off anywhere ahead of their end, are told as cut off. No condition on the input. -/
import Derived.Test.YthhkdnmfpoeklaaVarint
import Derived.ProofKit
import Derived.OpenShut
import Derived.ShutString
import Derived.ChangeOld
import Derived.Below
import Derived.SizedLaws
namespace Go.Proofs.Ythhkdnmfpoeklaa.varintPrefixes
open Go.ChangeShapes Go.WideShapes Go.ChangeAt Go.RowKit
open Go.ChangeMaps (open_string shut_string)
set_option linter.unusedVariables false
open Vp B Vw

theorem cut_short (n : Int) (hn : -9223372036854775808 ≤ n ∧ n ≤ 9223372036854775807) (c : Nat) (hc : c < (vb (zz n)).length) : getS ((enc n).extract 0 c) 0 = ⟨0, 0, 3⟩ := by
  have hlt := zz_lt hn.1 hn.2
  have hsz : ((enc n).extract 0 c).size = c := by rw [extract0, str_size, enc, toList_str, List.length_take]; omega
  unfold getS
  rw [if_neg (by omega)]
  have h : getR ((enc n).extract 0 c) (0 : Int).toNat = .short := by
    unfold getR
    rw [hsz]
    refine scan_cut hlt _ _ hc (fun j hj => ?_)
    show bn ((enc n).extract 0 c) (0 + j) = _
    rw [extract0, enc, toList_str, Nat.zero_add]
    simp only [bn, vf, toList_str, List.getD_eq_getElem?_getD]
    rw [List.getElem?_take_of_lt (by omega)]
  rw [h]

theorem get_empty : getS ByteArray.empty 0 = ⟨0, 0, 3⟩ := rfl

set_option maxHeartbeats 400000 in
theorem walk (n cut : Int) (hn : -9223372036854775808 ≤ n ∧ n ≤ 9223372036854775807) (hcut : -9223372036854775808 ≤ cut ∧ cut ≤ 9223372036854775807) (w : World) :
    Calls Try.prog 5 #[.int .i64 n, .int .i64 cut] w fun e w' => e = .returned (.bool true) ∧ Below w.heap.size w w' := by
  obtain ⟨L, hL⟩ : ∃ L, L = (vb (zz n)).length := ⟨_, rfl⟩
  have hLp := vb_pos (zz n)
  have hL10 := vb_len10 (zz_lt hn.1 hn.2)
  have hsz : (enc n).size = L := by rw [hL, enc, str_size]
  have hcs : ∀ c, c < L → getS ((enc n).extract 0 c) 0 = ⟨0, 0, 3⟩ := fun c hc => cut_short n hn c (by omega)
  have hes : ∀ c, c < L → ((enc n).extract 0 c).size ≤ 140737488355328 := fun c hc => by
    rw [extract0, str_size]; simp only [List.length_take]; omega
  rw [← hL] at hLp hL10
  have hL0 : ((L : Int) == 0) = false := ef (by omega)
  have HC := Lib.hid hcs
  have HE := Lib.hid hes
  clear hL hcs hes
  obtain ⟨hc1, hc2⟩ := hcut
  by_cases h0 : 0 < cut
  · have hm1 : 0 ≤ cut % (L : Int) := Int.emod_nonneg _ (by omega)
    have hm2 : cut % (L : Int) < L := Int.emod_lt_of_pos _ (by omega)
    go_enter Try.func5, Try.ntmps5
    go_wp2_with fail
    refine (put_any _ hn.1 hn.2 _).mono ?_
    rintro e w1 ⟨rfl, hb1⟩
    go_wp2_with fail
    refine (get_any _ 0 (HE.out _ (by omega)) _).mono ?_
    rintro e w2 ⟨rfl, rfl⟩
    rw [HC.out _ (by omega)]
    simp only [ret3]
    go_wp2_with fail
    go_ret
    exact ⟨rfl, hb1⟩
  · go_enter Try.func5, Try.ntmps5
    go_wp2_with fail
    refine (put_any _ hn.1 hn.2 _).mono ?_
    rintro e w1 ⟨rfl, hb1⟩
    go_wp2_with fail
    refine (get_any ByteArray.empty 0 (by decide) _).mono ?_
    rintro e w2 ⟨rfl, rfl⟩
    rw [get_empty]
    simp only [ret3]
    go_wp2_with fail
    go_ret
    exact ⟨rfl, hb1⟩

theorem own : ownKnob Try.prog.godebug = none := by kernel_rfl
theorem laidOut : laidOutB Try.prog = true := by kernel_rfl

set_option maxRecDepth 100000 in
theorem lifted (os : Os) (started : os.Started) (H : Type) (enc : TypeId × Value → H) :
    ReturnsInHanded {} Try.checked os 5 .any (Rows.varintPrefixesSpec.pre6 enc Try.prog Try.f5 Rows.varintPrefixesRow.domain false) (Rows.varintPrefixesSpec.post enc Try.prog Try.f5 false true false false) := by
  refine returnsInHanded_of_change_sized (C := Try.checked) own started (by kernel_rfl) Try.func5
    (ChangeSpec.witness6 (enc := enc) (C := Try.checked) false ⟨#[], #[.int .i64 0, .int .i64 0], []⟩ 8 (by kernel_rfl) (by kernel_rfl) (by kernel_rfl) (by kernel_rfl)) ?_
  intro W base args ds gs before hval0 hW hcnd hsz0 _
  have hval : ∀ (j : Nat) t v, Try.f5.params[j]? = some t → args[j]? = some v → Value.okWide Try.prog W .any base t v := hval0
  have hsz : (DataW.weightsEach Try.prog (Try.f5.params.toList ++ Rows.varintPrefixesSpec.plain.varTypes Try.prog) (ds ++ gs)).all (· ≤ reachBytes) = true := hsz0
  have hW' := hW
  obtain ⟨p, q, hA0, hV, rfl, hfz, hnd⟩ := hW
  have hA : DataW.TrodAll enc Try.prog W 0 (fun _ => true) true Try.f5.params.toList args.toList ds p := hA0
  rw [Try.params5] at hA hval hsz
  obtain ⟨v0, vs0, d0, ds0, p0, q0, hargs, rfl, rfl, h0, r0⟩ := trodAll_cons hA
  obtain ⟨v1, vs1, d1, ds1, p1, q1, rfl, rfl, rfl, h1, r1⟩ := trodAll_cons r0
  obtain ⟨rfl, rfl, rfl⟩ := trodAll_nil r1
  obtain rfl : args = #[v0, v1] := by cases args; simp_all
  obtain ⟨rfl, rfl⟩ := trodVars_none hV
  have k0 := h0
  have lt0 : ∀ x ∈ p0, x.block < W.heap.size := by obtain ⟨m, hm⟩ := k0; exact DataW.trod_lt m _ _ _ hm
  have k1 := h1
  have lt1 : ∀ x ∈ p1, x.block < W.heap.size := by obtain ⟨m, hm⟩ := k1; exact DataW.trod_lt m _ _ _ hm
  obtain ⟨a0, rfl, rfl, rfl, w0⟩ := open_int Try.underlying2 (hval 0 2 v0 rfl rfl) h0
  have b0 : -9223372036854775808 ≤ a0 ∧ a0 ≤ 9223372036854775807 := by simpa [Lit.wf, IntKind.min, IntKind.max, IntKind.signed, IntKind.bits] using w0
  obtain ⟨a1, rfl, rfl, rfl, w1⟩ := open_int Try.underlying3 (hval 1 3 v1 rfl rfl) h1
  have b1 : -9223372036854775808 ≤ a1 ∧ a1 ≤ 9223372036854775807 := by simpa [Lit.wf, IntKind.min, IntKind.max, IntKind.signed, IntKind.bits] using w1
  clear hA0 hval0
  refine (walk a0 a1 b0 b1 W).mono fun e W' ⟨he, bel⟩ => ?_
  subst he
  exact ⟨_, rfl, _, _, _, [], _, [], hW', trodAll_mk1 (shut_bool Try.underlying4 _), (trodAll_cons_mk (Below.trod laidOut (by kernel_rfl) (of_decide_eq_true (by kernel_rfl)) k0 bel lt0) (trodAll_cons_mk (Below.trod laidOut (by kernel_rfl) (of_decide_eq_true (by kernel_rfl)) k1 bel lt1) trodAll_mk0)), rfl, bel.frame _, fun h => by cases h⟩

theorem over : Rows.varintPrefixesRow.holds Try.pinned (OpenSpec.ofChange Rows.varintPrefixesSpec) :=
  OpenClaim.holds_of_wide 5 Try.f5 rfl rfl rfl rfl rfl rfl rfl ⟨rfl, rfl, rfl, rfl, rfl⟩ rfl rfl rfl rfl rfl (by kernel_rfl) Try.func5 (by kernel_rfl)
    (of_decide_eq_true (by kernel_rfl)) (by unfold Func.isWrapper; first | (rw [if_pos (by decide +kernel)]; kernel_rfl) | (rw [if_neg (by decide +kernel)]; exact ⟨rfl, rfl⟩))
    (fun os started H enc _ => lifted os started H enc)

/-- THE STATEMENT -/
theorem proved : Rows.VarintPrefixesSaid := over
end Go.Proofs.Ythhkdnmfpoeklaa.varintPrefixes
