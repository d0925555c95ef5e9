/- BloomFinds: no key that was handed in is ever told as not there. No condition on the input. -/
import Derived.Test.YtfeaacjacbljfaaBloomW
import Derived.ProofKit
import Derived.OpenShut
import Derived.ShutString
import Derived.ChangeOld
import Derived.Below
import Derived.SizedLaws
import Derived.Test.YtfeaacjacbljfaaOpen
namespace Go.Proofs.Ytfeaacjacbljfaa.bloomFinds
open Go.ChangeShapes Go.WideShapes Go.ChangeAt Go.RowKit
open Go.ChangeMaps (open_string shut_string)
set_option linter.unusedVariables false
open Mp Fp B Fw Mw

theorem mk_ok {bits : Int} {ks : List (List UInt8)} (h : (mk bits ks).2 = 0) : ∀ k ∈ ks, hasK (mk bits ks).1 k = true := by
  unfold mk at h ⊢
  by_cases h1 : bits < 1 ∨ 16 < bits
  · rw [if_pos h1] at h; simp at h
  · rw [if_neg h1] at h ⊢
    by_cases h2 : 65536 < ks.length
    · rw [if_pos h2] at h; simp at h
    · rw [if_neg h2]
      intro k hk
      exact hasK_in _ _ _ (by omega) (by omega) hk
theorem mk_len (bits : Int) (ks : List (List UInt8)) : (mk bits ks).1.length ≤ 131074 := by
  unfold mk
  by_cases h1 : bits < 1 ∨ 16 < bits
  · rw [if_pos h1]; simp
  · rw [if_neg h1]
    by_cases h2 : 65536 < ks.length
    · rw [if_pos h2]; simp
    · rw [if_neg h2]
      have := byteN_le bits.toNat ks.length (by omega) (by omega)
      simp only [filt, List.length_cons, marks_len]
      omega

set_option maxHeartbeats 800000 in
theorem walk (bits : Int) (a : Option Addr) (n cap : Nat) (ss : List ByteArray) (w : World) (hb : -9223372036854775808 ≤ bits ∧ bits ≤ 9223372036854775807)
    (hz : ss.length = n ∧ n ≤ cap ∧ cap ≤ 9223372036854775807 ∧ (∀ s ∈ ss, s.size ≤ 140737488351232) ∧ Row w a n (fun i => .string (ss.getD i ByteArray.empty))) :
    Calls Try.prog 11 #[.int .i64 bits, .slice a n cap] w fun e w' => e = .returned (.bool true) ∧ Below w.heap.size w w' := by
  obtain ⟨hz, hn, hm, hsz, hrow⟩ := hz
  have hs2 : ∀ s ∈ ss, s.size ≤ 2305843009213693952 := fun s hs => by have := hsz s hs; omega
  have hA := new_any bits a n cap ss hz hn hm hs2
  have hok := @mk_ok bits (ss.map fun s => s.data.toList)
  have hln := mk_len bits (ss.map fun s => s.data.toList)
  have hall : ∀ i, i < n → (ss.getD i ByteArray.empty).data.toList ∈ (ss.map fun s => s.data.toList) ∧ (ss.getD i ByteArray.empty).size ≤ 140737488351232 := by
    intro i hi
    have hmem : ss.getD i ByteArray.empty ∈ ss := by
      rw [List.getD_eq_getElem?_getD, List.getElem?_eq_getElem (by omega)]
      exact List.getElem_mem _
    exact ⟨List.mem_map_of_mem hmem, hsz _ hmem⟩
  generalize mk bits (ss.map fun s => s.data.toList) = m at hA hok hln
  generalize (ss.map fun s => s.data.toList) = ks at hok hall
  obtain ⟨f, g⟩ := m
  have HA := Lib.hid hA
  have HR := Lib.hid hrow
  have HK := Lib.hid hok
  have HALL := Lib.hid hall
  have hfs : (str f).size ≤ 131074 := by rw [str_size]; exact hln
  clear hA hrow hs2 hsz hz hok hall
  by_cases hg : g = 0
  · obtain rfl := hg
    go_enter Try.func11, Try.ntmps11
    go_wp2_with fail
    refine (HA.out w HR.out).mono ?_
    rintro e w1 ⟨rfl, hb1⟩
    go_wp2_with fail
    refine (wakes_any _).mono ?_
    rintro e w2 ⟨rfl, hb2⟩
    have HB2 := Lib.hid (chain hb1 hb2)
    clear hb1 hb2
    go_wp2_with fail
    go_loopw [24] (fun i wr => ∃ j : Nat, i = .int .i64 j ∧ j ≤ n ∧ Below w.heap.size w wr) (fun i _ => n - (intOf i).toNat)
    case atStart => exact ⟨0, rfl, by omega, HB2.out⟩
    case round =>
      obtain ⟨j, rfl, hj, hbel⟩ := hrel
      by_cases hlt : j < n
      · obtain ⟨b1, o1, rfl, _, hc1⟩ := (HR.out.below hbel).at (by omega)
        have hk1 := hc1 j hlt
        have ⟨hmem, hsl⟩ := HALL.out j hlt
        generalize ss.getD j ByteArray.empty = s at hk1 hmem hsl
        have hh := HK.out (by trivial) _ hmem
        have HH := Lib.hid (has_any (str f) s (by omega) (by omega))
        rw [toList_str, hh] at HH
        clear hc1 hmem hh
        go_wp2_with fail
        refine (HH.out _).mono ?_
        rintro e w3 ⟨rfl, hb3⟩
        have hb4 := chain hbel hb3
        go_wp2_with fail
        go_roundw
        case rel => exact ⟨j + 1, by go_num, by omega, hb4⟩
        case measure => simp [intOf]; omega
      · go_wp2_with fail
        go_ret
        exact ⟨rfl, hbel⟩
  · have hg2 : (g != 0) = true := nt hg
    go_enter Try.func11, Try.ntmps11
    go_wp2_with fail
    refine (HA.out w HR.out).mono ?_
    rintro e w1 ⟨rfl, hb1⟩
    go_wp2_with fail
    refine (wakes_any _).mono ?_
    rintro e w2 ⟨rfl, hb2⟩
    go_wp2_with fail
    refine (wakes_any _).mono ?_
    rintro e w3 ⟨rfl, hb3⟩
    have hbz := chain (chain hb1 hb2) hb3
    go_wp2_with fail
    go_ret
    exact ⟨rfl, hbz⟩

theorem own : ownKnob Try.prog.godebug = none := by kernel_rfl
theorem laidOut : laidOutB Try.prog = true := by kernel_rfl

set_option maxRecDepth 100000 in
theorem lifted (os : Os) (started : os.Started) (H : Type) (enc : TypeId × Value → H) :
    ReturnsInHanded {} Try.checked os 11 .any (Rows.bloomFindsSpec.pre6 enc Try.prog Try.f11 Rows.bloomFindsRow.domain false) (Rows.bloomFindsSpec.post enc Try.prog Try.f11 false true false false) := by
  refine returnsInHanded_of_change_sized (C := Try.checked) own started (by kernel_rfl) Try.func11
    (ChangeSpec.witness6 (enc := enc) (C := Try.checked) false ⟨#[], #[.int .i64 0, .slice none 0 0], []⟩ 8 (by kernel_rfl) (by kernel_rfl) (by kernel_rfl) (by kernel_rfl)) ?_
  intro W base args ds gs before hval0 hW hcnd hsz0 _
  have hval : ∀ (j : Nat) t v, Try.f11.params[j]? = some t → args[j]? = some v → Value.okWide Try.prog W .any base t v := hval0
  have hsz : (DataW.weightsEach Try.prog (Try.f11.params.toList ++ Rows.bloomFindsSpec.plain.varTypes Try.prog) (ds ++ gs)).all (· ≤ reachBytes) = true := hsz0
  have hW' := hW
  obtain ⟨p, q, hA0, hV, rfl, hfz, hnd⟩ := hW
  have hA : DataW.TrodAll enc Try.prog W 0 (fun _ => true) true Try.f11.params.toList args.toList ds p := hA0
  rw [Try.params11] at hA hval hsz
  obtain ⟨v0, vs0, d0, ds0, p0, q0, hargs, rfl, rfl, h0, r0⟩ := trodAll_cons hA
  obtain ⟨v1, vs1, d1, ds1, p1, q1, rfl, rfl, rfl, h1, r1⟩ := trodAll_cons r0
  obtain ⟨rfl, rfl, rfl⟩ := trodAll_nil r1
  obtain rfl : args = #[v0, v1] := by cases args; simp_all
  obtain ⟨rfl, rfl⟩ := trodVars_none hV
  have k0 := h0
  have lt0 : ∀ x ∈ p0, x.block < W.heap.size := by obtain ⟨m, hm⟩ := k0; exact DataW.trod_lt m _ _ _ hm
  have k1 := h1
  have lt1 : ∀ x ∈ p1, x.block < W.heap.size := by obtain ⟨m, hm⟩ := k1; exact DataW.trod_lt m _ _ _ hm
  obtain ⟨a0, rfl, rfl, rfl, w0⟩ := open_int Try.underlying3 (hval 0 3 v0 rfl rfl) h0
  have b0 : -9223372036854775808 ≤ a0 ∧ a0 ≤ 9223372036854775807 := by simpa [Lit.wf, IntKind.min, IntKind.max, IntKind.signed, IntKind.bits] using w0
  obtain ⟨a1, n1, cap1, z1, rfl, w1, row1, lc1, cm1, wt1⟩ := Op.strs2 Try.underlying35 Try.underlying9 (by kernel_rfl) (hval 1 35 v1 rfl rfl) h1
  have f1 : z1.length = n1 ∧ n1 ≤ cap1 ∧ cap1 ≤ 9223372036854775807 ∧ (∀ s ∈ z1, s.size ≤ 140737488351232) ∧ B.Row W a1 n1 (fun i => .string (z1.getD i ByteArray.empty)) := ⟨w1, lc1, by simpa [maxLen] using cm1, fun s hs => (wt1 reachBytes (fun m hm => of_decide_eq_true (List.all_eq_true.1 hsz _ (DataW.weights_mem_each (j := 1) rfl rfl m hm)))).1 s hs, row1⟩
  clear hA0 hval0
  refine (walk a0 a1 n1 cap1 z1 W b0 f1).mono fun e W' ⟨he, bel⟩ => ?_
  subst he
  exact ⟨_, rfl, _, _, _, [], _, [], hW', trodAll_mk1 (shut_bool Try.underlying4 _), (trodAll_cons_mk (Below.trod laidOut (by kernel_rfl) (of_decide_eq_true (by kernel_rfl)) k0 bel lt0) (trodAll_cons_mk (Below.trod laidOut (by kernel_rfl) (of_decide_eq_true (by kernel_rfl)) k1 bel lt1) trodAll_mk0)), rfl, bel.frame _, fun h => by cases h⟩

theorem over : Rows.bloomFindsRow.holds Try.pinned (OpenSpec.ofChange Rows.bloomFindsSpec) :=
  OpenClaim.holds_of_wide 11 Try.f11 rfl rfl rfl rfl rfl rfl rfl ⟨rfl, rfl, rfl, rfl, rfl⟩ rfl rfl rfl rfl rfl (by kernel_rfl) Try.func11 (by kernel_rfl)
    (of_decide_eq_true (by kernel_rfl)) (by unfold Func.isWrapper; first | (rw [if_pos (by decide +kernel)]; kernel_rfl) | (rw [if_neg (by decide +kernel)]; exact ⟨rfl, rfl⟩))
    (fun os started H enc _ => lifted os started H enc)

/-- THE STATEMENT -/
theorem proved : Rows.BloomFindsSaid := over
end Go.Proofs.Ytfeaacjacbljfaa.bloomFinds
