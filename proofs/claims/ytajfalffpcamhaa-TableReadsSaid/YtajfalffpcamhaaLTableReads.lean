/- TableReads: of every bytes that are a table, the blocks, and the entries from every key on, are the document's, or its error. No condition on the input. -/
import Derived.Test.YtajfalffpcamhaaTabD
import Derived.ProofKit
import Derived.OpenShut
import Derived.ShutString
import Derived.ChangeOld
import Derived.Below
import Derived.SizedLaws
namespace Go.Proofs.Ytajfalffpcamhaa.tableReads
open Go.ChangeShapes Go.WideShapes Go.ChangeAt Go.RowKit
open Go.ChangeMaps (open_string shut_string)
set_option linter.unusedVariables false
open Tw Tb En Ew B Vp Fp

set_option maxHeartbeats 3200000 in
set_option maxRecDepth 100000 in
theorem walk (s key : ByteArray) (i : Int) (hs : s.size ≤ 140737488351232) (hk : key.size ≤ 140737488351232) (hi : -9223372036854775808 ≤ i ∧ i ≤ 9223372036854775807) (w : World) :
    Calls Try.prog 5 #[.string s, .string key, .int .i64 i] w fun e w' => e = .returned (.bool true) ∧ Below w.heap.size w w' := by
  have HW := Lib.hid wakes11_any
  have HTA := Lib.hid (fun W => tables_any s hs (s.size : Nat) (by omega) W)
  have hgd := @open_good s (s.size : Nat)
  have hin := @open_in s (s.size : Nat)
  generalize openB s (s.size : Nat) = r at HTA hgd hin
  obtain ⟨sp, fl, re⟩ := r
  simp only at hgd hin
  go_enter Try.func5, Try.ntmps5
  go_wp2_with fail
  refine (HTA.out _).mono ?_
  rintro e w1 ⟨hb1, hor⟩
  have HB1 := Lib.hid hb1
  by_cases h0 : re = 0
  case neg =>
    have he : e = .returned (.tuple #[.pointer none, .pointer none, .bool true]) := by
      rcases hor with ⟨h, _⟩ | ⟨_, h⟩
      · exact absurd h h0
      · exact h
    subst he
    clear hor hb1 HTA hgd hin
    go_wp2_with fail
    refine (HW.out _).mono ?_
    rintro e w2 ⟨rfl, hb2⟩
    have HB2 := Lib.hid (chain HB1.out hb2)
    clear hb2
    go_wp2_with fail
    go_ret
    exact ⟨rfl, HB2.out⟩
  subst h0
  obtain ⟨tb, g, rb, rfl, hT1, hR1⟩ : ∃ tb g rb, e = .returned (.tuple #[.pointer (some ⟨tb, 0, none⟩), .pointer (some ⟨rb, 0, none⟩), .bool true]) ∧ TBox w1 tb g s sp fl ∧ RBox w1 rb s sp fl := by
    rcases hor with ⟨_, h⟩ | ⟨h, _⟩
    · exact h
    · exact absurd rfl h
  obtain ⟨hss, hl⟩ := hgd rfl
  have HIN := Lib.hid (hin rfl)
  have HT1 := Lib.hid hT1
  have HR1 := Lib.hid hR1
  have HBK := Lib.hid (fun k W h => block_any tb g s fl (by omega) sp k W h)
  have HRB := Lib.hid (fun k W h => rblock_any rb s fl (by omega) sp k W h)
  have HAL := Lib.hid (fun W h => all_any tb g s fl (by omega) sp hss hl key W h)
  have HRA := Lib.hid (fun W h => rall_any rb s fl (by omega) sp hl key W h)
  clear hor hb1 HTA hgd hin hT1 hR1 hss
  go_wp2_with fail
  refine (HW.out _).mono ?_
  rintro e w2 ⟨rfl, hb2⟩
  have HB2 := Lib.hid (chain HB1.out hb2)
  have HT2 := Lib.hid (HT1.out.below hb2)
  have HR2 := Lib.hid (HR1.out.below hb2)
  clear hb2 HB1 HT1 HR1
  go_wp2_with fail
  go_loopw [10] (fun sk wr => ∃ k : Int, sk = .int .i64 k ∧ -1 ≤ k ∧ k ≤ sp.length + 1 ∧ Below w2.heap.size w2 wr) (fun sk _ => ((sp.length : Int) + 1 - intOf sk).toNat)
  case atStart => exact ⟨-1, rfl, by omega, by omega, Below.refl _ _⟩
  case round =>
    obtain ⟨k, rfl, hk1, hk2, hbel⟩ := hrel
    have HTk := Lib.hid (HT2.out.below hbel)
    have HRk := Lib.hid (HR2.out.below hbel)
    have HBk := Lib.hid (chain HB2.out hbel)
    obtain ⟨a, c, ⟨t0, t1, t2⟩, _⟩ := HRk.out.cells
    have HBE := Lib.hid hbel
    clear hbel t0 t2
    by_cases hlt : k ≤ (sp.length : Int)
    · have d1 : decide (k ≤ (sp.length : Int)) = true := dt hlt
      have HB' := Lib.hid (HBK.out k)
      have HRB' := Lib.hid (HRB.out k)
      obtain ⟨q, hq⟩ : ∃ q, blockB s sp k = q := ⟨_, rfl⟩
      simp only [hq] at HB' HRB'
      clear hq
      obtain ⟨qt, qe⟩ := q
      simp only [retS] at HB' HRB'
      have hne1 : (qt.toList != qt.toList) = false := by simp
      have hne2 : (qe != qe) = false := by simp
      go_wp2_with fail
      refine (HB'.out _ HTk.out).mono ?_
      rintro e w3 ⟨rfl, hb3⟩
      have HB3 := Lib.hid (HBE.out.trans (hb3.mono HBE.out.size))
      have HR3 := Lib.hid (HRk.out.below hb3)
      clear hb3
      go_wp2_with fail
      refine (HRB'.out _ HR3.out).mono ?_
      rintro e w4 ⟨rfl, hb4⟩
      have HB4 := Lib.hid (HB3.out.trans (hb4.mono HB3.out.size))
      clear hb4 t1
      go_wp2_with fail
      go_roundw
      case rel => exact ⟨k + 1, by go_num, by omega, by omega, HB4.out⟩
      case measure => simp [intOf]; omega
    · have d1 : decide (k ≤ (sp.length : Int)) = false := df hlt
      have HB' := Lib.hid (HBK.out i)
      have hbad : decide ((blockB s sp i).e = 2) = (decide (i < 0) || decide ((sp.length : Int) ≤ i)) := by
        unfold blockB
        by_cases h : i < 0 ∨ (sp.length : Int) ≤ i
        · rw [if_pos h]
          rcases h with h | h <;> simp [h]
        · rw [if_neg h]
          have h1 : i.toNat < sp.length := by omega
          have h2 := body_ne2 (HIN.out (sp.getD i.toNat sp0) (by rw [List.getD_eq_getElem?_getD, List.getElem?_eq_getElem h1]; exact List.getElem_mem h1))
          have h3 : ¬ i < 0 := fun hh => h (.inl hh)
          have h4 : ¬ (sp.length : Int) ≤ i := fun hh => h (.inr hh)
          generalize sp.getD i.toNat sp0 = x at h2 ⊢
          rw [decide_eq_false h2, decide_eq_false h3, decide_eq_false h4]
          rfl
      obtain ⟨q, hq⟩ : ∃ q, blockB s sp i = q := ⟨_, rfl⟩
      rw [hq] at hbad
      simp only [hq] at HB'
      clear hq
      obtain ⟨qt, qe⟩ := q
      simp only [retS] at HB' hbad
      clear HBE HBK HRB HIN
      go_wp2_with fail
      refine (HB'.out _ HTk.out).mono ?_
      rintro e w3 ⟨rfl, hb3⟩
      have HB3 := Lib.hid (chain HBk.out hb3)
      have HR3 := Lib.hid (HRk.out.below hb3)
      have HT3 := Lib.hid (HTk.out.below hb3)
      have t3 := kc t1 hb3
      clear hb3 t1
      go_upto_region 14 with fail
      go_cut [86] (fun s86 wx => s86 = .bool false ∧ wx = w3)
      case first =>
        by_cases g1 : i < 0
        · have g3 : (qe == 2) = true := et (by
            rw [decide_eq_true g1, Bool.true_or] at hbad
            exact of_decide_eq_true hbad)
          have g2 : decide (i < 0) = true := dt g1
          clear hbad
          go_wp2_with fail
          go_meet
          exact ⟨rfl, rfl⟩
        · have g2 : decide (i < 0) = false := df g1
          by_cases g4 : (sp.length : Int) ≤ i
          · have g3 : (qe == 2) = true := et (by
              rw [decide_eq_true g4, Bool.or_true] at hbad
              exact of_decide_eq_true hbad)
            have g5 : decide ((sp.length : Int) ≤ i) = true := dt g4
            clear hbad
            go_wp2_with fail
            go_meet
            exact ⟨rfl, rfl⟩
          · have g3 : (qe == 2) = false := ef (by
              rw [decide_eq_false g4, g2] at hbad
              exact of_decide_eq_false hbad)
            have g5 : decide ((sp.length : Int) ≤ i) = false := df g4
            clear hbad
            go_wp2_with fail
            go_meet
            exact ⟨rfl, rfl⟩
      case rest =>
      obtain ⟨rfl, hcw⟩ := hcut
      subst hcw
      clear t3 hbad HB'
      have HA' := Lib.hid HAL.out
      have HRA' := Lib.hid HRA.out
      obtain ⟨q, hq⟩ : ∃ q, allB s sp key = q := ⟨_, rfl⟩
      simp only [hq] at HA' HRA'
      clear hq HAL HRA
      obtain ⟨L, ge⟩ := q
      have hne2 : (ge != ge) = false := by simp
      have hne3 : ((L.length : Int) != (L.length : Int)) = false := by simp
      go_wp2_with fail
      refine (HA'.out _ HT3.out).mono ?_
      rintro e w4 ⟨a4, c4, rfl, ho4, hb4⟩
      simp only at ho4 ⊢
      have HR4 := Lib.hid (HR3.out.below hb4)
      have HB4 := Lib.hid (chain HB3.out hb4)
      have HO4 := Lib.hid (own_erow ho4).2.2
      obtain ⟨hcp1, hcp2⟩ := cap_own ho4
      clear hb4 ho4 HB3 HR3 HT3
      go_wp2_with fail
      refine (HRA'.out _ HR4.out).mono ?_
      rintro e w5 ⟨a5, c5, rfl, ho5, hb5⟩
      simp only at ho5 ⊢
      have HB5 := Lib.hid (chain HB4.out hb5)
      have HO5 := Lib.hid (own_erow ho5).2.2
      have HO4 := Lib.hid (HO4.out.below hb5)
      clear hb5 ho5 HB4 HR4
      go_wp2_with fail
      go_loopw [111] (fun si wr => ∃ j : Nat, si = .int .i64 j ∧ j ≤ L.length ∧ Below w5.heap.size w5 wr) (fun si _ => L.length - (intOf si).toNat)
      case atStart => exact ⟨0, rfl, by omega, Below.refl _ _⟩
      case round =>
        obtain ⟨j, rfl, hj, hbel⟩ := hrel
        by_cases hlt2 : j < L.length
        · obtain ⟨b1, o1, rfl, _, hc1⟩ := (HO4.out.below hbel).at (by omega)
          obtain ⟨b2, o2, rfl, _, hc2⟩ := (HO5.out.below hbel).at (by omega)
          have hd1 := hc1 j hlt2
          have hd2 := hc2 j hlt2
          generalize L.getD j ent0 = x at hd1 hd2
          obtain ⟨xk, xq, xg, xv, xu⟩ := x
          simp only at hd1 hd2
          obtain ⟨p0, p1, p2, p3, p4⟩ := hd1
          obtain ⟨q0, q1, q2, q3, q4⟩ := hd2
          have hne1 : ∀ W : World, (binOp .neq 56 (.agg #[.string xk, .int .i64 xq, .bool xg, .string xv, .int .i64 xu]) (.agg #[.string xk, .int .i64 xq, .bool xg, .string xv, .int .i64 xu])).run Try.prog W = .ok (.bool false) W := fun W => by rw [neq_ref, eqE_refl]; rfl
          have i1 : (0 : Int) ≤ (j : Int) := by omega
          have i2 : (j : Int) < (L.length : Int) := by omega
          have HBE := Lib.hid hbel
          clear hc1 hc2 hbel
          go_wp2_with fail
          go_quiet (fail)
          go_wp2_with fail
          go_roundw
          case rel => exact ⟨j + 1, by go_num, by omega, drewN HBE.out⟩
          case measure => simp [intOf]; omega
        · obtain rfl : j = L.length := by omega
          have HB7 := Lib.hid (chain HB5.out hbel)
          clear hbel
          go_wp2_with fail
          go_ret
          exact ⟨rfl, HB7.out⟩

theorem own : ownKnob Try.prog.godebug = none := by kernel_rfl
theorem laidOut : laidOutB Try.prog = true := by kernel_rfl

set_option maxRecDepth 100000 in
theorem lifted (os : Os) (started : os.Started) (H : Type) (enc : TypeId × Value → H) :
    ReturnsInHanded {} Try.checked os 5 .any (Rows.tableReadsSpec.pre6 enc Try.prog Try.f5 Rows.tableReadsRow.domain false) (Rows.tableReadsSpec.post enc Try.prog Try.f5 false true false false) := by
  refine returnsInHanded_of_change_sized (C := Try.checked) own started (by kernel_rfl) Try.func5
    (ChangeSpec.witness6 (enc := enc) (C := Try.checked) false ⟨#[], #[.string ByteArray.empty, .string ByteArray.empty, .int .i64 0], []⟩ 8 (by kernel_rfl) (by kernel_rfl) (by kernel_rfl) (by kernel_rfl)) ?_
  intro W base args ds gs before hval0 hW hcnd hsz0 _
  have hval : ∀ (j : Nat) t v, Try.f5.params[j]? = some t → args[j]? = some v → Value.okWide Try.prog W .any base t v := hval0
  have hsz : (DataW.weightsEach Try.prog (Try.f5.params.toList ++ Rows.tableReadsSpec.plain.varTypes Try.prog) (ds ++ gs)).all (· ≤ reachBytes) = true := hsz0
  have hW' := hW
  obtain ⟨p, q, hA0, hV, rfl, hfz, hnd⟩ := hW
  have hA : DataW.TrodAll enc Try.prog W 0 (fun _ => true) true Try.f5.params.toList args.toList ds p := hA0
  rw [Try.params5] at hA hval hsz
  obtain ⟨v0, vs0, d0, ds0, p0, q0, hargs, rfl, rfl, h0, r0⟩ := trodAll_cons hA
  obtain ⟨v1, vs1, d1, ds1, p1, q1, rfl, rfl, rfl, h1, r1⟩ := trodAll_cons r0
  obtain ⟨v2, vs2, d2, ds2, p2, q2, rfl, rfl, rfl, h2, r2⟩ := trodAll_cons r1
  obtain ⟨rfl, rfl, rfl⟩ := trodAll_nil r2
  obtain rfl : args = #[v0, v1, v2] := by cases args; simp_all
  obtain ⟨rfl, rfl⟩ := trodVars_none hV
  have k0 := h0
  have lt0 : ∀ x ∈ p0, x.block < W.heap.size := by obtain ⟨m, hm⟩ := k0; exact DataW.trod_lt m _ _ _ hm
  have k1 := h1
  have lt1 : ∀ x ∈ p1, x.block < W.heap.size := by obtain ⟨m, hm⟩ := k1; exact DataW.trod_lt m _ _ _ hm
  have k2 := h2
  have lt2 : ∀ x ∈ p2, x.block < W.heap.size := by obtain ⟨m, hm⟩ := k2; exact DataW.trod_lt m _ _ _ hm
  obtain ⟨a0, rfl, rfl, rfl, w0⟩ := open_string Try.underlying9 (hval 0 9 v0 rfl rfl) h0
  have b0 : a0.size ≤ 140737488351232 := by have := sized_string hsz (j := 0) rfl rfl; simpa [reachBytes] using this
  obtain ⟨a1, rfl, rfl, rfl, w1⟩ := open_string Try.underlying9 (hval 1 9 v1 rfl rfl) h1
  have b1 : a1.size ≤ 140737488351232 := by have := sized_string hsz (j := 1) rfl rfl; simpa [reachBytes] using this
  obtain ⟨a2, rfl, rfl, rfl, w2⟩ := open_int Try.underlying3 (hval 2 3 v2 rfl rfl) h2
  have b2 : -9223372036854775808 ≤ a2 ∧ a2 ≤ 9223372036854775807 := by simpa [Lit.wf, IntKind.min, IntKind.max, IntKind.signed, IntKind.bits] using w2
  clear hA0 hval0
  refine (walk a0 a1 a2 b0 b1 b2 W).mono fun e W' ⟨he, bel⟩ => ?_
  subst he
  exact ⟨_, rfl, _, _, _, [], _, [], hW', trodAll_mk1 (shut_bool Try.underlying4 _), (trodAll_cons_mk (Below.trod laidOut (by kernel_rfl) (of_decide_eq_true (by kernel_rfl)) k0 bel lt0) (trodAll_cons_mk (Below.trod laidOut (by kernel_rfl) (of_decide_eq_true (by kernel_rfl)) k1 bel lt1) (trodAll_cons_mk (Below.trod laidOut (by kernel_rfl) (of_decide_eq_true (by kernel_rfl)) k2 bel lt2) trodAll_mk0))), rfl, bel.frame _, fun h => by cases h⟩

theorem over : Rows.tableReadsRow.holds Try.pinned (OpenSpec.ofChange Rows.tableReadsSpec) :=
  OpenClaim.holds_of_wide 5 Try.f5 rfl rfl rfl rfl rfl rfl rfl ⟨rfl, rfl, rfl, rfl, rfl⟩ rfl rfl rfl rfl rfl (by kernel_rfl) Try.func5 (by kernel_rfl)
    (of_decide_eq_true (by kernel_rfl)) (by unfold Func.isWrapper; first | (rw [if_pos (by decide +kernel)]; kernel_rfl) | (rw [if_neg (by decide +kernel)]; exact ⟨rfl, rfl⟩))
    (fun os started H enc _ => lifted os started H enc)

/-- THE STATEMENT -/
theorem proved : Rows.TableReadsSaid := over
end Go.Proofs.Ytajfalffpcamhaa.tableReads
