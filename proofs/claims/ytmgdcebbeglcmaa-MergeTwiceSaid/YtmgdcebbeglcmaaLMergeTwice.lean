/- MergeTwice: what was compacted and is compacted again, with the same snaps, stays as it is. No condition on the input. -/
import Derived.Test.YtmgdcebbeglcmaaMrgL
import Derived.ProofKit
import Derived.OpenShut
import Derived.ShutString
import Derived.ChangeOld
import Derived.Below
import Derived.SizedLaws
import Derived.Test.YtmgdcebbeglcmaaOpen
import Derived.Test.YtmgdcebbeglcmaaOpenE
namespace Go.Proofs.Ytmgdcebbeglcmaa.mergeTwice
open Go.ChangeShapes Go.WideShapes Go.ChangeAt Go.RowKit
open Go.ChangeMaps (open_string shut_string)
set_option linter.unusedVariables false
open En Ew B

theorem bools (i : Nat) (hi : i < 2) : (if i = 0 then Value.bool false else Value.bool true) = Value.bool (decide (i = 1)) := by
  obtain rfl | rfl : i = 0 ∨ i = 1 := by omega
  · rfl
  · rfl

set_option maxHeartbeats 1600000 in
set_option maxRecDepth 100000 in
theorem walk (a1 : Option Addr) (n1 c1 : Nat) (z1 : List Ent) (sa : Option Addr) (sn sc : Nat) (z : List Int) (now : Int) (w : World)
    (f1 : z1.length = n1 ∧ n1 ≤ c1 ∧ n1 * 56 ≤ 140737488351232 ∧ (∀ e ∈ z1, Fits e) ∧ ERow w a1 n1 (fun i => z1.getD i ent0))
    (f2 : z.length = sn ∧ sn ≤ sc ∧ sc ≤ 9223372036854775807 ∧ sn * 8 ≤ 140737488351232 ∧ (∀ x ∈ z, -9223372036854775808 ≤ x ∧ x ≤ 9223372036854775807) ∧ Row w sa sn (fun i => .int .i64 (z.getD i 0)))
    (_ : -9223372036854775808 ≤ now ∧ now ≤ 9223372036854775807) :
    Calls Try.prog 8 #[.slice a1 n1 c1, .slice sa sn sc, .int .i64 now] w fun e w' => e = .returned (.bool true) ∧ Below w.heap.size w w' := by
  have HA1 := Lib.hid (ordered_any a1 n1 c1 z1 f1.1 f1.2.1 f1.2.2.1 w f1.2.2.2.2)
  have HL1 := ord_len z1
  have HS1 := Lib.hid (ord_sorted z1)
  generalize mpAll [] (z1.take 100) = R1 at HA1 HL1 HS1
  obtain ⟨hzl, hsc, hsc2, hsb, _, hzr⟩ := f2
  have HZL := Lib.hid hzl
  have HZR := Lib.hid hzr
  clear f1 hzl hzr
  go_enter Try.func8, Try.ntmps8
  go_wp2_with fail
  refine HA1.out.mono ?_
  rintro e w1 ⟨p1, d1, q1, g1, rfl, o1, s1, hb1⟩
  have P1 := Lib.hid (at_own o1)
  have HB1 := Lib.hid hb1
  have HZR := Lib.hid (HZR.out.below hb1)
  clear o1 s1 hb1 HA1
  go_upto_region 2 with fail
  go_cut [1, 17, 18, 19, 20, 21, 22] (fun s1 s17 s18 s19 s20 s21 s22 wx => ∃ k : Nat, s1 = .slice sa k sc ∧ k ≤ sn ∧ k ≤ 20 ∧ wx = w1)
  case first =>
    go_wp2_with fail
    · go_meet
      exact ⟨20, rfl, by omega, by omega, rfl⟩
    · go_meet
      exact ⟨sn, rfl, by omega, by omega, rfl⟩
  case rest =>
  obtain ⟨k, rfl, hk1, hk2, rfl⟩ := hcut
  have HZT := Lib.hid (row_take HZR.out hk1)
  have HZK := Lib.hid (show (z.take k).length = k by rw [List.length_take, HZL.out]; omega)
  generalize z.take k = y at HZT HZK
  clear HZR HZL
  have HC := Lib.hid (fun W h hz bot => comp_any p1 R1.length d1 R1 rfl P1.out.cap P1.out.top (by omega) HS1.out W h sa k sc y HZK.out (by omega) hz now bot)
  have HD := Lib.hid (fun p d W R (hs : Sorted R) (hl : R.length ≤ 100) (h : At W p d R) hz bot => comp_any p R.length d R rfl h.cap h.top (by omega) hs W h.row sa k sc y HZK.out (by omega) hz now bot)
  have hlen := Lib.hid (fun bot => comp_len R1 y now bot)
  have hln2 := Lib.hid (fun R bot => comp_len R y now bot)
  have htw := Lib.hid (comp_twice R1 y now)
  have hcs := Lib.hid (fun bot => comp_sorted (z := y) (now := now) (bot := bot) HS1.out)
  obtain ⟨n, hn⟩ : ∃ n, n = R1.length := ⟨_, rfl⟩
  have HN := Lib.hid hn
  rw [← hn] at HL1
  rw [← hn]
  clear hn
  go_wp2_with fail
  have hbx := below_alloc (Below.refl wc.heap.size wc) (.cells #[.bool false, .bool true] 4)
  have hbk : (wc.alloc (.cells #[.bool false, .bool true] 4)).heap[wc.heap.size]? = some (.cells #[.bool false, .bool true] 4 (0, 0)) := heap_alloc_new _ _
  have P2 := Lib.hid (P1.out.below hbx)
  have Z2 := Lib.hid (HZT.out.below hbx)
  have HB2 := Lib.hid (chain HB1.out hbx)
  generalize hW : World.alloc _ _ = W2
  rw [hW] at hbk P2 Z2 HB2
  generalize wc.heap.size = gk at hbk ⊢
  have HBK := Lib.hid hbk
  clear hW hbx P1 HZT HB1 hbk
  go_loopw [25] (fun si wr => ∃ i : Nat, si = .int .i64 i ∧ i ≤ 2 ∧ Hid (Below W2.heap.size W2 wr)) (fun si _ => 2 - (intOf si).toNat)
  case atStart => exact ⟨0, rfl, by omega, Below.refl _ _⟩
  case round =>
    obtain ⟨i, rfl, hi, hbel⟩ := hrel
    by_cases hlt : i < 2
    · have hcell : wr.cell? ⟨gk, i, none⟩ = some (.bool (decide (i = 1))) := by
        have hk := (hbel.out.block gk (lt_of_block HBK.out)).trans HBK.out
        have hc := fun j => cell_of_row wr gk j _ _ _ hk
        obtain rfl | rfl : i = 0 ∨ i = 1 := by omega
        · exact hc 0
        · exact hc 1
      have i1 : (0 : Int) ≤ (i : Int) := by omega
      have i2 : (i : Int) < 2 := by omega
      obtain ⟨bt, hbt⟩ : ∃ b, b = decide (i = 1) := ⟨_, rfl⟩
      rw [← hbt] at hcell
      clear hbt
      have P3 := Lib.hid (P2.out.below hbel.out)
      have Z3 := Lib.hid (Z2.out.below hbel.out)
      go_wp2_with fail
      rw [HN.out]
      refine (HC.out wr P3.out.row Z3.out bt).mono ?_
      rintro e w4 ⟨p4, d4, rfl, o4, hb4⟩
      have hl4 := hlen.out bt
      have hs4 := Lib.hid (hcs.out bt)
      have P4 := Lib.hid (at_own o4)
      have Z4 := Lib.hid (Z3.out.below hb4)
      have HB4 := Lib.hid (chain hbel.out hb4)
      rw [← HN.out] at hl4 ⊢
      have ht4 := Lib.hid (fun (h : bt = false) => (show compE (compE R1 y now bt) y now bt = compE R1 y now bt by subst h; exact htw.out))
      generalize compE R1 y now bt = C1 at hl4 hs4 P4 ht4 ⊢
      clear o4 hb4
      go_wp2_with fail
      refine (HD.out p4 d4 w4 C1 hs4.out (by omega) P4.out Z4.out bt).mono ?_
      rintro e w5 ⟨p5, d5, rfl, o5, hb5⟩
      have hl5 := hln2.out C1 bt
      have P5 := Lib.hid (at_own o5)
      have P4 := Lib.hid (P4.out.below hb5)
      have HB5 := Lib.hid (chain HB4.out hb5)
      generalize compE C1 y now bt = C2 at hl5 P5 ht4 ⊢
      clear o5 hb5
      have t1 : ¬ ((n : Int) < (C1.length : Int)) := by omega
      have t2 : ¬ ((C1.length : Int) < (C2.length : Int)) := by omega
      cases bt with
      | true =>
        go_wp2_with fail
        go_roundw
        case rel => exact ⟨i + 1, by go_num, by omega, HB5⟩
        case measure => simp [intOf]; omega
      | false =>
        have he := ht4.out rfl
        subst he
        go_wp2_with fail
        refine (alike_yes p4 C2.length d4 p5 d5 C2 rfl (by omega) w5 P4.out.row P5.out.row).mono ?_
        rintro e w6 ⟨rfl, hb6⟩
        have HB6 := Lib.hid (chain HB5.out hb6)
        clear hb6
        go_wp2_with fail
        go_roundw
        case rel => exact ⟨i + 1, by go_num, by omega, HB6⟩
        case measure => simp [intOf]; omega
    · obtain rfl : i = 2 := by omega
      go_wp2_with fail
      refine (wakes13_any wr).mono ?_
      rintro e w2 ⟨rfl, hb2⟩
      have hB2 := chain (chain HB2.out hbel.out) hb2
      clear hb2
      go_wp2_with fail
      go_ret
      exact ⟨rfl, hB2⟩

theorem entT : Op.EntT Try.prog 54 ((match Try.prog.underlying 54 with | some (.struct fs) => fs | _ => #[])) := by
  rw [Try.underlying54]
  exact ⟨Try.underlying54, by kernel_rfl, by kernel_rfl, ⟨_, rfl, Try.underlying9⟩, ⟨_, rfl, Try.underlying2⟩, ⟨_, rfl, Try.underlying4⟩, ⟨_, rfl, Try.underlying9⟩, ⟨_, rfl, Try.underlying2⟩, rfl⟩
theorem bd64 {n : Int} (h : (Lit.int .i64 n).wf = true) : -9223372036854775808 ≤ n ∧ n ≤ 9223372036854775807 := by
  simpa [Lit.wf, IntKind.min, IntKind.max, IntKind.signed, IntKind.bits] using h


theorem own : ownKnob Try.prog.godebug = none := by kernel_rfl
theorem laidOut : laidOutB Try.prog = true := by kernel_rfl

set_option maxRecDepth 100000 in
theorem lifted (os : Os) (started : os.Started) (H : Type) (enc : TypeId × Value → H) :
    ReturnsInHanded {} Try.checked os 8 .any (Rows.mergeTwiceSpec.pre6 enc Try.prog Try.f8 Rows.mergeTwiceRow.domain false) (Rows.mergeTwiceSpec.post enc Try.prog Try.f8 false true false false) := by
  refine returnsInHanded_of_change_sized (C := Try.checked) own started (by kernel_rfl) Try.func8
    (ChangeSpec.witness6 (enc := enc) (C := Try.checked) false ⟨#[], #[.slice none 0 0, .slice none 0 0, .int .i64 0], []⟩ 8 (by kernel_rfl) (by kernel_rfl) (by kernel_rfl) (by kernel_rfl)) ?_
  intro W base args ds gs before hval0 hW hcnd hsz0 _
  have hval : ∀ (j : Nat) t v, Try.f8.params[j]? = some t → args[j]? = some v → Value.okWide Try.prog W .any base t v := hval0
  have hsz : (DataW.weightsEach Try.prog (Try.f8.params.toList ++ Rows.mergeTwiceSpec.plain.varTypes Try.prog) (ds ++ gs)).all (· ≤ reachBytes) = true := hsz0
  have hW' := hW
  obtain ⟨p, q, hA0, hV, rfl, hfz, hnd⟩ := hW
  have hA : DataW.TrodAll enc Try.prog W 0 (fun _ => true) true Try.f8.params.toList args.toList ds p := hA0
  rw [Try.params8] at hA hval hsz
  obtain ⟨v0, vs0, d0, ds0, p0, q0, hargs, rfl, rfl, h0, r0⟩ := trodAll_cons hA
  obtain ⟨v1, vs1, d1, ds1, p1, q1, rfl, rfl, rfl, h1, r1⟩ := trodAll_cons r0
  obtain ⟨v2, vs2, d2, ds2, p2, q2, rfl, rfl, rfl, h2, r2⟩ := trodAll_cons r1
  obtain ⟨rfl, rfl, rfl⟩ := trodAll_nil r2
  obtain rfl : args = #[v0, v1, v2] := by cases args; simp_all
  obtain ⟨rfl, rfl⟩ := trodVars_none hV
  have k0 := h0
  have lt0 : ∀ x ∈ p0, x.block < W.heap.size := by obtain ⟨m, hm⟩ := k0; exact DataW.trod_lt m _ _ _ hm
  have k1 := h1
  have lt1 : ∀ x ∈ p1, x.block < W.heap.size := by obtain ⟨m, hm⟩ := k1; exact DataW.trod_lt m _ _ _ hm
  have k2 := h2
  have lt2 : ∀ x ∈ p2, x.block < W.heap.size := by obtain ⟨m, hm⟩ := k2; exact DataW.trod_lt m _ _ _ hm
  obtain ⟨a0, n0, cap0, z0, rfl, w0, row0, lc0, cm0, wf0, wt0, bk0⟩ := Op.ents1 entT Try.underlying22 (hval 0 22 v0 rfl rfl) h0
  have wb0 := wt0 reachBytes (fun m hm => of_decide_eq_true (List.all_eq_true.1 hsz _ (DataW.weights_mem_each (j := 0) rfl rfl m hm)))
  have f0 : z0.length = n0 ∧ n0 ≤ cap0 ∧ n0 * 56 ≤ 140737488351232 ∧ (∀ e ∈ z0, En.Fits e) ∧ En.ERow W a0 n0 (fun i => z0.getD i En.ent0) := ⟨w0, lc0, by have h9 := wb0.2; rw [show Try.prog.bytesOf 54 = 56 from by kernel_rfl] at h9; exact h9, fun x hx => by have h9 := wf0 x hx; have h8 := wb0.1 x hx; exact ⟨h8.1, h8.2, (bd64 h9.2.2.1).1, (bd64 h9.2.2.1).2, (bd64 h9.2.2.2).1, (bd64 h9.2.2.2).2⟩, row0⟩
  obtain ⟨a1, n1, cap1, z1, rfl, w1, wf1, row1, lc1, cm1, wt1⟩ := Op.ints2 Try.underlying43 Try.underlying2 (by kernel_rfl) (hval 1 43 v1 rfl rfl) h1
  have wb1 := wt1 reachBytes (fun m hm => of_decide_eq_true (List.all_eq_true.1 hsz _ (DataW.weights_mem_each (j := 1) rfl rfl m hm)))
  have f1 : z1.length = n1 ∧ n1 ≤ cap1 ∧ cap1 ≤ 9223372036854775807 ∧ n1 * 8 ≤ 140737488351232 ∧ (∀ x ∈ z1, -9223372036854775808 ≤ x ∧ x ≤ 9223372036854775807) ∧ B.Row W a1 n1 (fun i => .int .i64 (z1.getD i 0)) := ⟨w1, lc1, by simpa [maxLen] using cm1, by rw [show Try.prog.bytesOf 2 = 8 from by kernel_rfl] at wb1; exact wb1, fun x hx => by simpa [Lit.wf, IntKind.min, IntKind.max, IntKind.signed, IntKind.bits] using wf1 x hx, row1⟩
  obtain ⟨a2, rfl, rfl, rfl, w2⟩ := open_int Try.underlying2 (hval 2 2 v2 rfl rfl) h2
  have b2 : -9223372036854775808 ≤ a2 ∧ a2 ≤ 9223372036854775807 := by simpa [Lit.wf, IntKind.min, IntKind.max, IntKind.signed, IntKind.bits] using w2
  clear hA0 hval0
  refine (walk a0 n0 cap0 z0 a1 n1 cap1 z1 a2 W f0 f1 b2).mono fun e W' ⟨he, bel⟩ => ?_
  subst he
  exact ⟨_, rfl, _, _, _, [], _, [], hW', trodAll_mk1 (shut_bool Try.underlying4 _), (trodAll_cons_mk (Below.trod laidOut (by kernel_rfl) (of_decide_eq_true (by kernel_rfl)) k0 bel lt0) (trodAll_cons_mk (Below.trod laidOut (by kernel_rfl) (of_decide_eq_true (by kernel_rfl)) k1 bel lt1) (trodAll_cons_mk (Below.trod laidOut (by kernel_rfl) (of_decide_eq_true (by kernel_rfl)) k2 bel lt2) trodAll_mk0))), rfl, bel.frame _, fun h => by cases h⟩

theorem over : Rows.mergeTwiceRow.holds Try.pinned (OpenSpec.ofChange Rows.mergeTwiceSpec) :=
  OpenClaim.holds_of_wide 8 Try.f8 rfl rfl rfl rfl rfl rfl rfl ⟨rfl, rfl, rfl, rfl, rfl⟩ rfl rfl rfl rfl rfl (by kernel_rfl) Try.func8 (by kernel_rfl)
    (of_decide_eq_true (by kernel_rfl)) (by unfold Func.isWrapper; first | (rw [if_pos (by decide +kernel)]; kernel_rfl) | (rw [if_neg (by decide +kernel)]; exact ⟨rfl, rfl⟩))
    (fun os started H enc _ => lifted os started H enc)

/-- THE STATEMENT -/
theorem proved : Rows.MergeTwiceSaid := over
end Go.Proofs.Ytmgdcebbeglcmaa.mergeTwice
