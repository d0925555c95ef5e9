/- MergeAny: lists are merged to the same whatever list an entry is in. No condition on the input. -/
import Derived.Test.YtmgdcebbeglcmaaMrgN
import Derived.Deep.OwnRows
import Derived.Deep.RegionLaw
import Derived.Deep.AppendLies
import Derived.ProofKit
import Derived.OpenShut
import Derived.ShutString
import Derived.ChangeOld
import Derived.Below
import Derived.SizedLaws
import Derived.Test.YtmgdcebbeglcmaaOpen
import Derived.Test.YtmgdcebbeglcmaaOpenE
namespace Go.Proofs.Ytmgdcebbeglcmaa.mergeAny
open Go.ChangeShapes Go.WideShapes Go.ChangeAt Go.RowKit
open Go.ChangeMaps (open_string shut_string)
set_option linter.unusedVariables false
open En Ew B

theorem infoSl : (Try.prog.info? 23).map (fun i => (i.zero, i.size, i.bytes)) = some (some (.slice none 0 0), 1, 24) := by kernel_rfl

set_option maxHeartbeats 3200000 in
set_option maxRecDepth 100000 in
theorem walk (a1 : Option Addr) (n1 c1 : Nat) (z1 : List Ent) (sa : Option Addr) (sn sc : Nat) (z : List Int) (w : World)
    (f1 : z1.length = n1 ∧ n1 ≤ c1 ∧ n1 * 56 ≤ 140737488351232 ∧ (∀ e ∈ z1, Fits e) ∧ ERow w a1 n1 (fun i => z1.getD i ent0))
    (f2 : z.length = sn ∧ sn ≤ sc ∧ sc ≤ 9223372036854775807 ∧ sn * 8 ≤ 140737488351232 ∧ (∀ x ∈ z, -9223372036854775808 ≤ x ∧ x ≤ 9223372036854775807) ∧ Row w sa sn (fun i => .int .i64 (z.getD i 0))) :
    Calls Try.prog 7 #[.slice a1 n1 c1, .slice sa sn sc] w fun e w' => e = .returned (.bool true) ∧ Below w.heap.size w w' := by
  have HA1 := Lib.hid (ordered_any a1 n1 c1 z1 f1.1 f1.2.1 f1.2.2.1 w f1.2.2.2.2)
  have HL1 := ord_len z1
  have HS1 := Lib.hid (ord_sorted z1)
  generalize mpAll [] (z1.take 100) = R1 at HA1 HL1 HS1
  obtain ⟨hzl, hsc, hsc2, hsb, _, hzr⟩ := f2
  have HZR := Lib.hid hzr
  have hmk : ∀ W : World, (Instr.makeSlice 52 (.int .i64 4) (.int .i64 4)).run Try.prog W = .ok (.slice (some ⟨W.heap.size, 0, none⟩) 4 4) (W.alloc (.cells (madeCells #[.slice none 0 0] 4) 23)) := fun W => run_make_row' (P := Try.prog) 52 23 (.slice none 0 0) 24 Try.underlying52 infoSl rfl .i64 .i64 4 (by omega) (by omega) W
  clear f1 hzl hzr
  go_enter Try.func7, Try.ntmps7
  go_wp2_with fail
  refine HA1.out.mono ?_
  rintro e w1 ⟨p1, d1, q1, g1, rfl, o1, s1, hb1⟩
  have P1 := Lib.hid (at_own o1)
  have HZR := Lib.hid (HZR.out.below hb1)
  obtain ⟨n, hn⟩ : ∃ n, n = R1.length := ⟨_, rfl⟩
  have HN := Lib.hid hn
  rw [← hn] at HL1
  rw [← hn]
  have hbx := below_alloc (Below.refl w1.heap.size w1) (.cells (madeCells #[.slice none 0 0] 4) 23)
  have hF0 : Four w1.heap.size w1.heap.size (fun _ => (none, 0, 0)) [[], [], [], []] (w1.alloc (.cells (madeCells #[.slice none 0 0] 4) 23)) := four_0 (by rw [show madeCells #[Value.slice none 0 0] 4 = #[Value.slice none 0 0, .slice none 0 0, .slice none 0 0, .slice none 0 0] from by kernel_rfl]; exact heap_alloc_new _ _)
  have HF0 := Lib.hid hF0
  have HBX := Lib.hid hbx
  have HB1 := Lib.hid hb1
  clear o1 s1 hb1 HA1 hn hbx hF0
  go_wp2_with fail
  go_loopw [19] (fun si wr => ∃ (i : Nat) (sl : Nat → Option Addr × Nat × Nat) (Ls : List (List Ent)), si = .int .i64 i ∧ i ≤ n ∧ Hid (Four w1.heap.size w1.heap.size sl Ls wr) ∧ Hid (Dealt R1 i Ls) ∧ Hid (Below w1.heap.size w1 wr)) (fun si _ => n - (intOf si).toNat)
  case atStart => exact ⟨0, _, _, rfl, by omega, HF0, Lib.hid (dealt_0 R1), HBX⟩
  case round =>
    clear hmk
    obtain ⟨i, sl, Ls, rfl, hi, hfo, hde, hbel⟩ := hrel
    by_cases hlt : i < n
    · obtain ⟨b, off, hbe, hb, hc⟩ := (P1.out.below hbel.out).row.at (by have := HN.out; omega)
      have hd := hc i (by have := HN.out; omega)
      have HLS := Lib.hid hde.out.len
      have HDE : Hid (∀ k, k < 4 → (Ls.getD k []).length ≤ i) := fun k hk => by
        have h1 := hde.out.tot
        rw [flat_at (j := k) (by rw [hde.out.len]; exact hk)] at h1
        simp only [List.length_append] at h1
        omega
      have HST := Lib.hid (fun k hk => Dealt.step (k := k) hde.out HS1.out (by have := HN.out; omega) hk)
      generalize R1.getD i ent0 = x at hd HST
      obtain ⟨k0, q0, g0, v0, u0⟩ := x
      simp only at hd
      obtain ⟨x0, x1, x2, x3, x4⟩ := hd
      subst hbe
      have i1 : (0 : Int) ≤ (i : Int) := by omega
      have i2 : (i : Int) < (n : Int) := by omega
      have hE0 : EBox (wr.alloc (.cells #[.string k0, .int .i64 q0, .bool g0, .string v0, .int .i64 u0] 37)) wr.heap.size 37 ⟨k0, q0, g0, v0, u0⟩ := heap_alloc_new _ _
      have hbx := below_alloc (Below.refl wr.heap.size wr) (.cells #[.string k0, .int .i64 q0, .bool g0, .string v0, .int .i64 u0] 37)
      clear hc
      go_upto_if 27 with fail
      generalize hW : World.alloc _ _ = W1
      rw [hW] at hbx hE0
      generalize hg7 : wr.heap.size = g7 at hE0 ⊢
      have HF1 := Lib.hid (hfo.out.below hbx)
      have HB1 := Lib.hid (chain hbel.out hbx)
      have HE1 := Lib.hid hE0
      have HZ1 := Lib.hid (HZR.out.below HB1.out)
      clear hW hbx hE0 hfo hbel x0 x1 x2 x3 x4 hb hg7
      go_cut [10] (fun s10 wx => ∃ k : Nat, s10 = .int .i64 k ∧ k < 4 ∧ wx = W1)
      case first =>
        by_cases hs : i < sn
        · obtain ⟨ab, ao, rfl, hab, hac⟩ := HZ1.out.at (by omega)
          have hq := hac i hs
          generalize z.getD i 0 = cv at hq
          have s1 : (i : Int) < (sn : Int) := by omega
          clear hac
          go_wp2_with fail
          all_goals go_meet
          · first
              | exact ⟨0, rfl, by omega, rfl⟩
              | exact ⟨(cv % 4).toNat, by rw [Int.toNat_of_nonneg (by omega)], by omega, rfl⟩
          · first
              | exact ⟨0, rfl, by omega, rfl⟩
              | exact ⟨(cv % 4).toNat, by rw [Int.toNat_of_nonneg (by omega)], by omega, rfl⟩
        · have s1 : ¬ (i : Int) < (sn : Int) := by omega
          go_wp2_with fail
          go_meet
          exact ⟨0, rfl, by omega, rfl⟩
      case rest =>
      obtain ⟨k, rfl, hk, hwc⟩ := hcut
      subst hwc
      obtain ⟨k0', q0', g0', v0', u0'⟩ := HE1.out.cells
      simp only at k0' q0' g0' v0' u0'
      have hg7l := lt_of_block HE1.out
      have ck := HF1.out.cell k hk
      have cf := HF1.out.fz k
      have cl := lt_of_block HF1.out.blk
      have k1 : (0 : Int) ≤ (k : Int) := by omega
      have k2 : (k : Int) < 4 := by omega
      obtain ⟨⟨pk, mk, dk⟩, hsk⟩ : ∃ s, s = sl k := ⟨_, rfl⟩
      have HSK := Lib.hid hsk
      have hmk : mk ≤ i := by
        have h1 := (own_erow (HF1.out.own k hk)).2.1
        have h2 := (HDE.out k hk)
        rw [← hsk] at h1
        simp only at h1
        omega
      rw [← hsk] at ck
      simp only [sv] at ck
      have HOK := HF1.out.own k hk
      rw [← hsk] at HOK
      simp only [sv] at HOK
      have HOK := Lib.hid HOK
      clear hsk
      go_upto_region 9 with fail
      refine wp_region_noPanic ?_
      go_region_law
        (refine step_pushF (B := w1.heap.size) (n := mk) (xs := ecells (Ls.getD k [])) (v := .slice pk mk dk) (by rfl) _ _ 23 (by rfl) Try.underlying23 infoAE rfl (by decide) (by rfl) #[.string k0, .int .i64 q0, .bool g0, .string v0, .int .i64 u0] rfl (by simp [Value.oneCell']) (by rfl) ?_ ?_ ?_ (by unfold maxLen; omega) (by omega) ?_
         · repeat (first | ((with_reducible refine blk_new ?_); (focus (simp; done))) | with_reducible refine blk_drew ?_ | with_reducible refine blk_alloc ?_)
         · repeat (first | with_reducible exact HOK.out | with_reducible refine own_drew ?_ | with_reducible refine World.ownsRow.alloc ?_ _)
         · refine Below.size (B := w1.heap.size) (w := w1) ?_
           repeat (first | with_reducible exact HB1.out | with_reducible refine Below.drew ?_ | with_reducible refine below_alloc ?_ _)
         intro g5 c5 w5 hq hgr hb hln
         obtain ⟨⟨ck5, cf5⟩, hf5⟩ := Four.put2 (e := ⟨k0, q0, g0, v0, u0⟩) HF1.out HLS.out hk HSK.out hq hgr hln (by repeat (first | with_reducible exact Below.refl _ _ | with_reducible refine Below.drew ?_ | with_reducible refine below_alloc ?_ _))
         have HF5 := Lib.hid hf5
         have HB5 : Hid (Below w1.heap.size w1 w5) := Below.trans (by repeat (first | with_reducible exact HB1.out | with_reducible refine Below.drew ?_ | with_reducible refine below_alloc ?_ _)) hb
         clear hq hgr hb hln hf5)
      all_goals refine NoPanic.normal ?_
      all_goals go_wp2_with fail
      all_goals
        go_roundw
        case rel => exact ⟨i + 1, _, _, by go_num, by omega, HF5, Lib.hid (HST.out k hk), Lib.hid (HB5.out.setCell (p := ⟨w1.heap.size, k, none⟩) (Nat.le_refl _) _)⟩
        case measure => simp [intOf]; omega
    · obtain rfl : i = n := by omega
      go_wp2_with fail
      refine (wakes13_any wr).mono ?_
      rintro e w2 ⟨rfl, hb2⟩
      have HF2 := Lib.hid (hfo.out.below hb2)
      have P2 := Lib.hid ((P1.out.below hbel.out).below hb2)
      have HB2 := Lib.hid (chain (chain HB1.out hbel.out) hb2)
      have hro := HF2.out.row hde.out.len
      have HRO := Lib.hid hro
      have HDN := Lib.hid (hde.out.done HS1.out HN.out)
      have HTT := Lib.hid hde.out.tot
      have HSO : Hid (∀ j, j < Ls.length → Sorted (Ls.getD j [])) := fun j hj => hde.out.so j (by rw [← hde.out.len]; exact hj)
      clear hb2 hro hfo hde hbel
      go_wp2_with fail
      refine (merge_any _ 4 4 sl Ls w2 HRO.out (by omega) (by rw [HTT.out]; omega) HSO.out).mono ?_
      rw [HDN.out]
      rintro e w3 ⟨p3, d3, rfl, o3, hb3⟩
      have P3 := Lib.hid (at_own o3)
      have P2 := Lib.hid (P2.out.below hb3)
      have HB3 := Lib.hid (chain HB2.out hb3)
      clear o3 hb3
      rw [HN.out]
      go_wp2_with fail
      refine (alike_yes p3 R1.length d3 p1 d1 R1 rfl (by have := HN.out; omega) w3 P3.out.row P2.out.row).mono ?_
      rintro e w4 ⟨rfl, hb4⟩
      have hB4 := chain HB3.out hb4
      clear hb4
      go_wp2_with fail
      go_ret
      exact ⟨rfl, hB4⟩

theorem entT : Op.EntT Try.prog 54 ((match Try.prog.underlying 54 with | some (.struct fs) => fs | _ => #[])) := by
  rw [Try.underlying54]
  exact ⟨Try.underlying54, by kernel_rfl, by kernel_rfl, ⟨_, rfl, Try.underlying9⟩, ⟨_, rfl, Try.underlying2⟩, ⟨_, rfl, Try.underlying4⟩, ⟨_, rfl, Try.underlying9⟩, ⟨_, rfl, Try.underlying2⟩, rfl⟩
theorem bd64 {n : Int} (h : (Lit.int .i64 n).wf = true) : -9223372036854775808 ≤ n ∧ n ≤ 9223372036854775807 := by
  simpa [Lit.wf, IntKind.min, IntKind.max, IntKind.signed, IntKind.bits] using h


theorem own : ownKnob Try.prog.godebug = none := by kernel_rfl
theorem laidOut : laidOutB Try.prog = true := by kernel_rfl

set_option maxRecDepth 100000 in
theorem lifted (os : Os) (started : os.Started) (H : Type) (enc : TypeId × Value → H) :
    ReturnsInHanded {} Try.checked os 7 .any (Rows.mergeAnySpec.pre6 enc Try.prog Try.f7 Rows.mergeAnyRow.domain false) (Rows.mergeAnySpec.post enc Try.prog Try.f7 false true false false) := by
  refine returnsInHanded_of_change_sized (C := Try.checked) own started (by kernel_rfl) Try.func7
    (ChangeSpec.witness6 (enc := enc) (C := Try.checked) false ⟨#[], #[.slice none 0 0, .slice none 0 0], []⟩ 8 (by kernel_rfl) (by kernel_rfl) (by kernel_rfl) (by kernel_rfl)) ?_
  intro W base args ds gs before hval0 hW hcnd hsz0 _
  have hval : ∀ (j : Nat) t v, Try.f7.params[j]? = some t → args[j]? = some v → Value.okWide Try.prog W .any base t v := hval0
  have hsz : (DataW.weightsEach Try.prog (Try.f7.params.toList ++ Rows.mergeAnySpec.plain.varTypes Try.prog) (ds ++ gs)).all (· ≤ reachBytes) = true := hsz0
  have hW' := hW
  obtain ⟨p, q, hA0, hV, rfl, hfz, hnd⟩ := hW
  have hA : DataW.TrodAll enc Try.prog W 0 (fun _ => true) true Try.f7.params.toList args.toList ds p := hA0
  rw [Try.params7] at hA hval hsz
  obtain ⟨v0, vs0, d0, ds0, p0, q0, hargs, rfl, rfl, h0, r0⟩ := trodAll_cons hA
  obtain ⟨v1, vs1, d1, ds1, p1, q1, rfl, rfl, rfl, h1, r1⟩ := trodAll_cons r0
  obtain ⟨rfl, rfl, rfl⟩ := trodAll_nil r1
  obtain rfl : args = #[v0, v1] := by cases args; simp_all
  obtain ⟨rfl, rfl⟩ := trodVars_none hV
  have k0 := h0
  have lt0 : ∀ x ∈ p0, x.block < W.heap.size := by obtain ⟨m, hm⟩ := k0; exact DataW.trod_lt m _ _ _ hm
  have k1 := h1
  have lt1 : ∀ x ∈ p1, x.block < W.heap.size := by obtain ⟨m, hm⟩ := k1; exact DataW.trod_lt m _ _ _ hm
  obtain ⟨a0, n0, cap0, z0, rfl, w0, row0, lc0, cm0, wf0, wt0, bk0⟩ := Op.ents1 entT Try.underlying22 (hval 0 22 v0 rfl rfl) h0
  have wb0 := wt0 reachBytes (fun m hm => of_decide_eq_true (List.all_eq_true.1 hsz _ (DataW.weights_mem_each (j := 0) rfl rfl m hm)))
  have f0 : z0.length = n0 ∧ n0 ≤ cap0 ∧ n0 * 56 ≤ 140737488351232 ∧ (∀ e ∈ z0, En.Fits e) ∧ En.ERow W a0 n0 (fun i => z0.getD i En.ent0) := ⟨w0, lc0, by have h9 := wb0.2; rw [show Try.prog.bytesOf 54 = 56 from by kernel_rfl] at h9; exact h9, fun x hx => by have h9 := wf0 x hx; have h8 := wb0.1 x hx; exact ⟨h8.1, h8.2, (bd64 h9.2.2.1).1, (bd64 h9.2.2.1).2, (bd64 h9.2.2.2).1, (bd64 h9.2.2.2).2⟩, row0⟩
  obtain ⟨a1, n1, cap1, z1, rfl, w1, wf1, row1, lc1, cm1, wt1⟩ := Op.ints2 Try.underlying51 Try.underlying3 (by kernel_rfl) (hval 1 51 v1 rfl rfl) h1
  have wb1 := wt1 reachBytes (fun m hm => of_decide_eq_true (List.all_eq_true.1 hsz _ (DataW.weights_mem_each (j := 1) rfl rfl m hm)))
  have f1 : z1.length = n1 ∧ n1 ≤ cap1 ∧ cap1 ≤ 9223372036854775807 ∧ n1 * 8 ≤ 140737488351232 ∧ (∀ x ∈ z1, -9223372036854775808 ≤ x ∧ x ≤ 9223372036854775807) ∧ B.Row W a1 n1 (fun i => .int .i64 (z1.getD i 0)) := ⟨w1, lc1, by simpa [maxLen] using cm1, by rw [show Try.prog.bytesOf 3 = 8 from by kernel_rfl] at wb1; exact wb1, fun x hx => by simpa [Lit.wf, IntKind.min, IntKind.max, IntKind.signed, IntKind.bits] using wf1 x hx, row1⟩
  clear hA0 hval0
  refine (walk a0 n0 cap0 z0 a1 n1 cap1 z1 W f0 f1).mono fun e W' ⟨he, bel⟩ => ?_
  subst he
  exact ⟨_, rfl, _, _, _, [], _, [], hW', trodAll_mk1 (shut_bool Try.underlying4 _), (trodAll_cons_mk (Below.trod laidOut (by kernel_rfl) (of_decide_eq_true (by kernel_rfl)) k0 bel lt0) (trodAll_cons_mk (Below.trod laidOut (by kernel_rfl) (of_decide_eq_true (by kernel_rfl)) k1 bel lt1) trodAll_mk0)), rfl, bel.frame _, fun h => by cases h⟩

theorem over : Rows.mergeAnyRow.holds Try.pinned (OpenSpec.ofChange Rows.mergeAnySpec) :=
  OpenClaim.holds_of_wide 7 Try.f7 rfl rfl rfl rfl rfl rfl rfl ⟨rfl, rfl, rfl, rfl, rfl⟩ rfl rfl rfl rfl rfl (by kernel_rfl) Try.func7 (by kernel_rfl)
    (of_decide_eq_true (by kernel_rfl)) (by unfold Func.isWrapper; first | (rw [if_pos (by decide +kernel)]; kernel_rfl) | (rw [if_neg (by decide +kernel)]; exact ⟨rfl, rfl⟩))
    (fun os started H enc _ => lifted os started H enc)

/-- THE STATEMENT -/
theorem proved : Rows.MergeAnySaid := over
end Go.Proofs.Ytmgdcebbeglcmaa.mergeAny
