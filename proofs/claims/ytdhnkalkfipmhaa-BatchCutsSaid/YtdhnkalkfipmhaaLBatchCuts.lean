/- BatchCuts: the bytes of items, cut off anywhere, are no items; nor are they with more behind them. No condition on the input. -/
import Derived.Test.YtdhnkalkfipmhaaBatchK
import Derived.Test.YtdhnkalkfipmhaaBatchE
import Derived.ProofKit
import Derived.OpenShut
import Derived.ShutString
import Derived.ChangeOld
import Derived.Below
import Derived.SizedLaws
import Derived.Test.YtdhnkalkfipmhaaOpen
import Derived.Test.YtdhnkalkfipmhaaOpenE
namespace Go.Proofs.Ytdhnkalkfipmhaa.batchCuts
open Go.ChangeShapes Go.WideShapes Go.ChangeAt Go.RowKit
open Go.ChangeMaps (open_string shut_string)
set_option linter.unusedVariables false
open En Ew B

theorem str_take (b : List UInt8) (c : Nat) : (str b).extract 0 c = str (b.take c) := by rw [extract0, toList_str]

set_option maxHeartbeats 1600000 in
set_option maxRecDepth 100000 in
theorem walk (a : Option Addr) (n cap : Nat) (l : List Ent) (cut : Int) (more : ByteArray) (w : World) (hz : l.length = n ∧ n ≤ cap ∧ n * 56 ≤ 140737488351232 ∧ (∀ e ∈ l, Fits e) ∧ ERow w a n (fun i => l.getD i ent0))
    (hcut : -9223372036854775808 ≤ cut ∧ cut ≤ 9223372036854775807) (hms : more.size ≤ 140737488351232) :
    Calls Try.prog 10 #[.slice a n cap, .int .i64 cut, .string more] w fun e w' => e = .returned (.bool true) ∧ Below w.heap.size w w' := by
  obtain ⟨hl, hn, hm, hf, hrow⟩ := hz
  obtain ⟨hq1, hq2⟩ := hcut
  have HLS := Lib.hid (lists_any a n cap l hl hm w hrow)
  have HP := Lib.hid (fun a1 c1 W hr => bput_any a1 n c1 l hl hf W hr)
  have hok := @putE_ok l
  have HL := Lib.hid hl
  have hgood : bads l = 0 → ∀ e ∈ l, goodI e = 0 ∧ Fits e := fun h1 e he => ⟨bads_good l h1 e he, hf e he⟩
  have HGD := Lib.hid hgood
  have HOK := Lib.hid hok
  clear hl hf hrow hgood hok
  by_cases hpe : (putE l).2 = 0
  · obtain ⟨h64, hb0, hte⟩ := HOK.out hpe
    have hgd := HGD.out hb0
    rw [hte] at HP
    have hb50 : (bytesB l).length ≤ 50000 := by
      have h3 := itemsB_len l hgd
      have h4 := Vp.bts_len (n := (l.length : Int)) ⟨by omega, by omega⟩
      unfold bytesB
      rw [List.length_append]; omega
    have hb1 : 1 ≤ (bytesB l).length := by
      have := Vp.bts_pos (l.length : Int)
      unfold bytesB
      rw [List.length_append]; omega
    have hgc := fun c hc => get_cut h64 hgd c hc
    have hgm := get_put h64 hgd more.data.toList
    generalize bytesB l = b at HP hb50 hb1 hgc hgm
    obtain ⟨q, hq⟩ : ∃ q : Nat, (q : Int) = max 0 cut % (b.length : Int) := by
      obtain ⟨q, hq⟩ := Int.eq_ofNat_of_zero_le (Int.emod_nonneg (max 0 cut) (show (b.length : Int) ≠ 0 by omega))
      exact ⟨q, hq.symm⟩
    have hql : q < b.length := by
      have := Int.emod_lt_of_pos (max 0 cut) (show (0 : Int) < b.length by omega)
      omega
    have hgc1 := hgc q hql
    rw [← str_take] at hgc1
    have hsz : (str b).size = b.length := str_size b
    have HC := Lib.hid (fun W : World => bget_any ((str b).extract 0 q) (by rw [str_take, str_size, List.length_take]; omega) W)
    rw [hgc1] at HC
    have hma : str b ++ more = str (b ++ more.data.toList) := by
      conv => lhs; rw [← str_toList more]
      rw [str_append]
    have HM := Lib.hid (fun W : World => bget_any (str b ++ more) (by rw [ByteArray.size_append, hsz]; omega) W)
    rw [hma, hgm] at HM
    have hqe : max 0 cut % (b.length : Int) = (q : Int) := hq.symm
    have hne : (str b).toList.isEmpty = false := toList_ne (by omega)
    rw [← hma] at HM
    have hbl1 : (str b).size ≤ 50000 := by omega
    have hm0 : 0 ≤ max 0 cut := by omega
    have hb9 : 1 ≤ (b.length : Int) := by omega
    have hqz : (q : Int) ≤ ((str b).size : Int) := by omega
    have HHS := Lib.hid hsz
    generalize hst : str b = t at *
    obtain ⟨g, hg⟩ : ∃ g : List Ent × Int, g = (if more.data.toList = [] then (l.map z0, 0) else ([], 4)) := ⟨_, rfl⟩
    rw [← hg] at HM
    have HG := Lib.hid hg
    obtain ⟨gl, ge⟩ := g
    have HHB := Lib.hid hql
    have hrem : max 0 cut % ((t.size : Nat) : Int) = (q : Int) := by rw [HHS.out]; exact hqe
    have hts1 : 1 ≤ (t.size : Int) := by rw [HHS.out]; exact hb9
    clear hg hst hma hgm hgc hgc1 hqe hq hb9 hql hsz hte hpe hb0 h64 hgd
    by_cases hme : more.size = 0
    · have hmt : more.data.toList = [] := List.eq_nil_of_length_eq_zero (by simpa using hme)
      have hge := HG.out
      rw [if_pos hmt] at hge
      simp only [Prod.mk.injEq] at hge
      obtain ⟨_, rfl⟩ := hge
      have hmi := toList_nil hme
      have HME := Lib.hid hme
      clear hme hmt
      go_enter Try.func10, Try.ntmps10
      go_wp2_with fail
      refine HLS.out.mono ?_
      unfold GotL
      rw [HL.out]
      rintro e w1 ⟨a1, c1, a2, c2, rfl, ho1, _, hb1⟩
      have R1 := Lib.hid (own_erow ho1).2.2
      clear ho1
      go_wp2_with fail
      refine (HP.out _ _ _ R1.out).mono ?_
      rintro e w2 ⟨rfl, hb2⟩
      go_wp2_with fail
      refine (wakes7_any _).mono ?_
      rintro e w3 ⟨rfl, hb3⟩
      go_wp2_with fail
      refine (HC.out _).mono ?_
      rintro e w4 ⟨a4, c4, rfl, _, hb4⟩
      go_wp2_with fail
      refine (HM.out _).mono ?_
      rintro e w5 ⟨a5, c5, rfl, _, hb5⟩
      have hbz := chain (chain (chain (chain hb1 hb2) hb3) hb4) hb5
      go_wp2_with fail
      go_ret
      exact ⟨rfl, hbz⟩
    · have hmt : more.data.toList ≠ [] := fun h => hme (by have := congrArg List.length h; simpa using this)
      have hge := HG.out
      rw [if_neg hmt] at hge
      simp only [Prod.mk.injEq] at hge
      obtain ⟨_, rfl⟩ := hge
      have hmi := toList_ne hme
      clear hmt
      go_enter Try.func10, Try.ntmps10
      go_wp2_with fail
      refine HLS.out.mono ?_
      unfold GotL
      rw [HL.out]
      rintro e w1 ⟨a1, c1, a2, c2, rfl, ho1, _, hb1⟩
      have R1 := Lib.hid (own_erow ho1).2.2
      clear ho1
      go_wp2_with fail
      refine (HP.out _ _ _ R1.out).mono ?_
      rintro e w2 ⟨rfl, hb2⟩
      go_wp2_with fail
      refine (wakes7_any _).mono ?_
      rintro e w3 ⟨rfl, hb3⟩
      go_wp2_with fail
      refine (HC.out _).mono ?_
      rintro e w4 ⟨a4, c4, rfl, _, hb4⟩
      go_wp2_with fail
      refine (HM.out _).mono ?_
      rintro e w5 ⟨a5, c5, rfl, _, hb5⟩
      have hbz := chain (chain (chain (chain hb1 hb2) hb3) hb4) hb5
      go_wp2_with fail
      go_ret
      exact ⟨rfl, hbz⟩
  · have HP2 := Lib.hid hpe
    obtain ⟨r, hr⟩ : ∃ r, r = putE l := ⟨_, rfl⟩
    rw [← hr] at HP hpe
    obtain ⟨t, pe⟩ := r
    simp only at hpe
    have e1 : (pe != 0) = true := nt hpe
    clear hr hpe
    go_enter Try.func10, Try.ntmps10
    go_wp2_with fail
    refine HLS.out.mono ?_
    unfold GotL
    rw [HL.out]
    rintro e w1 ⟨a1, c1, a2, c2, rfl, ho1, _, hb1⟩
    have R1 := Lib.hid (own_erow ho1).2.2
    clear ho1
    go_wp2_with fail
    refine (HP.out _ _ _ R1.out).mono ?_
    rintro e w2 ⟨rfl, hb2⟩
    go_wp2_with fail
    refine (wakes7_any _).mono ?_
    rintro e w3 ⟨rfl, hb3⟩
    go_wp2_with fail
    refine (wakes7_any _).mono ?_
    rintro e w4 ⟨rfl, hb4⟩
    have hbz := chain (chain (chain hb1 hb2) hb3) hb4
    go_wp2_with fail
    go_ret
    exact ⟨rfl, hbz⟩

theorem entT : Op.EntT Try.prog 37 ((match Try.prog.underlying 37 with | some (.struct fs) => fs | _ => #[])) := by
  rw [Try.underlying37]
  exact ⟨Try.underlying37, by kernel_rfl, by kernel_rfl, ⟨_, rfl, Try.underlying9⟩, ⟨_, rfl, Try.underlying2⟩, ⟨_, rfl, Try.underlying4⟩, ⟨_, rfl, Try.underlying9⟩, ⟨_, rfl, Try.underlying2⟩, rfl⟩
theorem bd64 {n : Int} (h : (Lit.int .i64 n).wf = true) : -9223372036854775808 ≤ n ∧ n ≤ 9223372036854775807 := by
  simpa [Lit.wf, IntKind.min, IntKind.max, IntKind.signed, IntKind.bits] using h


theorem own : ownKnob Try.prog.godebug = none := by kernel_rfl
theorem laidOut : laidOutB Try.prog = true := by kernel_rfl

set_option maxRecDepth 100000 in
theorem lifted (os : Os) (started : os.Started) (H : Type) (enc : TypeId × Value → H) :
    ReturnsInHanded {} Try.checked os 10 .any (Rows.batchCutsSpec.pre6 enc Try.prog Try.f10 Rows.batchCutsRow.domain false) (Rows.batchCutsSpec.post enc Try.prog Try.f10 false true false false) := by
  refine returnsInHanded_of_change_sized (C := Try.checked) own started (by kernel_rfl) Try.func10
    (ChangeSpec.witness6 (enc := enc) (C := Try.checked) false ⟨#[], #[.slice none 0 0, .int .i64 0, .string ByteArray.empty], []⟩ 8 (by kernel_rfl) (by kernel_rfl) (by kernel_rfl) (by kernel_rfl)) ?_
  intro W base args ds gs before hval0 hW hcnd hsz0 _
  have hval : ∀ (j : Nat) t v, Try.f10.params[j]? = some t → args[j]? = some v → Value.okWide Try.prog W .any base t v := hval0
  have hsz : (DataW.weightsEach Try.prog (Try.f10.params.toList ++ Rows.batchCutsSpec.plain.varTypes Try.prog) (ds ++ gs)).all (· ≤ reachBytes) = true := hsz0
  have hW' := hW
  obtain ⟨p, q, hA0, hV, rfl, hfz, hnd⟩ := hW
  have hA : DataW.TrodAll enc Try.prog W 0 (fun _ => true) true Try.f10.params.toList args.toList ds p := hA0
  rw [Try.params10] at hA hval hsz
  obtain ⟨v0, vs0, d0, ds0, p0, q0, hargs, rfl, rfl, h0, r0⟩ := trodAll_cons hA
  obtain ⟨v1, vs1, d1, ds1, p1, q1, rfl, rfl, rfl, h1, r1⟩ := trodAll_cons r0
  obtain ⟨v2, vs2, d2, ds2, p2, q2, rfl, rfl, rfl, h2, r2⟩ := trodAll_cons r1
  obtain ⟨rfl, rfl, rfl⟩ := trodAll_nil r2
  obtain rfl : args = #[v0, v1, v2] := by cases args; simp_all
  obtain ⟨rfl, rfl⟩ := trodVars_none hV
  have k0 := h0
  have lt0 : ∀ x ∈ p0, x.block < W.heap.size := by obtain ⟨m, hm⟩ := k0; exact DataW.trod_lt m _ _ _ hm
  have k1 := h1
  have lt1 : ∀ x ∈ p1, x.block < W.heap.size := by obtain ⟨m, hm⟩ := k1; exact DataW.trod_lt m _ _ _ hm
  have k2 := h2
  have lt2 : ∀ x ∈ p2, x.block < W.heap.size := by obtain ⟨m, hm⟩ := k2; exact DataW.trod_lt m _ _ _ hm
  obtain ⟨a0, n0, cap0, z0, rfl, w0, row0, lc0, cm0, wf0, wt0, bk0⟩ := Op.ents1 entT Try.underlying22 (hval 0 22 v0 rfl rfl) h0
  have wb0 := wt0 reachBytes (fun m hm => of_decide_eq_true (List.all_eq_true.1 hsz _ (DataW.weights_mem_each (j := 0) rfl rfl m hm)))
  have f0 : z0.length = n0 ∧ n0 ≤ cap0 ∧ n0 * 56 ≤ 140737488351232 ∧ (∀ e ∈ z0, En.Fits e) ∧ En.ERow W a0 n0 (fun i => z0.getD i En.ent0) := ⟨w0, lc0, by have h9 := wb0.2; rw [show Try.prog.bytesOf 37 = 56 from by kernel_rfl] at h9; exact h9, fun x hx => by have h9 := wf0 x hx; have h8 := wb0.1 x hx; exact ⟨h8.1, h8.2, (bd64 h9.2.2.1).1, (bd64 h9.2.2.1).2, (bd64 h9.2.2.2).1, (bd64 h9.2.2.2).2⟩, row0⟩
  obtain ⟨a1, rfl, rfl, rfl, w1⟩ := open_int Try.underlying3 (hval 1 3 v1 rfl rfl) h1
  have b1 : -9223372036854775808 ≤ a1 ∧ a1 ≤ 9223372036854775807 := by simpa [Lit.wf, IntKind.min, IntKind.max, IntKind.signed, IntKind.bits] using w1
  obtain ⟨a2, rfl, rfl, rfl, w2⟩ := open_string Try.underlying9 (hval 2 9 v2 rfl rfl) h2
  have b2 : a2.size ≤ 140737488351232 := by have := sized_string hsz (j := 2) rfl rfl; simpa [reachBytes] using this
  clear hA0 hval0
  refine (walk a0 n0 cap0 z0 a1 a2 W f0 b1 b2).mono fun e W' ⟨he, bel⟩ => ?_
  subst he
  exact ⟨_, rfl, _, _, _, [], _, [], hW', trodAll_mk1 (shut_bool Try.underlying4 _), (trodAll_cons_mk (Below.trod laidOut (by kernel_rfl) (of_decide_eq_true (by kernel_rfl)) k0 bel lt0) (trodAll_cons_mk (Below.trod laidOut (by kernel_rfl) (of_decide_eq_true (by kernel_rfl)) k1 bel lt1) (trodAll_cons_mk (Below.trod laidOut (by kernel_rfl) (of_decide_eq_true (by kernel_rfl)) k2 bel lt2) trodAll_mk0))), rfl, bel.frame _, fun h => by cases h⟩

theorem over : Rows.batchCutsRow.holds Try.pinned (OpenSpec.ofChange Rows.batchCutsSpec) :=
  OpenClaim.holds_of_wide 10 Try.f10 rfl rfl rfl rfl rfl rfl rfl ⟨rfl, rfl, rfl, rfl, rfl⟩ rfl rfl rfl rfl rfl (by kernel_rfl) Try.func10 (by kernel_rfl)
    (of_decide_eq_true (by kernel_rfl)) (by unfold Func.isWrapper; first | (rw [if_pos (by decide +kernel)]; kernel_rfl) | (rw [if_neg (by decide +kernel)]; exact ⟨rfl, rfl⟩))
    (fun os started H enc _ => lifted os started H enc)

/-- THE STATEMENT -/
theorem proved : Rows.BatchCutsSaid := over
end Go.Proofs.Ytdhnkalkfipmhaa.batchCuts
