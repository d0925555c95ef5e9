/- BatchBack: items are read back from their bytes; bytes that are read as items are these items' bytes. No condition on the input. -/
import Derived.Test.YtdhnkalkfipmhaaBatchK
import Derived.Test.YtdhnkalkfipmhaaBatchE
import Derived.Test.YtdhnkalkfipmhaaBatchH
import Derived.Test.YtdhnkalkfipmhaaEqE
import Derived.Deep.DeepCutAuto
import Derived.ProofKit
import Derived.OpenShut
import Derived.ShutString
import Derived.ChangeOld
import Derived.Below
import Derived.SizedLaws
import Derived.Test.YtdhnkalkfipmhaaOpen
import Derived.Test.YtdhnkalkfipmhaaOpenE
namespace Go.Proofs.Ytdhnkalkfipmhaa.batchBack
open Go.ChangeShapes Go.WideShapes Go.ChangeAt Go.RowKit
open Go.ChangeMaps (open_string shut_string)
set_option linter.unusedVariables false
open En Ew B

set_option maxHeartbeats 1600000 in
set_option maxRecDepth 100000 in
theorem walk (a : Option Addr) (n cap : Nat) (l : List Ent) (s : ByteArray) (w : World) (hz : l.length = n ∧ n ≤ cap ∧ n * 56 ≤ 140737488351232 ∧ (∀ e ∈ l, Fits e) ∧ ERow w a n (fun i => l.getD i ent0)) (hs : s.size ≤ 140737488351232) :
    Calls Try.prog 9 #[.slice a n cap, .string s] w fun e w' => e = .returned (.bool true) ∧ Below w.heap.size w w' := by
  obtain ⟨hl, hn, hm, hf, hrow⟩ := hz
  have HLS := Lib.hid (lists_any a n cap l hl hm w hrow)
  have HP := Lib.hid (fun a1 c1 W hr => bput_any a1 n c1 l hl hf W hr)
  have hok := @putE_ok l
  have hrd : bads l = 0 → l.length ≤ 64 → getE (str (bytesB l)) = (l.map z0, 0) := by
    intro h1 h2
    have := get_put h2 (fun e he => ⟨bads_good l h1 e he, hf e he⟩) []
    simpa using this
  have hbl : bads l = 0 → l.length ≤ 64 → (bytesB l).length ≤ 50000 := by
    intro h1 h2
    have h3 := itemsB_len l (fun e he => ⟨bads_good l h1 e he, hf e he⟩)
    have h4 := Vp.bts_len (n := (l.length : Int)) ⟨by omega, by omega⟩
    unfold bytesB
    rw [List.length_append]; omega
  have HG := Lib.hid (fun W : World => bget_any s (by omega) W)
  have hgp := @put_get s
  have hgn := @getE_nil s
  have hbk : (getE s).2 = 0 → ∀ a1 c1 W, ERow W a1 (getE s).1.length (fun i => (getE s).1.getD i ent0) → Calls Try.prog 12 #[.slice a1 (getE s).1.length c1] W (GotS W (s, 0)) := by
    intro h a1 c1 W hr
    obtain ⟨h1, h2, h3⟩ := hgp h
    have h4 := putE_of h1 (fun e he => (h2 e he).1)
    have h5 := bput_any a1 _ c1 (getE s).1 rfl (fun e he => (h2 e he).2.2) W hr
    rw [h4, ← h3] at h5
    exact h5
  generalize getE s = G at HG hgp hgn hbk
  obtain ⟨gl, ge⟩ := G
  simp only at hgp hgn hbk
  have hll : ge = 0 → gl.length ≤ 64 := fun h => (hgp h).1
  have HGN := Lib.hid hgn
  have HBK := Lib.hid hbk
  have HL := Lib.hid hl
  have HRD := Lib.hid hrd
  have HOK := Lib.hid hok
  have HBL := Lib.hid hbl
  have HLL := Lib.hid hll
  clear hgp hgn hbk hl hf hrow hrd hok hbl hll
  go_enter Try.func9, Try.ntmps9
  go_wp2_with fail
  refine HLS.out.mono ?_
  unfold GotL
  rw [HL.out]
  rintro e w1 ⟨a1, c1, a2, c2, rfl, ho1, _, hb1⟩
  have R1 := Lib.hid (own_erow ho1).2.2
  clear ho1
  go_wp2_with fail
  refine (HP.out _ _ _ R1.out).mono ?_
  obtain ⟨r, hr⟩ : ∃ r, r = putE l := ⟨_, rfl⟩
  rw [← hr] at HOK ⊢
  obtain ⟨t, pe⟩ := r
  rintro e w2 ⟨rfl, hb2⟩
  have R2 := Lib.hid (R1.out.below hb2)
  have HB2 := Lib.hid (chain hb1 hb2)
  clear hr hb1 hb2
  go_upto_if 28 with fail
  go_cut [] (fun wx => Below w.heap.size w wx)
  case first =>
    by_cases hpe : pe = 0
    · obtain ⟨h64, hb0, hte⟩ := HOK.out hpe
      have hg1 := HRD.out hb0 h64
      have hb50 := HBL.out hb0 h64
      simp only [Prod.mk.injEq] at hte
      obtain ⟨rfl, rfl⟩ := hte
      have HT := Lib.hid (fun W : World => bget_any (str (bytesB l)) (by rw [str_size]; omega) W)
      rw [hg1] at HT
      have hn64 : n ≤ 64 := by rw [← HL.out]; exact h64
      have HZL : Hid ((l.map z0).length = n) := by rw [List.length_map]; exact HL.out
      clear h64 hb0 hg1 hb50 hpe
      go_wp2_with fail
      refine (HT.out _).mono ?_
      unfold GotD
      simp only
      rw [HZL.out]
      rintro e w3 ⟨a3, c3, rfl, ho3, hb3⟩
      have R3 := Lib.hid (own_erow ho3).2.2
      have R4 := Lib.hid (R2.out.below hb3)
      have HB3 := Lib.hid (chain HB2.out hb3)
      clear ho3 hb3
      go_wp2_with fail
      go_loopw [45] (fun i wr => ∃ j : Nat, i = .int .i64 j ∧ j ≤ n ∧ Below w3.heap.size w3 wr) (fun i _ => n - (intOf i).toNat)
      case atStart => exact ⟨0, rfl, by omega, Below.refl _ _⟩
      case round =>
        obtain ⟨j, rfl, hj, hbel⟩ := hrel
        by_cases hlt : j < n
        · obtain ⟨b0, o0, rfl, _, hc0⟩ := (R4.out.below hbel).at (by omega)
          obtain ⟨b1, o1, rfl, _, hc1⟩ := (R3.out.below hbel).at (by omega)
          have hd0 := hc0 j hlt
          have hd1 := hc1 j hlt
          have hz0 : (l.map z0).getD j ent0 = z0 (l.getD j ent0) := by
            simp [List.getD_eq_getElem?_getD, List.getElem?_map, List.getElem?_eq_getElem (show j < l.length by rw [HL.out]; exact hlt)]
          rw [hz0] at hd1
          generalize l.getD j ent0 = x at hd0 hd1
          obtain ⟨k, q, g, v, u⟩ := x
          simp only [z0] at hd0 hd1
          obtain ⟨p0, p1, p2, p3, p4⟩ := hd0
          obtain ⟨q0, q1, q2, q3, q4⟩ := hd1
          have i1 : (0 : Int) ≤ (j : Int) := by omega
          have i2 : (j : Int) < (n : Int) := by omega
          have hne1 : ∀ W : World, (binOp .neq 36 (.agg #[.string k, .int .i64 0, .bool g, .string v, .int .i64 u]) (.agg #[.string k, .int .i64 0, .bool g, .string v, .int .i64 u])).run Try.prog W = .ok (.bool false) W := fun W => by rw [neq_api, eqE_refl]; rfl
          have hbA := fun C : Obj => hbel.alloc hbel.size C
          clear hc0 hc1 hz0
          go_wp2_with fail
          go_quiet (fail)
          go_wp2_with fail
          go_roundw
          case rel => exact ⟨j + 1, by go_num, by omega, drewN (hbA _)⟩
          case measure => simp [intOf]; omega
        · go_wp2_with fail
          go_meet
          exact chain HB3.out hbel
    · have e1 : (pe == 0) = false := ef hpe
      clear hpe
      go_wp2_with fail
      go_meet
      exact HB2.out
  case rest =>
    have HC := Lib.hid hcut
    clear hcut
    go_wp2_with fail
    refine (HG.out _).mono ?_
    rintro e w4 ⟨a4, c4, rfl, ho4, hb4⟩
    simp only at ho4
    have R4 := Lib.hid (own_erow ho4).2.2
    have HB4 := Lib.hid (chain HC.out hb4)
    clear ho4 hb4
    go_wp2_with fail
    refine (wakes7_any _).mono ?_
    rintro e w5 ⟨rfl, hb5⟩
    have HB5 := Lib.hid (chain HB4.out hb5)
    have R5 := Lib.hid (R4.out.below hb5)
    clear hb5
    by_cases hge : ge = 0
    · subst hge
      have HPP := Lib.hid (HBK.out rfl)
      clear HBK
      go_wp2_with fail
      refine (HPP.out _ _ _ R5.out).mono ?_
      rintro e w6 ⟨rfl, hb6⟩
      have hbz := chain HB5.out hb6
      go_wp2_with fail
      go_ret
      exact ⟨rfl, hbz⟩
    · have e1 : (ge != 0) = true := nt hge
      have hgl := HGN.out hge
      subst hgl
      clear hge
      go_wp2_with fail
      refine (wakes7_any _).mono ?_
      rintro e w6 ⟨rfl, hb6⟩
      have hbz := chain HB5.out hb6
      go_wp2_with fail
      go_ret
      exact ⟨rfl, hbz⟩

theorem entT : Op.EntT Try.prog 37 ((match Try.prog.underlying 37 with | some (.struct fs) => fs | _ => #[])) := by
  rw [Try.underlying37]
  exact ⟨Try.underlying37, by kernel_rfl, by kernel_rfl, ⟨_, rfl, Try.underlying9⟩, ⟨_, rfl, Try.underlying2⟩, ⟨_, rfl, Try.underlying4⟩, ⟨_, rfl, Try.underlying9⟩, ⟨_, rfl, Try.underlying2⟩, rfl⟩
theorem bd64 {n : Int} (h : (Lit.int .i64 n).wf = true) : -9223372036854775808 ≤ n ∧ n ≤ 9223372036854775807 := by
  simpa [Lit.wf, IntKind.min, IntKind.max, IntKind.signed, IntKind.bits] using h


theorem own : ownKnob Try.prog.godebug = none := by kernel_rfl
theorem laidOut : laidOutB Try.prog = true := by kernel_rfl

set_option maxRecDepth 100000 in
theorem lifted (os : Os) (started : os.Started) (H : Type) (enc : TypeId × Value → H) :
    ReturnsInHanded {} Try.checked os 9 .any (Rows.batchBackSpec.pre6 enc Try.prog Try.f9 Rows.batchBackRow.domain false) (Rows.batchBackSpec.post enc Try.prog Try.f9 false true false false) := by
  refine returnsInHanded_of_change_sized (C := Try.checked) own started (by kernel_rfl) Try.func9
    (ChangeSpec.witness6 (enc := enc) (C := Try.checked) false ⟨#[], #[.slice none 0 0, .string ByteArray.empty], []⟩ 8 (by kernel_rfl) (by kernel_rfl) (by kernel_rfl) (by kernel_rfl)) ?_
  intro W base args ds gs before hval0 hW hcnd hsz0 _
  have hval : ∀ (j : Nat) t v, Try.f9.params[j]? = some t → args[j]? = some v → Value.okWide Try.prog W .any base t v := hval0
  have hsz : (DataW.weightsEach Try.prog (Try.f9.params.toList ++ Rows.batchBackSpec.plain.varTypes Try.prog) (ds ++ gs)).all (· ≤ reachBytes) = true := hsz0
  have hW' := hW
  obtain ⟨p, q, hA0, hV, rfl, hfz, hnd⟩ := hW
  have hA : DataW.TrodAll enc Try.prog W 0 (fun _ => true) true Try.f9.params.toList args.toList ds p := hA0
  rw [Try.params9] at hA hval hsz
  obtain ⟨v0, vs0, d0, ds0, p0, q0, hargs, rfl, rfl, h0, r0⟩ := trodAll_cons hA
  obtain ⟨v1, vs1, d1, ds1, p1, q1, rfl, rfl, rfl, h1, r1⟩ := trodAll_cons r0
  obtain ⟨rfl, rfl, rfl⟩ := trodAll_nil r1
  obtain rfl : args = #[v0, v1] := by cases args; simp_all
  obtain ⟨rfl, rfl⟩ := trodVars_none hV
  have k0 := h0
  have lt0 : ∀ x ∈ p0, x.block < W.heap.size := by obtain ⟨m, hm⟩ := k0; exact DataW.trod_lt m _ _ _ hm
  have k1 := h1
  have lt1 : ∀ x ∈ p1, x.block < W.heap.size := by obtain ⟨m, hm⟩ := k1; exact DataW.trod_lt m _ _ _ hm
  obtain ⟨a0, n0, cap0, z0, rfl, w0, row0, lc0, cm0, wf0, wt0, bk0⟩ := Op.ents1 entT Try.underlying22 (hval 0 22 v0 rfl rfl) h0
  have wb0 := wt0 reachBytes (fun m hm => of_decide_eq_true (List.all_eq_true.1 hsz _ (DataW.weights_mem_each (j := 0) rfl rfl m hm)))
  have f0 : z0.length = n0 ∧ n0 ≤ cap0 ∧ n0 * 56 ≤ 140737488351232 ∧ (∀ e ∈ z0, En.Fits e) ∧ En.ERow W a0 n0 (fun i => z0.getD i En.ent0) := ⟨w0, lc0, by have h9 := wb0.2; rw [show Try.prog.bytesOf 37 = 56 from by kernel_rfl] at h9; exact h9, fun x hx => by have h9 := wf0 x hx; have h8 := wb0.1 x hx; exact ⟨h8.1, h8.2, (bd64 h9.2.2.1).1, (bd64 h9.2.2.1).2, (bd64 h9.2.2.2).1, (bd64 h9.2.2.2).2⟩, row0⟩
  obtain ⟨a1, rfl, rfl, rfl, w1⟩ := open_string Try.underlying9 (hval 1 9 v1 rfl rfl) h1
  have b1 : a1.size ≤ 140737488351232 := by have := sized_string hsz (j := 1) rfl rfl; simpa [reachBytes] using this
  clear hA0 hval0
  refine (walk a0 n0 cap0 z0 a1 W f0 b1).mono fun e W' ⟨he, bel⟩ => ?_
  subst he
  exact ⟨_, rfl, _, _, _, [], _, [], hW', trodAll_mk1 (shut_bool Try.underlying4 _), (trodAll_cons_mk (Below.trod laidOut (by kernel_rfl) (of_decide_eq_true (by kernel_rfl)) k0 bel lt0) (trodAll_cons_mk (Below.trod laidOut (by kernel_rfl) (of_decide_eq_true (by kernel_rfl)) k1 bel lt1) trodAll_mk0)), rfl, bel.frame _, fun h => by cases h⟩

theorem over : Rows.batchBackRow.holds Try.pinned (OpenSpec.ofChange Rows.batchBackSpec) :=
  OpenClaim.holds_of_wide 9 Try.f9 rfl rfl rfl rfl rfl rfl rfl ⟨rfl, rfl, rfl, rfl, rfl⟩ rfl rfl rfl rfl rfl (by kernel_rfl) Try.func9 (by kernel_rfl)
    (of_decide_eq_true (by kernel_rfl)) (by unfold Func.isWrapper; first | (rw [if_pos (by decide +kernel)]; kernel_rfl) | (rw [if_neg (by decide +kernel)]; exact ⟨rfl, rfl⟩))
    (fun os started H enc _ => lifted os started H enc)

/-- THE STATEMENT -/
theorem proved : Rows.BatchBackSaid := over
end Go.Proofs.Ytdhnkalkfipmhaa.batchBack
