/- BloomMore: a filter is the same in whatever order keys came; of no keys none is told as there. No condition on the input. -/
import Derived.Test.YtfeaacjacbljfaaBloomW
import Derived.Test.YtfeaacjacbljfaaFrameA
import Derived.ProofKit
import Derived.OpenShut
import Derived.ShutString
import Derived.ChangeOld
import Derived.Below
import Derived.SizedLaws
import Derived.Test.YtfeaacjacbljfaaOpen
namespace Go.Proofs.Ytfeaacjacbljfaa.bloomMore
open Go.ChangeShapes Go.WideShapes Go.ChangeAt Go.RowKit
open Go.ChangeMaps (open_string shut_string)
set_option linter.unusedVariables false
open Mp Fp B Fw Mw

theorem mk_len (bits : Int) (ks : List (List UInt8)) : (mk bits ks).1.length ≤ 131074 := by
  unfold mk
  by_cases h1 : bits < 1 ∨ 16 < bits
  · rw [if_pos h1]; simp
  · rw [if_neg h1]
    by_cases h2 : 65536 < ks.length
    · rw [if_pos h2]; simp
    · rw [if_neg h2]
      have := byteN_le bits.toNat ks.length (by omega) (by omega)
      simp only [filt, List.length_cons, marks_len]
      omega
theorem mk_nil {bits : Int} (h : (mk bits []).2 = 0) (k : List UInt8) : hasK (mk bits []).1 k = false := by
  unfold mk at h ⊢
  by_cases h1 : bits < 1 ∨ 16 < bits
  · rw [if_pos h1] at h; simp at h
  · rw [if_neg h1, if_neg (by simp)]
    exact hasK_none _ _ (by omega)

theorem row_take {w : World} {a : Option Addr} {n m : Nat} {f : Nat → Value} (h : Row w a n f) (hm : m ≤ n) : Row w a m f := by
  rcases h with h | ⟨b, off, ha, hb, hc⟩
  · exact .inl (by omega)
  · exact .inr ⟨b, off, ha, hb, fun i hi => hc i (by omega)⟩
theorem rev_step (ts : List ByteArray) (k : Nat) (h : k < ts.length) : ts.reverse.take (ts.length - k) = ts.reverse.take (ts.length - (k + 1)) ++ [ts.getD k ByteArray.empty] := by
  obtain ⟨j, hj⟩ : ∃ j, ts.length - k = j + 1 := ⟨ts.length - k - 1, by omega⟩
  rw [hj, show ts.length - (k + 1) = j from by omega, List.take_add_one, List.getElem?_reverse (by omega), show ts.length - 1 - j = k from by omega, List.getElem?_eq_getElem h, List.getD_eq_getElem?_getD, List.getElem?_eq_getElem h]
  rfl

set_option maxHeartbeats 800000 in
theorem walk (bits : Int) (a : Option Addr) (n cap : Nat) (ss : List ByteArray) (key : ByteArray) (w : World) (hb : -9223372036854775808 ≤ bits ∧ bits ≤ 9223372036854775807)
    (hz : ss.length = n ∧ n ≤ cap ∧ cap ≤ 9223372036854775807 ∧ (∀ s ∈ ss, s.size ≤ 140737488351232) ∧ Row w a n (fun i => .string (ss.getD i ByteArray.empty))) (hk : key.size ≤ 140737488351232) :
    Calls Try.prog 12 #[.int .i64 bits, .slice a n cap, .string key] w fun e w' => e = .returned (.bool true) ∧ Below w.heap.size w w' := by
  obtain ⟨hz, hn, hm, hsz, hrow⟩ := hz
  obtain ⟨m, hmm⟩ : ∃ m, m = min n 200 := ⟨_, rfl⟩
  obtain ⟨ts, hts⟩ : ∃ ts, ts = ss.take m := ⟨_, rfl⟩
  have hmn : m ≤ n := by omega
  have hm2 : m ≤ 200 := by omega
  have hmi : min (n : Int) 200 = (m : Int) := by omega
  have htl : ts.length = m := by rw [hts, List.length_take]; omega
  have hrt : Row w a m (fun i => .string (ts.getD i ByteArray.empty)) := (row_take hrow hmn).congr fun i hi => by rw [hts]; simp only [List.getD_eq_getElem?_getD, List.getElem?_take_of_lt hi]
  have hst : ∀ s ∈ ts, s.size ≤ 2305843009213693952 := fun s hs => by have := hsz s (by rw [hts] at hs; exact List.mem_of_mem_take hs); omega
  have hA := new_any bits a m cap ts htl (by omega) hm hst
  have hB := fun a2 c2 => new_any bits a2 m c2 ts.reverse (by rw [List.length_reverse, htl])
  rw [List.map_reverse, mk_rev] at hB
  have hok := @mk_nil bits
  have hmt : m = 0 → ts = [] := fun h => List.eq_nil_of_length_eq_zero (by omega)
  have hln := mk_len bits (ts.map fun s => s.data.toList)
  obtain ⟨r, hr⟩ : ∃ r, r = mk bits (ts.map fun s => s.data.toList) := ⟨_, rfl⟩
  rw [← hr] at hA hB hln
  have hhas : m = 0 → r.2 = 0 → hasK r.1 key.data.toList = false := by
    intro h0 h1
    rw [hr, hmt h0] at h1 ⊢
    exact hok h1 _
  clear hok hmt hr
  obtain ⟨f, g⟩ := r
  have hfs : (str f).size ≤ 131074 := by rw [str_size]; exact hln
  have HA := Lib.hid hA
  have HB := Lib.hid hB
  have HR := Lib.hid hrt
  have HH := Lib.hid hhas
  have HT := Lib.hid htl
  have HST := Lib.hid hst
  clear hA hB hrt hhas htl hst hts hmm hrow hsz hz
  have i1 : (0 : Int) ≤ (m : Int) := by omega
  have i2 : (m : Int) ≤ (cap : Int) := by omega
  go_enter Try.func12, Try.ntmps12
  go_wp2_with fail
  go_loopw [7, 8] (fun v i wr => ∃ j : Nat, i = .int .i64 ((j : Int) - 1) ∧ j ≤ m ∧ wr.ownsRow w.heap.size 9 1 v (m - j) ((ts.reverse.take (m - j)).map Value.string) ∧ Below w.heap.size w wr) (fun _ i _ => (intOf i + 1).toNat)
  case atStart => exact ⟨m, rfl, by omega, by rw [Nat.sub_self]; exact World.ownsRow_nil _ _ _ _, Below.refl _ _⟩
  case round =>
    obtain ⟨j, rfl, hj, hown, hbel⟩ := hrel
    by_cases hlt : 1 ≤ j
    · obtain ⟨k, rfl⟩ : ∃ k, j = k + 1 := ⟨j - 1, by omega⟩
      have e0 : ((k + 1 : Nat) : Int) - 1 = (k : Int) := by omega
      rw [e0]
      obtain ⟨b1, o1, rfl, _, hc1⟩ := (HR.out.below hbel).at (by omega)
      have hk1 := hc1 k (by omega)
      have hst : ts.reverse.take (m - k) = ts.reverse.take (m - (k + 1)) ++ [ts.getD k ByteArray.empty] := by
        have := rev_step ts k (by rw [HT.out]; omega)
        rwa [HT.out] at this
      generalize ts.getD k ByteArray.empty = s at hk1 hst
      generalize ts.reverse.take (m - (k + 1)) = us at hown hst
      obtain ⟨q, hq⟩ : ∃ q, q = m - (k + 1) := ⟨_, rfl⟩
      have hq2 : m - k = q + 1 := by omega
      rw [hq2] at hst
      rw [← hq] at hown
      have HST2 := Lib.hid hst
      have HQ2 := Lib.hid hq2
      have hql : q ≤ 200 := by omega
      clear hc1 hst hq hq2 e0
      go_wp2_with (at_builtin; refine wpList_push rfl _ _ 35 rfl Try.underlying35 infoStr rfl (by decide) rfl _ rfl ?c1 rfl hown ?c2 ?c3 ?c4 ?_)
      case c1 => rfl
      case c2 => exact hbel.size
      case c3 => unfold maxLen; omega
      case c4 => omega
      intro a' cap' w2 hown2 _ hb2
      have hb3 := hbel.trans hb2
      go_wp2_with fail
      go_roundw
      case rel => exact ⟨k, rfl, by omega, by rw [HQ2.out, HST2.out, List.map_append]; exact hown2, hb3⟩
      case measure => simp [intOf]
    · obtain rfl : j = 0 := by omega
      obtain ⟨oa, oc, rfl, hoc⟩ := own_form hown
      rw [Nat.sub_zero] at hown hoc ⊢
      have hro := (own_row hown).2
      have hrl : ts.reverse.take m = ts.reverse := List.take_of_length_le (by rw [List.length_reverse, HT.out]; omega)
      rw [hrl] at hro
      have hrow2 : Row wr oa m (fun i => .string (ts.reverse.getD i ByteArray.empty)) := by
        have h2 := hro
        rw [show m = ts.reverse.length from by rw [List.length_reverse, HT.out]] at h2 ⊢
        exact row_map h2
      have hst2 : ∀ s ∈ ts.reverse, s.size ≤ 2305843009213693952 := fun s hs => HST.out s (List.mem_reverse.1 hs)
      have HB2 := Lib.hid (fun W hW => HB.out oa oc hoc (own_cap hown) hst2 W hW)
      have HR2 := Lib.hid hrow2
      clear hro hrl hrow2 hst2 hown
      by_cases hg : g = 0
      · by_cases hm0 : m = 0
        · have hha := HH.out hm0 hg
          have HHA := Lib.hid hha
          subst hg
          have i3 : decide (0 < m) = false := df (by omega)
          have HM0 := Lib.hid hm0
          clear hha hm0
          go_wp2_with fail
          refine (HA.out _ (HR.out.below hbel)).mono ?_
          rintro e w1 ⟨rfl, hb1⟩
          go_wp2_with fail
          refine (HB2.out _ (HR2.out.below hb1)).mono ?_
          rintro e w2 ⟨rfl, hb2⟩
          go_wp2_with fail
          refine (wakes_any _).mono ?_
          rintro e w3 ⟨rfl, hb3⟩
          go_wp2_with fail
          refine (has_any _ _ (by omega) (by omega) _).mono ?_
          rw [toList_str, HHA.out]
          rintro e w4 ⟨rfl, hb4⟩
          have hbz := chain (chain (chain (chain hbel hb1) hb2) hb3) hb4
          go_wp2_with fail
          go_ret
          exact ⟨rfl, hbz⟩
        · subst hg
          have i3 : decide (0 < m) = true := dt (by omega)
          go_wp2_with fail
          refine (HA.out _ (HR.out.below hbel)).mono ?_
          rintro e w1 ⟨rfl, hb1⟩
          go_wp2_with fail
          refine (HB2.out _ (HR2.out.below hb1)).mono ?_
          rintro e w2 ⟨rfl, hb2⟩
          go_wp2_with fail
          refine (wakes_any _).mono ?_
          rintro e w3 ⟨rfl, hb3⟩
          have hbz := chain (chain (chain hbel hb1) hb2) hb3
          go_wp2_with fail
          go_ret
          exact ⟨rfl, hbz⟩
      · have i3 : (g != 0) = true := nt hg
        go_wp2_with fail
        refine (HA.out _ (HR.out.below hbel)).mono ?_
        rintro e w1 ⟨rfl, hb1⟩
        go_wp2_with fail
        refine (HB2.out _ (HR2.out.below hb1)).mono ?_
        rintro e w2 ⟨rfl, hb2⟩
        go_wp2_with fail
        refine (wakes_any _).mono ?_
        rintro e w3 ⟨rfl, hb3⟩
        have hbz := chain (chain (chain hbel hb1) hb2) hb3
        go_wp2_with fail
        go_ret
        exact ⟨rfl, hbz⟩

theorem own : ownKnob Try.prog.godebug = none := by kernel_rfl
theorem laidOut : laidOutB Try.prog = true := by kernel_rfl

set_option maxRecDepth 100000 in
theorem lifted (os : Os) (started : os.Started) (H : Type) (enc : TypeId × Value → H) :
    ReturnsInHanded {} Try.checked os 12 .any (Rows.bloomMoreSpec.pre6 enc Try.prog Try.f12 Rows.bloomMoreRow.domain false) (Rows.bloomMoreSpec.post enc Try.prog Try.f12 false true false false) := by
  refine returnsInHanded_of_change_sized (C := Try.checked) own started (by kernel_rfl) Try.func12
    (ChangeSpec.witness6 (enc := enc) (C := Try.checked) false ⟨#[], #[.int .i64 0, .slice none 0 0, .string ByteArray.empty], []⟩ 8 (by kernel_rfl) (by kernel_rfl) (by kernel_rfl) (by kernel_rfl)) ?_
  intro W base args ds gs before hval0 hW hcnd hsz0 _
  have hval : ∀ (j : Nat) t v, Try.f12.params[j]? = some t → args[j]? = some v → Value.okWide Try.prog W .any base t v := hval0
  have hsz : (DataW.weightsEach Try.prog (Try.f12.params.toList ++ Rows.bloomMoreSpec.plain.varTypes Try.prog) (ds ++ gs)).all (· ≤ reachBytes) = true := hsz0
  have hW' := hW
  obtain ⟨p, q, hA0, hV, rfl, hfz, hnd⟩ := hW
  have hA : DataW.TrodAll enc Try.prog W 0 (fun _ => true) true Try.f12.params.toList args.toList ds p := hA0
  rw [Try.params12] at hA hval hsz
  obtain ⟨v0, vs0, d0, ds0, p0, q0, hargs, rfl, rfl, h0, r0⟩ := trodAll_cons hA
  obtain ⟨v1, vs1, d1, ds1, p1, q1, rfl, rfl, rfl, h1, r1⟩ := trodAll_cons r0
  obtain ⟨v2, vs2, d2, ds2, p2, q2, rfl, rfl, rfl, h2, r2⟩ := trodAll_cons r1
  obtain ⟨rfl, rfl, rfl⟩ := trodAll_nil r2
  obtain rfl : args = #[v0, v1, v2] := by cases args; simp_all
  obtain ⟨rfl, rfl⟩ := trodVars_none hV
  have k0 := h0
  have lt0 : ∀ x ∈ p0, x.block < W.heap.size := by obtain ⟨m, hm⟩ := k0; exact DataW.trod_lt m _ _ _ hm
  have k1 := h1
  have lt1 : ∀ x ∈ p1, x.block < W.heap.size := by obtain ⟨m, hm⟩ := k1; exact DataW.trod_lt m _ _ _ hm
  have k2 := h2
  have lt2 : ∀ x ∈ p2, x.block < W.heap.size := by obtain ⟨m, hm⟩ := k2; exact DataW.trod_lt m _ _ _ hm
  obtain ⟨a0, rfl, rfl, rfl, w0⟩ := open_int Try.underlying3 (hval 0 3 v0 rfl rfl) h0
  have b0 : -9223372036854775808 ≤ a0 ∧ a0 ≤ 9223372036854775807 := by simpa [Lit.wf, IntKind.min, IntKind.max, IntKind.signed, IntKind.bits] using w0
  obtain ⟨a1, n1, cap1, z1, rfl, w1, row1, lc1, cm1, wt1⟩ := Op.strs2 Try.underlying35 Try.underlying9 (by kernel_rfl) (hval 1 35 v1 rfl rfl) h1
  have f1 : z1.length = n1 ∧ n1 ≤ cap1 ∧ cap1 ≤ 9223372036854775807 ∧ (∀ s ∈ z1, s.size ≤ 140737488351232) ∧ B.Row W a1 n1 (fun i => .string (z1.getD i ByteArray.empty)) := ⟨w1, lc1, by simpa [maxLen] using cm1, fun s hs => (wt1 reachBytes (fun m hm => of_decide_eq_true (List.all_eq_true.1 hsz _ (DataW.weights_mem_each (j := 1) rfl rfl m hm)))).1 s hs, row1⟩
  obtain ⟨a2, rfl, rfl, rfl, w2⟩ := open_string Try.underlying9 (hval 2 9 v2 rfl rfl) h2
  have b2 : a2.size ≤ 140737488351232 := by have := sized_string hsz (j := 2) rfl rfl; simpa [reachBytes] using this
  clear hA0 hval0
  refine (walk a0 a1 n1 cap1 z1 a2 W b0 f1 b2).mono fun e W' ⟨he, bel⟩ => ?_
  subst he
  exact ⟨_, rfl, _, _, _, [], _, [], hW', trodAll_mk1 (shut_bool Try.underlying4 _), (trodAll_cons_mk (Below.trod laidOut (by kernel_rfl) (of_decide_eq_true (by kernel_rfl)) k0 bel lt0) (trodAll_cons_mk (Below.trod laidOut (by kernel_rfl) (of_decide_eq_true (by kernel_rfl)) k1 bel lt1) (trodAll_cons_mk (Below.trod laidOut (by kernel_rfl) (of_decide_eq_true (by kernel_rfl)) k2 bel lt2) trodAll_mk0))), rfl, bel.frame _, fun h => by cases h⟩

theorem over : Rows.bloomMoreRow.holds Try.pinned (OpenSpec.ofChange Rows.bloomMoreSpec) :=
  OpenClaim.holds_of_wide 12 Try.f12 rfl rfl rfl rfl rfl rfl rfl ⟨rfl, rfl, rfl, rfl, rfl⟩ rfl rfl rfl rfl rfl (by kernel_rfl) Try.func12 (by kernel_rfl)
    (of_decide_eq_true (by kernel_rfl)) (by unfold Func.isWrapper; first | (rw [if_pos (by decide +kernel)]; kernel_rfl) | (rw [if_neg (by decide +kernel)]; exact ⟨rfl, rfl⟩))
    (fun os started H enc _ => lifted os started H enc)

/-- THE STATEMENT -/
theorem proved : Rows.BloomMoreSaid := over
end Go.Proofs.Ytfeaacjacbljfaa.bloomMore
