/- VarintLists: the numbers of every list are read back; every bytes are read as numbers that are written as these bytes, or as the first error of one. Where what the arguments hold is of bulk at most 1048576. -/
import Derived.Test.YthhkdnmfpoeklaaVarAll
import Derived.Deep.QuietTactic
import Derived.BigQuiet
import Derived.ProofKit
import Derived.OpenShut
import Derived.ShutString
import Derived.ChangeOld
import Derived.Below
import Derived.SizedLaws
import Derived.JoinedCond
import Derived.Deep.CondSized
import Derived.Test.YthhkdnmfpoeklaaOpen
namespace Go.Proofs.Ythhkdnmfpoeklaa.varintLists
open Go.ChangeShapes Go.WideShapes Go.ChangeAt Go.RowKit
open Go.ChangeMaps (open_string shut_string)
set_option linter.unusedVariables false
open Vp B Vw

/-- a number's bytes in the middle -/
theorem getS_mid (x y : List UInt8) (n : Int) (hn : -9223372036854775808 ≤ n ∧ n ≤ 9223372036854775807) :
    getS (str (x ++ (vb (zz n) ++ y))) x.length = ⟨n, ((x.length + (vb (zz n)).length : Nat) : Int), 0⟩ := by
  have hlt := zz_lt hn.1 hn.2
  unfold getS
  rw [if_neg (by rw [str_size]; simp only [List.length_append]; omega)]
  have h : getR (str (x ++ (vb (zz n) ++ y))) ((x.length : Int)).toNat = .ok (zz n) (vb (zz n)).length := by
    unfold getR
    refine scan_vb hlt _ _ (by rw [str_size]; simp) (fun j hj => ?_)
    simp only [bn, vf, toList_str, List.getD_eq_getElem?_getD, Int.toNat_natCast]
    rw [List.getElem?_append_right (by omega), Nat.add_sub_cancel_left, List.getElem?_append_left hj]
  rw [h]
  simp [unzz_zz]

theorem gAll_encs : ∀ (l pre : List Int) (f : Nat), (∀ n ∈ l, -9223372036854775808 ≤ n ∧ n ≤ 9223372036854775807) → l.length < f →
    gAll (str (encs (pre ++ l))) f (encs pre).length pre = (pre ++ l, 0)
  | [], pre, f, _, hf => by
    obtain ⟨f, rfl⟩ : ∃ g, f = g + 1 := ⟨f - 1, by simp at hf; omega⟩
    rw [gAll, if_pos (by rw [str_size]; simp)]
    simp
  | n :: t, pre, f, h, hf => by
    obtain ⟨f, rfl⟩ : ∃ g, f = g + 1 := ⟨f - 1, by omega⟩
    have hn := h n (by simp)
    have hp := vb_pos (zz n)
    have e : encs (pre ++ n :: t) = encs pre ++ (vb (zz n) ++ encs t) := by rw [encs_append]; simp [encs]
    have hg := getS_mid (encs pre) (encs t) n hn
    have hsz : (str (encs (pre ++ n :: t))).size = (encs pre).length + ((vb (zz n)).length + (encs t).length) := by rw [e, str_size]; simp
    have e1 : (encs (pre ++ [n])).length = (encs pre).length + (vb (zz n)).length := by rw [encs_append]; simp [encs]
    have ih := gAll_encs t (pre ++ [n]) f (fun m hm => h m (by simp [hm])) (by simp only [List.length_cons] at hf; omega)
    rw [show pre ++ [n] ++ t = pre ++ n :: t from by simp, e1] at ih
    rw [gAll, if_neg (by omega)]
    rw [← e] at hg
    rw [hg]
    simp only [ne_eq, not_true_eq_false, if_false, Int.toNat_natCast]
    exact ih

theorem gAll_all (l : List Int) (h : ∀ n ∈ l, -9223372036854775808 ≤ n ∧ n ≤ 9223372036854775807) : gAll (str (encs l)) ((str (encs l)).size + 1) 0 [] = (l, 0) := by
  have h1 : l.length ≤ (str (encs l)).size := by
    rw [str_size]
    clear h
    induction l with
    | nil => simp
    | cons n t ih => have := vb_pos (zz n); simp only [encs, List.flatMap_cons, List.length_append, List.length_cons] at ih ⊢; omega
  have := gAll_encs l [] ((str (encs l)).size + 1) h (by omega)
  simpa [encs] using this

set_option maxHeartbeats 2000000 in
set_option maxRecDepth 100000 in
theorem walk (a : Option Addr) (n cap : Nat) (zs : List Int) (s : ByteArray) (w : World)
    (hz : zs.length = n ∧ n ≤ 1048575 ∧ (∀ x ∈ zs, -9223372036854775808 ≤ x ∧ x ≤ 9223372036854775807) ∧ Row w a n (fun i => .int .i64 (zs.getD i 0))) (hs : s.size ≤ 1048575) :
    Calls Try.prog 8 #[.slice a n cap, .string s] w fun e w' => e = .returned (.bool true) ∧ Below w.heap.size w w' := by
  obtain ⟨hz, hn, hwf, hrow⟩ := hz
  have HA := Lib.hid (gAll_all zs hwf)
  have hel := encs_len zs hwf
  obtain ⟨E, hE⟩ : ∃ E, E = str (encs zs) := ⟨_, rfl⟩
  have hEs : E.size ≤ 16777216 := by rw [hE, str_size]; omega
  have HP := Lib.hid (putAll_any a n cap zs hz (by omega) hwf w hrow)
  rw [← hE] at HA HP
  have HE := Lib.hid hE
  have HR := Lib.hid hrow
  have HW := Lib.hid hwf
  have hel10 : ∀ k, (encs (zs.take k)).length ≤ 10 * n := fun k => by
    have h1 := encs_len (zs.take k) (fun x hx => hwf x (List.mem_of_mem_take hx))
    have h2 : (zs.take k).length ≤ zs.length := by rw [List.length_take]; omega
    omega
  have HL10 := Lib.hid hel10
  have HZ := Lib.hid hz
  clear hE hrow hwf hel hel10
  obtain ⟨r, hr⟩ : ∃ r, r = gAll s (s.size + 1) 0 [] := ⟨_, rfl⟩
  have HGA := Lib.hid (getAll_any s (by omega))
  have HRR := Lib.hid hr
  go_enter Try.func8, Try.ntmps8
  clear hr
  go_wp2_with fail
  refine HP.out.mono ?_
  rintro e w1 ⟨rfl, hb1⟩
  go_wp2_with fail
  refine (getAll_any E hEs _).mono ?_
  rw [HA.out]
  rintro e w2 ⟨ba, bc, rfl, hbr, hb2⟩
  have hb3 := hb1.trans (hb2.mono hb1.size)
  simp only [HZ.out] at hbr
  have HBR := Lib.hid hbr
  clear hbr hb1 hb2
  go_wp2_with fail
  go_loopw [8, 29] (fun x i wr => ∃ k : Nat, i = .int .i64 k ∧ k ≤ n ∧ x = .string (str (encs (zs.take k))) ∧ Below w2.heap.size w2 wr) (fun _ i _ => n - (intOf i).toNat)
  case atStart => exact ⟨0, rfl, by omega, rfl, Below.refl _ _⟩
  case round =>
    obtain ⟨k, rfl, hk, rfl, hbel⟩ := hrel
    by_cases hlt : k < n
    · have hrow := (HR.out.below hb3).below hbel
      obtain ⟨b, off, rfl, hbw, hc⟩ := hrow.at (by omega)
      have hck := hc k hlt
      have hkl : k < zs.length := by have := HZ.out; omega
      have hzk := HW.out (zs.getD k 0) (by rw [List.getD_eq_getElem?_getD, List.getElem?_eq_getElem hkl]; simp)
      have het := encs_take zs k hkl
      have hl1 := HL10.out k
      have hl2 := vb_len10 (zz_lt hzk.1 hzk.2)
      obtain ⟨z, hzd⟩ : ∃ z, z = zs.getD k 0 := ⟨_, rfl⟩
      rw [← hzd] at hck hzk het hl2
      have HET := Lib.hid het
      obtain ⟨hz1, hz2⟩ := hzk
      have hsa : (str (encs (zs.take k))).size ≤ 10485750 := by rw [str_size]; omega
      have hsb : (enc z).size ≤ 10 := by rw [enc, str_size]; exact hl2
      clear hc het hzd hrow
      go_wp2_with fail
      refine (rput_any z hz1 hz2 _).mono ?_
      rintro e w3 ⟨rfl, hb4⟩
      have hb5 := hbel.trans (hb4.mono hbel.size)
      go_wp2_with fail
      go_roundw
      case rel => exact ⟨k + 1, by go_num, by omega, by rw [HET.out, ← str_append]; rfl, hb5⟩
      case measure => simp [intOf]; omega
    · have hfull : str (encs (zs.take k)) = E := by rw [HE.out, List.take_of_length_le (by have := HZ.out; omega)]
      rw [hfull]
      have hrowA := (HR.out.below hb3).below hbel
      have hrowB := HBR.out.below hbel
      have HRA := Lib.hid hrowA
      have HRB := Lib.hid hrowB
      have hb6 := hb3.trans (hbel.mono hb3.size)
      clear hfull hrowA hrowB hbel
      go_wp2_with fail
      clear hlt hk
      obtain ⟨wo, rfl⟩ : ∃ wo : World, wo = wr := ⟨_, rfl⟩
      go_loopw [54] (fun i wr => ∃ k : Nat, i = .int .i64 k ∧ k ≤ n ∧ Below wo.heap.size wo wr) (fun i _ => n - (intOf i).toNat)
      case atStart => exact ⟨0, rfl, by omega, Below.refl _ _⟩
      case round =>
        obtain ⟨j, rfl, hj, hbel⟩ := hrel
        by_cases hlt : j < n
        · obtain ⟨b, off, rfl, hbw, hc⟩ := (HRA.out.below hbel).at (by omega)
          obtain ⟨b', off', rfl, hbw', hc'⟩ := (HRB.out.below hbel).at (by omega)
          have hck := hc j hlt
          have hck' := hc' j hlt
          have hjn : (j : Int) < (n : Int) := by omega
          obtain ⟨z, hzd⟩ : ∃ z, z = zs.getD j 0 := ⟨_, rfl⟩
          rw [← hzd] at hck hck'
          have hzz : (z != z) = false := by simp
          clear hc hc' hzd
          go_wp2_with fail
          go_quiet (fail)
          have hb4 := drewN (n := nq) hbel
          go_wp2_with fail
          go_roundw
          case rel => exact ⟨j + 1, by go_num, by omega, hb4⟩
          case measure => simp [intOf]; omega
        · have hb7 := chain hb6 hbel
          clear hbel hb6
          go_wp2_with fail
          refine (HGA.out _).mono ?_
          rw [← HRR.out]
          rintro e w4 ⟨ga, gc, rfl, hgr, hb8⟩
          have hb9 := chain hb7 hb8
          have HGR := Lib.hid hgr
          obtain ⟨rl, re⟩ := r
          clear hgr hb7 hb8 hlt hj
          go_wp2_with fail
          go_loopw [14, 15] (fun v x wr => ∃ (k f : Nat) (acc : List Int), x = .int .i64 k ∧ k ≤ s.size ∧ acc.length ≤ k ∧ s.size < k + f ∧ Hid ((rl, re) = gAll s f k acc) ∧
            wr.ownsRow w4.heap.size 2 1 v acc.length (acc.map (Value.int .i64)) ∧ Below w4.heap.size w4 wr) (fun _ x _ => s.size - (intOf x).toNat)
          case atStart => exact ⟨0, s.size + 1, [], rfl, by omega, by simp, by omega, HRR.out, World.ownsRow_nil _ _ _ _, Below.refl _ _⟩
          case round =>
            obtain ⟨k, f, acc, rfl, hk, hacc, hf, hg, hown, hbel⟩ := hrel
            obtain ⟨f, rfl⟩ : ∃ f', f = f' + 1 := ⟨f - 1, by omega⟩
            by_cases hlt : k < s.size
            · have hG := hg.out
              rw [gAll, if_neg (by omega)] at hG
              have hstep := @getS_step s k
              have HC := rget_any s k (by omega) wr
              generalize getS s k = g at hG hstep HC
              obtain ⟨gn, gx, ge⟩ := g
              simp only at hG hstep
              have HC2 := Lib.hid HC
              clear HC hg
              by_cases he : ge = 0
              · subst he
                obtain ⟨nx, rfl, h1, h2, hn1, hn2⟩ := hstep rfl
                simp only [ne_eq, not_true_eq_false, if_false, Int.toNat_natCast] at hG
                have HG := Lib.hid hG
                clear hstep hG
                go_wp2_with fail
                refine HC2.out.mono ?_
                rintro e w5 ⟨rfl, rfl⟩
                simp only [ret3]
                go_wp2_with (at_builtin; refine wpList_push rfl _ _ 37 rfl Try.underlying37 infoI64 rfl (by decide) rfl #[.int .i64 gn] rfl ?c1 rfl hown ?c2 ?c3 ?c4 ?_)
                case c1 => rfl
                case c2 => exact hbel.size
                case c3 => unfold maxLen; omega
                case c4 => omega
                intro a' cap' w6 hown2 hgw hb10
                have hb11 := hbel.trans hb10
                clear hown hgw hb10
                go_wp2_with fail
                go_roundw
                case rel => exact ⟨nx, f, acc ++ [gn], rfl, by omega, by simp; omega, by omega, HG.out, by simpa using hown2, hb11⟩
                case measure => simp [intOf]; omega
              · have hb : (ge != 0) = true := nt he
                rw [if_pos he] at hG
                simp only [Prod.mk.injEq] at hG
                obtain ⟨rfl, rfl⟩ := hG
                clear hstep he
                go_wp2_with fail
                refine HC2.out.mono ?_
                rintro e w5 ⟨rfl, rfl⟩
                simp only [ret3]
                go_wp2_with fail
                go_ret
                exact ⟨rfl, chain hb9 hbel⟩
            · have hG := hg.out
              rw [gAll, if_pos (by omega)] at hG
              simp only [Prod.mk.injEq] at hG
              obtain ⟨rfl, rfl⟩ := hG
              obtain ⟨na, nc, rfl, _⟩ := own_form hown
              have hnr := row_ints (own_row hown).2
              clear hg
              have hgr2 := HGR.out.below hbel
              have HG2 := Lib.hid hgr2
              have HN2 := Lib.hid hnr
              have hlen : rl.length ≤ 1048575 := by omega
              have hb12 := chain hb9 hbel
              clear hgr2 hnr hown hbel
              go_wp2_with fail
              clear hlt hk hacc hf
              obtain ⟨wo2, rfl⟩ : ∃ wo2 : World, wo2 = wr := ⟨_, rfl⟩
              go_loopw [109] (fun i wr => ∃ j : Nat, i = .int .i64 j ∧ j ≤ rl.length ∧ Below wo2.heap.size wo2 wr) (fun i _ => rl.length - (intOf i).toNat)
              case atStart => exact ⟨0, rfl, by omega, Below.refl _ _⟩
              case round =>
                obtain ⟨j, rfl, hj, hbel⟩ := hrel
                by_cases hlt : j < rl.length
                · obtain ⟨b, off, rfl, hbw, hc⟩ := (HG2.out.below hbel).at (by omega)
                  obtain ⟨b', off', rfl, hbw', hc'⟩ := (HN2.out.below hbel).at (by omega)
                  have hck := hc j hlt
                  have hck' := hc' j hlt
                  have hjn : (j : Int) < (rl.length : Int) := by omega
                  obtain ⟨z, hzd⟩ : ∃ z, z = rl.getD j 0 := ⟨_, rfl⟩
                  rw [← hzd] at hck hck'
                  have hzz : (z != z) = false := by simp
                  clear hc hc' hzd
                  go_wp2_with fail
                  go_quiet (fail)
                  have hb13 := drewN (n := nq) hbel
                  go_wp2_with fail
                  go_roundw
                  case rel => exact ⟨j + 1, by go_num, by omega, hb13⟩
                  case measure => simp [intOf]; omega
                · go_wp2_with fail
                  go_ret
                  exact ⟨rfl, chain hb12 hbel⟩

theorem own : ownKnob Try.prog.godebug = none := by kernel_rfl
theorem laidOut : laidOutB Try.prog = true := by kernel_rfl

set_option maxRecDepth 100000 in
theorem lifted (os : Os) (started : os.Started) (H : Type) (enc : TypeId × Value → H) (FI : Stop.Interp) :
    ReturnsInHanded {} Try.checked os 8 .any ((Rows.OpenSpec.upto Rows.varintListsSpec).pre6 enc Try.prog Try.f8 Rows.varintListsUptoRow.domain false) (((Rows.OpenSpec.upto Rows.varintListsSpec).at FI).post enc Try.prog Try.f8 false true false false) := by
  refine returnsInHanded_of_cond_sized (C := Try.checked) (s := Rows.OpenSpec.upto Rows.varintListsSpec) (k := Rows.uptoSmall) rfl own started (by kernel_rfl) Try.func8
    (OpenSpec.witness (enc := enc) (C := Try.checked) (s := Rows.OpenSpec.upto Rows.varintListsSpec) (k := Rows.uptoSmall) rfl false ⟨#[], #[.slice none 0 0, .string ByteArray.empty], []⟩ 8 (by kernel_rfl) (by kernel_rfl) (by kernel_rfl)
      (x := ([.nil, .lit (.string [])], [], [])) (by kernel_rfl) rfl (by kernel_rfl)) ?_
  intro W base args ds gs before hval0 hW hcnd hk hsz0 _
  have hval : ∀ (j : Nat) t v, Try.f8.params[j]? = some t → args[j]? = some v → Value.okWide Try.prog W .any base t v := hval0
  have hsz : (DataW.weightsEach Try.prog (Try.f8.params.toList ++ (Rows.OpenSpec.upto Rows.varintListsSpec).bare.plain.varTypes Try.prog) (ds ++ gs)).all (· ≤ reachBytes) = true := hsz0
  have hW' := hW
  obtain ⟨p, q, hA0, hV, rfl, hfz, hnd⟩ := hW
  have hA : DataW.TrodAll enc Try.prog W 0 (fun _ => true) true Try.f8.params.toList args.toList ds p := hA0
  rw [Try.params8] at hA hval hsz
  obtain ⟨v0, vs0, d0, ds0, p0, q0, hargs, rfl, rfl, h0, r0⟩ := trodAll_cons hA
  obtain ⟨v1, vs1, d1, ds1, p1, q1, rfl, rfl, rfl, h1, r1⟩ := trodAll_cons r0
  obtain ⟨rfl, rfl, rfl⟩ := trodAll_nil r1
  obtain rfl : args = #[v0, v1] := by cases args; simp_all
  obtain ⟨rfl, rfl⟩ := trodVars_none hV
  have k0 := h0
  have lt0 : ∀ x ∈ p0, x.block < W.heap.size := by obtain ⟨m, hm⟩ := k0; exact DataW.trod_lt m _ _ _ hm
  have k1 := h1
  have lt1 : ∀ x ∈ p1, x.block < W.heap.size := by obtain ⟨m, hm⟩ := k1; exact DataW.trod_lt m _ _ _ hm
  have u0 : Rows.uptoBulk d0 ≤ 1048576 := Nat.le_trans (Op.part_le (by simp)) (of_decide_eq_true hk)
  obtain ⟨a0, n0, cap0, z0, rfl, w0, wf0, row0, lc0, bk0⟩ := Op.ints1 Try.underlying37 Try.underlying2 (by kernel_rfl) (hval 0 37 v0 rfl rfl) h0
  have f0 : z0.length = n0 ∧ n0 ≤ 1048575 ∧ (∀ x ∈ z0, -9223372036854775808 ≤ x ∧ x ≤ 9223372036854775807) ∧ B.Row W a0 n0 (fun i => .int .i64 (z0.getD i 0)) := ⟨w0, by omega, fun x hx => by simpa [Lit.wf, IntKind.min, IntKind.max, IntKind.signed, IntKind.bits] using wf0 x hx, row0⟩
  have u1 : Rows.uptoBulk d1 ≤ 1048576 := Nat.le_trans (Op.part_le (by simp)) (of_decide_eq_true hk)
  obtain ⟨a1, rfl, w1⟩ := Op.str1 Try.underlying9 (hval 1 9 v1 rfl rfl) h1
  have f1 : a1.size ≤ 1048575 := by omega
  clear hA0 hval0
  refine (walk a0 n0 cap0 z0 a1 W f0 f1).mono fun e W' ⟨he, bel⟩ => ?_
  subst he
  exact ⟨_, rfl, _, _, _, [], _, [], hW', trodAll_mk1 (shut_bool Try.underlying4 _), (trodAll_cons_mk (Below.trod laidOut (by kernel_rfl) (of_decide_eq_true (by kernel_rfl)) k0 bel lt0) (trodAll_cons_mk (Below.trod laidOut (by kernel_rfl) (of_decide_eq_true (by kernel_rfl)) k1 bel lt1) trodAll_mk0)), rfl, bel.frame _, fun h => by cases h⟩

theorem over : Rows.varintListsUptoRow.holds Try.pinned (Rows.OpenSpec.upto Rows.varintListsSpec) :=
  OpenClaim.holds_of_cond 8 Try.f8 rfl rfl rfl rfl rfl rfl rfl ⟨rfl, rfl, rfl, rfl, rfl⟩ rfl rfl rfl rfl rfl (by kernel_rfl) Try.func8 (by kernel_rfl)
    (of_decide_eq_true (by kernel_rfl)) (by unfold Func.isWrapper; first | (rw [if_pos (by decide +kernel)]; kernel_rfl) | (rw [if_neg (by decide +kernel)]; exact ⟨rfl, rfl⟩))
    (fun os started H enc _ F => lifted os started H enc F)

/-- THE STATEMENT -/
theorem proved : Rows.VarintListsUptoSaid := over
end Go.Proofs.Ythhkdnmfpoeklaa.varintLists
