/- VarintShortest: what is read as a number at place 0 is written as just the bytes that were read. No condition on the input. -/
import Derived.Test.YthhkdnmfpoeklaaVarint
import Derived.Deep.RegionHeld3
import Derived.Deep.QuietTactic
import Derived.BigQuiet
import Derived.ProofKit
import Derived.OpenShut
import Derived.ShutString
import Derived.ChangeOld
import Derived.Below
import Derived.SizedLaws
namespace Go.Proofs.Ythhkdnmfpoeklaa.varintShortest
open Go.ChangeShapes Go.WideShapes Go.ChangeAt Go.RowKit
open Go.ChangeMaps (open_string shut_string)
set_option linter.unusedVariables false
open Vp B Vw

theorem enc_read (s : ByteArray) (k : Nat) (hR : Reads (fun i => bn s (0 + i)) (s.size - 0) 0 k) : enc (unzz (val (fun i => bn s (0 + i)) k)) = s.extract 0 k := by
  have hlo := hR.lo
  have hroom := hR.room
  obtain ⟨j, rfl⟩ : ∃ j, k = j + 1 := ⟨k - 1, by omega⟩
  have h := vb_val j (fun i => bn s (0 + i)) (fun i => bn_lt s _) (by simpa using hR.last) (fun h => by simpa using hR.nz (by omega)) (fun i hi => hR.big i (by omega) (by omega))
  rw [enc, zz_unzz, h]
  simp only [Nat.zero_add]
  exact range_bn s (j + 1) (by omega)

set_option maxHeartbeats 400000 in
theorem walk (s : ByteArray) (hs : s.size ≤ 140737488351232) (w : World) :
    Calls Try.prog 4 #[.string s] w fun e w' => e = .returned (.bool true) ∧ Below w.heap.size w w' := by
  have h1 : enc 0 = ⟨#[0]⟩ := by decide +kernel
  have hc := getS_cases s 0
  have hk := @getS_ok s 0
  have HC := get_any s 0 (by omega) w
  generalize getS s 0 = g at hc hk HC
  obtain ⟨gn, gx, ge⟩ := g
  simp only at hc hk
  have H := Lib.hid HC
  clear HC
  by_cases he : ge = 0
  · subst he
    obtain ⟨b, k, hb, hR, hbk, hg⟩ := hk rfl
    obtain rfl : b = 0 := by omega
    have hu := unzz_bd (val_bound hR)
    have hE := enc_read s k hR
    have hlo := hR.lo
    simp only [G.mk.injEq] at hg
    obtain ⟨hn, rfl, -⟩ := hg
    rw [← hn] at hu hE
    clear hn hR hk hc hb
    simp only [Nat.zero_add] at H hbk
    obtain ⟨hu1, hu2⟩ := hu
    go_enter Try.func4, Try.ntmps4
    go_wp2_with fail
    refine H.out.mono ?_
    rintro e w1 ⟨rfl, rfl⟩
    simp only [ret3]
    go_wp2_with fail
    refine (put_any _ (by omega) (by omega) _).mono ?_
    rintro e w1 ⟨rfl, hb1⟩
    go_wp2_with fail
    go_region_held3 (fun w' => Below w.heap.size w w') (first | assumption | exact Below.drew (by assumption) | exact chain (by assumption) hb2) (first | (go_at_call 9; refine (put_any _ hu1 hu2 _).mono ?_; rintro e w2 ⟨rfl, hb2⟩))
    go_wp2_with fail
    go_ret
    exact ⟨rfl, by assumption⟩
  · have hg : gn = 0 ∧ gx = 0 := by
      simp only [G.mk.injEq] at hc
      omega
    obtain ⟨rfl, rfl⟩ := hg
    have hb : (ge != 0) = true := nt he
    clear hc hk he
    go_enter Try.func4, Try.ntmps4
    go_wp2_with fail
    refine H.out.mono ?_
    rintro e w1 ⟨rfl, rfl⟩
    simp only [ret3]
    go_wp2_with fail
    refine (put_any _ (by omega) (by omega) _).mono ?_
    rintro e w1 ⟨rfl, hb1⟩
    go_wp2_with fail
    go_quiet (fail)
    go_wp2_with fail
    go_ret
    exact ⟨rfl, drewN hb1⟩

theorem own : ownKnob Try.prog.godebug = none := by kernel_rfl
theorem laidOut : laidOutB Try.prog = true := by kernel_rfl

set_option maxRecDepth 100000 in
theorem lifted (os : Os) (started : os.Started) (H : Type) (enc : TypeId × Value → H) :
    ReturnsInHanded {} Try.checked os 4 .any (Rows.varintShortestSpec.pre6 enc Try.prog Try.f4 Rows.varintShortestRow.domain false) (Rows.varintShortestSpec.post enc Try.prog Try.f4 false true false false) := by
  refine returnsInHanded_of_change_sized (C := Try.checked) own started (by kernel_rfl) Try.func4
    (ChangeSpec.witness6 (enc := enc) (C := Try.checked) false ⟨#[], #[.string ByteArray.empty], []⟩ 8 (by kernel_rfl) (by kernel_rfl) (by kernel_rfl) (by kernel_rfl)) ?_
  intro W base args ds gs before hval0 hW hcnd hsz0 _
  have hval : ∀ (j : Nat) t v, Try.f4.params[j]? = some t → args[j]? = some v → Value.okWide Try.prog W .any base t v := hval0
  have hsz : (DataW.weightsEach Try.prog (Try.f4.params.toList ++ Rows.varintShortestSpec.plain.varTypes Try.prog) (ds ++ gs)).all (· ≤ reachBytes) = true := hsz0
  have hW' := hW
  obtain ⟨p, q, hA0, hV, rfl, hfz, hnd⟩ := hW
  have hA : DataW.TrodAll enc Try.prog W 0 (fun _ => true) true Try.f4.params.toList args.toList ds p := hA0
  rw [Try.params4] at hA hval hsz
  obtain ⟨v0, vs0, d0, ds0, p0, q0, hargs, rfl, rfl, h0, r0⟩ := trodAll_cons hA
  obtain ⟨rfl, rfl, rfl⟩ := trodAll_nil r0
  obtain rfl : args = #[v0] := by cases args; simp_all
  obtain ⟨rfl, rfl⟩ := trodVars_none hV
  have k0 := h0
  have lt0 : ∀ x ∈ p0, x.block < W.heap.size := by obtain ⟨m, hm⟩ := k0; exact DataW.trod_lt m _ _ _ hm
  obtain ⟨a0, rfl, rfl, rfl, w0⟩ := open_string Try.underlying9 (hval 0 9 v0 rfl rfl) h0
  have b0 : a0.size ≤ 140737488351232 := by have := sized_string hsz (j := 0) rfl rfl; simpa [reachBytes] using this
  clear hA0 hval0
  refine (walk a0 b0 W).mono fun e W' ⟨he, bel⟩ => ?_
  subst he
  exact ⟨_, rfl, _, _, _, [], _, [], hW', trodAll_mk1 (shut_bool Try.underlying4 _), (trodAll_cons_mk (Below.trod laidOut (by kernel_rfl) (of_decide_eq_true (by kernel_rfl)) k0 bel lt0) trodAll_mk0), rfl, bel.frame _, fun h => by cases h⟩

theorem over : Rows.varintShortestRow.holds Try.pinned (OpenSpec.ofChange Rows.varintShortestSpec) :=
  OpenClaim.holds_of_wide 4 Try.f4 rfl rfl rfl rfl rfl rfl rfl ⟨rfl, rfl, rfl, rfl, rfl⟩ rfl rfl rfl rfl rfl (by kernel_rfl) Try.func4 (by kernel_rfl)
    (of_decide_eq_true (by kernel_rfl)) (by unfold Func.isWrapper; first | (rw [if_pos (by decide +kernel)]; kernel_rfl) | (rw [if_neg (by decide +kernel)]; exact ⟨rfl, rfl⟩))
    (fun os started H enc _ => lifted os started H enc)

/-- THE STATEMENT -/
theorem proved : Rows.VarintShortestSaid := over
end Go.Proofs.Ythhkdnmfpoeklaa.varintShortest
