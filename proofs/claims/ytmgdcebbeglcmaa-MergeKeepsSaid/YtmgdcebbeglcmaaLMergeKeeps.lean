/- MergeKeeps: what is visible for a snap, or for who reads all, is the same of what is left as of all. No condition on the input. -/
import Derived.Test.YtmgdcebbeglcmaaMrgL
import Derived.ArgAppend
import Derived.BigQuiet
import Derived.Deep.QuietTactic
import Derived.ProofKit
import Derived.OpenShut
import Derived.ShutString
import Derived.ChangeOld
import Derived.Below
import Derived.SizedLaws
import Derived.Test.YtmgdcebbeglcmaaOpen
import Derived.Test.YtmgdcebbeglcmaaOpenE
namespace Go.Proofs.Ytmgdcebbeglcmaa.mergeKeeps
open Go.ChangeShapes Go.WideShapes Go.ChangeAt Go.RowKit
open Go.ChangeMaps (open_string shut_string)
set_option linter.unusedVariables false
open En Ew B

/-- the argument 'x': two numbers -/
def TwoN (v : Value) : Prop := ∃ x y : Int, v = .agg #[.int .i64 x, .int .i64 y] ∧ (-9223372036854775808 ≤ x ∧ x ≤ 9223372036854775807) ∧ (-9223372036854775808 ≤ y ∧ y ≤ 9223372036854775807)

theorem open_2 {H : Type} {enc : TypeId × Value → H} {w : World} {base b0 : Nat} {sp : Nat → Bool} {held : Bool} {v : Value} {d : DataW H} {p : List MemPlace}
    (hv : Value.okWide Try.prog w .any b0 47 v) (h : DataW.Trod enc Try.prog w base sp held 47 v d p) (hs : ∀ n ∈ d.weights Try.prog 47, n ≤ 140737488351232) : TwoN v := by
  have hc : Try.prog.cellsOf 47 = 2 := by kernel_rfl
  have hc1 : Try.prog.cellsOf 2 = 1 := by kernel_rfl
  have hu := Try.underlying47
  simp only [Value.okWide, hu] at hv
  obtain ⟨cs, rfl, hsz, _⟩ := hv
  rw [hc] at hsz
  obtain ⟨c0, c1, rfl⟩ : ∃ a b, cs = #[a, b] := by
    obtain ⟨l⟩ := cs
    match l, hsz with
    | [a, b], _ => exact ⟨a, b, rfl⟩
  obtain ⟨fuel, hf⟩ := h
  obtain ⟨xs, m, _, hx, _, hl, hg⟩ := DataW.trod_array hu hf
  have g0 := hg 0 (by omega)
  have g1 := hg 1 (by omega)
  rw [hc1] at g0 g1
  match xs, hl with
  | [x0, x1], _ =>
    obtain ⟨s0, e0, rfl, w0⟩ := DataW.trod_int Try.underlying2 g0
    obtain ⟨s1, e1, rfl, w1⟩ := DataW.trod_int Try.underlying2 g1
    simp [Value.cells] at e0 e1
    subst e0 e1
    exact ⟨s0, s1, rfl, by simpa [Lit.wf, IntKind.min, IntKind.max, IntKind.signed, IntKind.bits] using w0, by simpa [Lit.wf, IntKind.min, IntKind.max, IntKind.signed, IntKind.bits] using w1⟩
theorem infoI64 : (Try.prog.info? 2).map (fun i => (i.zero, i.size, i.bytes)) = some (some (.int .i64 0), 1, 8) := by kernel_rfl

theorem row_news {w : World} {a : Option Addr} {k : Nat} {ys : List Int} (h : Row w a k (fun i => .int .i64 (ys.getD i 0))) (hl : ys.length = k) : ∀ b, a = some b → ∀ j u, (ys.map (Value.int .i64))[j]? = some u → w.cell? (b.add j) = some u := by
  intro p hp j u hu
  rw [List.getElem?_map] at hu
  obtain ⟨x, hx, rfl⟩ := Option.map_eq_some_iff.1 hu
  have hj : j < ys.length := (List.getElem?_eq_some_iff.1 hx).1
  obtain ⟨b, off, rfl, hb, hc⟩ := h.at (by omega)
  cases hp
  have := hc j (by omega)
  rw [List.getD_eq_getElem?_getD, hx] at this
  have hadd : (⟨b, off, none⟩ : Addr).add j = ⟨b, off + j, none⟩ := by unfold Addr.add; split <;> simp_all
  rw [hadd]
  exact this

set_option maxHeartbeats 3200000 in
set_option maxRecDepth 100000 in
theorem walk (a1 : Option Addr) (n1 c1 : Nat) (z1 : List Ent) (sa : Option Addr) (sn sc : Nat) (z : List Int) (v : Value) (w : World)
    (f1 : z1.length = n1 ∧ n1 ≤ c1 ∧ n1 * 56 ≤ 140737488351232 ∧ (∀ e ∈ z1, Fits e) ∧ ERow w a1 n1 (fun i => z1.getD i ent0))
    (f2 : z.length = sn ∧ sn ≤ sc ∧ sc ≤ 9223372036854775807 ∧ sn * 8 ≤ 140737488351232 ∧ (∀ x ∈ z, -9223372036854775808 ≤ x ∧ x ≤ 9223372036854775807) ∧ Row w sa sn (fun i => .int .i64 (z.getD i 0)))
    (hv : TwoN v) :
    Calls Try.prog 6 #[.slice a1 n1 c1, .slice sa sn sc, v] w fun e w' => e = .returned (.bool true) ∧ Below w.heap.size w w' := by
  obtain ⟨x, y, rfl, hxb, hyb⟩ := hv
  obtain ⟨hl1, hc1, hn1, hfit, hrow⟩ := f1
  have HR := Lib.hid hrow
  have HA1 := Lib.hid (fun W h => ordered_any a1 n1 c1 z1 hl1 hc1 hn1 W h)
  have HL1 := ord_len z1
  have HS1 := Lib.hid (ord_sorted z1)
  have HFT : Hid (∀ e ∈ mpAll [] (z1.take 100), e.seq ≤ 9223372036854775807) := mpAll_fits (fun e => e.seq ≤ 9223372036854775807) _ (fun e he => by cases he) (fun e he => (hfit e (List.mem_of_mem_take he)).seq1)
  generalize mpAll [] (z1.take 100) = R1 at HA1 HL1 HS1 HFT
  obtain ⟨hzl, hsc, hsc2, hsb, _, hzr⟩ := f2
  have HZL := Lib.hid hzl
  have HZR := Lib.hid hzr
  have hb0 := below_alloc (Below.refl w.heap.size w) (.cells #[.int .i64 x, .int .i64 y] 47)
  have hk0 : (w.alloc (.cells #[.int .i64 x, .int .i64 y] 47)).heap[w.heap.size]? = some (.cells #[.int .i64 x, .int .i64 y] 47 (0, 0)) := heap_alloc_new _ _
  have HB0 := Lib.hid hb0
  have HK0 := Lib.hid hk0
  clear hfit hzl hzr hrow hb0 hk0
  go_enter Try.func6, Try.ntmps6
  go_wp2_with fail
  refine (HA1.out _ (HR.out.below HB0.out)).mono ?_
  rintro e w1 ⟨p1, d1, q1, g1, rfl, o1, s1, hb1⟩
  have P1 := Lib.hid (at_own o1)
  have HB1 := Lib.hid (chain HB0.out hb1)
  have HZR := Lib.hid (HZR.out.below HB1.out)
  have hk1 := (hb1.block w.heap.size (lt_of_block HK0.out)).trans HK0.out
  have b0 := cell_of_row w1 w.heap.size 0 _ _ _ hk1
  have b1 := cell_of_row w1 w.heap.size 1 _ _ _ hk1
  simp at b0 b1
  clear o1 s1 hb1 HA1 hk1
  go_upto_region 2 with fail
  go_cut [1, 23, 24, 25] (fun s1 s23 s24 s25 wx => ∃ k : Nat, s1 = .slice sa k sc ∧ k ≤ sn ∧ k ≤ 20 ∧ wx = w1)
  case first =>
    go_wp2_with fail
    · go_meet
      exact ⟨20, rfl, by omega, by omega, rfl⟩
    · go_meet
      exact ⟨sn, rfl, by omega, by omega, rfl⟩
  case rest =>
  obtain ⟨k, rfl, hk1, hk2, hwc⟩ := hcut
  subst hwc
  go_upto_region 3 with fail
  go_cut [9, 10] (fun s9 s10 wx => ∃ now later : Int, s9 = .int .i64 now ∧ s10 = .int .i64 later ∧ now ≤ later ∧ Below wc.heap.size wc wx)
  case first =>
    by_cases hxy : x < y
    · go_quiet (fail)
      go_wp2_with fail
      all_goals go_meet
      all_goals exact ⟨_, _, rfl, rfl, by omega, drewN (Below.refl _ _)⟩
    · go_quiet (fail)
      go_wp2_with fail
      all_goals go_meet
      all_goals exact ⟨_, _, rfl, rfl, by omega, drewN (Below.refl _ _)⟩
  case rest =>
  obtain ⟨now, later, rfl, rfl, hnl, hwd⟩ := hcut
  obtain ⟨w2, hw2⟩ : ∃ w2 : World, w2 = wc := ⟨_, rfl⟩
  subst hw2
  have P2 := Lib.hid (P1.out.below hwd)
  have HZ2 := Lib.hid (HZR.out.below hwd)
  have HB2 := Lib.hid (chain HB1.out hwd)
  have HZT := Lib.hid (row_take HZ2.out hk1)
  have HZK := Lib.hid (show (z.take k).length = k by rw [List.length_take, HZL.out]; omega)
  generalize z.take k = ys at HZT HZK
  clear HZR HZL P1 HB1 HZ2 hwd b0 b1
  have HC := Lib.hid (fun W (h : At W p1 d1 R1) hz bot => comp_any p1 R1.length d1 R1 rfl h.cap h.top (by omega) HS1.out W h.row sa k sc ys HZK.out (by omega) hz now bot)
  have HV := Lib.hid (fun p d W R (hs : Sorted R) (hl : R.length ≤ 100) (h : At W p d R) s t => vis_any p R.length d R rfl h.cap h.top (by omega) hs W h.row s t)
  have hvc := Lib.hid (fun bot s t hs ht => vis_comp R1 ys now bot s t hs ht)
  have hlen := Lib.hid (fun bot => comp_len R1 ys now bot)
  have hcs := Lib.hid (fun bot => comp_sorted (z := ys) (now := now) (bot := bot) HS1.out)
  have hvl := Lib.hid (fun s t => vis_len R1 s t)
  obtain ⟨n, hn⟩ : ∃ n, n = R1.length := ⟨_, rfl⟩
  have HN := Lib.hid hn
  rw [← hn] at HL1
  rw [← hn]
  clear hn
  go_wp2_with fail
  have hbx := below_alloc (Below.refl w2.heap.size w2) (.cells #[.bool false, .bool true] 4)
  have hbk : (w2.alloc (.cells #[.bool false, .bool true] 4)).heap[w2.heap.size]? = some (.cells #[.bool false, .bool true] 4 (0, 0)) := heap_alloc_new _ _
  have P3 := Lib.hid (P2.out.below hbx)
  have Z3 := Lib.hid (HZT.out.below hbx)
  have HB3 := Lib.hid (chain HB2.out hbx)
  generalize hW : World.alloc _ _ = W3
  rw [hW] at hbk P3 Z3 HB3
  generalize w2.heap.size = gk at hbk ⊢
  have HBK := Lib.hid hbk
  clear hW hbx P2 HZT HB2 hbk
  go_loopw [38] (fun si wr => ∃ i : Nat, si = .int .i64 i ∧ i ≤ 2 ∧ Hid (Below W3.heap.size W3 wr)) (fun si _ => 2 - (intOf si).toNat)
  case atStart => exact ⟨0, rfl, by omega, Below.refl _ _⟩
  case round =>
    obtain ⟨i, rfl, hi, hbel⟩ := hrel
    by_cases hlt : i < 2
    · have hcell : wr.cell? ⟨gk, i, none⟩ = some (.bool (decide (i = 1))) := by
        have hk := (hbel.out.block gk (lt_of_block HBK.out)).trans HBK.out
        have hc := fun j => cell_of_row wr gk j _ _ _ hk
        obtain rfl | rfl : i = 0 ∨ i = 1 := by omega
        · exact hc 0
        · exact hc 1
      have i1 : (0 : Int) ≤ (i : Int) := by omega
      have i2 : (i : Int) < 2 := by omega
      obtain ⟨bt, hbt⟩ : ∃ b, b = decide (i = 1) := ⟨_, rfl⟩
      rw [← hbt] at hcell
      clear hbt
      have P4 := Lib.hid (P3.out.below hbel.out)
      have Z4 := Lib.hid (Z3.out.below hbel.out)
      obtain ⟨wq, hwq⟩ : ∃ wq : World, wq = wr := ⟨_, rfl⟩
      subst hwq
      go_wp2_with fail
      rw [HN.out]
      refine (HC.out wq P4.out Z4.out bt).mono ?_
      rintro e w5 ⟨p5, d5, rfl, o5, hb5⟩
      have hl5 := hlen.out bt
      have hs5 := Lib.hid (hcs.out bt)
      have P5 := Lib.hid (at_own o5)
      have P6 := Lib.hid (P4.out.below hb5)
      have Z5 := Lib.hid (Z4.out.below hb5)
      have HB5 := Lib.hid (chain hbel.out hb5)
      have hvc5 := Lib.hid (fun s t hs ht => hvc.out bt s t hs ht)
      rw [← HN.out] at hl5 ⊢
      generalize compE R1 ys now bt = C1 at hl5 hs5 P5 hvc5 ⊢
      clear o5 hb5 hcell
      have hkk : k ≤ 100 := by omega
      go_upto_region 8 with fail
      have hbx := below_alloc (Below.refl w5.heap.size w5) (.cells #[.int .i64 9223372036854775807] 2)
      have HBX := Lib.hid hbx
      have HNW := Lib.hid (row_news (Z5.out.below hbx) HZK.out)
      have HNN : Hid (sa = none → k = 0 ∧ k = 0) := fun e => by
        by_cases h0 : k = 0
        · exact ⟨h0, h0⟩
        · obtain ⟨b, off, he, _⟩ := Z5.out.at (by omega)
          rw [e] at he; cases he
      have HCN : Hid (∀ j u, ([Value.int .i64 9223372036854775807])[j]? = some u → (w5.alloc (.cells #[.int .i64 9223372036854775807] 2)).cell? ((⟨w5.heap.size, 0, none⟩ : Addr).add j) = some u) := World.news_of_block (cs := #[.int .i64 9223372036854775807]) (heap_alloc_new _ _)
      obtain ⟨i0, hi0, hz0, hz1, hz2⟩ := info_parts infoI64
      have HI0 := Lib.hid hi0
      have HZ0 := Lib.hid hz0
      have HZ1 := Lib.hid hz1
      have HZ2 := Lib.hid hz2
      clear hbx hi0 hz0 hz1 hz2
      go_cut [54, 55, 56] (fun s54 s55 s56 wx => ∃ g c : Nat, s54 = .slice (some ⟨g, 0, none⟩) (k + 1) c ∧ s55 = .int .i64 ((k + 1 : Nat) : Int) ∧ s56 = .int .i64 0 ∧ Hid (wx.ownsRow w5.heap.size 2 1 (.slice (some ⟨g, 0, none⟩) (k + 1) c) (k + 1) ((ys ++ [9223372036854775807]).map (Value.int .i64))) ∧ Hid (Below w5.heap.size w5 wx))
      case first =>
        have key : ∀ (sx : Option Addr), sx = sa → True := fun _ _ => trivial
        have j1 : (0 : Int) ≤ (k : Int) := by omega
        have j2 : (k : Int) ≤ (sc : Int) := by omega
        go_wp2_with (at_builtin; refine wpList_append_grows _ rfl _ _ 43 rfl 2 i0 _ 1 8 Try.underlying43 HI0.out HZ0.out HZ1.out HZ2.out rfl (by decide) sa k k (ys.map (Value.int .i64)) rfl ?c1 ?c2 ?c3 _ 1 1 [.int .i64 9223372036854775807] rfl rfl ?c4 ?c5 ?c6 ?c7 ?c8 ?_)
        case c1 => exact HNN.out
        case c2 => rw [List.length_map, HZK.out, Nat.mul_one]
        case c3 => exact HNW.out
        case c4 => exact HCN.out
        case c5 => intro u hu; rw [List.mem_singleton] at hu; subst hu; rfl
        case c6 => omega
        case c7 => unfold maxLen; omega
        case c8 => omega
        intro vv w6 ho6 hg6
        obtain ⟨vg, cp, hvv, _⟩ := own_form ho6
        obtain ⟨g, rfl⟩ : ∃ g, vg = some ⟨g, 0, none⟩ := by
          rcases ho6.2 with ⟨_, h1⟩ | ⟨g, cap, cur, hv, _⟩
          · omega
          · rw [hvv] at hv; cases hv; exact ⟨g, rfl⟩
        subst hvv
        have hB6 : Hid (Below w5.heap.size w5 w6) := HBX.out.trans (⟨hg6.os, hg6.tape, hg6.output, hg6.size, fun q hq => hg6.block q (Nat.lt_of_lt_of_le hq HBX.out.size) (by simp)⟩)
        have HO6 : Hid (w6.ownsRow w5.heap.size 2 1 (.slice (some ⟨g, 0, none⟩) (k + 1) cp) (k + 1) ((ys ++ [9223372036854775807]).map (Value.int .i64))) := by rw [List.map_append]; exact own_lower ho6 (by omega)
        clear ho6 hg6
        go_wp2_with fail
        go_meet
        exact ⟨g, cp, rfl, by go_num, rfl, HO6, hB6⟩
      case rest =>
      obtain ⟨g, c, rfl, rfl, rfl, hox, hbx⟩ := hcut
      obtain ⟨w6, hw6⟩ : ∃ w6 : World, w6 = wc := ⟨_, rfl⟩
      subst hw6
      have P7 := Lib.hid (P5.out.below hbx.out)
      have P8 := Lib.hid (P6.out.below hbx.out)
      have HB6 := Lib.hid (chain HB5.out hbx.out)
      have HSS : Hid (∀ j, j < k + 1 → ((ys ++ [9223372036854775807]).getD j 0 ∈ ys ∨ ∀ x ∈ R1, x.seq ≤ (ys ++ [9223372036854775807]).getD j 0)) := fun j hj => by
        have hz := HZK.out
        by_cases hjk : j < k
        · left
          rw [List.getD_eq_getElem?_getD, List.getElem?_append_left (by omega), List.getElem?_eq_getElem (by omega)]
          exact List.getElem_mem _
        · right
          obtain rfl : j = k := by omega
          rw [List.getD_eq_getElem?_getD, List.getElem?_append_right (by omega), hz, Nat.sub_self]
          exact HFT.out
      have HCL : Hid (∀ W j, Below w6.heap.size w6 W → j < k + 1 → W.cell? ⟨g, j, none⟩ = some (.int .i64 ((ys ++ [9223372036854775807]).getD j 0))) := fun W j hb hj => by
        have hz := HZK.out
        have ho := own_below hox.out hb
        have h1 := World.ownsRow.cellAt ho j (by omega)
        rw [h1, List.getElem?_map, List.getElem?_eq_getElem (by rw [List.length_append]; simp; omega), List.getD_eq_getElem?_getD, List.getElem?_eq_getElem (by rw [List.length_append]; simp; omega)]
        rfl
      generalize ys ++ [9223372036854775807] = zs at HSS HCL
      clear hox hbx HBX HNW HNN HCN HI0 HZ0 HZ1 HZ2 P5 P6 HB5 Z5
      go_wp2_with fail
      go_loopw [56] (fun si wr => ∃ j : Nat, si = .int .i64 j ∧ j ≤ k + 1 ∧ Hid (Below w6.heap.size w6 wr)) (fun si _ => k + 1 - (intOf si).toNat)
      case atStart => exact ⟨0, rfl, by omega, Below.refl _ _⟩
      case round =>
        obtain ⟨j, rfl, hj, hbe⟩ := hrel
        by_cases hjl : j < k + 1
        · have cj := HCL.out wr j hbe.out hjl
          have HSJ := Lib.hid (HSS.out j hjl)
          generalize zs.getD j 0 = sj at cj HSJ
          have j1 : (0 : Int) ≤ (j : Int) := by omega
          have j2 : (j : Int) < ((k + 1 : Nat) : Int) := by omega
          have PA := Lib.hid (P7.out.below hbe.out)
          have PB := Lib.hid (P8.out.below hbe.out)
          have hv1 := hvc5.out sj now HSJ.out (Int.le_refl _)
          have hv2 := hvc5.out sj later HSJ.out hnl
          have hvl1 := hvl.out sj now
          have hvl2 := hvl.out sj later
          have HVA := Lib.hid (fun p d W h => HV.out p d W C1 hs5.out (by omega) h sj now)
          have HVB := Lib.hid (fun p d W h => HV.out p d W R1 HS1.out (by have := HN.out; omega) h sj now)
          have HVC := Lib.hid (fun p d W h => HV.out p d W C1 hs5.out (by omega) h sj later)
          have HVD := Lib.hid (fun p d W h => HV.out p d W R1 HS1.out (by have := HN.out; omega) h sj later)
          rw [hv1] at HVA
          rw [hv2] at HVC
          rw [← HN.out] at HVB HVD hvl1 hvl2
          generalize visE R1 sj now = V1 at HVA HVB hvl1
          generalize visE R1 sj later = V2 at HVC HVD hvl2
          clear hv1 hv2
          obtain ⟨wq2, hwq2⟩ : ∃ wq2 : World, wq2 = wr := ⟨_, rfl⟩
          subst hwq2
          go_wp2_with fail
          refine (HVA.out p5 d5 wq2 PA.out).mono ?_
          rintro e w7 ⟨p7, d7, rfl, o7, hb7⟩
          have V7 := Lib.hid (at_own o7)
          have PA := Lib.hid (PA.out.below hb7)
          have PB := Lib.hid (PB.out.below hb7)
          have HB7 := Lib.hid (chain hbe.out hb7)
          clear o7 hb7 cj
          go_wp2_with fail
          refine (HVB.out p1 d1 w7 PB.out).mono ?_
          rintro e w8 ⟨p8, d8, rfl, o8, hb8⟩
          have V8 := Lib.hid (at_own o8)
          have V7 := Lib.hid (V7.out.below hb8)
          have PA := Lib.hid (PA.out.below hb8)
          have PB := Lib.hid (PB.out.below hb8)
          have HB8 := Lib.hid (chain HB7.out hb8)
          clear o8 hb8
          go_wp2_with fail
          refine (alike_yes p7 V1.length d7 p8 d8 V1 rfl (by omega) w8 V7.out.row V8.out.row).mono ?_
          rintro e w9 ⟨rfl, hb9⟩
          have PA := Lib.hid (PA.out.below hb9)
          have PB := Lib.hid (PB.out.below hb9)
          have HB9 := Lib.hid (chain HB8.out hb9)
          clear hb9
          go_wp2_with fail
          refine (HVC.out p5 d5 w9 PA.out).mono ?_
          rintro e wa ⟨pa, da, rfl, oa, hba⟩
          have Va := Lib.hid (at_own oa)
          have PB := Lib.hid (PB.out.below hba)
          have HBa := Lib.hid (chain HB9.out hba)
          clear oa hba
          go_wp2_with fail
          refine (HVD.out p1 d1 wa PB.out).mono ?_
          rintro e wb ⟨pb, db, rfl, ob, hbb⟩
          have Vb := Lib.hid (at_own ob)
          have Va := Lib.hid (Va.out.below hbb)
          have HBb := Lib.hid (chain HBa.out hbb)
          clear ob hbb
          go_wp2_with fail
          refine (alike_yes pa V2.length da pb db V2 rfl (by omega) wb Va.out.row Vb.out.row).mono ?_
          rintro e wz ⟨rfl, hbz⟩
          have HBz := Lib.hid (chain HBb.out hbz)
          clear hbz
          go_wp2_with fail
          go_roundw
          case rel =>
            first
              | exact ⟨j + 1, by go_num, by omega, HBz⟩
              | ((repeat apply Exists.intro); exact ⟨⟨j + 1, by go_num, by omega, HBz⟩, rfl⟩)
          case measure => simp [intOf]; omega
        · obtain rfl : j = k + 1 := by omega
          have HBz := Lib.hid (chain HB6.out hbe.out)
          go_wp2_with fail
          go_roundw
          case rel => exact ⟨i + 1, by go_num, by omega, HBz⟩
          case measure => simp [intOf]; omega
    · obtain rfl : i = 2 := by omega
      go_wp2_with fail
      refine (wakes13_any wr).mono ?_
      rintro e w2 ⟨rfl, hb2⟩
      have hB2 := chain (chain HB3.out hbel.out) hb2
      clear hb2
      go_wp2_with fail
      go_ret
      exact ⟨rfl, hB2⟩

theorem entT : Op.EntT Try.prog 54 ((match Try.prog.underlying 54 with | some (.struct fs) => fs | _ => #[])) := by
  rw [Try.underlying54]
  exact ⟨Try.underlying54, by kernel_rfl, by kernel_rfl, ⟨_, rfl, Try.underlying9⟩, ⟨_, rfl, Try.underlying2⟩, ⟨_, rfl, Try.underlying4⟩, ⟨_, rfl, Try.underlying9⟩, ⟨_, rfl, Try.underlying2⟩, rfl⟩
theorem bd64 {n : Int} (h : (Lit.int .i64 n).wf = true) : -9223372036854775808 ≤ n ∧ n ≤ 9223372036854775807 := by
  simpa [Lit.wf, IntKind.min, IntKind.max, IntKind.signed, IntKind.bits] using h


theorem own : ownKnob Try.prog.godebug = none := by kernel_rfl
theorem laidOut : laidOutB Try.prog = true := by kernel_rfl

set_option maxRecDepth 100000 in
theorem lifted (os : Os) (started : os.Started) (H : Type) (enc : TypeId × Value → H) :
    ReturnsInHanded {} Try.checked os 6 .any (Rows.mergeKeepsSpec.pre6 enc Try.prog Try.f6 Rows.mergeKeepsRow.domain false) (Rows.mergeKeepsSpec.post enc Try.prog Try.f6 false true false false) := by
  refine returnsInHanded_of_change_sized (C := Try.checked) own started (by kernel_rfl) Try.func6
    (ChangeSpec.witness6 (enc := enc) (C := Try.checked) false ⟨#[], #[.slice none 0 0, .slice none 0 0, .agg #[.int .i64 0, .int .i64 0]], []⟩ 8 (by kernel_rfl) (by kernel_rfl) (by kernel_rfl) (by kernel_rfl)) ?_
  intro W base args ds gs before hval0 hW hcnd hsz0 _
  have hval : ∀ (j : Nat) t v, Try.f6.params[j]? = some t → args[j]? = some v → Value.okWide Try.prog W .any base t v := hval0
  have hsz : (DataW.weightsEach Try.prog (Try.f6.params.toList ++ Rows.mergeKeepsSpec.plain.varTypes Try.prog) (ds ++ gs)).all (· ≤ reachBytes) = true := hsz0
  have hW' := hW
  obtain ⟨p, q, hA0, hV, rfl, hfz, hnd⟩ := hW
  have hA : DataW.TrodAll enc Try.prog W 0 (fun _ => true) true Try.f6.params.toList args.toList ds p := hA0
  rw [Try.params6] at hA hval hsz
  obtain ⟨v0, vs0, d0, ds0, p0, q0, hargs, rfl, rfl, h0, r0⟩ := trodAll_cons hA
  obtain ⟨v1, vs1, d1, ds1, p1, q1, rfl, rfl, rfl, h1, r1⟩ := trodAll_cons r0
  obtain ⟨v2, vs2, d2, ds2, p2, q2, rfl, rfl, rfl, h2, r2⟩ := trodAll_cons r1
  obtain ⟨rfl, rfl, rfl⟩ := trodAll_nil r2
  obtain rfl : args = #[v0, v1, v2] := by cases args; simp_all
  obtain ⟨rfl, rfl⟩ := trodVars_none hV
  have k0 := h0
  have lt0 : ∀ x ∈ p0, x.block < W.heap.size := by obtain ⟨m, hm⟩ := k0; exact DataW.trod_lt m _ _ _ hm
  have k1 := h1
  have lt1 : ∀ x ∈ p1, x.block < W.heap.size := by obtain ⟨m, hm⟩ := k1; exact DataW.trod_lt m _ _ _ hm
  have k2 := h2
  have lt2 : ∀ x ∈ p2, x.block < W.heap.size := by obtain ⟨m, hm⟩ := k2; exact DataW.trod_lt m _ _ _ hm
  obtain ⟨a0, n0, cap0, z0, rfl, w0, row0, lc0, cm0, wf0, wt0, bk0⟩ := Op.ents1 entT Try.underlying22 (hval 0 22 v0 rfl rfl) h0
  have wb0 := wt0 reachBytes (fun m hm => of_decide_eq_true (List.all_eq_true.1 hsz _ (DataW.weights_mem_each (j := 0) rfl rfl m hm)))
  have f0 : z0.length = n0 ∧ n0 ≤ cap0 ∧ n0 * 56 ≤ 140737488351232 ∧ (∀ e ∈ z0, En.Fits e) ∧ En.ERow W a0 n0 (fun i => z0.getD i En.ent0) := ⟨w0, lc0, by have h9 := wb0.2; rw [show Try.prog.bytesOf 54 = 56 from by kernel_rfl] at h9; exact h9, fun x hx => by have h9 := wf0 x hx; have h8 := wb0.1 x hx; exact ⟨h8.1, h8.2, (bd64 h9.2.2.1).1, (bd64 h9.2.2.1).2, (bd64 h9.2.2.2).1, (bd64 h9.2.2.2).2⟩, row0⟩
  obtain ⟨a1, n1, cap1, z1, rfl, w1, wf1, row1, lc1, cm1, wt1⟩ := Op.ints2 Try.underlying43 Try.underlying2 (by kernel_rfl) (hval 1 43 v1 rfl rfl) h1
  have wb1 := wt1 reachBytes (fun m hm => of_decide_eq_true (List.all_eq_true.1 hsz _ (DataW.weights_mem_each (j := 1) rfl rfl m hm)))
  have f1 : z1.length = n1 ∧ n1 ≤ cap1 ∧ cap1 ≤ 9223372036854775807 ∧ n1 * 8 ≤ 140737488351232 ∧ (∀ x ∈ z1, -9223372036854775808 ≤ x ∧ x ≤ 9223372036854775807) ∧ B.Row W a1 n1 (fun i => .int .i64 (z1.getD i 0)) := ⟨w1, lc1, by simpa [maxLen] using cm1, by rw [show Try.prog.bytesOf 2 = 8 from by kernel_rfl] at wb1; exact wb1, fun x hx => by simpa [Lit.wf, IntKind.min, IntKind.max, IntKind.signed, IntKind.bits] using wf1 x hx, row1⟩
  have o2 := open_2 (hval 2 47 v2 rfl rfl) h2 (fun n hn => of_decide_eq_true (List.all_eq_true.1 hsz _ (DataW.weights_mem_each (j := 2) rfl rfl n hn)))
  clear hA0 hval0
  refine (walk a0 n0 cap0 z0 a1 n1 cap1 z1 v2 W f0 f1 o2).mono fun e W' ⟨he, bel⟩ => ?_
  subst he
  exact ⟨_, rfl, _, _, _, [], _, [], hW', trodAll_mk1 (shut_bool Try.underlying4 _), (trodAll_cons_mk (Below.trod laidOut (by kernel_rfl) (of_decide_eq_true (by kernel_rfl)) k0 bel lt0) (trodAll_cons_mk (Below.trod laidOut (by kernel_rfl) (of_decide_eq_true (by kernel_rfl)) k1 bel lt1) (trodAll_cons_mk (Below.trod laidOut (by kernel_rfl) (of_decide_eq_true (by kernel_rfl)) k2 bel lt2) trodAll_mk0))), rfl, bel.frame _, fun h => by cases h⟩

theorem over : Rows.mergeKeepsRow.holds Try.pinned (OpenSpec.ofChange Rows.mergeKeepsSpec) :=
  OpenClaim.holds_of_wide 6 Try.f6 rfl rfl rfl rfl rfl rfl rfl ⟨rfl, rfl, rfl, rfl, rfl⟩ rfl rfl rfl rfl rfl (by kernel_rfl) Try.func6 (by kernel_rfl)
    (of_decide_eq_true (by kernel_rfl)) (by unfold Func.isWrapper; first | (rw [if_pos (by decide +kernel)]; kernel_rfl) | (rw [if_neg (by decide +kernel)]; exact ⟨rfl, rfl⟩))
    (fun os started H enc _ => lifted os started H enc)

/-- THE STATEMENT -/
theorem proved : Rows.MergeKeepsSaid := over
end Go.Proofs.Ytmgdcebbeglcmaa.mergeKeeps
