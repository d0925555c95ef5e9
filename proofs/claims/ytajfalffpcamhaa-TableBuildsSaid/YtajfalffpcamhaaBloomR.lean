/- The walks of the reference's New and Has. -/
import Derived.Test.YtajfalffpcamhaaBloomH
import Derived.Test.YtajfalffpcamhaaBloomN
import Derived.Deep.DeepCutAuto
import Derived.BigRegion
import Derived.StillTailTactics
namespace Go.Proofs.Ytajfalffpcamhaa.Mw
open Go.RowKit
open Mp Fp B Fw
set_option linter.unusedVariables false

theorem set_one (l : List UInt8) (p : Nat) (z : UInt8) (i : Nat) (hi : i = p / 8) (hz : z = UInt8.ofNat ((l.getD i 0).toNat ||| 2 ^ (p % 8))) : l.set i z = setBit l p := by
  subst hi hz
  rfl

set_option maxHeartbeats 1600000 in
set_option maxRecDepth 100000 in
theorem rnew_ok (bits : Nat) (a : Option Addr) (n cap : Nat) (ss : List ByteArray) (hb1 : 1 ≤ bits) (hb2 : bits ≤ 16) (hz : ss.length = n) (hn : n ≤ cap) (hm : cap ≤ 9223372036854775807) (hn6 : n ≤ 65536) (hs : ∀ s ∈ ss, s.size ≤ 2305843009213693952) (w : World) (hrow : Row w a n (fun i => .string (ss.getD i ByteArray.empty))) :
    Calls Try.prog 37 #[.int .i64 bits, .slice a n cap] w fun e w' => e = .returned (.tuple #[.string (str (filt bits (ss.map fun s => s.data.toList))), .int .i64 0]) ∧ Below w.heap.size w w' := by
  have t1 : decide (bits < 1) = false := df (by omega)
  have t2 : decide (16 < bits) = false := df (by omega)
  have t3 : decide (65536 < n) = false := df (by omega)
  have hfilt : filt bits (ss.map fun s => s.data.toList) = UInt8.ofNat (probN bits) :: marks (ss.map fun s => s.data.toList) (probN bits) (byteN bits n) := by rw [← hz]; unfold filt; rw [List.length_map]
  have hprl := probN_le bits
  have hnb1 := byteN_pos bits n
  have hnbl := byteN_le bits n hb2 hn6
  obtain ⟨b0, hb0⟩ : ∃ b0, b0 = UInt8.ofNat (probN bits) := ⟨_, rfl⟩
  obtain ⟨pr, hpr⟩ : ∃ pr, pr = probN bits := ⟨_, rfl⟩
  obtain ⟨bn, hbn⟩ : ∃ bn, bn = bits * n := ⟨_, rfl⟩
  have hbnl : bn ≤ 16 * 65536 := by rw [hbn]; exact Nat.mul_le_mul hb2 hn6
  have e2 : (bits : Int) * (n : Int) = (bn : Int) := by rw [hbn, Int.natCast_mul]
  obtain ⟨nb, hnb⟩ : ∃ nb, nb = byteN bits n := ⟨_, rfl⟩
  have e3 : nb = (max 64 bn + 7) / 8 := by rw [hnb, hbn]; rfl
  have e1 : pr = max 1 (min 8 (bits * 69 / 100)) := by rw [hpr]; rfl
  obtain ⟨p0, hp0⟩ : ∃ p0, p0 = bits * 69 / 100 := ⟨_, rfl⟩
  have f1 : 69 * (bits : Int) / 100 = (p0 : Int) := by omega
  obtain ⟨p1, hp1⟩ : ∃ p1, p1 = max 1 p0 := ⟨_, rfl⟩
  have e5 : pr = min 8 p1 := by omega
  obtain ⟨n1, hn1⟩ : ∃ n1, n1 = max 64 bn := ⟨_, rfl⟩
  have e6 : nb = (n1 + 7) / 8 := by omega
  obtain ⟨q0, hq0⟩ : ∃ q0, q0 = n1 / 8 := ⟨_, rfl⟩
  obtain ⟨r0, hr0⟩ : ∃ r0, r0 = n1 % 8 := ⟨_, rfl⟩
  have f2 : (n1 : Int) / 8 = (q0 : Int) := by omega
  have f3 : (n1 : Int) % 8 = (r0 : Int) := by omega
  have l1 : p0 ≤ 100 := by omega
  have l2 : p1 ≤ 100 := by omega
  have l3 : n1 ≤ 16 * 65536 := by omega
  have l4 : q0 ≤ 16 * 65536 := by omega
  have eb0 : b0.toNat = pr := by rw [hb0, UInt8.toNat_ofNat', hpr]; omega
  obtain ⟨sz, hsz⟩ : ∃ sz, sz = 8 * nb := ⟨_, rfl⟩
  have e4 : 8 * (nb : Int) = (sz : Int) := by omega
  obtain ⟨M, hM⟩ : ∃ M : Nat → List UInt8, M = fun j => marks ((ss.map fun s => s.data.toList).take j) pr nb := ⟨_, rfl⟩
  have hM0 : M 0 = List.replicate nb 0 := by rw [hM]; rfl
  have hMl : ∀ j, (M j).length = nb := by intro j; rw [hM]; exact marks_len _ _ _
  have hMs : ∀ j, j < n → M (j + 1) = (plsN (ss.getD j ByteArray.empty).data.toList pr sz).foldl setBit (M j) := by
    intro j hj
    rw [hM, hsz]
    show marks _ _ _ = List.foldl _ (marks _ _ _) _
    rw [← marks_step]
    congr 1
    rw [List.take_add_one, List.getElem?_map, List.getElem?_eq_getElem (by omega), List.getD_eq_getElem?_getD, List.getElem?_eq_getElem (by omega)]
    rfl
  have hMn : filt bits (ss.map fun s => s.data.toList) = b0 :: M n := by
    rw [hfilt, hM, hb0, ← hpr, ← hnb]
    show _ = _ :: marks _ _ _
    rw [List.take_of_length_le (by rw [List.length_map]; omega)]
  rw [hMn]
  rw [← hpr] at hprl
  rw [← hnb] at hnb1 hnbl
  have HM0 := Lib.hid hM0
  have HMl := Lib.hid hMl
  have HMs := Lib.hid hMs
  have HS := Lib.hid hs
  have HR := Lib.hid hrow
  have HZ := Lib.hid hz
  have HSZ := Lib.hid hsz
  have HP1 := Lib.hid hp1
  have HE5 := Lib.hid e5
  have HN1 := Lib.hid hn1
  have HE6 := Lib.hid e6
  have HQ0 := Lib.hid hq0
  have HR0 := Lib.hid hr0
  have HB0 := Lib.hid eb0
  have hszl : sz ≤ 16777216 := by omega
  have hsz1 : 1 ≤ sz := by omega
  clear hpr hbn hnb hb0 e1 e3 eb0 hp0 hp1 e5 hn1 e6 hq0 hr0
  clear hM hM0 hMl hMs hMn hfilt hs hrow hz hsz
  have hmk := fun W : World => run_make_row' (P := Try.prog) 64 5 (.int .u8 0) 1 Try.underlying64 infoU8 rfl .i64 .i64 nb (by omega) (by omega) W
  have hb0 : Blk (w.alloc (.cells (madeCells #[.int .u8 0] nb) 5)) w.heap.size (List.replicate nb 0) := by
    unfold Blk
    rw [heap_alloc_new, made, List.map_replicate]; rfl
  have hbw : Below w.heap.size w (w.alloc (.cells (madeCells #[.int .u8 0] nb) 5)) := (Below.refl _ _).alloc (Nat.le_refl _) _
  have HB1 := Lib.hid hb0
  clear hb0
  go_enter Try.func37, Try.ntmps37
  go_upto_if 27 with fail
  go_cut [6] (fun s6 wx => s6 = .int .i64 p1 ∧ w = wx)
  case first =>
    go_wp2_with fail
    all_goals go_meet
    · exact ⟨by rw [show p1 = 1 from by have := HP1.out; omega]; rfl, rfl⟩
    · exact ⟨by rw [show p1 = p0 from by have := HP1.out; omega, ← f1], rfl⟩
  case rest =>
  obtain ⟨rfl, rfl⟩ := hcut
  go_upto_if 29 with fail
  go_cut [6] (fun s6 wx => s6 = .int .i64 pr ∧ w = wx)
  case first =>
    go_wp2_with fail
    all_goals go_meet
    · exact ⟨by rw [show pr = 8 from by have := HE5.out; omega]; rfl, rfl⟩
    · exact ⟨by rw [show pr = p1 from by have := HE5.out; omega], rfl⟩
  case rest =>
  obtain ⟨rfl, rfl⟩ := hcut
  go_upto_if 35 with fail
  go_cut [7] (fun s6 wx => s6 = .int .i64 n1 ∧ w = wx)
  case first =>
    go_wp2_with fail
    all_goals go_meet
    · exact ⟨by rw [show n1 = 64 from by have := HN1.out; omega]; rfl, rfl⟩
    · exact ⟨by rw [show n1 = bn from by have := HN1.out; omega], rfl⟩
  case rest =>
  obtain ⟨rfl, rfl⟩ := hcut
  go_upto_if 40 with fail
  go_cut [8] (fun s6 wx => s6 = .int .i64 nb ∧ w = wx)
  case first =>
    go_wp2_with fail
    all_goals go_meet
    · exact ⟨by rw [show nb = q0 + 1 from by have := HE6.out; have := HQ0.out; have := HR0.out; omega]; rfl, rfl⟩
    · exact ⟨by rw [show nb = q0 from by have := HE6.out; have := HQ0.out; have := HR0.out; omega], rfl⟩
  case rest =>
  obtain ⟨rfl, rfl⟩ := hcut
  have hconv0 : ∀ (W : World) (c : Nat), (convert 64 9 (.slice (some ⟨W.heap.size, 0, none⟩) 1 c)).run Try.prog (W.alloc (.cells #[.int .u8 pr] 5)) = .ok (.string (str [b0])) (W.alloc (.cells #[.int .u8 pr] 5)) := fun W c =>
    conv_row (rest := []) Try.underlying64 Try.underlying5 Try.underlying9 (by rw [heap_alloc_new, ← HB0.out]; rfl) rfl
  clear f1 f2 f3
  go_wp2_with fail
  clear hmk
  go_loopw [10] (fun i wr => ∃ j : Nat, i = .int .i64 j ∧ j ≤ n ∧ Blk wr w.heap.size (M j) ∧ Below w.heap.size w wr) (fun i _ => n - (intOf i).toNat)
  case atStart => exact ⟨0, rfl, by omega, by rw [HM0.out]; exact HB1.out, hbw⟩
  case round =>
    obtain ⟨j, rfl, hj, hblk, hbel⟩ := hrel
    by_cases hlt : j < n
    · obtain ⟨ab, aoff, rfl, hab, hac⟩ := (HR.out.below hbel).at (by omega)
      have hck := hac j hlt
      obtain ⟨s, hs⟩ : ∃ s, s = ss.getD j ByteArray.empty := ⟨_, rfl⟩
      have hsl : s.size ≤ 2305843009213693952 := by
        have hmem : s ∈ ss := by
          rw [hs, List.getD_eq_getElem?_getD, List.getElem?_eq_getElem (by rw [HZ.out]; exact hlt)]
          exact List.getElem_mem _
        exact HS.out s hmem
      have hms := HMs.out j hlt
      rw [← hs] at hms hck
      have HP := Lib.hid (fun W : World => rplaces_ok s pr sz (by omega) (by omega) (by omega) (by omega) hsl W)
      have hpl := plsN_len s.data.toList pr sz
      have hplt := plsN_lt s.data.toList pr sz (by omega)
      generalize plsN s.data.toList pr sz = L at HP hpl hplt hms
      have HPL := Lib.hid hplt
      have HMS := Lib.hid hms
      have HBK := Lib.hid hblk
      have HLN := Lib.hid hpl
      clear hac hs hplt hms hblk hpl
      go_wp2_with fail
      refine (HP.out _).mono ?_
      rintro e w1 ⟨pa, pc, rfl, hrp, hfp, hbp⟩
      have hb1 := HBK.out.below hbp
      have HB1 := Lib.hid hb1
      have HRP := Lib.hid hrp
      have hbe1 := hbel.trans (hbp.mono hbel.size)
      have HFP := Lib.hid hfp
      have hAl : w.heap.size < wr.heap.size := lt_of_block HBK.out
      clear hb1 hrp hfp
      go_wp2_with fail
      obtain ⟨wo, hwo⟩ : ∃ wo : World, wo = wr := ⟨_, rfl⟩
      go_loopw [12] (fun i wi => ∃ q : Nat, i = .int .i64 q ∧ q ≤ L.length ∧ Blk wi w.heap.size ((L.take q).foldl setBit (M j)) ∧ Row wi pa L.length (fun i => .int .i64 ((L.getD i 0 : Nat) : Int)) ∧ Below w.heap.size w wi) (fun i _ => L.length - (intOf i).toNat)
      case atStart => exact ⟨0, rfl, by omega, HB1.out, HRP.out, hbe1⟩
      case round =>
        obtain ⟨q, rfl, hq, hbk, hrp, hbe⟩ := hrel
        by_cases hql : q < L.length
        · have hmem : L.getD q 0 ∈ L := by rw [List.getD_eq_getElem?_getD, List.getElem?_eq_getElem hql]; exact List.getElem_mem _
          have hps := HPL.out _ hmem
          have hstep : (L.take (q + 1)).foldl setBit (M j) = setBit ((L.take q).foldl setBit (M j)) (L.getD q 0) := by
            rw [List.take_add_one, List.foldl_append, List.getElem?_eq_getElem hql, List.getD_eq_getElem?_getD, List.getElem?_eq_getElem hql]; rfl
          have hll : ((L.take q).foldl setBit (M j)).length = nb := by rw [sets_len, HMl.out]
          have hroww := hrp
          obtain ⟨b2, off2, rfl, hb2, hc2⟩ := hrp.at (by omega)
          have hce2 := hc2 q hql
          generalize L.getD q 0 = p at hmem hps hstep hce2
          generalize (L.take q).foldl setBit (M j) = l at hstep hll hbk
          obtain ⟨pd, hpd⟩ : ∃ pd, pd = p / 8 := ⟨_, rfl⟩
          obtain ⟨pm, hpm⟩ : ∃ pm, pm = p % 8 := ⟨_, rfl⟩
          have e5 : (p : Int) / 8 = (pd : Int) := by omega
          have e6 : (p : Int) % 8 = (pm : Int) := by omega
          have hpm8 : pm < 8 := by omega
          have hpdn : pd < nb := by have := HSZ.out; omega
          have hce := hbk.cell (i := pd) (by omega)
          have hfz := hbk.frozen (i := pd)
          obtain ⟨z, hz⟩ : ∃ z, z = UInt8.ofNat ((l.getD pd 0).toNat ||| 2 ^ pm) := ⟨_, rfl⟩
          have hor := or_bits (l.getD pd 0) pm hpm8
          rw [← hz] at hor
          have hor2 : Go.bits .or .u8 ((l.getD pd 0).toNat : Int) (2 ^ min (p % 8) 8 % 256) = (z.toNat : Int) := by rw [← hpm, Nat.min_eq_left (by omega)]; exact hor
          have HOR2 := Lib.hid hor2
          clear hor2
          have hset := hbk.set (i := pd) z
          rw [set_one l p z pd hpd (by rw [hz, hpm]), ← hstep] at hset
          have hrow3 := Row.setCell (p := ⟨w.heap.size, pd, none⟩) hroww (fun x hx => by have := HFP.out x hx; show w.heap.size < x.block; omega) (.int .u8 z.toNat)
          have hbe3 := hbe.setCell (p := ⟨w.heap.size, pd, none⟩) (Nat.le_refl _) (.int .u8 z.toNat)
          have HST := Lib.hid hset
          have HR3 := Lib.hid hrow3
          generalize l.getD pd 0 = y at hce hor HOR2
          clear hmem hps hstep hll hroww hrp hc2 hbk hpd hpm hz hset hrow3
          have hq9 : q ≤ 8 := by have := HLN.out; omega
          go_wp2_with fail
          go_still_tail 15, (by kernel_rfl)
          go_wp2_with fail
          go_roundw
          case rel => rw [HOR2.out]; exact ⟨q + 1, by go_num, by omega, HST.out, HR3.out, hbe3.drew⟩
          case measure => simp [intOf]; omega
        · have hqe : q = L.length := by omega
          have hfin : Blk wr w.heap.size (M (j + 1)) := by
            rw [HMS.out]
            rw [hqe, List.take_length] at hbk
            exact hbk
          have HFI := Lib.hid hfin
          clear hrp hbk hqe hfin
          go_wp2_with fail
          go_roundw
          case rel => exact ⟨j + 1, by go_num, by omega, HFI.out, hbe⟩
          case measure => simp [intOf]; omega
    · obtain rfl : n = j := by omega
      have hcv := (hblk.below (((Below.refl _ wr)).alloc (Nat.le_refl _) (.cells #[.int .u8 pr] 5))).str (n := nb) (cap := nb) (by rw [HMl.out])
      have HBL := Lib.hid hblk
      clear hblk
      have hs1 : (str [b0]).size ≤ 1 := by rw [str_size]; simp
      have hs2 : (str (M n)).size ≤ 131073 := by rw [str_size, HMl.out]; exact hnbl
      go_wp2_with fail
      go_ret2
      exact ⟨by rw [str_append]; rfl, hbel.alloc hbel.size _⟩

set_option maxHeartbeats 400000 in
theorem rnew_bad (bits : Int) (a : Option Addr) (n cap : Nat) (h : bits < 1 ∨ 16 < bits) (w : World) :
    Calls Try.prog 37 #[.int .i64 bits, .slice a n cap] w fun e w' => e = .returned (.tuple #[.string ⟨#[]⟩, .int .i64 2]) ∧ w = w' := by
  by_cases h1 : bits < 1
  · have t1 : decide (bits < 1) = true := dt h1
    clear h
    go_enter Try.func37, Try.ntmps37
    go_wp2_with fail
    go_ret2
    exact ⟨rfl, rfl⟩
  · have t1 : decide (bits < 1) = false := df h1
    have t2 : decide (16 < bits) = true := dt (by omega)
    clear h
    go_enter Try.func37, Try.ntmps37
    go_wp2_with fail
    go_ret2
    exact ⟨rfl, rfl⟩

set_option maxHeartbeats 400000 in
theorem rnew_many (bits : Nat) (a : Option Addr) (n cap : Nat) (h1 : 1 ≤ bits) (h2 : bits ≤ 16) (h : 65536 < n) (w : World) :
    Calls Try.prog 37 #[.int .i64 bits, .slice a n cap] w fun e w' => e = .returned (.tuple #[.string ⟨#[]⟩, .int .i64 5]) ∧ w = w' := by
  have t1 : decide (bits < 1) = false := df (by omega)
  have t2 : decide (16 < bits) = false := df (by omega)
  have t3 : decide (65536 < n) = true := dt h
  go_enter Try.func37, Try.ntmps37
  go_wp2_with fail
  go_ret2
  exact ⟨rfl, rfl⟩

theorem rnew_any (bits : Int) (a : Option Addr) (n cap : Nat) (ss : List ByteArray) (hz : ss.length = n) (hn : n ≤ cap) (hm : cap ≤ 9223372036854775807) (hs : ∀ s ∈ ss, s.size ≤ 2305843009213693952) (w : World) (hrow : Row w a n (fun i => .string (ss.getD i ByteArray.empty))) :
    Calls Try.prog 37 #[.int .i64 bits, .slice a n cap] w (GotM w (mk bits (ss.map fun s => s.data.toList))) := by
  unfold mk
  rw [List.length_map, hz]
  by_cases h : bits < 1 ∨ 16 < bits
  · rw [if_pos h]
    refine (rnew_bad bits a n cap h w).mono ?_
    rintro e w' ⟨rfl, rfl⟩
    exact ⟨rfl, Below.refl _ _⟩
  · rw [if_neg h]
    obtain ⟨b, rfl⟩ := Int.eq_ofNat_of_zero_le (show 0 ≤ bits by omega)
    by_cases h2 : 65536 < n
    · rw [if_pos h2]
      refine (rnew_many b a n cap (by omega) (by omega) h2 w).mono ?_
      rintro e w' ⟨rfl, rfl⟩
      exact ⟨rfl, Below.refl _ _⟩
    · rw [if_neg h2]
      exact rnew_ok b a n cap ss (by omega) (by omega) hz hn hm (by omega) hs w hrow

end Go.Proofs.Ytajfalffpcamhaa.Mw
