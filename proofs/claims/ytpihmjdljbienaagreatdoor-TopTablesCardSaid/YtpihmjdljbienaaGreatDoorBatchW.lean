/- The walk of batch.Put. -/
import Derived.Test.YtpihmjdljbienaaGreatDoorGoodI
import Derived.Test.YtpihmjdljbienaaGreatDoorGa
import Derived.Test.YtpihmjdljbienaaGreatDoorVarint
namespace Go.Proofs.YtpihmjdljbienaaGreatDoor.Bw
open Ew
open Go.RowKit
open En B Vp Vw Bd
set_option linter.unusedVariables false

def GotS (w : World) (r : ByteArray × Int) (e : Ending) (w' : World) : Prop :=
  e = .returned (.tuple #[.string r.1, .int .i64 r.2]) ∧ Below w.heap.size w w'

set_option maxHeartbeats 1600000 in
set_option maxRecDepth 100000 in
theorem put_items (a : Option Addr) (n cap : Nat) (l : List Ent) (hl : l.length = n) (hn : n ≤ 64) (hf : ∀ e ∈ l, Fits e) (w : World) (hrow : ERow w a n (fun i => l.getD i ent0)) :
    Calls Tryz.prog 10 #[.slice a n cap] w (GotS w (putE l)) := by
  have HL := Lib.hid hl
  have HF := Lib.hid hf
  have HR := Lib.hid hrow
  clear hl hf hrow
  have hfresh := fresh w
  have HFR := Lib.hid hfresh
  clear hfresh
  go_enter Tryz.func10, Tryz.ntmps10
  go_wp2_with fail
  refine (Vw.put_any _ (by omega) (by omega) _).mono ?_
  rintro e w1 ⟨rfl, hb1⟩
  have hh1 := HFR.out.below hb1
  have hx1 : (enc (n : Int)).size ≤ 10 := enc_len (by omega) (by omega)
  have HH1 := Lib.hid hh1
  clear hh1
  go_wp2_with fail
  refine (writeString_any w.heap.size w.heap.size [] _ _ HH1.out (by simp only [List.length_nil]; omega) (by have := hb1.size; simp at this; omega)).mono ?_
  rintro e w2 ⟨rfl, hh2, hb2⟩
  have hbz : Below w.heap.size w w2 := ((Below.refl _ _).alloc (Nat.le_refl _) _).trans ((hb1.mono (by simp)).trans hb2)
  have HH2 := Lib.hid hh2
  clear hh2
  go_wp2_with fail
  go_loopw [17] (fun i wr => ∃ j : Nat, i = .int .i64 j ∧ j ≤ n ∧ Holds w.heap.size w.heap.size ((enc (n : Int)).data.toList ++ itemsB (l.take j)) wr ∧ Hid (bads (l.take j) = 0) ∧ Below w.heap.size w wr) (fun i _ => n - (intOf i).toNat)
  case atStart => exact ⟨0, rfl, by omega, by simpa [itemsB] using HH2.out, by show bads (l.take 0) = 0; rfl, hbz⟩
  case round =>
    obtain ⟨j, rfl, hj, hh, hbd, hbel⟩ := hrel
    by_cases hlt : j < n
    · obtain ⟨ab, off, rfl, hab, hac⟩ := (HR.out.below hbel).at (by omega)
      obtain ⟨h0, h1, h2, h3, h4⟩ := hac j hlt
      obtain ⟨x, hx⟩ : ∃ x, x = l.getD j ent0 := ⟨_, rfl⟩
      rw [← hx] at h0 h1 h2 h3 h4
      obtain ⟨k, q, g, v, u⟩ := x
      simp only at h0 h1 h2 h3 h4
      have HX := Lib.hid hx
      have HHH := Lib.hid hh
      clear hac hx hh
      have hbA : Below w.heap.size w (wr.alloc (.cells #[.string k, .int .i64 q, .bool g, .string v, .int .i64 u] 45)) := hbel.alloc hbel.size _
      have hAs : w.heap.size < wr.heap.size := by have := hbel.size; have h5 := HHH.out; rcases h5 with h5 | h5 <;> obtain ⟨_, _, h6, _⟩ := h5 <;> exact lt_of_block h6
      go_wp2_with fail
      refine (igood_any k q g v u _).mono ?_
      rintro e w3 ⟨rfl, hb3⟩
      have hbx3 := (EBox.new wr 45 ⟨k, q, g, v, u⟩).below hb3
      have hh3 := (HHH.out.below ((Below.refl _ _).alloc (Nat.le_refl _) _)).below hb3
      have hbz3 := chain hbA hb3
      have HB3 := Lib.hid hbx3
      have HH3 := Lib.hid hh3
      clear hbx3 hh3
      have hbt := bads_take l j hbd.out (by rw [HL.out]; exact hlt)
      have hts := take_snoc l j ent0 (by rw [HL.out]; exact hlt)
      rw [← HX.out] at hbt hts
      have HTS := Lib.hid hts
      have HBT := Lib.hid hbt
      clear hbt hts h0 h1 h2 h3 h4
      by_cases hg0 : goodI ⟨k, q, g, v, u⟩ = 0
      · have hfit : Fits ⟨k, q, g, v, u⟩ := by
          rw [HX.out]
          exact HF.out _ (by rw [List.getD_eq_getElem?_getD, List.getElem?_eq_getElem (by rw [HL.out]; exact hlt)]; exact List.getElem_mem _)
        have hgd := goodI_0 hg0
        have HG := Lib.hid hgd.2.2.2.2.2
        have hg1 : k.size ≤ 64 := hgd.1
        have hg2 : v.size ≤ 512 := hgd.2.1
        have hg4 : 0 ≤ u := hgd.2.2.2.1
        have hg5 : u < 9223372036854775807 := by have h9 := hfit.til1; have h8 := hgd.2.2.2.2.1; simp only at h8 h9; omega
        have hbd2 : bads (l.take (j + 1)) = 0 := by rw [HBT.out.1]; exact hg0
        have HBD2 := Lib.hid hbd2
        have hlen : ((enc (n : Int)).data.toList ++ itemsB (l.take j)).length ≤ 10 + 700 * 64 := by
          have h9 := itemsB_len (l.take j) (fun e he => ⟨bads_good _ hbd.out e he, HF.out e (List.mem_of_mem_take he)⟩)
          have h8 : (enc (n : Int)).data.toList.length = (enc (n : Int)).size := by simp
          rw [List.length_append, h8]
          rw [List.length_take] at h9
          omega
        have hkz : (enc (k.size : Int) ++ k).size ≤ 74 := by rw [ByteArray.size_append]; have := enc_len (n := (k.size : Int)) (by omega) (by omega); omega
        have e1 : (goodI ⟨k, q, g, v, u⟩ != 0) = false := nf hg0
        have HGZ := Lib.hid hg0
        obtain ⟨k0, k1, k2, k3, k4⟩ := HB3.out.cells
        simp only at k0 k1 k2 k3 k4
        clear hgd hbd2 hg0 hbd hfit k1 k2 k3 k4
        obtain ⟨pre, hpre⟩ : ∃ pre, pre = (enc (n : Int)).data.toList ++ itemsB (l.take j) := ⟨_, rfl⟩
        rw [← hpre] at HH3 hlen
        have HPRE := Lib.hid hpre
        clear hpre
        go_wp2_with fail
        refine (putText_any k (by omega) _).mono ?_
        rintro e w4 ⟨rfl, hb4⟩
        have HH4 := Lib.hid (HH3.out.below hb4)
        have HB4 := Lib.hid (HB3.out.below hb4)
        have hbz4 := chain hbz3 hb4
        clear k0
        go_wp2_with fail
        refine (writeString_keeps w.heap.size w.heap.size _ _ _ HH4.out (by omega) hbz4.size).mono ?_
        rintro e w5 ⟨rfl, hh5, hb5, hk5⟩
        have HH5 := Lib.hid hh5
        have HB5 := Lib.hid (HB4.out.keeps hk5 (by decide))
        have hbz5 := hbz4.trans hb5
        obtain ⟨k0, k1, k2, k3, k4⟩ := HB5.out.cells
        simp only at k0 k1 k2 k3 k4
        clear hh5 hk5 k0 k1 k3
        have hlen5 : (pre ++ (enc (k.size : Int) ++ k).data.toList).length ≤ 10 + 700 * 64 + 74 := by
          have : (enc (k.size : Int) ++ k).data.toList.length = (enc (k.size : Int) ++ k).size := by simp
          rw [List.length_append]; omega
        cases g with
        | true =>
          have hz0 : (enc 0).size ≤ 10 := enc_len (by omega) (by omega)
          go_wp2_with fail
          refine (Vw.put_any 0 (by omega) (by omega) _).mono ?_
          rintro e w6 ⟨rfl, hb6⟩
          have HH6 := Lib.hid (HH5.out.below hb6)
          have hbz6 := chain hbz5 hb6
          go_wp2_with fail
          refine (writeString_any w.heap.size w.heap.size _ _ _ HH6.out (by omega) hbz6.size).mono ?_
          rintro e w7 ⟨rfl, hh7, hb7⟩
          have HH7 := Lib.hid hh7
          have hbz7 := hbz6.trans hb7
          clear hh7
          go_wp2_with fail
          go_roundw
          case rel => exact ⟨j + 1, by go_num, by omega, by rw [HTS.out, itemsB_snoc, ← List.append_assoc, ← HPRE.out]; simpa [itemB, encT] using HH7.out, HBD2, hbz7⟩
          case measure => simp [intOf]; omega
        | false =>
          have hz1 : (enc (u + 1)).size ≤ 10 := enc_len (by omega) (by omega)
          have hvz : (enc (v.size : Int) ++ v).size ≤ 522 := by rw [ByteArray.size_append]; have := enc_len (n := (v.size : Int)) (by omega) (by omega); omega
          have hlen7 : (pre ++ (enc (k.size : Int) ++ k).data.toList ++ (enc (u + 1)).data.toList).length ≤ 10 + 700 * 64 + 84 := by
            have : (enc (u + 1)).data.toList.length = (enc (u + 1)).size := by simp
            rw [List.length_append]; omega
          go_wp2_with fail
          refine (Vw.put_any (u + 1) (by omega) (by omega) _).mono ?_
          rintro e w6 ⟨rfl, hb6⟩
          have HH6 := Lib.hid (HH5.out.below hb6)
          have HB6 := Lib.hid (HB5.out.below hb6)
          have hbz6 := chain hbz5 hb6
          clear k2 k4
          go_wp2_with fail
          refine (writeString_keeps w.heap.size w.heap.size _ _ _ HH6.out (by omega) hbz6.size).mono ?_
          rintro e w7 ⟨rfl, hh7, hb7, hk7⟩
          have HH7 := Lib.hid hh7
          have HB7 := Lib.hid (HB6.out.keeps hk7 (by decide))
          have hbz7 := hbz6.trans hb7
          obtain ⟨k0, k1, k2, k3, k4⟩ := HB7.out.cells
          simp only at k0 k1 k2 k3 k4
          clear hh7 hk7 k0 k1 k2 k4
          go_wp2_with fail
          refine (putText_any v (by omega) _).mono ?_
          rintro e w8 ⟨rfl, hb8⟩
          have HH8 := Lib.hid (HH7.out.below hb8)
          have hbz8 := chain hbz7 hb8
          clear k3
          go_wp2_with fail
          refine (writeString_any w.heap.size w.heap.size _ _ _ HH8.out (by omega) hbz8.size).mono ?_
          rintro e w9 ⟨rfl, hh9, hb9⟩
          have HH9 := Lib.hid hh9
          have hbz9 := hbz8.trans hb9
          clear hh9
          go_wp2_with fail
          go_roundw
          case rel => exact ⟨j + 1, by go_num, by omega, by rw [HTS.out, itemsB_snoc, ← List.append_assoc, ← HPRE.out]; simpa [itemB, encT] using HH9.out, HBD2, hbz9⟩
          case measure => simp [intOf]; omega
      · have hput : putE l = (ByteArray.empty, goodI ⟨k, q, g, v, u⟩) := by
          unfold putE
          rw [if_neg (by rw [HL.out]; omega), if_pos (by rw [HBT.out.2 hg0]; exact hg0), HBT.out.2 hg0]
        have HP := Lib.hid hput
        have e1 : (goodI ⟨k, q, g, v, u⟩ != 0) = true := nt hg0
        clear hput hg0
        generalize goodI ⟨k, q, g, v, u⟩ = r at HP e1
        clear hbd
        go_wp2_with fail
        go_ret2
        exact ⟨by rw [HP.out]; rfl, hbz3⟩
    · obtain rfl : n = j := by omega
      have hput : putE l = (str ((enc (n : Int)).data.toList ++ itemsB (l.take n)), 0) := by
        have e1 : l.take n = l := List.take_of_length_le (by rw [HL.out]; exact Nat.le_refl _)
        have e2 := hbd.out
        rw [e1] at e2 ⊢
        unfold putE
        rw [if_neg (by rw [HL.out]; omega), if_neg (by rw [e2]; simp), HL.out]
      have HP := Lib.hid hput
      have HHH := Lib.hid hh
      clear hh hput hbd
      generalize (enc (n : Int)).data.toList ++ itemsB (l.take n) = pre at HHH HP
      go_wp2_with fail
      refine (string_any w.heap.size w.heap.size _ _ HHH.out hbel.size).mono ?_
      rintro e w3 ⟨rfl, hb3⟩
      have hbz3 := hbel.trans hb3
      go_wp2_with fail
      go_ret2
      exact ⟨by rw [HP.out]; rfl, hbz3⟩

set_option maxHeartbeats 400000 in
theorem put_long (a : Option Addr) (n cap : Nat) (h : 64 < n) (w : World) :
    Calls Tryz.prog 10 #[.slice a n cap] w fun e w' => e = .returned (.tuple #[.string ⟨#[]⟩, .int .i64 5]) ∧ w = w' := by
  go_enter Tryz.func10, Tryz.ntmps10
  go_wp2_with fail
  go_ret2
  exact ⟨rfl, rfl⟩

theorem bput_any (a : Option Addr) (n cap : Nat) (l : List Ent) (hl : l.length = n) (hf : ∀ e ∈ l, Fits e) (w : World) (hrow : ERow w a n (fun i => l.getD i ent0)) :
    Calls Tryz.prog 10 #[.slice a n cap] w (GotS w (putE l)) := by
  by_cases h : 64 < n
  · refine (put_long a n cap h w).mono ?_
    rintro e w' ⟨rfl, rfl⟩
    unfold putE
    rw [if_pos (by omega)]
    exact ⟨rfl, Below.refl _ _⟩
  · exact put_items a n cap l hl (by omega) hf w hrow

end Go.Proofs.YtpihmjdljbienaaGreatDoor.Bw
