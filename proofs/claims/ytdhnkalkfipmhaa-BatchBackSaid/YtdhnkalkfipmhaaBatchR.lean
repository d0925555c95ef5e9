/- The walk of the reference's Put of a batch. -/
import Derived.Test.YtdhnkalkfipmhaaBatchW
import Derived.Test.YtdhnkalkfipmhaaVarRef
namespace Go.Proofs.Ytdhnkalkfipmhaa.Ew
open Go.RowKit
open En B Vp Vw
set_option linter.unusedVariables false

set_option maxHeartbeats 400000 in
theorem rtext_any (s : ByteArray) (hs : s.size ≤ 4611686018427387904) (w : World) :
    Calls Try.prog 36 #[.string s] w fun e w' => e = .returned (.string (enc s.size ++ s)) ∧ Below w.heap.size w w' := by
  have hz : (enc (s.size : Int)).size ≤ 10 := enc_len (by omega) (by omega)
  go_enter Try.func36, Try.ntmps36
  go_wp2_with fail
  refine (rput_any _ (by omega) (by omega) _).mono ?_
  rintro e w1 ⟨rfl, hb1⟩
  go_wp2_with fail
  go_ret
  exact ⟨rfl, hb1⟩

theorem cat4 (pre : List UInt8) (a b c : ByteArray) : str pre ++ a ++ b ++ c = str (pre ++ (a.data.toList ++ (b.data.toList ++ c.data.toList))) := by
  conv => lhs; rw [← str_toList a, ← str_toList b, ← str_toList c]
  rw [str_append, str_append, str_append]
  simp

set_option maxHeartbeats 1600000 in
set_option maxRecDepth 100000 in
theorem rput_items (a : Option Addr) (n cap : Nat) (l : List Ent) (hl : l.length = n) (hn : n ≤ 64) (hf : ∀ e ∈ l, Fits e) (w : World) (hrow : ERow w a n (fun i => l.getD i ent0)) :
    Calls Try.prog 13 #[.slice a n cap] w (GotS w (putE l)) := by
  have HL := Lib.hid hl
  have HF := Lib.hid hf
  have HR := Lib.hid hrow
  clear hl hf hrow
  go_enter Try.func13, Try.ntmps13
  go_wp2_with fail
  refine (rput_any _ (by omega) (by omega) _).mono ?_
  rintro e w1 ⟨rfl, hbz⟩
  have hx1 : (enc (n : Int)).size ≤ 10 := enc_len (by omega) (by omega)
  go_wp2_with fail
  go_loopw [4, 5] (fun s i wr => ∃ j : Nat, i = .int .i64 j ∧ j ≤ n ∧ s = .string (str ((enc (n : Int)).data.toList ++ itemsB (l.take j))) ∧ Hid (bads (l.take j) = 0) ∧ Below w.heap.size w wr) (fun _ i _ => n - (intOf i).toNat)
  case atStart => exact ⟨0, rfl, by omega, by simp [itemsB]; rfl, by show bads (l.take 0) = 0; rfl, hbz⟩
  case round =>
    obtain ⟨j, rfl, hj, rfl, hbd, hbel⟩ := hrel
    by_cases hlt : j < n
    · obtain ⟨ab, off, rfl, hab, hac⟩ := (HR.out.below hbel).at (by omega)
      obtain ⟨h0, h1, h2, h3, h4⟩ := hac j hlt
      obtain ⟨x, hx⟩ : ∃ x, x = l.getD j ent0 := ⟨_, rfl⟩
      rw [← hx] at h0 h1 h2 h3 h4
      obtain ⟨k, q, g, v, u⟩ := x
      simp only at h0 h1 h2 h3 h4
      have hlen : ((enc (n : Int)).data.toList ++ itemsB (l.take j)).length ≤ 10 + 700 * 64 := by
        have h9 := itemsB_len (l.take j) (fun e he => ⟨bads_good _ hbd.out e he, HF.out e (List.mem_of_mem_take he)⟩)
        have h8 : (enc (n : Int)).data.toList.length = (enc (n : Int)).size := by simp
        rw [List.length_append, h8]
        rw [List.length_take] at h9
        omega
      obtain ⟨pre, hpre⟩ : ∃ pre, pre = (enc (n : Int)).data.toList ++ itemsB (l.take j) := ⟨_, rfl⟩
      rw [← hpre] at hlen ⊢
      have HPRE := Lib.hid hpre
      have HX := Lib.hid hx
      have hps : (str pre).size ≤ 10 + 700 * 64 := by rw [str_size]; exact hlen
      clear hac hx hpre
      have hbA : Below w.heap.size w (wr.alloc (.cells #[.string k, .int .i64 q, .bool g, .string v, .int .i64 u] 55)) := hbel.alloc hbel.size _
      go_wp2_with fail
      refine (rigood_any k q g v u _).mono ?_
      rintro e w3 ⟨rfl, hb3⟩
      have HB3 := Lib.hid ((EBox.new wr 55 ⟨k, q, g, v, u⟩).below hb3)
      have hbz3 := chain hbA hb3
      have hbt := bads_take l j hbd.out (by rw [HL.out]; exact hlt)
      have hts := take_snoc l j ent0 (by rw [HL.out]; exact hlt)
      rw [← HX.out] at hbt hts
      have HTS := Lib.hid hts
      have HBT := Lib.hid hbt
      clear hbt hts h0 h1 h2 h3 h4
      by_cases hg0 : goodI ⟨k, q, g, v, u⟩ = 0
      · have hfit : Fits ⟨k, q, g, v, u⟩ := by
          rw [HX.out]
          exact HF.out _ (by rw [List.getD_eq_getElem?_getD, List.getElem?_eq_getElem (by rw [HL.out]; exact hlt)]; exact List.getElem_mem _)
        have hgd := goodI_0 hg0
        have hg1 : k.size ≤ 64 := hgd.1
        have hg2 : v.size ≤ 512 := hgd.2.1
        have hg4 : 0 ≤ u := hgd.2.2.2.1
        have hg5 : u < 9223372036854775807 := by have h9 := hfit.til1; have h8 := hgd.2.2.2.2.1; simp only at h8 h9; omega
        have hbd2 : bads (l.take (j + 1)) = 0 := by rw [HBT.out.1]; exact hg0
        have HBD2 := Lib.hid hbd2
        have hkz : (enc (k.size : Int) ++ k).size ≤ 74 := by rw [ByteArray.size_append]; have := enc_len (n := (k.size : Int)) (by omega) (by omega); omega
        have hkz0 : (enc (k.size : Int)).size ≤ 10 := enc_len (by omega) (by omega)
        have e1 : (goodI ⟨k, q, g, v, u⟩ != 0) = false := nf hg0
        obtain ⟨k0, k1, k2, k3, k4⟩ := HB3.out.cells
        simp only at k0 k1 k2 k3 k4
        clear hgd hbd2 hg0 hbd hfit k1 k2 k3 k4
        go_wp2_with fail
        refine (rtext_any k (by omega) _).mono ?_
        rintro e w4 ⟨rfl, hb4⟩
        have hbx4 := HB3.out.below hb4
        have HB4 := Lib.hid hbx4
        have hbz4 := chain hbz3 hb4
        obtain ⟨k0, k1, k2, k3, k4⟩ := hbx4.cells
        simp only at k0 k1 k2 k3 k4
        clear hbx4 k0 k1
        cases g with
        | true =>
          clear k3 k4
          have hz0 : (enc 0).size ≤ 10 := enc_len (by omega) (by omega)
          go_wp2_with fail
          refine (rput_any 0 (by omega) (by omega) _).mono ?_
          rintro e w6 ⟨rfl, hb6⟩
          have hbz6 := chain hbz4 hb6
          go_wp2_with fail
          go_roundw
          case rel => exact ⟨j + 1, by go_num, by omega, by rw [HTS.out, itemsB_snoc, ← List.append_assoc, ← HPRE.out]; exact congrArg Value.string ((cat4 pre (enc (k.size : Int) ++ k) (enc 0) ⟨#[]⟩).trans (by rw [show (⟨#[]⟩ : ByteArray).data.toList = [] from rfl, List.append_nil]; rfl)), HBD2, hbz6⟩
          case measure => simp [intOf]; omega
        | false =>
          have hz1 : (enc (u + 1)).size ≤ 10 := enc_len (by omega) (by omega)
          have hvz0 : (enc (v.size : Int)).size ≤ 10 := enc_len (by omega) (by omega)
          have hvz : (enc (v.size : Int) ++ v).size ≤ 522 := by rw [ByteArray.size_append]; have := enc_len (n := (v.size : Int)) (by omega) (by omega); omega
          go_wp2_with fail
          refine (rtext_any v (by omega) _).mono ?_
          rintro e w6 ⟨rfl, hb6⟩
          have hbz6 := chain hbz4 hb6
          clear k2 k3 k4
          go_wp2_with fail
          refine (rput_any (u + 1) (by omega) (by omega) _).mono ?_
          rintro e w8 ⟨rfl, hb8⟩
          have hbz8 := chain hbz6 hb8
          go_wp2_with fail
          go_roundw
          case rel => exact ⟨j + 1, by go_num, by omega, by rw [HTS.out, itemsB_snoc, ← List.append_assoc, ← HPRE.out]; exact congrArg Value.string (cat4 pre (enc (k.size : Int) ++ k) (enc (u + 1)) (enc (v.size : Int) ++ v)), HBD2, hbz8⟩
          case measure => simp [intOf]; omega
      · have hput : putE l = (ByteArray.empty, goodI ⟨k, q, g, v, u⟩) := by
          unfold putE
          rw [if_neg (by rw [HL.out]; omega), if_pos (by rw [HBT.out.2 hg0]; exact hg0), HBT.out.2 hg0]
        have HP := Lib.hid hput
        have e1 : (goodI ⟨k, q, g, v, u⟩ != 0) = true := nt hg0
        clear hput hg0
        generalize goodI ⟨k, q, g, v, u⟩ = r at HP e1
        clear hbd
        go_wp2_with fail
        go_ret2
        exact ⟨by rw [HP.out]; rfl, hbz3⟩
    · obtain rfl : n = j := by omega
      have hput : putE l = (str ((enc (n : Int)).data.toList ++ itemsB (l.take n)), 0) := by
        have e1 : l.take n = l := List.take_of_length_le (by rw [HL.out]; exact Nat.le_refl _)
        have e2 := hbd.out
        rw [e1] at e2 ⊢
        unfold putE
        rw [if_neg (by rw [HL.out]; omega), if_neg (by rw [e2]; simp), HL.out]
      have HP := Lib.hid hput
      clear hput hbd
      generalize (enc (n : Int)).data.toList ++ itemsB (l.take n) = pre at HP
      go_wp2_with fail
      go_ret2
      exact ⟨by rw [HP.out]; rfl, hbel⟩

set_option maxHeartbeats 400000 in
theorem rput_long (a : Option Addr) (n cap : Nat) (h : 64 < n) (w : World) :
    Calls Try.prog 13 #[.slice a n cap] w fun e w' => e = .returned (.tuple #[.string ⟨#[]⟩, .int .i64 5]) ∧ w = w' := by
  go_enter Try.func13, Try.ntmps13
  go_wp2_with fail
  go_ret2
  exact ⟨rfl, rfl⟩

theorem rbput_any (a : Option Addr) (n cap : Nat) (l : List Ent) (hl : l.length = n) (hf : ∀ e ∈ l, Fits e) (w : World) (hrow : ERow w a n (fun i => l.getD i ent0)) :
    Calls Try.prog 13 #[.slice a n cap] w (GotS w (putE l)) := by
  by_cases h : 64 < n
  · refine (rput_long a n cap h w).mono ?_
    rintro e w' ⟨rfl, rfl⟩
    unfold putE
    rw [if_pos (by omega)]
    exact ⟨rfl, Below.refl _ _⟩
  · exact rput_items a n cap l hl (by omega) hf w hrow

end Go.Proofs.Ytdhnkalkfipmhaa.Ew
