/- The walks of the heap: up at the top, Fix at the top, Pop, Init. -/
import Derived.Test.YtpihmjdljbienaaGreatDoorGj
import Derived.Test.YtpihmjdljbienaaGreatDoorGq
namespace Go.Proofs.YtpihmjdljbienaaGreatDoor.Mg
open Ew
open Go.RowKit
open En B
set_option linter.unusedVariables false

theorem up0_any (q : Value) (W : World) : Calls Tryz.prog 137 #[q, .int .i64 0] W fun e w' => (∃ v, e = .returned v) ∧ W = w' := by
  go_enter Tryz.func137, Tryz.ntmps137
  go_wp2_with fail
  go_loopw [1] (fun si wr => si = .int .i64 0 ∧ wr = W) (fun _ _ => 0)
  case atStart => exact ⟨rfl, rfl⟩
  case round =>
    obtain ⟨rfl, rfl⟩ := hrel
    go_wp2_with fail
    go_end0
    exact ⟨⟨_, rfl⟩, rfl⟩

def FixR (w0 : World) (gb : Nat) (p : Option Addr) (d : Nat) (h : List Run) (W : World) (e : Ending) (W' : World) : Prop :=
  (∃ v, e = .returned v) ∧ ∃ h' : List Run, HST w0 gb p d h' W' ∧ Same h.length h h' ∧ HeapFrom h' h.length 0 ∧ Keeps [161] W W'

set_option maxHeartbeats 3200000 in
set_option maxRecDepth 100000 in
theorem fix_any (w0 : World) (gb : Nat) (p : Option Addr) (d : Nat) (h : List Run) (W : World) (hst : HST w0 gb p d h W) (hl : h.length ≤ 1000000000000) (hh : HeapFrom h h.length 1) (hps : Pos h.length h) :
    Calls Tryz.prog 90 #[.iface 163 (.pointer (some ⟨gb, 0, none⟩)), .int .i64 0] W (FixR w0 gb p d h W) := by
  obtain ⟨P, hP⟩ : ∃ P, P = FixR w0 gb p d h W := ⟨_, rfl⟩
  rw [← hP]
  have HP := Lib.hid hP
  have HST0 := Lib.hid hst
  have HH := Lib.hid hh
  have HPS := Lib.hid hps
  clear hps
  have hm := fun k => meth_len W gb _ hst.box.cell k
  clear hst hh hP
  go_enter Tryz.func90, Tryz.ntmps90
  go_wp2_with fail
  refine (len_any _ _ _ _).mono ?_
  rintro e w2 ⟨rfl, rfl⟩
  clear hm
  go_wp2_with fail
  refine (down_any w0 gb p d h W HST0.out 0 h.length (by omega) hl (by omega) HH.out HPS.out).mono ?_
  rintro e w2 ⟨h', bl, rfl, hs, hsm, hhp, hb, hk⟩
  have HS := Lib.hid hs
  have HSM := Lib.hid hsm
  have HHP := Lib.hid hhp
  have HK := Lib.hid hk
  clear hs hsm hhp hk HST0 HH
  cases bl with
  | true =>
    go_wp2_with fail
    try go_end0
    rw [HP.out]
    exact ⟨⟨_, rfl⟩, h', HS.out, HSM.out, HHP.out, HK.out⟩
  | false =>
    go_wp2_with fail
    refine (up0_any _ _).mono ?_
    rintro e w3 ⟨⟨v, rfl⟩, rfl⟩
    go_wp2_with fail
    try go_end0
    rw [HP.out]
    exact ⟨⟨_, rfl⟩, h', HS.out, HSM.out, HHP.out, HK.out⟩

set_option maxHeartbeats 3200000 in
set_option maxRecDepth 100000 in
theorem init_any (w0 : World) (gb : Nat) (p : Option Addr) (d : Nat) (h : List Run) (W : World) (hst : HST w0 gb p d h W) (hl : h.length ≤ 1000000000000) (hps : Pos h.length h) :
    Calls Tryz.prog 88 #[.iface 163 (.pointer (some ⟨gb, 0, none⟩))] W (FixR w0 gb p d h W) := by
  obtain ⟨P, hP⟩ : ∃ P, P = FixR w0 gb p d h W := ⟨_, rfl⟩
  rw [← hP]
  have HP := Lib.hid hP
  have HST0 := Lib.hid hst
  have HPS := Lib.hid hps
  have hm := fun k => meth_len W gb _ hst.box.cell k
  clear hst hP hps
  go_enter Tryz.func88, Tryz.ntmps88
  go_wp2_with fail
  refine (len_any _ _ _ _).mono ?_
  rintro e w2 ⟨rfl, rfl⟩
  clear hm
  go_wp2_with fail
  go_loopw [3] (fun si wr => ∃ (k : Nat) (h' : List Run), si = .int .i64 ((k : Int) - 1) ∧ k ≤ h.length ∧ Hid (HeapFrom h' h.length k) ∧ Hid (HST w0 gb p d h' wr) ∧ Hid (Same h.length h h') ∧ Hid (Keeps [161] W wr)) (fun si _ => (intOf si + 1).toNat)
  case atStart => exact ⟨h.length / 2, h, by go_num, by omega, heap_half h _, HST0.out, same_refl _ _, Keeps.refl _ _⟩
  case round =>
    obtain ⟨k, h', rfl, hk, hh, hst, hsm, hkp⟩ := hrel
    have hlen := hsm.out.len
    have HLN := Lib.hid hlen
    clear HST0
    by_cases h0 : k = 0
    · subst h0
      clear hlen
      go_wp2_with fail
      go_end0
      rw [HP.out]
      exact ⟨⟨_, rfl⟩, h', hst.out, hsm.out, hh.out, hkp.out⟩
    · obtain ⟨j, rfl⟩ : ∃ j, k = j + 1 := ⟨k - 1, by omega⟩
      have t1 : (0 : Int) ≤ ((j + 1 : Nat) : Int) - 1 := by omega
      have hl' : h'.length ≤ 1000000000000 := by omega
      have hn' : h.length ≤ h'.length := by omega
      clear hlen
      go_wp2_with fail
      refine (down_any w0 gb p d h' wr hst.out j h.length hn' hl' (by omega) hh.out (same_pos hsm.out HPS.out)).mono ?_
      rintro e w2 ⟨h2, bl, rfl, hs, hsm2, hhp, hb, hk2⟩
      have HS := Lib.hid hs
      have HSM := Lib.hid (hsm.out.trans hsm2)
      have HHP := Lib.hid hhp
      have HK := Lib.hid (hkp.out.trans hk2)
      clear hs hsm2 hhp hk2 hh hst hsm hkp
      go_wp2_with fail
      go_roundw
      case rel => exact ⟨j, h2, by go_num, by omega, HHP.out, HS.out, HSM.out, HK.out⟩
      case measure => simp [intOf]

/-- the last run is taken off -/
theorem own_shrinkR {w : World} {B m d : Nat} {e : TypeId} {pp : Option Addr} {R : List Run} (h : w.ownsRow B e 2 (.slice pp m d) m (rcells R)) (j : Nat) (hj : j ≤ m) (h0 : 0 < m) : w.ownsRow B e 2 (.slice pp j d) j (rcells (R.take j)) := by
  have hl := h.1
  rw [rcells_len] at hl
  rcases h.2 with ⟨_, h1⟩ | ⟨g, cap, cur, hv, hB, hg, hn, hm, hs, ht⟩
  · omega
  · cases hv
    refine ⟨by rw [rcells_len, List.length_take]; omega, .inr ⟨g, d, cur, rfl, hB, hg, by omega, hm, hs, ?_⟩⟩
    rw [← rcells_take, ← ht, List.take_take, Nat.min_eq_left (by omega)]
theorem HST.take {w0 W : World} {gb d : Nat} {p : Option Addr} {h : List Run} (s : HST w0 gb p d h W) (h0 : 0 < h.length) :
    HST w0 gb p d (h.take (h.length - 1)) (W.setCell ⟨gb, 0, none⟩ (.slice p (h.length - 1) d)) ∧ Keeps [159] W (W.setCell ⟨gb, 0, none⟩ (.slice p (h.length - 1) d)) := by
  have hlt : (h.take (h.length - 1)).length = h.length - 1 := by rw [List.length_take]; omega
  have hs := own_shrinkR s.own (h.length - 1) (by omega) h0
  refine ⟨⟨s.bel.setCell (p := ⟨gb, 0, none⟩) s.far _, s.far, ?_, ?_, fun r hr => s.val r (List.mem_of_mem_take hr)⟩, Keeps.setCell (p := ⟨gb, 0, none⟩) s.box (by simp) _⟩
  · rw [hlt]; exact s.box.set _
  · rw [hlt]; exact own_farB hs (p := ⟨gb, 0, none⟩) (row_ne s.box hs (by decide)) _
def RPopR (w0 : World) (gb : Nat) (p : Option Addr) (d : Nat) (h : List Run) (W : World) (e : Ending) (W' : World) : Prop :=
  (∃ v, e = .returned v) ∧ HST w0 gb p d (h.take (h.length - 1)) W' ∧ Keeps [159] W W'

set_option maxHeartbeats 3200000 in
set_option maxRecDepth 100000 in
theorem rpop_any (w0 : World) (gb : Nat) (p : Option Addr) (d : Nat) (h : List Run) (W : World) (hst : HST w0 gb p d h W) (hl : h.length ≤ 1000000000000) (h0 : 0 < h.length) :
    Calls Tryz.prog 197 #[.pointer (some ⟨gb, 0, none⟩)] W (RPopR w0 gb p d h W) := by
  obtain ⟨P, hP⟩ : ∃ P, P = RPopR w0 gb p d h W := ⟨_, rfl⟩
  rw [← hP]
  have HP := Lib.hid hP
  have HST0 := Lib.hid hst
  obtain ⟨_, _, hr⟩ := own_rrow hst.own
  obtain ⟨b, off, hpe, hb, hc⟩ := hr.at h0
  obtain ⟨c0, c1⟩ := hc (h.length - 1) (by omega)
  obtain ⟨n, hn⟩ : ∃ n, h.length = n + 1 := ⟨h.length - 1, by omega⟩
  have HN := Lib.hid hn
  rw [hn, Nat.add_sub_cancel] at c0 c1
  have cb := hst.box.cell
  have cz := hst.box.fz
  have hgs := hst.box.lt
  have hd := hst.own.2
  have hcap : h.length ≤ d := by
    rcases hst.own.2 with ⟨_, h1⟩ | ⟨g, cap, cur, hv, hB, hg, hn, _⟩
    · omega
    · cases hv; exact hn
  rw [hn] at cb hcap
  have i1 : (0 : Int) ≤ (n : Int) := by omega
  have i2 : (n : Int) < ((n + 1 : Nat) : Int) := by omega
  have i3 : (n : Int) ≤ (d : Int) := by omega
  generalize (h.getD n run0).a = v1 at c0
  generalize (h.getD n run0).m = v2 at c0
  generalize (h.getD n run0).c = v3 at c0
  generalize (h.getD n run0).idx = v4 at c1
  have hnl : n < 1000000000000 := by omega
  clear hst hP hr hc hd hn hl h0
  subst hpe
  go_enter Tryz.func197, Tryz.ntmps197
  go_wp2_with fail
  rw [HP.out]
  obtain ⟨ht, hkt⟩ := HST0.out.take (by have := HN.out; omega)
  have e1 : h.length - 1 = n := by have := HN.out; omega
  rw [e1] at ht hkt
  have hb1 := (Below.refl (W.setCell ⟨gb, 0, none⟩ (.slice (some ⟨b, off, none⟩) n d)).heap.size _).alloc (Nat.le_refl _) (.cells #[.slice v1 v2 v3, .int .i64 v4] 161)
  exact ⟨⟨_, rfl⟩, by rw [e1]; exact ht.below hb1, hkt.trans (Keeps.below hb1)⟩

def PopR (w0 : World) (gb : Nat) (p : Option Addr) (d : Nat) (h : List Run) (W : World) (e : Ending) (W' : World) : Prop :=
  (∃ v, e = .returned v) ∧ ∃ h' : List Run, HST w0 gb p d h' W' ∧ h'.length + 1 = h.length ∧ HeapFrom h' h'.length 0 ∧ (∀ r, r ∈ h' → ∃ k, 1 ≤ k ∧ k < h.length ∧ r = h.getD k run0) ∧ (∀ k, 1 ≤ k → k < h.length → h.getD k run0 ∈ h') ∧ (Dis h.length h → Dis h'.length h') ∧ Keeps [161, 159] W W'
theorem take_getD {h : List Run} {n k : Nat} (hk : k < n) : (h.take n).getD k run0 = h.getD k run0 := by
  rw [List.getD_eq_getElem?_getD, List.getD_eq_getElem?_getD, List.getElem?_take, if_pos hk]
theorem pop_plain {h h2 : List Run} {n : Nat} (hn : h.length = n + 1) (hs : Same n (swapR h 0 n) h2) (hh : HeapFrom h2 n 0) :
    (h2.take n).length + 1 = h.length ∧ HeapFrom (h2.take n) (h2.take n).length 0 ∧ (∀ r, r ∈ h2.take n → ∃ k, 1 ≤ k ∧ k < h.length ∧ r = h.getD k run0) ∧ (∀ k, 1 ≤ k → k < h.length → h.getD k run0 ∈ h2.take n) ∧ (Dis h.length h → Dis (h2.take n).length (h2.take n)) := by
  have hl : h2.length = n + 1 := by rw [hs.len, swap_len, hn]
  have ht : (h2.take n).length = n := by rw [List.length_take, hl]; omega
  have g : ∀ k, k < h.length → (swapR h 0 n).getD k run0 = if k = n then h.getD 0 run0 else if k = 0 then h.getD n run0 else h.getD k run0 := fun k hk => swap_getD h 0 n k (by omega) (by omega) hk
  refine ⟨by omega, fun j h1 h2' h3 => ?_, fun r hr => ?_, fun k h1 h2' => ?_, fun hd => ?_⟩
  · rw [ht] at h2'
    rw [take_getD h2', take_getD (by omega)]
    exact hh j h1 h2' h3
  · obtain ⟨j, hj, rfl⟩ := memR_get hr
    rw [ht] at hj
    rw [take_getD hj]
    obtain ⟨k, hk, e⟩ := hs.fwd j hj
    rw [g k (by omega), if_neg (by omega)] at e
    by_cases k0 : k = 0
    · rw [if_pos k0] at e; exact ⟨n, by omega, by omega, e⟩
    · rw [if_neg k0] at e; exact ⟨k, by omega, by omega, e⟩
  · have key : ∃ j, j < n ∧ (swapR h 0 n).getD j run0 = h.getD k run0 := by
      by_cases e : k = n
      · exact ⟨0, by omega, by rw [g 0 (by omega), if_neg (by omega), if_pos rfl, e]⟩
      · exact ⟨k, by omega, by rw [g k h2', if_neg e, if_neg (by omega)]⟩
    obtain ⟨j, hj, e⟩ := key
    obtain ⟨m, hm, e2⟩ := hs.bwd j hj
    rw [← e, ← e2, ← take_getD hm]
    exact getR_mem (by omega)
  · have hd1 : Dis h.length (swapR h 0 n) := (same_swap (n := h.length) (Nat.le_refl _) (by omega) (by omega)).dis hd
    have hd2 : Dis n h2 := hs.dis fun a b ha hb e => hd1 a b (by omega) (by omega) e
    intro a b ha hb e
    rw [ht] at ha hb
    rw [take_getD ha, take_getD hb] at e
    exact hd2 a b ha hb e

set_option maxHeartbeats 3200000 in
set_option maxRecDepth 100000 in
theorem hpop_any (w0 : World) (gb : Nat) (p : Option Addr) (d : Nat) (h : List Run) (W : World) (hst : HST w0 gb p d h W) (hl : h.length ≤ 1000000000000) (h0 : 0 < h.length) (hh : HeapFrom h h.length 1) (hps : ∀ k, 1 ≤ k → k < h.length → 0 < (h.getD k run0).m) :
    Calls Tryz.prog 89 #[.iface 163 (.pointer (some ⟨gb, 0, none⟩))] W (PopR w0 gb p d h W) := by
  obtain ⟨P, hP⟩ : ∃ P, P = PopR w0 gb p d h W := ⟨_, rfl⟩
  rw [← hP]
  have HP := Lib.hid hP
  have HST0 := Lib.hid hst
  have HH := Lib.hid hh
  have HPS := Lib.hid hps
  clear hps
  obtain ⟨n, hn⟩ : ∃ n, h.length = n + 1 := ⟨h.length - 1, by omega⟩
  have HN := Lib.hid hn
  have hm := fun k => meth_len W gb _ hst.box.cell k
  clear hst hh hP h0 hn
  go_enter Tryz.func89, Tryz.ntmps89
  go_wp2_with fail
  refine (len_any _ _ _ _).mono ?_
  rintro e w2 ⟨rfl, rfl⟩
  clear hm
  have hm := fun k => meth_swap W gb _ HST0.out.box.cell k
  go_wp2_with fail
  refine (HST0.out.swap hl _ _ 0 n rfl (by have := HN.out; omega) (by have := HN.out; omega) (by have := HN.out; omega)).mono ?_
  rintro e w2 ⟨⟨v, rfl⟩, hs2, hk2⟩
  have HS2 := Lib.hid hs2
  have HK2 := Lib.hid hk2
  have hl2 := swap_len h 0 n
  have HL2 := Lib.hid hl2
  clear hm hs2 hk2 hl2
  have HH2 : Hid (HeapFrom (swapR h 0 n) n (0 + 1)) := fun j h1 h2 h3 => by
    have hN := HN.out
    rw [swap_getD h 0 n j (by omega) (by omega) (by omega), swap_getD h 0 n _ (by omega) (by omega) (by omega), if_neg (by omega), if_neg (by omega), if_neg (by omega), if_neg (by omega)]
    exact HH.out j h1 (by omega) h3
  have HPS2 : Hid (Pos n (swapR h 0 n)) := fun j hj => by
    have hN := HN.out
    rw [swap_getD h 0 n j (by omega) (by omega) (by omega), if_neg (by omega)]
    by_cases e : j = 0
    · rw [if_pos e]; exact HPS.out n (by omega) (by omega)
    · rw [if_neg e]; exact HPS.out j (by omega) (by omega)
  have HX := Lib.hid (show ((h.length : Int) - 1) = ((n : Nat) : Int) by have := HN.out; omega)
  clear HH
  go_wp2_with fail
  rw [HX.out]
  refine (down_any w0 gb p d (swapR h 0 n) w2 HS2.out 0 n (by have := HN.out; have := HL2.out; omega) (by have := HL2.out; omega) (by omega) HH2.out HPS2.out).mono ?_
  rintro e w3 ⟨h2, bl, rfl, hs3, hsm3, hhp3, hb3, hk3⟩
  have HS3 := Lib.hid hs3
  have HSM := Lib.hid hsm3
  have HHP := Lib.hid hhp3
  have HK3 := Lib.hid (HK2.out.trans hk3)
  have HL3 := Lib.hid (hsm3.len.trans (HL2.out.trans HN.out))
  clear hs3 hsm3 hhp3 hb3 hk3 HH2 HS2 HK2
  have hm := fun k => meth_pop w3 ⟨gb, 0, none⟩ k
  go_wp2_with fail
  refine (rpop_any w0 gb p d h2 w3 HS3.out (by have := HL3.out; have := HN.out; omega) (by have := HL3.out; omega)).mono ?_
  rintro e w4 ⟨⟨v2, rfl⟩, hs4, hk4⟩
  rw [show h2.length - 1 = n from by have := HL3.out; omega] at hs4
  have HS4 := Lib.hid hs4
  have HK4 := Lib.hid ((HK3.out.mono (us := [161, 159]) (by simp)).trans (hk4.mono (us := [161, 159]) (by simp)))
  clear hs4 hk4 hm
  go_wp2_with fail
  rw [HP.out]
  obtain ⟨p1, p2, p3, p4, p5⟩ := pop_plain HN.out HSM.out HHP.out
  exact ⟨⟨_, rfl⟩, h2.take n, HS4.out, p1, p2, p3, p4, p5, HK4.out⟩
end Go.Proofs.YtpihmjdljbienaaGreatDoor.Mg
