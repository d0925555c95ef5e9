/- Several texts in one: MrgS2, MrgD. -/
import Derived.Test.YtpihmjdljbienaaGreatDoorMrgH
import Derived.Test.YtpihmjdljbienaaGreatDoorGb
import Derived.Test.YtpihmjdljbienaaGreatDoorGi
import Derived.Laws.OwnMore
import Derived.BigRegion
/- The walk of the exchange of two runs. -/
namespace Go.Proofs.YtpihmjdljbienaaGreatDoor.Mg
open Ew
open Go.RowKit
open En B
set_option linter.unusedVariables false

def set2 (w : World) (g k : Nat) (r : Run) : World := (w.setCell ⟨g, k, none⟩ (.slice r.a r.m r.c)).setCell ⟨g, k + 1, none⟩ (.int .i64 r.idx)
theorem own_set2 {w : World} {B n g cap : Nat} {e : TypeId} {h : List Run} (ho : w.ownsRow B e 2 (.slice (some ⟨g, 0, none⟩) n cap) n (rcells h)) (i : Nat) (hi : i < h.length) (r : Run) :
    (set2 w g (i * 2) r).ownsRow B e 2 (.slice (some ⟨g, 0, none⟩) n cap) n (rcells (h.set i r)) := by
  have h1 := (ho.stored (i * 2) (.slice r.a r.m r.c)).1
  have h2 := (h1.stored (i * 2 + 1) (.int .i64 r.idx)).1
  rw [rcells_set h i r hi] at h2
  exact h2
theorem only_set2 {w a : World} {g : Nat} (h : Only g w a) (k : Nat) (r : Run) : Only g w (set2 a g k r) := (h.set _ _).set _ _

set_option maxHeartbeats 3200000 in
set_option maxRecDepth 100000 in
theorem swap_any (g n cap B : Nat) (h : List Run) (hn : n ≤ 9223372036854775807) (w : World) (ho : w.ownsRow B 161 2 (.slice (some ⟨g, 0, none⟩) n cap) n (rcells h)) (i k : Nat) (hi : i < n) (hk : k < n) :
    Calls Tryz.prog 196 #[.slice (some ⟨g, 0, none⟩) n cap, .int .i64 i, .int .i64 k] w fun e w' => (∃ v, e = .returned v) ∧ w'.ownsRow B 161 2 (.slice (some ⟨g, 0, none⟩) n cap) n (rcells (swapR h i k)) ∧ Only g w w' := by
  obtain ⟨_, hnl, hr⟩ := own_rrow ho
  have cellsOf : ∀ {W : World} {h' : List Run}, W.ownsRow B 161 2 (.slice (some ⟨g, 0, none⟩) n cap) n (rcells h') → ∀ j, j < n → W.cell? ⟨g, j * 2, none⟩ = some (.slice (h'.getD j run0).a (h'.getD j run0).m (h'.getD j run0).c) ∧ W.cell? ⟨g, j * 2 + 1, none⟩ = some (.int .i64 (h'.getD j run0).idx) := fun {W h'} ho' j hj => by
    obtain ⟨_, _, hr'⟩ := own_rrow ho'
    obtain ⟨b, off, hb0, hb, hc⟩ := hr'.at (by omega)
    cases hb0
    have := hc j hj
    simp only [Nat.zero_add] at this
    exact this
  obtain ⟨q0, q1⟩ := cellsOf ho i hi
  obtain ⟨p0, p1⟩ := cellsOf ho k hk
  obtain ⟨xi, hxi⟩ : ∃ x, x = h.getD i run0 := ⟨_, rfl⟩
  obtain ⟨xk, hxk⟩ : ∃ x, x = h.getD k run0 := ⟨_, rfl⟩
  have hsw := Lib.hid (show swapR h i k = (h.set i xk).set k xi by unfold swapR; rw [hxi, hxk])
  rw [← hxi] at q0 q1
  rw [← hxk] at p0 p1
  have ho1 := own_set2 ho i (by omega) xk
  have ho2 := own_set2 ho k (by omega) xi
  obtain ⟨r0, r1⟩ := cellsOf ho1 k hk
  obtain ⟨s0, s1⟩ := cellsOf ho2 i hi
  have HO1 := Lib.hid ho1
  have z0 := ho.frozenAt (i * 2)
  have z1 := ho.frozenAt (i * 2 + 1)
  have z2 := ho.frozenAt (k * 2)
  have z3 := ho.frozenAt (k * 2 + 1)
  have y0 := ho1.frozenAt (k * 2)
  have y1 := ho1.frozenAt (k * 2 + 1)
  have y2 := ho2.frozenAt (i * 2)
  have y3 := ho2.frozenAt (i * 2 + 1)
  have hlen := Lib.hid (show (h.set i xk).length = n by rw [List.length_set]; exact hnl.symm)
  obtain ⟨ai, mi, ci, di, Li⟩ := xi
  obtain ⟨ak, mk, ck, dk, Lk⟩ := xk
  unfold set2 at r0 r1 s0 s1 y0 y1 y2 y3
  simp only at q0 q1 p0 p1 r0 r1 s0 s1 y0 y1 y2 y3
  generalize ((h.set i ⟨ak, mk, ck, dk, Lk⟩).getD k run0).a = v1 at r0
  generalize ((h.set i ⟨ak, mk, ck, dk, Lk⟩).getD k run0).m = v2 at r0
  generalize ((h.set i ⟨ak, mk, ck, dk, Lk⟩).getD k run0).c = v3 at r0
  generalize ((h.set i ⟨ak, mk, ck, dk, Lk⟩).getD k run0).idx = v4 at r1
  generalize ((h.set k ⟨ai, mi, ci, di, Li⟩).getD i run0).a = u1 at s0
  generalize ((h.set k ⟨ai, mi, ci, di, Li⟩).getD i run0).m = u2 at s0
  generalize ((h.set k ⟨ai, mi, ci, di, Li⟩).getD i run0).c = u3 at s0
  generalize ((h.set k ⟨ai, mi, ci, di, Li⟩).getD i run0).idx = u4 at s1
  have i1 : (0 : Int) ≤ (i : Int) := by omega
  have i2 : (i : Int) < (n : Int) := by omega
  have k1 : (0 : Int) ≤ (k : Int) := by omega
  have k2 : (k : Int) < (n : Int) := by omega
  clear cellsOf hr ho hnl hxi hxk ho1 ho2
  go_enter Tryz.func196, Tryz.ntmps196
  go_wp2_with fail
  go_region
  have ho3 := own_set2 HO1.out k (by rw [hlen.out]; exact hk) ⟨ai, mi, ci, di, Li⟩
  rw [← hsw.out] at ho3
  have HO3 := Lib.hid ho3
  have hon := Lib.hid (only_set2 (only_set2 (Only.refl g w) (i * 2) ⟨ak, mk, ck, dk, Lk⟩) (k * 2) ⟨ai, mi, ci, di, Li⟩)
  clear ho3 r0 r1 s0 s1 z0 z1 z2 z3 y0 y1 y2 y3 q0 q1 p0 p1
  go_wp2_with fail
  go_end0
  exact ⟨⟨_, rfl⟩, own_drew HO3.out, hon.out.drew⟩
end Go.Proofs.YtpihmjdljbienaaGreatDoor.Mg

/- The walks of the heap: down, Fix, Init, Pop. -/
namespace Go.Proofs.YtpihmjdljbienaaGreatDoor.Mg
open Ew
open Go.RowKit
open En B
set_option linter.unusedVariables false

/-- a run's entries, if any, lie where it says -/
structure VRow (w : World) (r : Run) : Prop where
  len : r.L.length = r.m
  cap : r.m ≤ r.c
  row : ERow w r.a r.m (fun i => r.L.getD i ent0)
/-- the first n are not empty -/
def Pos (n : Nat) (h : List Run) : Prop := ∀ j, j < n → 0 < (h.getD j run0).m
theorem same_pos {n : Nat} {h h' : List Run} (s : Same n h h') (p : Pos n h) : Pos n h' := fun j hj => by
  obtain ⟨k, hk, e⟩ := s.fwd j hj
  rw [e]; exact p k hk
/-- the heap in memory: the variable, its row, the runs; what lay below w0's end is as it was -/
structure HST (w0 : World) (gb : Nat) (p : Option Addr) (d : Nat) (h : List Run) (W : World) : Prop where
  bel : Below w0.heap.size w0 W
  far : w0.heap.size ≤ gb
  box : Cell1 W gb 159 (.slice p h.length d)
  own : W.ownsRow w0.heap.size 161 2 (.slice p h.length d) h.length (rcells h)
  val : ∀ r ∈ h, VRow w0 r
theorem VRow.run {w w' : World} {r : Run} (h : VRow w r) (k : Below w.heap.size w w') (h0 : 0 < r.m) : VRun w' r := ⟨h.len, h.cap, h0, h.row.below k⟩
theorem HST.below {w0 W W' : World} {gb d : Nat} {p : Option Addr} {h : List Run} (s : HST w0 gb p d h W) (k : Below W.heap.size W W') : HST w0 gb p d h W' := ⟨chain s.bel k, s.far, s.box.below k, own_below s.own k, s.val⟩
theorem HST.row {w0 W : World} {gb d : Nat} {p : Option Addr} {h : List Run} (s : HST w0 gb p d h W) (h0 : 0 < h.length) : ∃ g, p = some ⟨g, 0, none⟩ ∧ w0.heap.size ≤ g ∧ g ≠ gb ∧ ∃ cs fr, W.heap[g]? = some (.cells cs 161 fr) := by
  rcases s.own.2 with ⟨hv, h1⟩ | ⟨g, cap, cur, hv, hB, hg, _⟩
  · omega
  · cases hv
    refine ⟨g, rfl, hB, fun e => ?_, _, _, hg⟩
    have hb := s.box
    unfold Cell1 at hb
    rw [e, hb] at hg
    simp at hg
theorem HST.less {w0 W : World} {gb d : Nat} {p : Option Addr} {h : List Run} (s : HST w0 gb p d h W) (hl : h.length ≤ 1000000000000) (x y : Int) (i k : Nat) (ex : x = i) (ey : y = k) (hi : i < h.length) (hk : k < h.length) (pi : 0 < (h.getD i run0).m) (pk : 0 < (h.getD k run0).m) :
    Calls Tryz.prog 195 #[.slice p h.length d, .int .i64 x, .int .i64 y] W fun e w' => e = .returned (.bool (ltR (h.getD i run0) (h.getD k run0))) ∧ HST w0 gb p d h w' ∧ Below W.heap.size W w' := by
  subst ex ey
  refine (rless_runs p h.length d (fun j => h.getD j run0) W (own_rrow s.own).2.2 (by omega) i k hi hk ((s.val _ (getR_mem hi)).run s.bel pi) ((s.val _ (getR_mem hk)).run s.bel pk)).mono ?_
  rintro e w2 ⟨rfl, hb⟩
  exact ⟨rfl, s.below hb, hb⟩
theorem HST.turned {w0 W W' : World} {gb d g : Nat} {h h' : List Run} (s : HST w0 gb (some ⟨g, 0, none⟩) d h W) (h0 : 0 < h.length) (hl : h'.length = h.length)
    (ho : W'.ownsRow w0.heap.size 161 2 (.slice (some ⟨g, 0, none⟩) h.length d) h.length (rcells h')) (hon : Only g W W') (hv : ∀ r ∈ h', VRow w0 r) : HST w0 gb (some ⟨g, 0, none⟩) d h' W' ∧ Keeps [161] W W' := by
  obtain ⟨g', hg', hB, hne, cs, fr, hblk⟩ := s.row h0
  cases hg'
  refine ⟨⟨Only.below s.bel hon hB s.bel.size, s.far, ?_, ?_, hv⟩, Keeps.grown s.own (by simp) hon⟩
  · rw [hl]; exact s.box.only hon (fun e => hne e.symm)
  · rw [hl]; exact ho
theorem mem_swap {h : List Run} {i k : Nat} (hi : i < h.length) (hk : k < h.length) {r : Run} (hr : r ∈ swapR h i k) : r ∈ h := by
  obtain ⟨j, hj, rfl⟩ := memR_get hr
  rw [swap_len] at hj
  rw [swap_getD h i k j hi hk hj]
  split
  · exact getR_mem hi
  · split
    · exact getR_mem hk
    · exact getR_mem hj
theorem HST.swap {w0 W : World} {gb d : Nat} {p : Option Addr} {h : List Run} (s : HST w0 gb p d h W) (hl : h.length ≤ 1000000000000) (x y : Int) (i k : Nat) (ex : x = i) (ey : y = k) (hi : i < h.length) (hk : k < h.length) :
    Calls Tryz.prog 196 #[.slice p h.length d, .int .i64 x, .int .i64 y] W fun e w' => (∃ v, e = .returned v) ∧ HST w0 gb p d (swapR h i k) w' ∧ Keeps [161] W w' := by
  subst ex ey
  obtain ⟨g, rfl, _⟩ := s.row (by omega)
  refine (swap_any g h.length d w0.heap.size h (by omega) W s.own i k hi hk).mono ?_
  rintro e w2 ⟨he, ho, hon⟩
  exact ⟨he, s.turned (by omega) (swap_len h i k) ho hon (fun r hr => s.val r (mem_swap hi hk hr))⟩

def DownR (w0 : World) (gb : Nat) (p : Option Addr) (d n i0 : Nat) (h : List Run) (W : World) (e : Ending) (W' : World) : Prop :=
  ∃ (h' : List Run) (bl : Bool), e = .returned (.bool bl) ∧ HST w0 gb p d h' W' ∧ Same n h h' ∧ HeapFrom h' n i0 ∧ (bl = false → h' = h) ∧ Keeps [161] W W'

set_option maxHeartbeats 6400000 in
set_option maxRecDepth 100000 in
theorem down_any (w0 : World) (gb : Nat) (p : Option Addr) (d : Nat) (h : List Run) (W : World) (hst : HST w0 gb p d h W) (i0 n : Nat) (hn : n ≤ h.length) (hl : h.length ≤ 1000000000000) (hi0 : i0 ≤ 1000000000000) (hh : HeapFrom h n (i0 + 1)) (hps : Pos n h) :
    Calls Tryz.prog 136 #[.iface 163 (.pointer (some ⟨gb, 0, none⟩)), .int .i64 i0, .int .i64 n] W (DownR w0 gb p d n i0 h W) := by
  obtain ⟨P, hP⟩ : ∃ P, P = DownR w0 gb p d n i0 h W := ⟨_, rfl⟩
  rw [← hP]
  have HP := Lib.hid hP
  have HST0 := Lib.hid hst
  have HH := Lib.hid hh
  have HPS := Lib.hid hps
  clear hst hh hP hps
  go_enter Tryz.func136, Tryz.ntmps136
  go_wp2_with fail
  go_loopw [7] (fun si wr => ∃ (i : Nat) (h' : List Run), si = .int .i64 i ∧ i ≤ 1000000000000 ∧ Hid (Hole h' n i0 i) ∧ Hid (HST w0 gb p d h' wr) ∧ Hid (Same n h h') ∧ Hid (i = i0 → h' = h) ∧ Hid (Keeps [161] W wr)) (fun si _ => n - (intOf si).toNat)
  case atStart => exact ⟨i0, h, rfl, by omega, hole_0 HH.out, HST0.out, same_refl _ _, (fun _ => rfl), Keeps.refl _ _⟩
  case round =>
    obtain ⟨i, h', rfl, hi, hho, hst, hsm, heq, hkp⟩ := hrel
    clear HST0 HH
    have hp2 := Lib.hid (same_pos hsm.out HPS.out)
    have hlen := hsm.out.len
    have hln : h'.length ≤ 1000000000000 := by omega
    have hnl : n ≤ h'.length := by omega
    have HLN := Lib.hid hlen
    clear hlen
    by_cases h1 : n ≤ 2 * i + 1
    · have d1 : decide ((n : Int) ≤ 2 * (i : Int) + 1) = true := dt (by omega)
      have d1' : (n : Int) ≤ 2 * (i : Int) + 1 := by omega
      go_wp2_with fail
      rw [HP.out]
      have hge := hho.out.ge
      exact ⟨h', decide (i0 < i), rfl, hst.out, hsm.out, hole_leaf hho.out h1, (fun hb => heq.out (by simp at hb; omega)), hkp.out⟩
    · have t1 : ¬ (n : Int) ≤ 2 * (i : Int) + 1 := by omega
      have t2 : ¬ 2 * (i : Int) + 1 < 0 := by omega
      have hge := hho.out.ge
      have hm := fun k => meth_less wr gb _ hst.out.box.cell k
      by_cases h2 : 2 * i + 2 < n
      · have t3 : 2 * (i : Int) + 1 + 1 < (n : Int) := by omega
        go_wp2_with fail
        refine (hst.out.less hln _ _ (2 * i + 2) (2 * i + 1) (by omega) (by omega) (by omega) (by omega) (hp2.out _ (by omega)) (hp2.out _ (by omega))).mono ?_
        rintro e w2 ⟨rfl, hs2, hb2⟩
        have HS2 := Lib.hid hs2
        have HK2 := Lib.hid (hkp.out.trans (Keeps.below hb2))
        clear hm hst hkp hb2
        have hm := fun k => meth_less w2 gb _ hs2.box.cell k
        clear hs2
        obtain ⟨b1, hb1⟩ : ∃ b, b = ltR (h'.getD (2 * i + 2) run0) (h'.getD (2 * i + 1) run0) := ⟨_, rfl⟩
        rw [← hb1]
        have HB1 := Lib.hid hb1
        clear hb1
        cases b1 with
        | true =>
          go_wp2_with fail
          refine (HS2.out.less hln _ _ (2 * i + 2) i (by omega) (by omega) (by omega) (by omega) (hp2.out _ (by omega)) (hp2.out _ (by omega))).mono ?_
          rintro e w3 ⟨rfl, hs3, hb3⟩
          have HS3 := Lib.hid hs3
          have HK3 := Lib.hid (HK2.out.trans (Keeps.below hb3))
          clear hm hb3
          have hm := fun k => meth_swap w3 gb _ hs3.box.cell k
          clear hs3
          have hsm2 : ∀ c, c < n → (c = 2 * i + 1 ∨ c = 2 * i + 2) → ltR (h'.getD c run0) (h'.getD (2 * i + 2) run0) = false := fun c hc he => by
            rcases he with rfl | rfl
            · exact ltR_asymm HB1.out.symm
            · exact ltR_irrefl _
          have HSM2 := Lib.hid hsm2
          clear hsm2
          obtain ⟨b2, hb2⟩ : ∃ b, b = ltR (h'.getD (2 * i + 2) run0) (h'.getD i run0) := ⟨_, rfl⟩
          rw [← hb2]
          have HB2 := Lib.hid hb2
          clear hb2
          cases b2 with
          | true =>
            go_wp2_with fail
            refine (HS3.out.swap hln _ _ i (2 * i + 2) (by omega) (by omega) (by omega) (by omega)).mono ?_
            rintro e w4 ⟨⟨v, rfl⟩, hs4, hk4⟩
            have HS4 := Lib.hid hs4
            have HK4 := Lib.hid (HK3.out.trans hk4)
            clear hm hs4 hk4
            go_wp2_with fail
            go_roundw
            case rel => exact ⟨2 * i + 2, swapR h' i (2 * i + 2), by go_num, by omega, hole_down hnl hho.out (by omega) (by omega) HSM2.out HB2.out.symm, HS4.out, hsm.out.trans (same_swap hnl (by omega) (by omega)), (fun he => by omega), HK4.out⟩
            case measure => simp [intOf]; omega
          | false =>
            go_wp2_with fail
            rw [HP.out]
            exact ⟨h', decide (i0 < i), rfl, HS3.out, hsm.out, hole_stop hho.out (j := 2 * i + 2) (by omega) (by omega) HSM2.out HB2.out.symm, (fun hb => heq.out (by simp at hb; omega)), HK3.out⟩
        | false =>
          go_wp2_with fail
          refine (HS2.out.less hln _ _ (2 * i + 1) i (by omega) (by omega) (by omega) (by omega) (hp2.out _ (by omega)) (hp2.out _ (by omega))).mono ?_
          rintro e w3 ⟨rfl, hs3, hb3⟩
          have HS3 := Lib.hid hs3
          have HK3 := Lib.hid (HK2.out.trans (Keeps.below hb3))
          clear hm hb3
          have hm := fun k => meth_swap w3 gb _ hs3.box.cell k
          clear hs3
          have hsm2 : ∀ c, c < n → (c = 2 * i + 1 ∨ c = 2 * i + 2) → ltR (h'.getD c run0) (h'.getD (2 * i + 1) run0) = false := fun c hc he => by
            rcases he with rfl | rfl
            · exact ltR_irrefl _
            · exact HB1.out.symm
          have HSM2 := Lib.hid hsm2
          clear hsm2
          obtain ⟨b2, hb2⟩ : ∃ b, b = ltR (h'.getD (2 * i + 1) run0) (h'.getD i run0) := ⟨_, rfl⟩
          rw [← hb2]
          have HB2 := Lib.hid hb2
          clear hb2
          cases b2 with
          | true =>
            go_wp2_with fail
            refine (HS3.out.swap hln _ _ i (2 * i + 1) (by omega) (by omega) (by omega) (by omega)).mono ?_
            rintro e w4 ⟨⟨v, rfl⟩, hs4, hk4⟩
            have HS4 := Lib.hid hs4
            have HK4 := Lib.hid (HK3.out.trans hk4)
            clear hm hs4 hk4
            go_wp2_with fail
            go_roundw
            case rel => exact ⟨2 * i + 1, swapR h' i (2 * i + 1), by go_num, by omega, hole_down hnl hho.out (by omega) (by omega) HSM2.out HB2.out.symm, HS4.out, hsm.out.trans (same_swap hnl (by omega) (by omega)), (fun he => by omega), HK4.out⟩
            case measure => simp [intOf]; omega
          | false =>
            go_wp2_with fail
            rw [HP.out]
            exact ⟨h', decide (i0 < i), rfl, HS3.out, hsm.out, hole_stop hho.out (j := 2 * i + 1) (by omega) (by omega) HSM2.out HB2.out.symm, (fun hb => heq.out (by simp at hb; omega)), HK3.out⟩
      · have t3 : ¬ 2 * (i : Int) + 1 + 1 < (n : Int) := by omega
        go_wp2_with fail
        refine (hst.out.less hln _ _ (2 * i + 1) i (by omega) (by omega) (by omega) (by omega) (hp2.out _ (by omega)) (hp2.out _ (by omega))).mono ?_
        rintro e w3 ⟨rfl, hs3, hb3⟩
        have HS3 := Lib.hid hs3
        have HK3 := Lib.hid (hkp.out.trans (Keeps.below hb3))
        clear hm hb3
        have hm := fun k => meth_swap w3 gb _ hs3.box.cell k
        clear hs3
        have hsm2 : ∀ c, c < n → (c = 2 * i + 1 ∨ c = 2 * i + 2) → ltR (h'.getD c run0) (h'.getD (2 * i + 1) run0) = false := fun c hc he => by
          rcases he with rfl | rfl
          · exact ltR_irrefl _
          · omega
        have HSM2 := Lib.hid hsm2
        clear hsm2
        obtain ⟨b2, hb2⟩ : ∃ b, b = ltR (h'.getD (2 * i + 1) run0) (h'.getD i run0) := ⟨_, rfl⟩
        rw [← hb2]
        have HB2 := Lib.hid hb2
        clear hb2
        cases b2 with
        | true =>
          go_wp2_with fail
          refine (HS3.out.swap hln _ _ i (2 * i + 1) (by omega) (by omega) (by omega) (by omega)).mono ?_
          rintro e w4 ⟨⟨v, rfl⟩, hs4, hk4⟩
          have HS4 := Lib.hid hs4
          have HK4 := Lib.hid (HK3.out.trans hk4)
          clear hm hs4 hk4
          go_wp2_with fail
          go_roundw
          case rel => exact ⟨2 * i + 1, swapR h' i (2 * i + 1), by go_num, by omega, hole_down hnl hho.out (by omega) (by omega) HSM2.out HB2.out.symm, HS4.out, hsm.out.trans (same_swap hnl (by omega) (by omega)), (fun he => by omega), HK4.out⟩
          case measure => simp [intOf]; omega
        | false =>
          go_wp2_with fail
          rw [HP.out]
          exact ⟨h', decide (i0 < i), rfl, HS3.out, hsm.out, hole_stop hho.out (j := 2 * i + 1) (by omega) (by omega) HSM2.out HB2.out.symm, (fun hb => heq.out (by simp at hb; omega)), HK3.out⟩
end Go.Proofs.YtpihmjdljbienaaGreatDoor.Mg
