/- The walks of Get, Len, Size, From. -/
import Derived.Test.YtdhnkalkfipmhaaSkipW
import Derived.Test.YtdhnkalkfipmhaaFindG
namespace Go.Proofs.Ytdhnkalkfipmhaa.Ew
open Go.RowKit
open En B
set_option linter.unusedVariables false

def GotS (w : World) (r : Ent × Bool) (e : Ending) (w' : World) : Prop :=
  e = .returned (.tuple #[r.1.v, .bool r.2]) ∧ Below w.heap.size w w'
theorem sget_exit {w W : World} {T : Array Value} {r : Ent × Bool} (h6 : T.getD 6 undef = .pointer (some ⟨w.heap.size, 0, none⟩)) (h7 : T.getD 7 undef = .bool r.2)
    (hE : EBox W w.heap.size 36 r.1) (hB : Below w.heap.size w W) :
    bodyPost Try.prog Try.f21 (GotS w r) .ret { tmps := T, defers := [] } W := by
  obtain ⟨c0, c1, c2, c3, c4⟩ := hE.cells
  simp [Array.getD_eq_getD_getElem?] at h6 h7
  refine bodyPost_ret (v := .tuple #[r.1.v, .bool r.2]) ?_ rfl ⟨rfl, hB⟩
  simp [results, Try.results21, go_sem, c0, c1, c2, c3, c4, h6, h7, Ent.v]

set_option maxHeartbeats 1600000 in
set_option maxRecDepth 100000 in
theorem sget_any (w : World) (B lb : Nat) (z : List Int) (ns : List Nd) (size : Int) (hsk : SK w B lb z ns size) (hsrt : Sorted (ns.map Nd.e)) (key : ByteArray) (seq : Int) :
    Calls Try.prog 21 #[.pointer (some ⟨lb, 0, none⟩), .string key, .int .i64 seq] w (GotS w (foundE (ns.map Nd.e) key seq)) := by
  obtain ⟨r, hr⟩ : ∃ r, r = foundE (ns.map Nd.e) key seq := ⟨_, rfl⟩
  rw [← hr]
  have HR := Lib.hid hr
  have hc := cut_is (x := ⟨key, seq, false, ByteArray.empty, 0⟩) hsrt
  obtain ⟨m, hm⟩ : ∃ m, m = lessN ⟨key, seq, false, ByteArray.empty, 0⟩ (ns.map Nd.e) := ⟨_, rfl⟩
  rw [← hm] at hc
  have HC := Lib.hid hc
  have HSO := Lib.hid hsrt
  have hB0 := below_alloc (Below.refl w.heap.size w) (.cells #[.string ⟨#[]⟩, .int .i64 0, .bool false, .string ⟨#[]⟩, .int .i64 0] 36)
  have hE0 : EBox (w.alloc (.cells #[.string ⟨#[]⟩, .int .i64 0, .bool false, .string ⟨#[]⟩, .int .i64 0] 36)) w.heap.size 36 ent0 := EBox.new w 36 ent0
  obtain ⟨ha, ca, cc, hlb, hLB, hTW, _⟩ := hsk.below hB0
  have HAH := Lib.hid (ahead_any _ B lb z.length cc ha ca ns.length size ns hLB hTW key seq false ByteArray.empty 0 m hc)
  obtain ⟨A, hA⟩ : ∃ A : Nat → Addr, A = fun f => posA lb ns (lastIx ns f m) := ⟨_, rfl⟩
  have hPA : ∀ f, PA lb ns m f = .pointer (some (A f)) := fun f => by rw [hA]; rfl
  have hml : m ≤ ns.length := hc.1
  have hA0 : A 0 = posA lb ns m := by rw [hA]; show posA lb ns (lastIx ns 0 m) = _; rw [lastIx_0 (fun i hi => (hTW.hs i hi).1) hml]
  simp only [hPA] at HAH
  have HLB := Lib.hid hLB
  have HTW := Lib.hid hTW
  have HE0 := Lib.hid hE0
  have HA0 := Lib.hid hA0
  have hix : ∀ W : World, (Instr.index 94 (.agg #[.pointer (some (A 0)), .pointer (some (A 1)), .pointer (some (A 2)), .pointer (some (A 3)), .pointer (some (A 4)), .pointer (some (A 5)), .pointer (some (A 6)), .pointer (some (A 7))]) (.int .i64 0)).run Try.prog W = .ok (.pointer (some (A 0))) W := fun _ => by kernel_rfl
  clear hr hc hsk hsrt hm hA hPA hLB hTW hE0 hA0
  go_enter Try.func21, Try.ntmps21
  go_wp2_with fail
  generalize hW : World.alloc _ _ = W0
  rw [hW] at hB0 HLB HTW HE0 HAH
  clear hW
  refine HAH.out.mono ?_
  rintro e w1 ⟨rfl, hb1⟩
  have hB1 := chain hB0 hb1
  have HL1 := Lib.hid (HLB.out.below hb1)
  have HT1 := Lib.hid (HTW.out.below hb1)
  have HE1 := Lib.hid (HE0.out.below hb1)
  clear hb1 hB0 HLB HTW HE0 HAH
  have hcell := place' HL1.out HT1.out hml
  have hcv := (HT1.out.arrs m hml).cell (f := 0) (hP_pos HT1.out hml).1
  rw [← HA0.out] at hcell
  unfold VN at hcv
  rw [next_0 (fun i hi => (HT1.out.hs i hi).1)] at hcv
  have d2 : (0 : Int) < (hP ns m : Int) := by have := (hP_pos HT1.out hml).1; omega
  obtain ⟨q0, q1, q2, q3, q4⟩ := HE1.out.cells
  obtain ⟨z0, z2, z3, z4, z5⟩ : _ ∧ _ ∧ _ ∧ _ ∧ _ := ⟨HE1.out.fz 0, HE1.out.fz 1, HE1.out.fz 2, HE1.out.fz 3, HE1.out.fz 4⟩
  simp only [ent0] at q0 q1 q2 q3 q4
  have hlen : (ns.map Nd.e).length = ns.length := by simp
  by_cases hmn : m < ns.length
  · rw [if_pos hmn] at hcv
    simp only [ptrV] at hcv
    have hnd := HT1.out.nodes m hmn
    have hlo := Lib.hid (fun k (hk : k < m) => (show lessE ((ns.map Nd.e).getD k ent0) ⟨key, seq, false, ByteArray.empty, 0⟩ = true by rw [map_getD ns k (by omega)]; exact HC.out.2.1 k hk))
    have hat := Lib.hid (show lessE ((ns.map Nd.e).getD m ent0) ⟨key, seq, false, ByteArray.empty, 0⟩ = false by rw [map_getD ns m hmn]; exact HC.out.2.2 m (Nat.le_refl _) hmn)
    have hge := Lib.hid (map_getD ns m hmn)
    generalize ns.getD m nd0 = x at hcv hnd hge
    obtain ⟨n0, n1, n2, n3, n4⟩ := nd_cells hnd
    clear hnd
    obtain ⟨xb, xa, xh, ⟨k1, q1, g1, v1, u1⟩⟩ := x
    simp only at n0 n1 n2 n3 n4 hge hcv
    by_cases hk : k1 = key
    · have hr2 := Lib.hid (show r = (⟨k1, q1, g1, v1, u1⟩, true) by rw [HR.out, found_here (g := false) (v := ByteArray.empty) (u := 0) m (by omega) hlo.out hat.out (by rw [hge.out]; exact hk), hge.out])
      subst hk
      go_wp2_with fail
      rw [hr2.out]
      exact sget_exit rfl rfl (HE1.out.set5 ⟨k1, q1, g1, v1, u1⟩) (below_set5 hB1 (Nat.le_refl _) ⟨k1, q1, g1, v1, u1⟩)
    · have hr2 := Lib.hid (show r = (ent0, false) by rw [HR.out, found_not (g := false) (v := ByteArray.empty) (u := 0) HSO.out m (fun k h1 h2 => hlo.out k h1) (fun h => ⟨hat.out, by rw [hge.out]; exact hk⟩)])
      have hkk : (k1.toList == key.toList) = false := beq_eq_false_iff_ne.2 fun e => hk (toList_inj e)
      clear hk
      go_wp2_with fail
      rw [hr2.out]
      exact sget_exit rfl rfl (HE1.out.set5 ent0) (below_set5 hB1 (Nat.le_refl _) ent0)
  · rw [if_neg hmn] at hcv
    simp only [ptrV] at hcv
    have hr2 := Lib.hid (show r = (ent0, false) by rw [HR.out, found_not (g := false) (v := ByteArray.empty) (u := 0) HSO.out m (fun k h1 h2 => by rw [map_getD ns k (by omega)]; exact HC.out.2.1 k h1) (fun h => absurd h (by omega))])
    go_wp2_with fail
    rw [hr2.out]
    exact sget_exit rfl rfl (HE1.out.set5 ent0) (below_set5 hB1 (Nat.le_refl _) ent0)

set_option maxHeartbeats 400000 in
theorem len_any (w : World) (B lb : Nat) (z : List Int) (ns : List Nd) (size : Int) (hsk : SK w B lb z ns size) :
    Calls Try.prog 19 #[.pointer (some ⟨lb, 0, none⟩)] w fun e w' => e = .returned (.int .i64 ns.length) ∧ w = w' := by
  obtain ⟨ha, ca, cc, hlb, hLB, hTW, _⟩ := hsk
  have c7 := hLB.cells.2.2.1
  clear hLB hTW
  go_enter Try.func19, Try.ntmps19
  go_wp2_with fail
  go_ret
  exact ⟨rfl, rfl⟩
set_option maxHeartbeats 400000 in
theorem ssize_any (w : World) (B lb : Nat) (z : List Int) (ns : List Nd) (size : Int) (hsk : SK w B lb z ns size) :
    Calls Try.prog 20 #[.pointer (some ⟨lb, 0, none⟩)] w fun e w' => e = .returned (.int .i64 size) ∧ w = w' := by
  obtain ⟨ha, ca, cc, hlb, hLB, hTW, _⟩ := hsk
  have c8 := hLB.cells.2.2.2
  clear hLB hTW
  go_enter Try.func20, Try.ntmps20
  go_wp2_with fail
  go_ret
  exact ⟨rfl, rfl⟩
set_option maxHeartbeats 400000 in
theorem from_any (w : World) (lb : Nat) (key : ByteArray) :
    Calls Try.prog 42 #[.pointer (some ⟨lb, 0, none⟩), .string key] w fun e w' => (∃ a b, e = .returned (.func (.func 52) #[] #[.pointer (some ⟨a, 0, none⟩), .pointer (some ⟨b, 0, none⟩)])) ∧ Below w.heap.size w w' := by
  have hmf : ∀ (fn : Fn) (first cap : Array Value) (w : World), (Instr.makeFunc fn first cap).run Try.prog w = .ok (.func fn first cap) w := fun _ _ _ _ => rfl
  go_enter Try.func42, Try.ntmps42
  go_wp2_with fail
  go_ret
  exact ⟨⟨_, _, rfl⟩, below_alloc (below_alloc (Below.refl _ _) _) _⟩
end Go.Proofs.Ytdhnkalkfipmhaa.Ew
