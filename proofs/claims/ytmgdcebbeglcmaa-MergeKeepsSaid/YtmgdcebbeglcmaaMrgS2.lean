/- The walk of the exchange of two runs. -/
import Derived.Test.YtmgdcebbeglcmaaMrgH
import Derived.Test.YtmgdcebbeglcmaaOnly
import Derived.Test.YtmgdcebbeglcmaaMrgO
import Derived.Laws.OwnMore
import Derived.BigRegion
namespace Go.Proofs.Ytmgdcebbeglcmaa.Ew
open Go.RowKit
open En B
set_option linter.unusedVariables false

def set2 (w : World) (g k : Nat) (r : Run) : World := (w.setCell ⟨g, k, none⟩ (.slice r.a r.m r.c)).setCell ⟨g, k + 1, none⟩ (.int .i64 r.idx)
theorem own_set2 {w : World} {B n g cap : Nat} {e : TypeId} {h : List Run} (ho : w.ownsRow B e 2 (.slice (some ⟨g, 0, none⟩) n cap) n (rcells h)) (i : Nat) (hi : i < h.length) (r : Run) :
    (set2 w g (i * 2) r).ownsRow B e 2 (.slice (some ⟨g, 0, none⟩) n cap) n (rcells (h.set i r)) := by
  have h1 := (ho.stored (i * 2) (.slice r.a r.m r.c)).1
  have h2 := (h1.stored (i * 2 + 1) (.int .i64 r.idx)).1
  rw [rcells_set h i r hi] at h2
  exact h2
theorem only_set2 {w a : World} {g : Nat} (h : Only g w a) (k : Nat) (r : Run) : Only g w (set2 a g k r) := (h.set _ _).set _ _

set_option maxHeartbeats 3200000 in
set_option maxRecDepth 100000 in
theorem swap_any (g n cap B : Nat) (h : List Run) (hn : n ≤ 9223372036854775807) (w : World) (ho : w.ownsRow B 58 2 (.slice (some ⟨g, 0, none⟩) n cap) n (rcells h)) (i k : Nat) (hi : i < n) (hk : k < n) :
    Calls Try.prog 59 #[.slice (some ⟨g, 0, none⟩) n cap, .int .i64 i, .int .i64 k] w fun e w' => (∃ v, e = .returned v) ∧ w'.ownsRow B 58 2 (.slice (some ⟨g, 0, none⟩) n cap) n (rcells (swapR h i k)) ∧ Only g w w' := by
  obtain ⟨_, hnl, hr⟩ := own_rrow ho
  have cellsOf : ∀ {W : World} {h' : List Run}, W.ownsRow B 58 2 (.slice (some ⟨g, 0, none⟩) n cap) n (rcells h') → ∀ j, j < n → W.cell? ⟨g, j * 2, none⟩ = some (.slice (h'.getD j run0).a (h'.getD j run0).m (h'.getD j run0).c) ∧ W.cell? ⟨g, j * 2 + 1, none⟩ = some (.int .i64 (h'.getD j run0).idx) := fun {W h'} ho' j hj => by
    obtain ⟨_, _, hr'⟩ := own_rrow ho'
    obtain ⟨b, off, hb0, hb, hc⟩ := hr'.at (by omega)
    cases hb0
    have := hc j hj
    simp only [Nat.zero_add] at this
    exact this
  obtain ⟨q0, q1⟩ := cellsOf ho i hi
  obtain ⟨p0, p1⟩ := cellsOf ho k hk
  obtain ⟨xi, hxi⟩ : ∃ x, x = h.getD i run0 := ⟨_, rfl⟩
  obtain ⟨xk, hxk⟩ : ∃ x, x = h.getD k run0 := ⟨_, rfl⟩
  have hsw := Lib.hid (show swapR h i k = (h.set i xk).set k xi by unfold swapR; rw [hxi, hxk])
  rw [← hxi] at q0 q1
  rw [← hxk] at p0 p1
  have ho1 := own_set2 ho i (by omega) xk
  have ho2 := own_set2 ho k (by omega) xi
  obtain ⟨r0, r1⟩ := cellsOf ho1 k hk
  obtain ⟨s0, s1⟩ := cellsOf ho2 i hi
  have HO1 := Lib.hid ho1
  have z0 := ho.frozenAt (i * 2)
  have z1 := ho.frozenAt (i * 2 + 1)
  have z2 := ho.frozenAt (k * 2)
  have z3 := ho.frozenAt (k * 2 + 1)
  have y0 := ho1.frozenAt (k * 2)
  have y1 := ho1.frozenAt (k * 2 + 1)
  have y2 := ho2.frozenAt (i * 2)
  have y3 := ho2.frozenAt (i * 2 + 1)
  have hlen := Lib.hid (show (h.set i xk).length = n by rw [List.length_set]; exact hnl.symm)
  obtain ⟨ai, mi, ci, di, Li⟩ := xi
  obtain ⟨ak, mk, ck, dk, Lk⟩ := xk
  unfold set2 at r0 r1 s0 s1 y0 y1 y2 y3
  simp only at q0 q1 p0 p1 r0 r1 s0 s1 y0 y1 y2 y3
  generalize ((h.set i ⟨ak, mk, ck, dk, Lk⟩).getD k run0).a = v1 at r0
  generalize ((h.set i ⟨ak, mk, ck, dk, Lk⟩).getD k run0).m = v2 at r0
  generalize ((h.set i ⟨ak, mk, ck, dk, Lk⟩).getD k run0).c = v3 at r0
  generalize ((h.set i ⟨ak, mk, ck, dk, Lk⟩).getD k run0).idx = v4 at r1
  generalize ((h.set k ⟨ai, mi, ci, di, Li⟩).getD i run0).a = u1 at s0
  generalize ((h.set k ⟨ai, mi, ci, di, Li⟩).getD i run0).m = u2 at s0
  generalize ((h.set k ⟨ai, mi, ci, di, Li⟩).getD i run0).c = u3 at s0
  generalize ((h.set k ⟨ai, mi, ci, di, Li⟩).getD i run0).idx = u4 at s1
  have i1 : (0 : Int) ≤ (i : Int) := by omega
  have i2 : (i : Int) < (n : Int) := by omega
  have k1 : (0 : Int) ≤ (k : Int) := by omega
  have k2 : (k : Int) < (n : Int) := by omega
  clear cellsOf hr ho hnl hxi hxk ho1 ho2
  go_enter Try.func59, Try.ntmps59
  go_wp2_with fail
  go_region
  have ho3 := own_set2 HO1.out k (by rw [hlen.out]; exact hk) ⟨ai, mi, ci, di, Li⟩
  rw [← hsw.out] at ho3
  have HO3 := Lib.hid ho3
  have hon := Lib.hid (only_set2 (only_set2 (Only.refl g w) (i * 2) ⟨ak, mk, ck, dk, Lk⟩) (k * 2) ⟨ai, mi, ci, di, Li⟩)
  clear ho3 r0 r1 s0 s1 z0 z1 z2 z3 y0 y1 y2 y3 q0 q1 p0 p1
  go_wp2_with fail
  go_end0
  exact ⟨⟨_, rfl⟩, own_drew HO3.out, hon.out.drew⟩
end Go.Proofs.Ytmgdcebbeglcmaa.Ew
