/- The walk of batch.Get. -/
import Derived.Test.YtpihmjdljbienaaGreatDoorBatchI
import Derived.Test.YtpihmjdljbienaaGreatDoorGb
import Derived.Defers
import Derived.Recover
import Derived.Deep.RegionLaw
import Derived.Deep.RegionWith
namespace Go.Proofs.YtpihmjdljbienaaGreatDoor.Bw
open Ew
open Go.RowKit
open En B Vp Vw
set_option linter.unusedVariables false

set_option maxRecDepth 100000 in
theorem catch_bad (p q : Nat) (x y : Value) (n : Int) (older : List PanicEntry) (w : World) (hc : w.cell? ⟨p, 0, none⟩ = some x) (hz : w.frozen? ⟨p, 0, none⟩ = false) (hd : (w.setCell ⟨p, 0, none⟩ (.slice none 0 0)).cell? ⟨q, 0, none⟩ = some y) (hy : (w.setCell ⟨p, 0, none⟩ (.slice none 0 0)).frozen? ⟨q, 0, none⟩ = false) :
    CallsD Tryz.prog 50 #[.pointer (some ⟨p, 0, none⟩), .pointer (some ⟨q, 0, none⟩)] (.panicking ({ v := .iface 94 (.int .i64 n), recovered := false } :: older)) w fun e u' w' =>
      e = .returned (.tuple #[]) ∧ u' = .panicking ({ v := .iface 94 (.int .i64 n), recovered := true } :: older) ∧ w' = (w.setCell ⟨p, 0, none⟩ (.slice none 0 0)).setCell ⟨q, 0, none⟩ (.int .i64 n) := by
  have hta : ∀ W : World, (Instr.typeAssert (.iface 94 (.int .i64 n)) 20 94 true).run Tryz.prog W = .ok (.tuple #[.int .i64 n, .bool true]) W := fun _ => by kernel_rfl
  refine callsD_of_wpS Tryz.func50 rfl fun c₀ cs hu => ?_
  apply wpS_seq
  apply wpS_region
  simp [wpOpsS, go_sem, recoverD, hu, Tryz.ntmps50, Exit.thenS, hta]
  apply wpS_seq
  apply wpS_region
  simp [wpOpsS, go_sem, Exit.thenS]
  refine wpS_cond (t := true) (by simp [Act.eval]) ?_
  simp only [if_true]
  apply wpS_region
  simp [wpOpsS, go_sem, hc, hz, hd, hy, bodyPostS, results, Tryz.results50]

set_option maxRecDepth 100000 in
theorem catch_idle (p q : Nat) (w : World) :
    CallsD Tryz.prog 50 #[.pointer (some ⟨p, 0, none⟩), .pointer (some ⟨q, 0, none⟩)] .returning w fun e u' w' => e = .returned (.tuple #[]) ∧ u' = .returning ∧ w' = w := by
  have hta : ∀ W : World, (Instr.typeAssert .nilIface 20 94 true).run Tryz.prog W = .ok (.tuple #[.int .i64 0, .bool false]) W := fun _ => by kernel_rfl
  refine callsD_of_wpS Tryz.func50 rfl fun c₀ cs hu => ?_
  apply wpS_seq
  apply wpS_region
  simp [wpOpsS, go_sem, recoverD, hu, Tryz.ntmps50, Exit.thenS, hta]
  apply wpS_seq
  apply wpS_region
  simp [wpOpsS, go_sem, Exit.thenS]
  refine wpS_cond (t := false) (by simp [Act.eval]) ?_
  simp only [Bool.false_eq_true, if_false]
  refine wpS_of_wp (wp_skip ?_)
  cases c₀
  simp_all [bodyPostS, results, Tryz.results50]
/-- items and an error -/
def GotD (w : World) (r : List Ent × Int) (e : Ending) (w' : World) : Prop :=
  ∃ a c, e = .returned (.tuple #[.slice a r.1.length c, .int .i64 r.2]) ∧ w'.ownsRow w.heap.size 45 5 (.slice a r.1.length c) r.1.length (ecells r.1) ∧ Below w.heap.size w w'

theorem door_bad {w W : World} {T : Array Value} {n : Int} {x y : Value} (h2 : T.getD 2 undef = .pointer (some ⟨w.heap.size, 0, none⟩)) (h3 : T.getD 3 undef = .pointer (some ⟨w.heap.size + 1, 0, none⟩))
    (hA : Cell1 W w.heap.size 33 x) (hE : Cell1 W (w.heap.size + 1) 28 y) (hB : Below w.heap.size w W) :
    bodyPostD Tryz.prog Tryz.f14 (GotD w ([], n)) (.panic [{ v := .iface 94 (.int .i64 n), recovered := false }])
      { tmps := T, defers := [{ target := .fn (.func 50) #[.pointer (some ⟨w.heap.size, 0, none⟩), .pointer (some ⟨w.heap.size + 1, 0, none⟩)], args := #[] }] } W := by
  refine leaves_cons (f := 50) (args := #[.pointer (some ⟨w.heap.size, 0, none⟩), .pointer (some ⟨w.heap.size + 1, 0, none⟩)]) (by simp) (by simp [go_sem]) ?_
  have hE2 := hE.far (p := ⟨w.heap.size, 0, none⟩) (by simp) (.slice none 0 0)
  refine (catch_bad w.heap.size (w.heap.size + 1) _ _ _ [] _ hA.cell hA.fz hE2.cell hE2.fz).mono ?_
  rintro e u' w'' ⟨rfl, rfl, rfl⟩
  have hA3 := ((hA.set (.slice none 0 0)).far (p := ⟨w.heap.size + 1, 0, none⟩) (by simp) (.int .i64 n)).cell
  have hE3 := (hE2.set (.int .i64 n)).cell
  simp [Array.getD_eq_getD_getElem?] at h2 h3
  simp [Leaves, settle, results, Tryz.results14, go_sem, hA3, hE3, h2, h3]
  exact ⟨none, 0, rfl, World.ownsRow_nil _ _ _ _, (hB.setCell (p := ⟨w.heap.size, 0, none⟩) (Nat.le_refl _) _).setCell (p := ⟨w.heap.size + 1, 0, none⟩) (by simp) _⟩
theorem door_ret {w W : World} {T : Array Value} {r : List Ent × Int} {a : Option Addr} {c : Nat} (h2 : T.getD 2 undef = .pointer (some ⟨w.heap.size, 0, none⟩)) (h3 : T.getD 3 undef = .pointer (some ⟨w.heap.size + 1, 0, none⟩))
    (hA : Cell1 W w.heap.size 33 (.slice a r.1.length c)) (hE : Cell1 W (w.heap.size + 1) 28 (.int .i64 r.2)) (hB : Below w.heap.size w W) (ho : W.ownsRow w.heap.size 45 5 (.slice a r.1.length c) r.1.length (ecells r.1)) :
    bodyPostD Tryz.prog Tryz.f14 (GotD w r) .ret
      { tmps := T, defers := [{ target := .fn (.func 50) #[.pointer (some ⟨w.heap.size, 0, none⟩), .pointer (some ⟨w.heap.size + 1, 0, none⟩)], args := #[] }] } W := by
  refine leaves_cons (f := 50) (args := #[.pointer (some ⟨w.heap.size, 0, none⟩), .pointer (some ⟨w.heap.size + 1, 0, none⟩)]) (by simp) (by simp [go_sem]) ?_
  refine (catch_idle w.heap.size (w.heap.size + 1) _).mono ?_
  rintro e u' w'' ⟨rfl, rfl, rfl⟩
  have hA3 := hA.cell
  have hE3 := hE.cell
  simp [Array.getD_eq_getD_getElem?] at h2 h3
  simp [Leaves, settle, results, Tryz.results14, go_sem, hA3, hE3, h2, h3]
  exact ⟨a, c, rfl, ho, hB⟩

set_option maxHeartbeats 800000 in
set_option maxRecDepth 100000 in
theorem bget_bad (s : ByteArray) (hs : s.size ≤ 4611686018427387904) (h : (cntS s 0).e ≠ 0) (w : World) :
    Calls Tryz.prog 14 #[.string s] w (GotD w ([], (cntS s 0).e)) := by
  have hmf : ∀ (fn : Fn) (first cap : Array Value) (w : World), (Instr.makeFunc fn first cap).run Tryz.prog w = .ok (.func fn first cap) w := fun _ _ _ _ => rfl
  obtain ⟨c, hc⟩ : ∃ c, c = cntS s 0 := ⟨_, rfl⟩
  rw [← hc] at h ⊢
  have HC := Lib.hid (fun (rb : Nat) (W : World) (hX : RBox W rb s 0) => count_bad hs hc.symm h W hX)
  clear hc
  go_enter_defers Tryz.func14, Tryz.ntmps14
  go_wp2_with fail
  generalize hW : World.alloc _ _ = W0
  have hA : Cell1 W0 w.heap.size 33 (.slice none 0 0) := by rw [← hW]; exact blk_alloc (blk_alloc (heap_alloc_new _ _))
  have hE : Cell1 W0 (w.heap.size + 1) 28 (.int .i64 0) := by rw [← hW]; exact blk_alloc (blk_new (by simp))
  have hX : RBox W0 (w.heap.size + 1 + 1) s 0 := by rw [← hW]; exact blk_new (by simp)
  have hB : Below w.heap.size w W0 := by rw [← hW]; exact below_alloc (below_alloc (below_alloc (Below.refl _ _) _) _) _
  clear hW
  refine (HC.out _ _ hX).mono ?_
  rintro e w1 ⟨rfl, _, ho⟩
  have hA1 := hA.only ho (by omega)
  have hE1 := hE.only ho (by omega)
  have hB1 := ho.below hB (by omega) (by have := hA.lt; omega)
  clear hA hE hX hB ho
  have HA1 := Lib.hid hA1
  have HE1 := Lib.hid hE1
  clear hA1 hE1
  go_wp2_with fail
  exact door_bad rfl rfl HA1.out HE1.out hB1

set_option maxHeartbeats 800000 in
set_option maxRecDepth 100000 in
theorem bget_long (s : ByteArray) (hs : s.size ≤ 4611686018427387904) {c : G} (hc : cntS s 0 = c) (h : c.e = 0) (hn : 64 < c.n) (w : World) :
    Calls Tryz.prog 14 #[.string s] w (GotD w ([], 5)) := by
  have hmf : ∀ (fn : Fn) (first cap : Array Value) (w : World), (Instr.makeFunc fn first cap).run Tryz.prog w = .ok (.func fn first cap) w := fun _ _ _ _ => rfl
  have HC := Lib.hid (fun (rb : Nat) (W : World) (hX : RBox W rb s 0) => count_ok hs hc h W hX)
  generalize c.n = m at hn HC
  clear hc h
  go_enter_defers Tryz.func14, Tryz.ntmps14
  go_wp2_with fail
  generalize hW : World.alloc _ _ = W0
  have hA : Cell1 W0 w.heap.size 33 (.slice none 0 0) := by rw [← hW]; exact blk_alloc (blk_alloc (heap_alloc_new _ _))
  have hE : Cell1 W0 (w.heap.size + 1) 28 (.int .i64 0) := by rw [← hW]; exact blk_alloc (blk_new (by simp))
  have hX : RBox W0 (w.heap.size + 1 + 1) s 0 := by rw [← hW]; exact blk_new (by simp)
  have hB : Below w.heap.size w W0 := by rw [← hW]; exact below_alloc (below_alloc (below_alloc (Below.refl _ _) _) _) _
  clear hW
  refine (HC.out _ _ hX).mono ?_
  rintro e w1 ⟨rfl, _, ho⟩
  have hA1 := hA.only ho (by omega)
  have hE1 := hE.only ho (by omega)
  have hB1 := ho.below hB (by omega) (by have := hA.lt; omega)
  clear hA hE hX hB ho
  have HA1 := Lib.hid hA1
  have HE1 := Lib.hid hE1
  have hE2 := hE1.far (p := ⟨w.heap.size, 0, none⟩) (by simp) (.slice none 0 0)
  have HE2 := Lib.hid hE2
  have ca := hA1.cell
  have fa := hA1.fz
  have ce := hE2.cell
  have fe := hE2.fz
  clear hA1 hE1 hE2
  go_wp2_with fail
  exact door_ret (a := none) (c := 0) rfl rfl ((HA1.out.set _).far (by simp) _) (HE2.out.set _) ((hB1.setCell (p := ⟨w.heap.size, 0, none⟩) (Nat.le_refl _) _).setCell (p := ⟨w.heap.size + 1, 0, none⟩) (by simp) _) (World.ownsRow_nil _ _ _ _)
end Go.Proofs.YtpihmjdljbienaaGreatDoor.Bw
