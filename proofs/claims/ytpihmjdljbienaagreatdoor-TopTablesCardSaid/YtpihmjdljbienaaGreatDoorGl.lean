/- Several texts in one: WalA, WalB, WalC, WalD, WalE, WalF. -/
import Derived.Test.YtpihmjdljbienaaGreatDoorGk
import Derived.Test.YtpihmjdljbienaaGreatDoorFrameA
import Derived.Test.YtpihmjdljbienaaGreatDoorGa
/- The walks of a log: its name, the calls one behind the other. -/
namespace Go.Proofs.YtpihmjdljbienaaGreatDoor.Dw
open Go.RowKit
open B En
set_option linter.unusedVariables false

/-- the name of the log 1 -/
def nm1 : ByteArray := ⟨#[108, 111, 103, 45, 48, 48, 48, 48, 48, 48, 48, 49]⟩
theorem trim_log (w : World) : Calls Tryz.prog 58 #[.string ⟨#[108, 111, 103]⟩, .string lowers] w fun e w' => e = .returned (.string ⟨#[]⟩) ∧ Below w.heap.size w w' := by
  have h := trim_any ⟨#[108, 111, 103]⟩ (by decide) w
  have e : (⟨(Lib.trimS [108, 111, 103] lowers.data.toList).toArray⟩ : ByteArray) = ⟨#[]⟩ := by decide +kernel
  rw [show (⟨#[108, 111, 103]⟩ : ByteArray).data.toList = [108, 111, 103] from rfl, e] at h
  exact h
set_option maxHeartbeats 800000 in
set_option maxRecDepth 100000 in
theorem file_1 (w : World) : Calls Tryz.prog 18 #[.string ⟨#[108, 111, 103]⟩, .int .i64 1] w fun e w' => e = .returned (.string nm1) ∧ Below w.heap.size w w' := by
  have HT := Lib.hid (trim_log w)
  have HF := Lib.hid (format_any 1 (by omega))
  have HR := Lib.hid repeat7
  go_enter Tryz.func18, Tryz.ntmps18
  go_wp2_with fail
  refine HT.out.mono ?_
  rintro e w1 ⟨rfl, hb1⟩
  have HB := Lib.hid hb1
  clear hb1
  go_wp2_with fail
  refine (HF.out _).mono ?_
  rintro e w2 ⟨rfl, hw2⟩
  subst hw2
  go_wp2_with fail
  refine (HR.out _).mono ?_
  rintro e w3 ⟨rfl, hw3⟩
  subst hw3
  go_wp2_with fail
  go_ret
  exact ⟨rfl, HB.out⟩
set_option maxHeartbeats 800000 in
set_option maxRecDepth 100000 in
theorem name_1 (w : World) : Calls Tryz.prog 47 #[.int .i64 1] w fun e w' => e = .returned (.string nm1) ∧ Below w.heap.size w w' := by
  have HT := Lib.hid (file_1 w)
  go_enter Tryz.func47, Tryz.ntmps47
  go_wp2_with fail
  refine HT.out.mono ?_
  rintro e w1 ⟨rfl, hb1⟩
  go_wp2_with fail
  go_ret
  exact ⟨rfl, hb1⟩
end Go.Proofs.YtpihmjdljbienaaGreatDoor.Dw

/- The walks of a log: the calls one behind the other. -/
namespace Go.Proofs.YtpihmjdljbienaaGreatDoor.Dw
open Go.RowKit
open B En
set_option linter.unusedVariables false

/-- a function value that can be entered -/
def Enters (f : FuncId) (args : Array Value) : Prop := ∀ W, Sem.run Tryz.prog (callFunc f args) W = .ok (.enter f args) W
set_option maxHeartbeats 1600000 in
set_option maxRecDepth 100000 in
theorem first2 (b : Nat) (f1 f2 : FuncId) (a1 c1 a2 c2 : Array Value) (w : World) (hb : w.heap[b]? = some (.cells #[.func (.func f1) a1 c1, .func (.func f2) a2 c2] 75 (0, 0))) (Q : Int → World → Prop)
    (hf1 : Enters f1 (a1 ++ c1)) (hf2 : Enters f2 (a2 ++ c2))
    (H1 : Calls Tryz.prog f1 (a1 ++ c1) w fun e w1 => ∃ r, e = .returned (.int .i64 r) ∧ ((r ≠ 0 ∧ Q r w1) ∨ (r = 0 ∧ w1.heap[b]? = w.heap[b]? ∧ Calls Tryz.prog f2 (a2 ++ c2) w1 fun e w2 => ∃ r, e = .returned (.int .i64 r) ∧ Q r w2))) :
    Calls Tryz.prog 91 #[.slice (some ⟨b, 0, none⟩) 2 2] w fun e w' => ∃ r, e = .returned (.int .i64 r) ∧ Q r w' := by
  have q0 := cell_of_row w b 0 _ _ _ hb
  simp at q0
  have HB := Lib.hid hb
  have HH := Lib.hid H1
  have hc1 : ∀ W, Sem.run Tryz.prog (callFunc f1 (a1 ++ c1)) W = .ok (.enter f1 (a1 ++ c1)) W := hf1
  have hc2 : ∀ W, Sem.run Tryz.prog (callFunc f2 (a2 ++ c2)) W = .ok (.enter f2 (a2 ++ c2)) W := hf2
  clear hb H1 hf1 hf2
  go_enter Tryz.func91, Tryz.ntmps91
  go_wp2_with fail
  refine wp_loop_rounds 3 ?_
  rw [rounds_succ]
  go_wp2_with fail
  refine HH.out.mono ?_
  rintro e w1 ⟨r, rfl, h⟩
  rcases h with ⟨hr, hq⟩ | ⟨rfl, hk, h2⟩
  · have i1 : (r != 0) = true := by simp [hr]
    have HQ := Lib.hid hq
    clear hq
    go_wp2_with fail
    go_ret
    exact ⟨r, rfl, HQ.out⟩
  · have q1 := cell_of_row w1 b 1 _ _ _ (hk.trans HB.out)
    simp at q1
    have HH2 := Lib.hid h2
    clear h2 q0 hk
    go_wp2_with fail
    rw [rounds_succ]
    go_wp2_with fail
    refine HH2.out.mono ?_
    rintro e w2 ⟨r, rfl, hq⟩
    have HQ := Lib.hid hq
    clear hq
    by_cases hr : r = 0
    · subst hr
      go_wp2_with fail
      rw [rounds_succ]
      go_wp2_with fail
      go_ret
      exact ⟨0, rfl, HQ.out⟩
    · have i1 : (r != 0) = true := by simp [hr]
      go_wp2_with fail
      go_ret
      exact ⟨r, rfl, HQ.out⟩
set_option maxHeartbeats 1600000 in
set_option maxRecDepth 100000 in
theorem first3 (b : Nat) (f1 f2 f3 : FuncId) (a1 c1 a2 c2 a3 c3 : Array Value) (w : World) (hb : w.heap[b]? = some (.cells #[.func (.func f1) a1 c1, .func (.func f2) a2 c2, .func (.func f3) a3 c3] 75 (0, 0))) (Q : Int → World → Prop)
    (hf1 : Enters f1 (a1 ++ c1)) (hf2 : Enters f2 (a2 ++ c2)) (hf3 : Enters f3 (a3 ++ c3))
    (H1 : Calls Tryz.prog f1 (a1 ++ c1) w fun e w1 => ∃ r, e = .returned (.int .i64 r) ∧ ((r ≠ 0 ∧ Q r w1) ∨ (r = 0 ∧ w1.heap[b]? = w.heap[b]? ∧ Calls Tryz.prog f2 (a2 ++ c2) w1 fun e w2 => ∃ r, e = .returned (.int .i64 r) ∧ ((r ≠ 0 ∧ Q r w2) ∨
      (r = 0 ∧ w2.heap[b]? = w.heap[b]? ∧ Calls Tryz.prog f3 (a3 ++ c3) w2 fun e w3 => ∃ r, e = .returned (.int .i64 r) ∧ Q r w3))))) :
    Calls Tryz.prog 91 #[.slice (some ⟨b, 0, none⟩) 3 3] w fun e w' => ∃ r, e = .returned (.int .i64 r) ∧ Q r w' := by
  have q0 := cell_of_row w b 0 _ _ _ hb
  simp at q0
  have HB := Lib.hid hb
  have HH := Lib.hid H1
  have hc1 : ∀ W, Sem.run Tryz.prog (callFunc f1 (a1 ++ c1)) W = .ok (.enter f1 (a1 ++ c1)) W := hf1
  have hc2 : ∀ W, Sem.run Tryz.prog (callFunc f2 (a2 ++ c2)) W = .ok (.enter f2 (a2 ++ c2)) W := hf2
  have hc3 : ∀ W, Sem.run Tryz.prog (callFunc f3 (a3 ++ c3)) W = .ok (.enter f3 (a3 ++ c3)) W := hf3
  clear hb H1 hf1 hf2 hf3
  go_enter Tryz.func91, Tryz.ntmps91
  go_wp2_with fail
  refine wp_loop_rounds 4 ?_
  rw [rounds_succ]
  go_wp2_with fail
  refine HH.out.mono ?_
  rintro e w1 ⟨r, rfl, h⟩
  rcases h with ⟨hr, hq⟩ | ⟨rfl, hk, h2⟩
  · have i1 : (r != 0) = true := by simp [hr]
    have HQ := Lib.hid hq
    clear hq
    go_wp2_with fail
    go_ret
    exact ⟨r, rfl, HQ.out⟩
  · have q1 := cell_of_row w1 b 1 _ _ _ (hk.trans HB.out)
    simp at q1
    have HH2 := Lib.hid h2
    clear h2 q0 hk
    go_wp2_with fail
    rw [rounds_succ]
    go_wp2_with fail
    refine HH2.out.mono ?_
    rintro e w2 ⟨r, rfl, h⟩
    rcases h with ⟨hr, hq⟩ | ⟨rfl, hk, h3⟩
    · have i1 : (r != 0) = true := by simp [hr]
      have HQ := Lib.hid hq
      clear hq
      go_wp2_with fail
      go_ret
      exact ⟨r, rfl, HQ.out⟩
    · have q2 := cell_of_row w2 b 2 _ _ _ (hk.trans HB.out)
      simp at q2
      have HH3 := Lib.hid h3
      clear h3 q1 hk
      go_wp2_with fail
      rw [rounds_succ]
      go_wp2_with fail
      refine HH3.out.mono ?_
      rintro e w3 ⟨r, rfl, hq⟩
      have HQ := Lib.hid hq
      clear hq
      by_cases hr : r = 0
      · subst hr
        go_wp2_with fail
        rw [rounds_succ]
        go_wp2_with fail
        go_ret
        exact ⟨0, rfl, HQ.out⟩
      · have i1 : (r != 0) = true := by simp [hr]
        go_wp2_with fail
        go_ret
        exact ⟨r, rfl, HQ.out⟩
set_option maxHeartbeats 800000 in
set_option maxRecDepth 100000 in
theorem with_any (f : FuncId) (c : Array Value) (w : World) (Q : Int → World → Prop) (hf : Enters f (#[.string nm1] ++ c))
    (H1 : ∀ w1, Below w.heap.size w w1 → Calls Tryz.prog f (#[.string nm1] ++ c) w1 fun e w2 => ∃ v, e = .returned v ∧ Calls Tryz.prog 91 #[v] w2 fun e w3 => ∃ r, e = .returned (.int .i64 r) ∧ Q r w3) :
    Calls Tryz.prog 29 #[.int .i64 1, .func (.func f) #[] c] w fun e w' => ∃ r, e = .returned (.int .i64 r) ∧ Q r w' := by
  have HN := Lib.hid (name_1 w)
  have HH := Lib.hid H1
  have hc1 : ∀ W, Sem.run Tryz.prog (callFunc f (#[.string nm1] ++ c)) W = .ok (.enter f (#[.string nm1] ++ c)) W := hf
  have ne : nm1.toList.isEmpty = false := by rw [ByteArray.toList_eq]; rfl
  clear H1 hf
  go_enter Tryz.func29, Tryz.ntmps29
  go_wp2_with fail
  refine HN.out.mono ?_
  rintro e w1 ⟨rfl, hb1⟩
  have HX := Lib.hid (HH.out w1 hb1)
  clear HH hb1
  go_wp2_with fail
  refine HX.out.mono ?_
  rintro e w2 ⟨v, rfl, h2⟩
  have HX2 := Lib.hid h2
  clear h2
  go_wp2_with fail
  refine HX2.out.mono ?_
  rintro e w3 ⟨r, rfl, hq⟩
  go_wp2_with fail
  go_ret
  exact ⟨r, rfl, hq⟩
end Go.Proofs.YtpihmjdljbienaaGreatDoor.Dw

/- The walk of a log's Create. -/
namespace Go.Proofs.YtpihmjdljbienaaGreatDoor.Dw
open Go.RowKit
open B En
set_option linter.unusedVariables false

theorem enters {f : FuncId} {fn : Func} {c : Code} (hf : Tryz.prog.funcs[f]? = some fn) (hname : (fn.name == "runtime.NumGoroutine") = false) (hb : fn.body = some c) (args : Array Value) : Enters f args := fun W => call_enter hf hname hb args W
set_option maxHeartbeats 800000 in
set_option maxRecDepth 100000 in
theorem wcreate1 (dc db : Nat) (nm : ByteArray) (w : World) (hc : Cell1 w dc 25 (.pointer (some ⟨db, 0, none⟩))) :
    Calls Tryz.prog 30 #[.string nm, .pointer (some ⟨dc, 0, none⟩)] w fun e w' => e = .returned (.slice (some ⟨w.heap.size + 1, 0, none⟩) 2 2) ∧
      w' = (w.alloc (.cells #[.string nm] 9)).alloc (.cells #[.func (.func 31) #[] #[.pointer (some ⟨dc, 0, none⟩), .pointer (some ⟨w.heap.size, 0, none⟩)], .func (.func 32) #[.pointer (some ⟨db, 0, none⟩)] #[]] 75) := by
  have hmf : ∀ (fn : Fn) (first cap : Array Value) (w : World), (Instr.makeFunc fn first cap).run Tryz.prog w = .ok (.func fn first cap) w := fun _ _ _ _ => rfl
  have q0 : ∀ o, (w.alloc o).cell? ⟨dc, 0, none⟩ = some (.pointer (some ⟨db, 0, none⟩)) := fun o => Lib.cell?_alloc_some _ hc.cell
  clear hc
  go_enter Tryz.func30, Tryz.ntmps30
  go_wp2_with fail
  go_ret
  exact ⟨rfl, rfl⟩
set_option maxHeartbeats 800000 in
set_option maxRecDepth 100000 in
theorem wcreate11 (B dc nc db : Nat) (room : Nat) (w : World) (h : DNew B db room w) (hBw : B ≤ w.heap.size) (hc : Cell1 w dc 25 (.pointer (some ⟨db, 0, none⟩))) (hn : Cell1 w nc 9 (.string nm1)) :
    Calls Tryz.prog 31 #[.pointer (some ⟨dc, 0, none⟩), .pointer (some ⟨nc, 0, none⟩)] w fun e w' => e = .returned (.int .i64 0) ∧ (∃ fb, D0 B db fb nm1 room w') ∧ Below B w w' ∧ Keeps dts w w' := by
  have HC := Lib.hid (create_any B db nm1 (by decide) (by decide) room w h hBw)
  have q0 := hc.cell
  have q1 := hn.cell
  clear hc hn h
  go_enter Tryz.func31, Tryz.ntmps31
  go_wp2_with fail
  refine HC.out.mono ?_
  rintro e w1 ⟨rfl, h1⟩
  have HX := Lib.hid h1
  clear h1
  go_wp2_with fail
  go_ret
  exact ⟨rfl, HX.out⟩
set_option maxHeartbeats 800000 in
set_option maxRecDepth 100000 in
theorem wcreate_any (B db : Nat) (room : Nat) (w : World) (h : DNew B db room w) (hBw : B ≤ w.heap.size) :
    Calls Tryz.prog 7 #[.pointer (some ⟨db, 0, none⟩), .int .i64 1] w fun e w' => e = .returned (.int .i64 0) ∧ (∃ fb, D1 B db fb nm1 room [] 0 0 0 [] false true w') ∧ Below B w w' ∧ Keeps dts w w' := by
  have hmf : ∀ (fn : Fn) (first cap : Array Value) (w : World), (Instr.makeFunc fn first cap).run Tryz.prog w = .ok (.func fn first cap) w := fun _ _ _ _ => rfl
  have HW := Lib.hid (with_any 30 #[.pointer (some ⟨w.heap.size, 0, none⟩)] (w.alloc (.cells #[.pointer (some ⟨db, 0, none⟩)] 25)) (fun r w' => r = 0 ∧ (∃ fb, D1 B db fb nm1 room [] 0 0 0 [] false true w') ∧ Below B w w' ∧ Keeps dts w w') (enters Tryz.func30 rfl rfl _) (by
    intro w1 hb1
    have hal := below_alloc (Below.refl w.heap.size w) (.cells #[.pointer (some ⟨db, 0, none⟩)] 25)
    have hc0 : Cell1 (w.alloc (.cells #[.pointer (some ⟨db, 0, none⟩)] 25)) w.heap.size 25 (.pointer (some ⟨db, 0, none⟩)) := heap_alloc_new _ _
    have hc1 := hc0.below hb1
    have hb01 : Below w.heap.size w w1 := hal.trans (hb1.mono hal.size)
    refine (wcreate1 w.heap.size db nm1 w1 hc1).mono ?_
    rintro e w2 ⟨rfl, hw2⟩
    refine ⟨_, rfl, ?_⟩
    have ha2 : Below w1.heap.size w1 (w1.alloc (.cells #[.string nm1] 9)) := below_alloc (Below.refl _ _) _
    have ha3 : Below (w1.alloc (.cells #[.string nm1] 9)).heap.size (w1.alloc (.cells #[.string nm1] 9)) w2 := by rw [hw2]; exact below_alloc (Below.refl _ _) _
    have hs1 : (w1.alloc (.cells #[.string nm1] 9)).heap.size = w1.heap.size + 1 := Array.size_push ..
    have hb2 : Below w1.heap.size w1 w2 := ha2.trans (ha3.mono ha2.size)
    have hn2 : Cell1 w2 w1.heap.size 9 (.string nm1) := Cell1.below (w := w1.alloc (.cells #[.string nm1] 9)) (heap_alloc_new _ _) ha3
    have hc2 := hc1.below hb2
    have hblk : w2.heap[w1.heap.size + 1]? = some (.cells #[.func (.func 31) #[] #[.pointer (some ⟨w.heap.size, 0, none⟩), .pointer (some ⟨w1.heap.size, 0, none⟩)], .func (.func 32) #[.pointer (some ⟨db, 0, none⟩)] #[]] 75 (0, 0)) := by rw [hw2, ← hs1]; exact heap_alloc_new _ _
    have hb02 : Below w.heap.size w w2 := hb01.trans (hb2.mono hb01.size)
    have hBw2 : B ≤ w2.heap.size := Nat.le_trans hBw hb02.size
    refine first2 _ _ _ _ _ _ _ w2 hblk _ (enters Tryz.func31 rfl rfl _) (enters Tryz.func32 rfl rfl _) ?_
    refine (wcreate11 B w.heap.size w1.heap.size db room w2 (h.below hb02) hBw2 hc2 hn2).mono ?_
    rintro e w3 ⟨rfl, ⟨fb, h0⟩, hb3, hk3⟩
    have hBw3 : B ≤ w3.heap.size := Nat.le_trans hBw2 hb3.size
    refine ⟨0, rfl, .inr ⟨rfl, (hk3 _ _ _ _ hblk (by decide)).trans hblk.symm, ?_⟩⟩
    refine (syncdir_any B db fb nm1 room w3 h0 hBw3).mono ?_
    rintro e w4 ⟨rfl, h1, hb4, hk4⟩
    exact ⟨0, rfl, rfl, ⟨fb, h1⟩, ((hb02.mono hBw).trans hb3).trans hb4, ((Keeps.below hb02).trans hk3).trans hk4⟩))
  clear h
  go_enter Tryz.func7, Tryz.ntmps7
  go_wp2_with fail
  refine HW.out.mono ?_
  rintro e w1 ⟨r, rfl, rfl, h1⟩
  have HX := Lib.hid h1
  clear h1
  go_wp2_with fail
  go_ret
  exact ⟨rfl, HX.out⟩
end Go.Proofs.YtpihmjdljbienaaGreatDoor.Dw

/- The walk of a log's Append. -/
namespace Go.Proofs.YtpihmjdljbienaaGreatDoor.Dw
open Go.RowKit
open B En
set_option linter.unusedVariables false

set_option maxHeartbeats 800000 in
set_option maxRecDepth 100000 in
theorem wappend11 (ec : Nat) (w : World) (he : Cell1 w ec 28 (.int .i64 0)) :
    Calls Tryz.prog 42 #[.pointer (some ⟨ec, 0, none⟩)] w fun e w' => e = .returned (.int .i64 0) ∧ w' = w := by
  have q0 := he.cell
  clear he
  go_enter Tryz.func42, Tryz.ntmps42
  go_wp2_with fail
  go_ret
  exact ⟨rfl, rfl⟩
set_option maxHeartbeats 800000 in
set_option maxRecDepth 100000 in
theorem wappend12 (dc nc sc db : Nat) (nm s : ByteArray) (w : World) (h1 : Cell1 w dc 25 (.pointer (some ⟨db, 0, none⟩))) (h2 : Cell1 w nc 9 (.string nm)) (h3 : Cell1 w sc 9 (.string s)) (Q : Int → World → Prop)
    (H : Calls Tryz.prog 21 #[.pointer (some ⟨db, 0, none⟩), .string nm, .string s] w fun e w' => ∃ r, e = .returned (.int .i64 r) ∧ Q r w') :
    Calls Tryz.prog 43 #[.pointer (some ⟨dc, 0, none⟩), .pointer (some ⟨nc, 0, none⟩), .pointer (some ⟨sc, 0, none⟩)] w fun e w' => ∃ r, e = .returned (.int .i64 r) ∧ Q r w' := by
  have q0 := h1.cell
  have q1 := h2.cell
  have q2 := h3.cell
  have HC := Lib.hid H
  clear h1 h2 h3 H
  go_enter Tryz.func43, Tryz.ntmps43
  go_wp2_with fail
  refine HC.out.mono ?_
  rintro e w1 ⟨r, rfl, hq⟩
  go_wp2_with fail
  go_ret
  exact ⟨r, rfl, hq⟩
set_option maxHeartbeats 800000 in
set_option maxRecDepth 100000 in
theorem wappend13 (dc nc db : Nat) (nm : ByteArray) (w : World) (h1 : Cell1 w dc 25 (.pointer (some ⟨db, 0, none⟩))) (h2 : Cell1 w nc 9 (.string nm)) (Q : Int → World → Prop)
    (H : Calls Tryz.prog 45 #[.pointer (some ⟨db, 0, none⟩), .string nm] w fun e w' => ∃ r, e = .returned (.int .i64 r) ∧ Q r w') :
    Calls Tryz.prog 44 #[.pointer (some ⟨dc, 0, none⟩), .pointer (some ⟨nc, 0, none⟩)] w fun e w' => ∃ r, e = .returned (.int .i64 r) ∧ Q r w' := by
  have q0 := h1.cell
  have q1 := h2.cell
  have HC := Lib.hid H
  clear h1 h2 H
  go_enter Tryz.func44, Tryz.ntmps44
  go_wp2_with fail
  refine HC.out.mono ?_
  rintro e w1 ⟨r, rfl, hq⟩
  go_wp2_with fail
  go_ret
  exact ⟨r, rfl, hq⟩
def wclos (dc nc sc ec : Nat) : Array Value := #[.func (.func 42) #[] #[.pointer (some ⟨ec, 0, none⟩)], .func (.func 43) #[] #[.pointer (some ⟨dc, 0, none⟩), .pointer (some ⟨nc, 0, none⟩), .pointer (some ⟨sc, 0, none⟩)],
  .func (.func 44) #[] #[.pointer (some ⟨dc, 0, none⟩), .pointer (some ⟨nc, 0, none⟩)]]
set_option maxHeartbeats 800000 in
set_option maxRecDepth 100000 in
theorem wappend1 (bc dc : Nat) (nm s : ByteArray) (w : World) (hb : Cell1 w bc 9 (.string s)) (hs : s.size ≤ 65535) :
    Calls Tryz.prog 40 #[.string nm, .pointer (some ⟨bc, 0, none⟩), .pointer (some ⟨dc, 0, none⟩)] w fun e w' => ∃ nc sc ec g, e = .returned (.slice (some ⟨g, 0, none⟩) 3 3) ∧ Cell1 w' nc 9 (.string nm) ∧
      Cell1 w' sc 9 (.string (str (Fp.frm s.data.toList))) ∧ Cell1 w' ec 28 (.int .i64 0) ∧ w'.heap[g]? = some (.cells (wclos dc nc sc ec) 75 (0, 0)) ∧ Below w.heap.size w w' := by
  have hmf : ∀ (fn : Fn) (first cap : Array Value) (w : World), (Instr.makeFunc fn first cap).run Tryz.prog w = .ok (.func fn first cap) w := fun _ _ _ _ => rfl
  have q0 : ∀ o, (w.alloc o).cell? ⟨bc, 0, none⟩ = some (.string s) := fun o => Lib.cell?_alloc_some _ hb.cell
  have hn0 : Cell1 (w.alloc (.cells #[.string nm] 9)) w.heap.size 9 (.string nm) := heap_alloc_new _ _
  have HP := Lib.hid (Fw.put_ok s hs (w.alloc (.cells #[.string nm] 9)))
  have hal := below_alloc (Below.refl w.heap.size w) (.cells #[.string nm] 9)
  have HZ := Lib.hid (And.intro hn0 hal)
  clear hb hn0 hal
  go_enter Tryz.func40, Tryz.ntmps40
  go_wp2_with fail
  refine HP.out.mono ?_
  rintro e w1 ⟨rfl, hb1⟩
  have HB := Lib.hid hb1
  clear hb1
  go_wp2_with fail
  go_ret
  obtain ⟨hn0, hal⟩ := HZ.out
  have hn1 := hn0.below HB.out
  have hb01 := hal.trans (HB.out.mono hal.size)
  refine ⟨w.heap.size, w1.heap.size, w1.heap.size + 1, w1.heap.size + 2, rfl, blk_alloc (blk_alloc (blk_alloc hn1)), ?_, ?_, ?_, ?_⟩
  · exact blk_alloc (blk_alloc (heap_alloc_new _ _))
  · exact blk_alloc (blk_new (by simp))
  · exact blk_new (by simp)
  · exact ((hb01.alloc hb01.size _).alloc (by simp; have := hb01.size; omega) _).alloc (by simp; have := hb01.size; omega) _
end Go.Proofs.YtpihmjdljbienaaGreatDoor.Dw

/- The walks of a log's Append and Read. -/
namespace Go.Proofs.YtpihmjdljbienaaGreatDoor.Dw
open Go.RowKit
open B En
set_option linter.unusedVariables false

/-- what a log's Append leaves: all lasts; or the power failed, and some of the new bytes are there -/
def Logged (B db fb room : Nat) (data : List UInt8) (left : Nat) (cn : Int) (cb : List Int) (b : List UInt8) (w : World) (r : Int) (w' : World) : Prop :=
  ((r = 0 ∧ left ≠ 1 ∧ left ≠ 2 ∧ D1 B db fb nm1 room (data ++ b) (data ++ b).length (less (less left)) cn cb false true w') ∨ (r = 13 ∧ (left = 1 ∨ left = 2) ∧ ∃ L, data.length ≤ L ∧ L ≤ (data ++ b).length ∧ D1 B db fb nm1 room ((data ++ b).take L) L 0 0 [] true false w')) ∧ Below B w w' ∧ Keeps dts w w'

set_option maxHeartbeats 1600000 in
set_option maxRecDepth 100000 in
theorem wappend_any (B db fb room : Nat) (data : List UInt8) (left : Nat) (cn : Int) (cb : List Int) (s : ByteArray) (w : World) (h : D1 B db fb nm1 room data data.length left cn cb false true w) (hBw : B ≤ w.heap.size) (hs : s.size ≤ 65535)
    (hlen : data.length + (8 + s.size) ≤ 1048576) (hroom : data.length + (8 + s.size) ≤ room) (hr9 : room ≤ 9223372036854775807) (hk9 : left ≤ 9223372036854775807) (hn0 : -9223372036854775808 ≤ cn) (hn1 : cn ≤ 9223372036854775807) (hbn : cb.length ≤ 9223372036854775807) (hbz : ∀ x ∈ cb, -9223372036854775808 ≤ x ∧ x ≤ 9223372036854775807) :
    Calls Tryz.prog 11 #[.pointer (some ⟨db, 0, none⟩), .int .i64 1, .string s] w fun e w' => ∃ r, e = .returned (.int .i64 r) ∧ Logged B db fb room data left cn cb (Fp.frm s.data.toList) w r w' := by
  have hmf : ∀ (fn : Fn) (first cap : Array Value) (w : World), (Instr.makeFunc fn first cap).run Tryz.prog w = .ok (.func fn first cap) w := fun _ _ _ _ => rfl
  have hal1 := below_alloc (Below.refl w.heap.size w) (.cells #[.pointer (some ⟨db, 0, none⟩)] 25)
  have hal2 := below_alloc hal1 (.cells #[.string s] 9)
  have hd0 : Cell1 ((w.alloc (.cells #[.pointer (some ⟨db, 0, none⟩)] 25)).alloc (.cells #[.string s] 9)) w.heap.size 25 (.pointer (some ⟨db, 0, none⟩)) := blk_alloc (heap_alloc_new _ _)
  have hs0 : Cell1 ((w.alloc (.cells #[.pointer (some ⟨db, 0, none⟩)] 25)).alloc (.cells #[.string s] 9)) (w.heap.size + 1) 9 (.string s) := blk_new (by simp)
  have hsz : (str (Fp.frm s.data.toList)).size = 8 + s.size := by rw [str_size, Fp.frm_len, Array.length_toList]; rfl
  have hst : (str (Fp.frm s.data.toList)).data.toList = Fp.frm s.data.toList := by simp [str]
  have hfl : (Fp.frm s.data.toList).length = 8 + s.size := by rw [Fp.frm_len, Array.length_toList]; rfl
  have hll : (data ++ Fp.frm s.data.toList).length = data.length + (8 + s.size) := by rw [List.length_append, hfl]
  generalize hfr : Fp.frm s.data.toList = F at *
  have HW := Lib.hid (with_any 40 #[.pointer (some ⟨w.heap.size + 1, 0, none⟩), .pointer (some ⟨w.heap.size, 0, none⟩)] ((w.alloc (.cells #[.pointer (some ⟨db, 0, none⟩)] 25)).alloc (.cells #[.string s] 9)) (Logged B db fb room data left cn cb F w) (enters Tryz.func40 rfl rfl _) (by
    intro w1 hb1
    have hb01 : Below w.heap.size w w1 := hal2.trans (hb1.mono hal2.size)
    have hd1 := hd0.below hb1
    have hs1 := hs0.below hb1
    refine (wappend1 (w.heap.size + 1) w.heap.size nm1 s w1 hs1 hs).mono ?_
    rintro e w2 ⟨nc, sc, ec, g, rfl, hn2, hs2, he2, hg2, hb2⟩
    rw [hfr] at hs2
    refine ⟨_, rfl, ?_⟩
    have hd2 := hd1.below hb2
    have hb02 : Below w.heap.size w w2 := hb01.trans (hb2.mono hb01.size)
    have hBw2 : B ≤ w2.heap.size := Nat.le_trans hBw hb02.size
    have hD2 := h.below hb02
    refine first3 g _ _ _ _ _ _ _ _ _ w2 hg2 _ (enters Tryz.func42 rfl rfl _) (enters Tryz.func43 rfl rfl _) (enters Tryz.func44 rfl rfl _) ?_
    refine (wappend11 ec w2 he2).mono ?_
    rintro e w3 ⟨rfl, rfl⟩
    refine ⟨0, rfl, .inr ⟨rfl, rfl, ?_⟩⟩
    refine wappend12 w.heap.size nc sc db nm1 (str F) w3 hd2 hn2 hs2 (fun r w' => (r ≠ 0 ∧ Logged B db fb room data left cn cb F w r w') ∨ (r = 0 ∧ w'.heap[g]? = w3.heap[g]? ∧ _)) ?_
    by_cases hl1 : left = 1
    · subst hl1
      refine (append_cut B db fb nm1 room data data.length cn cb (str F) w3 hD2 hBw2 (by omega) (by omega) hr9 hn0 hn1 hbn hbz).mono ?_
      rintro e w4 ⟨rfl, ⟨keep, hk, hD4⟩, hb4, hk4⟩
      rw [hst] at hD4
      refine ⟨13, rfl, .inl ⟨by decide, .inr ⟨rfl, .inl rfl, _, Nat.le_add_right _ keep, by omega, hD4⟩, (hb02.mono hBw).trans hb4, (Keeps.below hb02).trans hk4⟩⟩
    · refine (append_pass B db fb nm1 room data data.length left cn cb (str F) w3 hD2 hBw2 (by omega) (by omega) hr9 hl1 hk9).mono ?_
      rintro e w4 ⟨rfl, hD4, hb4, hk4⟩
      rw [hst] at hD4
      have hb04 : Below B w w4 := (hb02.mono hBw).trans hb4
      have hk04 : Keeps dts w w4 := (Keeps.below hb02).trans hk4
      have hBw4 : B ≤ w4.heap.size := Nat.le_trans hBw2 hb4.size
      refine ⟨0, rfl, .inr ⟨rfl, (hk4 _ _ _ _ hg2 (by decide)).trans hg2.symm, ?_⟩⟩
      refine wappend13 w.heap.size nc db nm1 w4 (hk4 _ _ _ _ hd2 (by decide)) (hk4 _ _ _ _ hn2 (by decide)) _ ?_
      by_cases hl2 : left = 2
      · subst hl2
        refine (sync_cut B db fb nm1 room (data ++ F) data.length cn cb true w4 hD4 hBw4 (by omega) hn0 hn1 hbn hbz).mono ?_
        rintro e w5 ⟨rfl, ⟨keep, hk, hD5⟩, hb5, hk5⟩
        exact ⟨13, rfl, .inr ⟨rfl, .inr rfl, _, Nat.le_add_right _ keep, hk, hD5⟩, hb04.trans hb5, hk04.trans hk5⟩
      · refine (sync_pass B db fb nm1 room (data ++ F) data.length (less left) cn cb true w4 hD4 hBw4 (by unfold less; omega) (by unfold less; omega)).mono ?_
        rintro e w5 ⟨rfl, hD5, hb5, hk5⟩
        exact ⟨0, rfl, .inl ⟨rfl, hl1, hl2, hD5⟩, hb04.trans hb5, hk04.trans hk5⟩))
  clear h hal1 hal2 hd0 hs0
  go_enter Tryz.func11, Tryz.ntmps11
  go_wp2_with fail
  refine HW.out.mono ?_
  rintro e w1 ⟨r, rfl, h1⟩
  have HX := Lib.hid h1
  clear h1
  go_wp2_with fail
  go_ret
  exact ⟨r, rfl, HX.out⟩
end Go.Proofs.YtpihmjdljbienaaGreatDoor.Dw

/- The walk of a log's Read. -/
namespace Go.Proofs.YtpihmjdljbienaaGreatDoor.Dw
open Go.RowKit
open B En
set_option linter.unusedVariables false

set_option maxHeartbeats 1600000 in
set_option maxRecDepth 100000 in
theorem wread_any (B db fb room : Nat) (data : List UInt8) (lasts left : Nat) (cn : Int) (cb : List Int) (own : Bool) (w : World) (h : D1 B db fb nm1 room data lasts left cn cb false own w) (hdl : data.length ≤ 16777216) (l : List ByteArray) (k : Nat) (er : Int) (hal : Fp.allF (str data) = (l, k, er)) (her : er = 10 ∨ er = 3) :
    Calls Tryz.prog 13 #[.pointer (some ⟨db, 0, none⟩), .int .i64 1] w fun e w' => ∃ a cap, e = .returned (.tuple #[.slice a l.length cap, .bool (er == 3), .int .i64 0]) ∧ Row w' a l.length (fun i => .string (l.getD i ByteArray.empty)) ∧ Below w.heap.size w w' := by
  have HN := Lib.hid (name_1 w)
  have HH := Lib.hid (fun w1 (hb : Below w.heap.size w w1) => read_any B db fb nm1 room data lasts left cn cb own w1 (h.below hb))
  have HA := Lib.hid (fun w1 => Fw.all_any (str data) (by rw [str_size]; omega) w1)
  rw [hal] at HA
  have ne : nm1.toList.isEmpty = false := by rw [ByteArray.toList_eq]; rfl
  have e4 : (er == 4) = false := by rcases her with rfl | rfl <;> rfl
  have e6 : (er == 6) = false := by rcases her with rfl | rfl <;> rfl
  have HE := Lib.hid her
  clear h hal her
  go_enter Tryz.func13, Tryz.ntmps13
  go_wp2_with fail
  refine HN.out.mono ?_
  rintro e w1 ⟨rfl, hb1⟩
  have HX := Lib.hid (HH.out w1 hb1)
  have HB := Lib.hid hb1
  clear hb1
  go_wp2_with fail
  refine HX.out.mono ?_
  rintro e w2 ⟨rfl, rfl⟩
  go_wp2_with fail
  refine (HA.out _).mono ?_
  rintro e w3 ⟨a, cap, rfl, hr, hb3⟩
  have HR := Lib.hid hr
  have HB3 := Lib.hid hb3
  clear hr hb3
  go_wp2_with fail
  go_ret3
  exact ⟨a, cap, rfl, HR.out, HB.out.trans (HB3.out.mono HB.out.size)⟩
end Go.Proofs.YtpihmjdljbienaaGreatDoor.Dw
