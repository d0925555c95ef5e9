/- The walk of the program's Open. -/
import Derived.Test.YtpihmjdljbienaaGreatDoorTabJ
import Derived.Defers
import Derived.Recover
import Derived.Deep.RegionLaw
import Derived.Deep.RegionWith
namespace Go.Proofs.YtpihmjdljbienaaGreatDoor.Tw
open Go.RowKit
open Tb Fp Fw Vp Vw B En
set_option linter.unusedVariables false

set_option maxRecDepth 100000 in
theorem catch_bad (p q : Nat) (x y : Value) (n : Int) (older : List PanicEntry) (w : World) (hc : w.cell? ⟨p, 0, none⟩ = some x) (hz : w.frozen? ⟨p, 0, none⟩ = false) (hd : (w.setCell ⟨p, 0, none⟩ (.pointer none)).cell? ⟨q, 0, none⟩ = some y) (hy : (w.setCell ⟨p, 0, none⟩ (.pointer none)).frozen? ⟨q, 0, none⟩ = false) :
    CallsD Tryz.prog 76 #[.pointer (some ⟨p, 0, none⟩), .pointer (some ⟨q, 0, none⟩)] (.panicking ({ v := .iface 140 (.int .i64 n), recovered := false } :: older)) w fun e u' w' =>
      e = .returned (.tuple #[]) ∧ u' = .panicking ({ v := .iface 140 (.int .i64 n), recovered := true } :: older) ∧ w' = (w.setCell ⟨p, 0, none⟩ (.pointer none)).setCell ⟨q, 0, none⟩ (.int .i64 n) := by
  have hta : ∀ W : World, (Instr.typeAssert (.iface 140 (.int .i64 n)) 20 140 true).run Tryz.prog W = .ok (.tuple #[.int .i64 n, .bool true]) W := fun _ => by kernel_rfl
  refine callsD_of_wpS Tryz.func76 rfl fun c₀ cs hu => ?_
  apply wpS_seq
  apply wpS_region
  simp [wpOpsS, go_sem, recoverD, hu, Tryz.ntmps76, Exit.thenS, hta]
  apply wpS_seq
  apply wpS_region
  simp [wpOpsS, go_sem, Exit.thenS]
  refine wpS_cond (t := true) (by simp [Act.eval]) ?_
  simp only [if_true]
  apply wpS_region
  simp [wpOpsS, go_sem, hc, hz, hd, hy, bodyPostS, results, Tryz.results76]

set_option maxRecDepth 100000 in
theorem catch_idle (p q : Nat) (w : World) :
    CallsD Tryz.prog 76 #[.pointer (some ⟨p, 0, none⟩), .pointer (some ⟨q, 0, none⟩)] .returning w fun e u' w' => e = .returned (.tuple #[]) ∧ u' = .returning ∧ w' = w := by
  have hta : ∀ W : World, (Instr.typeAssert .nilIface 20 140 true).run Tryz.prog W = .ok (.tuple #[.int .i64 0, .bool false]) W := fun _ => by kernel_rfl
  refine callsD_of_wpS Tryz.func76 rfl fun c₀ cs hu => ?_
  apply wpS_seq
  apply wpS_region
  simp [wpOpsS, go_sem, recoverD, hu, Tryz.ntmps76, Exit.thenS, hta]
  apply wpS_seq
  apply wpS_region
  simp [wpOpsS, go_sem, Exit.thenS]
  refine wpS_cond (t := false) (by simp [Act.eval]) ?_
  simp only [Bool.false_eq_true, if_false]
  refine wpS_of_wp (wp_skip ?_)
  cases c₀
  simp_all [bodyPostS, results, Tryz.results76]

/-- a row's address as the program makes it -/
def Adr (a : Option Addr) : Prop := a = none ∨ ∃ b off, a = some ⟨b, off, none⟩
theorem own_adr {w : World} {B n size m cap : Nat} {e : TypeId} {a : Option Addr} {xs : List Value} (h : w.ownsRow B e size (.slice a m cap) n xs) : Adr a := by
  rcases h.2 with ⟨hv, _⟩ | ⟨g, c, cur, hv, _⟩
  · cases hv; exact .inl rfl
  · cases hv; exact .inr ⟨g, 0, rfl⟩
/-- a table in memory -/
structure TBox (w : World) (tb : Nat) (g : Src) (s : ByteArray) (sp : List Sp) (f : ByteArray) : Prop where
  ex : ∃ a c, w.heap[tb]? = some (.cells #[.func (.func g.f) #[] g.caps, .slice a sp.length c, .string f] 148 (0, 0)) ∧ SRow w a sp ∧ sp.length ≤ c ∧ c ≤ 9223372036854775807 ∧ Adr a
  src : g.I s w
theorem TBox.below {w w' : World} {tb : Nat} {g : Src} {s f : ByteArray} {sp : List Sp} (h : TBox w tb g s sp f) (k : Below w.heap.size w w') : TBox w' tb g s sp f := by
  obtain ⟨a, c, h1, h2, h3⟩ := h.ex
  exact ⟨⟨a, c, (k.block tb (lt_of_block h1)).trans h1, h2.below k, h3⟩, g.below h.src k⟩
theorem TBox.lt {w : World} {tb : Nat} {g : Src} {s f : ByteArray} {sp : List Sp} (h : TBox w tb g s sp f) : tb < w.heap.size := by
  obtain ⟨a, c, h1, _⟩ := h.ex
  exact lt_of_block h1

/-- a table, or an error -/
def GotO (w : World) (g : Src) (s : ByteArray) (r : TR) (e : Ending) (w' : World) : Prop :=
  Below w.heap.size w w' ∧ ((r.e = 0 ∧ ∃ tb, e = .returned (.tuple #[.pointer (some ⟨tb, 0, none⟩), .int .i64 0]) ∧ TBox w' tb g s r.sp r.filter) ∨ (r.e ≠ 0 ∧ e = .returned (.tuple #[.pointer none, .int .i64 r.e])))

theorem door_bad {w W : World} {T : Array Value} {n : Int} {x y : Value} {g : Src} {s : ByteArray} (h2 : T.getD 4 undef = .pointer (some ⟨w.heap.size, 0, none⟩)) (h3 : T.getD 5 undef = .pointer (some ⟨w.heap.size + 1, 0, none⟩))
    (hA : Cell1 W w.heap.size 57 x) (hE : Cell1 W (w.heap.size + 1) 28 y) (hB : Below w.heap.size w W) (hn : n ≠ 0) :
    bodyPostD Tryz.prog Tryz.f22 (GotO w g s ⟨[], str [], n⟩) (.panic [{ v := .iface 140 (.int .i64 n), recovered := false }])
      { tmps := T, defers := [{ target := .fn (.func 76) #[.pointer (some ⟨w.heap.size, 0, none⟩), .pointer (some ⟨w.heap.size + 1, 0, none⟩)], args := #[] }] } W := by
  refine leaves_cons (f := 76) (args := #[.pointer (some ⟨w.heap.size, 0, none⟩), .pointer (some ⟨w.heap.size + 1, 0, none⟩)]) (by simp) (by simp [go_sem]) ?_
  have hE2 := hE.far (p := ⟨w.heap.size, 0, none⟩) (by simp) (.pointer none)
  refine (catch_bad w.heap.size (w.heap.size + 1) _ _ _ [] _ hA.cell hA.fz hE2.cell hE2.fz).mono ?_
  rintro e u' w'' ⟨rfl, rfl, rfl⟩
  have hA3 := ((hA.set (.pointer none)).far (p := ⟨w.heap.size + 1, 0, none⟩) (by simp) (.int .i64 n)).cell
  have hE3 := (hE2.set (.int .i64 n)).cell
  simp [Array.getD_eq_getD_getElem?] at h2 h3
  simp [Leaves, settle, results, Tryz.results22, go_sem, hA3, hE3, h2, h3]
  exact ⟨(hB.setCell (p := ⟨w.heap.size, 0, none⟩) (Nat.le_refl _) _).setCell (p := ⟨w.heap.size + 1, 0, none⟩) (by simp) _, .inr ⟨hn, rfl⟩⟩
theorem door_ret {w W : World} {T : Array Value} {tb : Nat} {g : Src} {s : ByteArray} {r : TR} (h2 : T.getD 4 undef = .pointer (some ⟨w.heap.size, 0, none⟩)) (h3 : T.getD 5 undef = .pointer (some ⟨w.heap.size + 1, 0, none⟩))
    (hA : Cell1 W w.heap.size 57 (.pointer (some ⟨tb, 0, none⟩))) (hE : Cell1 W (w.heap.size + 1) 28 (.int .i64 0)) (hB : Below w.heap.size w W) (hr : r.e = 0) (hT : TBox W tb g s r.sp r.filter) :
    bodyPostD Tryz.prog Tryz.f22 (GotO w g s r) .ret
      { tmps := T, defers := [{ target := .fn (.func 76) #[.pointer (some ⟨w.heap.size, 0, none⟩), .pointer (some ⟨w.heap.size + 1, 0, none⟩)], args := #[] }] } W := by
  refine leaves_cons (f := 76) (args := #[.pointer (some ⟨w.heap.size, 0, none⟩), .pointer (some ⟨w.heap.size + 1, 0, none⟩)]) (by simp) (by simp [go_sem]) ?_
  refine (catch_idle w.heap.size (w.heap.size + 1) _).mono ?_
  rintro e u' w'' ⟨rfl, rfl, rfl⟩
  have hA3 := hA.cell
  have hE3 := hE.cell
  simp [Array.getD_eq_getD_getElem?] at h2 h3
  simp [Leaves, settle, results, Tryz.results22, go_sem, hA3, hE3, h2, h3]
  exact ⟨hB, .inl ⟨hr, tb, rfl, hT⟩⟩

theorem door_early {w W : World} {T : Array Value} {n : Int} {g : Src} {s : ByteArray} (h2 : T.getD 4 undef = .pointer (some ⟨w.heap.size, 0, none⟩)) (h3 : T.getD 5 undef = .pointer (some ⟨w.heap.size + 1, 0, none⟩))
    (hA : Cell1 W w.heap.size 57 (.pointer none)) (hE : Cell1 W (w.heap.size + 1) 28 (.int .i64 n)) (hB : Below w.heap.size w W) (hn : n ≠ 0) :
    bodyPostD Tryz.prog Tryz.f22 (GotO w g s ⟨[], str [], n⟩) .ret { tmps := T, defers := [] } W := by
  have hA3 := hA.cell
  have hE3 := hE.cell
  simp [Array.getD_eq_getD_getElem?] at h2 h3
  simp [bodyPostD, Leaves, results, Tryz.results22, go_sem, hA3, hE3, h2, h3]
  exact ⟨hB, .inr ⟨hn, rfl⟩⟩

theorem cell_drewN {w : World} {g n : Nat} {t : TypeId} {v : Value} (h : Cell1 w g t v) : Cell1 (w.drewN n) g t v := h

/-! the cases -/
theorem open_short {s : ByteArray} {z : Int} (h : z < 24) : openB s z = ⟨[], str [], 3⟩ := if_pos h
theorem open_foot {s : ByteArray} {z : Int} (h : ¬ z < 24) (h1 : (bodyB s (z - 24) 24).e ≠ 0) : openB s z = ⟨[], str [], (bodyB s (z - 24) 24).e⟩ := by unfold openB; rw [if_neg h, if_pos h1]
theorem open_head {s : ByteArray} {z : Int} (h : ¬ z < 24) (h1 : (bodyB s (z - 24) 24).e = 0) : openB s z = headB s (z - 24) (num8 ((bodyB s (z - 24) 24).t.data.toList.take 8)) (num8 ((bodyB s (z - 24) 24).t.data.toList.drop 8)) := by
  unfold openB; rw [if_neg h, if_neg (by simp [h1])]
theorem foot_x {b : ByteArray} (h : b.size = 16) : (b.extract 0 8).size = 8 ∧ (b.extract 0 8).data.toList = b.data.toList.take 8 ∧ (b.extract 8 16).size = 8 ∧ (b.extract 8 16).data.toList = b.data.toList.drop 8 := by
  refine ⟨by simp [ByteArray.size_extract]; omega, by rw [extract0, toList_str], by simp [ByteArray.size_extract]; omega, ?_⟩
  rw [extract_str, toList_str, List.take_of_length_le (by simp; omega)]

set_option maxHeartbeats 1600000 in
set_option maxRecDepth 100000 in
theorem open_any (g : Src) (s : ByteArray) (hs : s.size ≤ 140737488351232) (z : Int) (hz : z ≤ 9223372036854775807) (w : World) (hc : g.I s w) :
    Calls Tryz.prog 22 #[.func (.func g.f) #[] g.caps, .int .i64 z] w (GotO w g s (openB s z)) := by
  have hmf : ∀ (fn : Fn) (first cap : Array Value) (w : World), (Instr.makeFunc fn first cap).run Tryz.prog w = .ok (.func fn first cap) w := fun _ _ _ _ => rfl
  have hs2 : s.size ≤ 4611686018427387904 := by omega
  have hnf : ∀ W : World, Sem.run Tryz.prog (Go.binOp .eql 139 (.func (.func g.f) #[] g.caps) .nilFunc) W = .ok (.bool false) W := fun _ => by rfl
  by_cases h0 : z < 24
  · rw [open_short h0]
    have d0 : decide (z < 24) = true := dt h0
    go_enter_defers Tryz.func22, Tryz.ntmps22
    go_wp2_with fail
    exact door_early rfl rfl (blk_alloc (heap_alloc_new _ _)) (blk_new (by simp)) (below_alloc (below_alloc (Below.refl _ _) _) _) (by decide)
  obtain ⟨m, rfl⟩ : ∃ m : Nat, z = (m : Int) + 24 := ⟨(z - 24).toNat, by omega⟩
  have d0 : decide ((m : Int) + 24 < 24) = false := df (by omega)
  have e0 : IntKind.i64.wrap ((m : Int) + 24 - 24) = (m : Int) := by rw [IntWalk.i64_in _ (by omega)]; omega
  have e0' : (m : Int) + 24 - 24 = (m : Int) := by omega
  have e1 : IntKind.u64.wrap (m : Int) = (m : Int) := by rw [IntKind.wrap_u64]; omega
  by_cases h1 : (bodyB s m 24).e = 0
  case neg =>
    rw [open_foot h0 (by rw [e0']; exact h1), e0']
    have HM := Lib.hid (fun W hc => mustBody_bad g s hs2 m 24 rfl h1 W hc)
    generalize (bodyB s m 24).e = x at HM h1 ⊢
    clear e0' h0
    go_enter_defers Tryz.func22, Tryz.ntmps22
    go_wp2_with fail
    generalize hW : World.alloc _ _ = W0
    have hA : Cell1 W0 w.heap.size 57 (.pointer none) := by rw [← hW]; exact blk_alloc (heap_alloc_new _ _)
    have hE : Cell1 W0 (w.heap.size + 1) 28 (.int .i64 0) := by rw [← hW]; exact blk_new (by simp)
    have hG : g.I s W0 := by rw [← hW]; exact g.below hc (below_alloc (below_alloc (Below.refl _ _) _) _)
    have hB : Below w.heap.size w W0 := by rw [← hW]; exact below_alloc (below_alloc (Below.refl _ _) _) _
    clear hW hc
    refine (HM.out _ hG).mono ?_
    rintro e w1 ⟨rfl, hb⟩
    have HA := Lib.hid (hA.below hb)
    have HE := Lib.hid (hE.below hb)
    have HB := Lib.hid (chain hB hb)
    clear hA hE hB hb hG
    go_wp2_with fail
    exact door_bad rfl rfl HA.out HE.out HB.out h1
  have hbd := bodyB_size h1
  have hb16 : (bodyB s m 24).t.size = 16 := by omega
  rw [open_head h0 (by rw [e0']; exact h1), e0']
  have HM := Lib.hid (fun W hc => mustBody_ok g s hs2 m 24 rfl h1 W hc)
  obtain ⟨q1, q2, q3, q4⟩ := foot_x hb16
  have HX := Lib.hid (fun W => place_any _ q1 W)
  have HY := Lib.hid (fun W => place_any _ q3 W)
  rw [q2] at HX
  rw [q4] at HY
  have hx : num8 ((bodyB s m 24).t.data.toList.take 8) < 18446744073709551616 := Nat.lt_of_lt_of_le (num8_lt _) (Nat.le_trans (Nat.pow_le_pow_right (by decide) (show _ ≤ 8 by rw [List.length_take]; omega)) (by decide))
  have hy : num8 ((bodyB s m 24).t.data.toList.drop 8) < 18446744073709551616 := Nat.lt_of_lt_of_le (num8_lt _) (Nat.le_trans (Nat.pow_le_pow_right (by decide) (show _ ≤ 8 by rw [List.length_drop]; simp; omega)) (by decide))
  clear q1 q2 q3 q4
  generalize num8 ((bodyB s m 24).t.data.toList.take 8) = X at HX hx ⊢
  generalize num8 ((bodyB s m 24).t.data.toList.drop 8) = Y at HY hy ⊢
  generalize (bodyB s m 24).t = b at HM HX HY hb16 hbd
  have hms : (m : Int) + 24 ≤ s.size := hbd.2.2.2.2
  obtain ⟨r, hr⟩ : ∃ r, r = headB s m X Y := ⟨_, rfl⟩
  rw [← hr]
  have HR := Lib.hid hr
  clear hr
  clear hbd h1 h0 e0'
  have i8 : (8 : Int) ≤ (b.size : Int) := by omega
  have i9 : (8 : Nat) ≤ b.size := by omega
  go_enter_defers Tryz.func22, Tryz.ntmps22
  go_wp2_with fail
  generalize hW : World.alloc _ _ = W0
  have hA : Cell1 W0 w.heap.size 57 (.pointer none) := by rw [← hW]; exact blk_alloc (heap_alloc_new _ _)
  have hE : Cell1 W0 (w.heap.size + 1) 28 (.int .i64 0) := by rw [← hW]; exact blk_new (by simp)
  have hG : g.I s W0 := by rw [← hW]; exact g.below hc (below_alloc (below_alloc (Below.refl _ _) _) _)
  have hB : Below w.heap.size w W0 := by rw [← hW]; exact below_alloc (below_alloc (Below.refl _ _) _) _
  have HC0 := Lib.hid hc
  clear hW hc
  refine (HM.out _ hG).mono ?_
  rintro e w1 ⟨rfl, hb⟩
  have HA := Lib.hid (hA.below hb)
  have HE := Lib.hid (hE.below hb)
  have HG := Lib.hid (g.below hG hb)
  have HB := Lib.hid (chain hB hb)
  clear hA hE hB hb hG HM
  go_wp2_with fail
  go_region_held3 (fun w' => Below w1.heap.size w1 w') (first | assumption | exact Below.refl _ _ | exact Below.drew (Below.refl _ _) | exact Below.drew (by assumption) | exact chain (by assumption) hb3 | exact chain (by assumption) hb4) (first | (go_at_call 78; (with_reducible refine (HX.out _).mono ?_); rintro e w3 ⟨rfl, hb3⟩) | (go_at_call 78; (with_reducible refine (HY.out _).mono ?_); rintro e w4 ⟨rfl, hb4⟩))
  have hB8 : Below w1.heap.size w1 w4 := by assumption
  have hA4 := HA.out.below hB8
  have hE4 := HE.out.below hB8
  have hG4 := g.below HG.out hB8
  have hB4 := chain HB.out hB8
  have HA4 := Lib.hid hA4
  have HE4 := Lib.hid hE4
  have HG4 := Lib.hid hG4
  have HB4 := Lib.hid hB4
  clear hB8 hA4 hE4 hG4 hB4 hb3 hb4 HA HE HG HB HX HY
  by_cases k1 : X ≤ Y
  case neg =>
    obtain rfl : r = ⟨[], str [], 4⟩ := by rw [HR.out]; unfold headB; rw [if_pos (fun h => k1 h.1)]
    have d1 : decide (X ≤ Y) = false := df k1
    clear k1
    go_wp2_with fail
    refine (mustBe_bad _).mono ?_
    rintro e w5 ⟨rfl, rfl⟩
    go_wp2_with fail
    exact door_bad rfl rfl HA4.out HE4.out HB4.out (by decide)
  by_cases k2 : Y ≤ m
  case neg =>
    obtain rfl : r = ⟨[], str [], 4⟩ := by rw [HR.out]; unfold headB; rw [if_pos (fun h => k2 (by omega))]
    have d1 : decide (X ≤ Y) = true := dt k1
    have d2 : decide (Y ≤ m) = false := df k2
    clear k1 k2
    go_wp2_with fail
    refine (mustBe_bad _).mono ?_
    rintro e w5 ⟨rfl, rfl⟩
    go_wp2_with fail
    exact door_bad rfl rfl HA4.out HE4.out HB4.out (by decide)
  have d1 : decide (X ≤ Y) = true := dt k1
  have d2 : decide (Y ≤ m) = true := dt k2
  have hr : headB s m X Y = if (bodyB s X ((Y : Int) - X)).e ≠ 0 then ⟨[], str [], (bodyB s X ((Y : Int) - X)).e⟩ else
      if (bodyB s Y ((m : Int) - Y)).e ≠ 0 then ⟨[], str [], (bodyB s Y ((m : Int) - Y)).e⟩ else
      if (spansB (bodyB s X ((Y : Int) - X)).t X).2 ≠ 0 then ⟨[], str [], (spansB (bodyB s X ((Y : Int) - X)).t X).2⟩ else
      ⟨(spansB (bodyB s X ((Y : Int) - X)).t X).1, (bodyB s Y ((m : Int) - Y)).t, 0⟩ := by unfold headB; rw [if_neg (fun h => h ⟨k1, by omega⟩)]
  rw [hr] at HR
  clear hr
  have f1 : IntKind.i64.wrap (X : Int) = (X : Int) := IntWalk.i64_in _ (by omega)
  have f2 : IntKind.i64.wrap (Y : Int) = (Y : Int) := IntWalk.i64_in _ (by omega)
  have f3 : IntKind.u64.wrap ((Y : Int) - (X : Int)) = (Y : Int) - (X : Int) := by rw [IntKind.wrap_u64]; omega
  have f4 : IntKind.i64.wrap ((Y : Int) - (X : Int)) = (Y : Int) - (X : Int) := IntWalk.i64_in _ (by omega)
  have f5 : IntKind.u64.wrap ((m : Int) - (Y : Int)) = (m : Int) - (Y : Int) := by rw [IntKind.wrap_u64]; omega
  have f6 : IntKind.i64.wrap ((m : Int) - (Y : Int)) = (m : Int) - (Y : Int) := IntWalk.i64_in _ (by omega)
  by_cases j1 : (bodyB s X ((Y : Int) - X)).e = 0
  case neg =>
    rw [if_pos j1] at HR
    have HM := Lib.hid (fun W hc => mustBody_bad g s hs2 X ((Y : Int) - X) rfl j1 W hc)
    generalize (bodyB s X ((Y : Int) - X)).e = x at HM j1 HR
    obtain rfl : r = ⟨[], str [], x⟩ := HR.out
    go_wp2_with fail
    refine (mustBe_ok _).mono ?_
    rintro e w5 ⟨rfl, rfl⟩
    go_wp2_with fail
    refine (HM.out _ HG4.out).mono ?_
    rintro e w6 ⟨rfl, hb⟩
    have HA := Lib.hid (HA4.out.below hb)
    have HE := Lib.hid (HE4.out.below hb)
    have HB := Lib.hid (chain HB4.out hb)
    clear hb
    go_wp2_with fail
    exact door_bad rfl rfl HA.out HE.out HB.out j1
  rw [if_neg (fun h => h j1)] at HR
  have HM := Lib.hid (fun W hc => mustBody_ok g s hs2 X ((Y : Int) - X) rfl j1 W hc)
  have hl1 := (bodyB_size j1).2.1
  generalize (bodyB s X ((Y : Int) - X)).t = ix at HM hl1 HR
  clear j1
  by_cases j2 : (bodyB s Y ((m : Int) - Y)).e = 0
  case neg =>
    rw [if_pos j2] at HR
    have HM2 := Lib.hid (fun W hc => mustBody_bad g s hs2 Y ((m : Int) - Y) rfl j2 W hc)
    generalize (bodyB s Y ((m : Int) - Y)).e = x at HM2 j2 HR
    obtain rfl : r = ⟨[], str [], x⟩ := HR.out
    go_wp2_with fail
    refine (mustBe_ok _).mono ?_
    rintro e w5 ⟨rfl, rfl⟩
    go_wp2_with fail
    refine (HM.out _ HG4.out).mono ?_
    rintro e w6 ⟨rfl, hb⟩
    have HA := Lib.hid (HA4.out.below hb)
    have HE := Lib.hid (HE4.out.below hb)
    have HG := Lib.hid (g.below HG4.out hb)
    have HB := Lib.hid (chain HB4.out hb)
    clear hb
    go_wp2_with fail
    refine (HM2.out _ HG.out).mono ?_
    rintro e w7 ⟨rfl, hb⟩
    have HA7 := Lib.hid (HA.out.below hb)
    have HE7 := Lib.hid (HE.out.below hb)
    have HB7 := Lib.hid (chain HB.out hb)
    clear hb
    go_wp2_with fail
    exact door_bad rfl rfl HA7.out HE7.out HB7.out j2
  rw [if_neg (fun h => h j2)] at HR
  have HM2 := Lib.hid (fun W hc => mustBody_ok g s hs2 Y ((m : Int) - Y) rfl j2 W hc)
  generalize (bodyB s Y ((m : Int) - Y)).t = fl at HM2 HR
  clear j2
  have HS := Lib.hid (fun W => spans_any ix hl1 X (by omega) W)
  generalize spansB ix X = sp at HS HR
  obtain ⟨sp, se⟩ := sp
  simp only at HS HR
  go_wp2_with fail
  refine (mustBe_ok _).mono ?_
  rintro e w5 ⟨rfl, rfl⟩
  go_wp2_with fail
  refine (HM.out _ HG4.out).mono ?_
  rintro e w6 ⟨rfl, hb⟩
  have HA := Lib.hid (HA4.out.below hb)
  have HE := Lib.hid (HE4.out.below hb)
  have HG := Lib.hid (g.below HG4.out hb)
  have HB := Lib.hid (chain HB4.out hb)
  clear hb HA4 HE4 HG4 HB4 HM
  go_wp2_with fail
  refine (HM2.out _ HG.out).mono ?_
  rintro e w7 ⟨rfl, hb⟩
  have HA7 := Lib.hid (HA.out.below hb)
  have HE7 := Lib.hid (HE.out.below hb)
  have HG7 := Lib.hid (g.below HG.out hb)
  have HB7 := Lib.hid (chain HB.out hb)
  clear hb HA HE HG HB HM2
  go_wp2_with fail
  refine (HS.out _).mono ?_
  rintro e w8 ⟨hb, ⟨h0, a, c, rfl, hO⟩ | ⟨h0, rfl⟩⟩
  · simp only at h0 hO
    subst h0
    rw [if_neg (fun h => h rfl)] at HR
    obtain rfl : r = ⟨sp, fl, 0⟩ := HR.out
    have hA8 := HA7.out.below hb
    have hE8 := HE7.out.below hb
    have hB8 := chain HB7.out hb
    have hcp := Ew.cap_own hO
    have HAD := Lib.hid (own_adr hO)
    have hR8 := Ew.own_setOther (Ew.own_setOther hO hA8 (by decide) (.pointer (some ⟨w8.heap.size, 0, none⟩))) (hE8.far (p := ⟨w.heap.size, 0, none⟩) (by simp) _) (by decide) (.int .i64 0)
    have HA8 := Lib.hid hA8
    have HE8 := Lib.hid hE8
    have HB8 := Lib.hid hB8
    have HR8 := Lib.hid hR8
    have cA := hA8.cell
    have fA := hA8.fz
    have lA := hA8.lt
    have lE := hE8.lt
    have cE := hE8.cell
    have fE := hE8.fz
    clear hA8 hE8 hB8 hR8 hO hb
    go_wp2_with fail
    exact door_ret rfl rfl (blk_alloc ((HA8.out.set _).far (by simp) _)) (blk_alloc ((HE8.out.far (by simp) _).set _)) (below_alloc ((HB8.out.setCell (p := ⟨w.heap.size, 0, none⟩) (Nat.le_refl _) _).setCell (p := ⟨w.heap.size + 1, 0, none⟩) (by simp) _) _) rfl
      ⟨⟨a, c, blk_new (by simp), (own_srow (HR8.out.alloc _)).2.2, hcp.1, hcp.2, HAD.out⟩, g.below HC0.out (below_alloc ((HB8.out.setCell (p := ⟨w.heap.size, 0, none⟩) (Nat.le_refl _) _).setCell (p := ⟨w.heap.size + 1, 0, none⟩) (by simp) _) _)⟩
  · simp only at h0
    rw [if_pos h0] at HR
    obtain rfl : r = ⟨[], str [], se⟩ := HR.out
    have HA8 := Lib.hid (HA7.out.below hb)
    have HE8 := Lib.hid (HE7.out.below hb)
    have HB8 := Lib.hid (chain HB7.out hb)
    clear hb
    go_wp2_with fail
    exact door_bad rfl rfl HA8.out HE8.out HB8.out h0
end Go.Proofs.YtpihmjdljbienaaGreatDoor.Tw
