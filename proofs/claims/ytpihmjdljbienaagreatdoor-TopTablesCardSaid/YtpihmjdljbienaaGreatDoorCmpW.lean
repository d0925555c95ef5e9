/- The walks of the order of entries: strings.Compare, cmp.Compare, cmp.Or, skip.compare, skip.Less, the reference's Less. -/
import Derived.Test.YtpihmjdljbienaaGreatDoorRows
import Derived.Test.YtpihmjdljbienaaGreatDoorGa
import Derived.Test.YtpihmjdljbienaaGreatDoorGb
import Derived.Deep.RegionHeld3
import Derived.WalkLawsBesides
namespace Go.Proofs.YtpihmjdljbienaaGreatDoor.Ew
open Go.RowKit
open En B
set_option linter.unusedVariables false

set_option maxHeartbeats 400000 in
set_option maxRecDepth 100000 in
theorem cmpString_any (a b : ByteArray) (w : World) : Calls Tryz.prog 140 #[.string a, .string b] w fun e w' => e = .returned (.int .i64 (cmpK a b)) ∧ w = w' := by
  go_enter Tryz.func140, Tryz.ntmps140
  go_wp2
  rw [run_callFunc_extern Tryz.func156 (by kernel_rfl) (by kernel_rfl) (by kernel_rfl) (e := Extern.BytealgCompare.compare) (by kernel_rfl), Lib.run_compareString]
  simp only [Result.andThen]
  rw [Oper.upon_value]
  go_wp2
  go_ret
  exact ⟨rfl, rfl⟩
theorem strCompare_any (a b : ByteArray) (w : World) : Calls Tryz.prog 105 #[.string a, .string b] w fun e w' => e = .returned (.int .i64 (cmpK a b)) ∧ w = w' := by
  go_enter Tryz.func105, Tryz.ntmps105
  go_wp2_with fail
  refine (cmpString_any a b _).mono ?_
  rintro e w1 ⟨rfl, rfl⟩
  go_wp2_with fail
  go_ret
  exact ⟨rfl, rfl⟩
theorem isNaN_any (x : Int) (w : World) : Calls Tryz.prog 141 #[.int .i64 x] w fun e w' => e = .returned (.bool false) ∧ w = w' := by
  have h : (x != x) = false := nf rfl
  go_enter Tryz.func141, Tryz.ntmps141
  go_wp2_with fail
  go_ret
  exact ⟨rfl, rfl⟩
def cmpI (x y : Int) : Int := if x < y then -1 else if y < x then 1 else 0
theorem cmpInt_any (x y : Int) (w : World) : Calls Tryz.prog 106 #[.int .i64 x, .int .i64 y] w fun e w' => e = .returned (.int .i64 (cmpI x y)) ∧ w = w' := by
  obtain ⟨r, hr⟩ : ∃ r, r = cmpI x y := ⟨_, rfl⟩
  rw [← hr]
  unfold cmpI at hr
  by_cases h : x < y
  · rw [if_pos h] at hr
    subst hr
    have t1 : decide (x < y) = true := dt h
    go_enter Tryz.func106, Tryz.ntmps106
    go_wp2_with fail
    refine (isNaN_any _ _).mono ?_
    rintro e w1 ⟨rfl, rfl⟩
    go_wp2_with fail
    refine (isNaN_any _ _).mono ?_
    rintro e w1 ⟨rfl, rfl⟩
    go_wp2_with fail
    go_ret
    exact ⟨rfl, rfl⟩
  · rw [if_neg h] at hr
    have t1 : decide (x < y) = false := df h
    by_cases h2 : y < x
    · rw [if_pos h2] at hr
      subst hr
      have t2 : decide (y < x) = true := dt h2
      go_enter Tryz.func106, Tryz.ntmps106
      go_wp2_with fail
      refine (isNaN_any _ _).mono ?_
      rintro e w1 ⟨rfl, rfl⟩
      go_wp2_with fail
      refine (isNaN_any _ _).mono ?_
      rintro e w1 ⟨rfl, rfl⟩
      go_wp2_with fail
      go_ret
      exact ⟨rfl, rfl⟩
    · rw [if_neg h2] at hr
      subst hr
      have t2 : decide (y < x) = false := df h2
      go_enter Tryz.func106, Tryz.ntmps106
      go_wp2_with fail
      refine (isNaN_any _ _).mono ?_
      rintro e w1 ⟨rfl, rfl⟩
      go_wp2_with fail
      refine (isNaN_any _ _).mono ?_
      rintro e w1 ⟨rfl, rfl⟩
      go_wp2_with fail
      go_ret
      exact ⟨rfl, rfl⟩
/-- the first of two numbers that is not 0 -/
theorem or_any (g : Nat) (x y : Int) (w : World) (hx : w.cell? ⟨g, 0, none⟩ = some (.int .i64 x)) (hy : w.cell? ⟨g, 1, none⟩ = some (.int .i64 y)) (hb : (-1 ≤ x ∧ x ≤ 1) ∧ (-1 ≤ y ∧ y ≤ 1)) (r : Int) (HR : Hid (r = if x ≠ 0 then x else y)) :
    Calls Tryz.prog 104 #[.slice (some ⟨g, 0, none⟩) 2 2] w fun e w' => e = .returned (.int .i64 r) ∧ w = w' := by
  go_enter Tryz.func104, Tryz.ntmps104
  go_wp2_with fail
  go_loop [8] (fun i => ∃ j : Nat, i = .int .i64 j ∧ j ≤ 2 ∧ (1 ≤ j → Hid (x = 0)) ∧ (2 ≤ j → Hid (y = 0))) (fun i => 2 - (intOf i).toNat)
  case atStart => exact ⟨0, rfl, by omega, fun h => absurd h (by omega), fun h => absurd h (by omega)⟩
  case round =>
    obtain ⟨j, rfl, hj, h1, h2⟩ := hrel
    have hj3 : j = 0 ∨ j = 1 ∨ j = 2 := by omega
    rcases hj3 with rfl | rfl | rfl
    · clear h1 h2
      by_cases h0 : x = 0
      · have H0 := Lib.hid h0
        have e1 : (x != 0) = false := nf h0
        clear h0
        go_wp2_with fail
        go_round
        case rel => exact ⟨1, rfl, by omega, fun _ => H0.out, fun h => absurd h (by omega)⟩
        case measure => simp [intOf]
      · have e1 : (x != 0) = true := nt h0
        have hre : r = x := by rw [HR.out, if_pos h0]
        subst hre
        clear h0
        go_wp2_with fail
        go_ret
        exact ⟨rfl, rfl⟩
    · have hx0 := (h1 (by omega)).out
      have hre : r = y := by rw [HR.out, if_neg (by simp [hx0])]
      subst hre
      clear h1 h2 hx0
      by_cases h0 : r = 0
      · have H0 := Lib.hid h0
        have e1 : (r != 0) = false := nf h0
        clear h0
        go_wp2_with fail
        go_round
        case rel => exact ⟨2, rfl, by omega, fun _ => by have := HR.out; by_cases hh : x = 0; exact hh; rw [if_pos hh] at this; rw [← this]; exact H0.out, fun _ => H0.out⟩
        case measure => simp [intOf]
      · have e1 : (r != 0) = true := nt h0
        clear h0
        go_wp2_with fail
        go_ret
        exact ⟨rfl, rfl⟩
    · have hx0 := (h1 (by omega)).out
      have hy0 := (h2 (by omega)).out
      have hre : r = 0 := by rw [HR.out, if_neg (by simp [hx0]), hy0]
      subst hre
      clear h1 h2 hx0 hy0
      go_wp2_with fail
      go_ret
      exact ⟨rfl, rfl⟩

theorem keep4 {W : World} {A : Nat} {a b c d : Value} (h : W.cell? ⟨A, 0, none⟩ = some a ∧ W.cell? ⟨A + 1, 0, none⟩ = some b ∧ W.cell? ⟨A + 1, 1, none⟩ = some c ∧ W.cell? ⟨A, 1, none⟩ = some d ∧ A + 1 < W.heap.size) (o : Obj) :
    (W.alloc o).drew.cell? ⟨A, 0, none⟩ = some a ∧ (W.alloc o).drew.cell? ⟨A + 1, 0, none⟩ = some b ∧ (W.alloc o).drew.cell? ⟨A + 1, 1, none⟩ = some c ∧ (W.alloc o).drew.cell? ⟨A, 1, none⟩ = some d ∧ A + 1 < (W.alloc o).drew.heap.size := by
  have hh : A + 1 < W.heap.size := h.2.2.2.2
  have key : ∀ p : Addr, p.block < W.heap.size → (W.alloc o).drew.cell? p = W.cell? p := fun p hp => World.cell?_alloc_lt W o p hp
  refine ⟨(key _ (by show A < _; omega)).trans h.1, (key _ hh).trans h.2.1, (key _ hh).trans h.2.2.1, (key _ (by show A < _; omega)).trans h.2.2.2.1, ?_⟩
  show A + 1 < (W.alloc o).heap.size
  simp; omega
theorem cmpE_or (x y : Ent) : (if cmpK x.key y.key ≠ 0 then cmpK x.key y.key else cmpI y.seq x.seq) = cmpE x y := by unfold cmpE cmpI; rfl

set_option maxHeartbeats 800000 in
set_option maxRecDepth 100000 in
theorem compare_any (k : ByteArray) (q : Int) (g : Bool) (v : ByteArray) (u : Int) (k' : ByteArray) (q' : Int) (g' : Bool) (v' : ByteArray) (u' : Int) (w : World) :
    Calls Tryz.prog 54 #[.agg #[.string k, .int .i64 q, .bool g, .string v, .int .i64 u], .agg #[.string k', .int .i64 q', .bool g', .string v', .int .i64 u']] w fun e w' => e = .returned (.int .i64 (cmpE ⟨k, q, g, v, u⟩ ⟨k', q', g', v', u'⟩)) ∧ Below w.heap.size w w' := by
  have hce := cmpE_or ⟨k, q, g, v, u⟩ ⟨k', q', g', v', u'⟩
  simp only at hce
  rw [← hce]
  have hk := cmpK_range k k'
  have hkl : -1 ≤ cmpK k k' ∧ cmpK k k' ≤ 1 := by omega
  have hil : -1 ≤ cmpI q' q ∧ cmpI q' q ≤ 1 := by unfold cmpI; split <;> (try split) <;> omega
  clear hce hk
  have HS := Lib.hid (strCompare_any k k')
  have HI := Lib.hid (cmpInt_any q' q)
  generalize cmpK k k' = x at *
  generalize cmpI q' q = y at *
  obtain ⟨r, hr⟩ : ∃ r, r = (if x ≠ 0 then x else y) := ⟨_, rfl⟩
  rw [← hr]
  have HR := Lib.hid hr
  clear hr
  go_enter Tryz.func54, Tryz.ntmps54
  go_wp2_with fail
  generalize hW : World.alloc _ _ = W0
  have hA : W0.heap[w.heap.size]? = some (.cells #[.string k, .int .i64 q, .bool g, .string v, .int .i64 u] 45 (0, 0)) := by rw [← hW]; exact blk_alloc (heap_alloc_new _ _)
  have hB : W0.heap[w.heap.size + 1]? = some (.cells #[.string k', .int .i64 q', .bool g', .string v', .int .i64 u'] 45 (0, 0)) := by rw [← hW]; exact blk_new (by simp)
  have hZ : Below w.heap.size w W0 := by rw [← hW]; exact below_alloc (below_alloc (Below.refl _ _) _) _
  clear hW
  have HA := Lib.hid (cells5 hA)
  have HB := Lib.hid (cells5 hB)
  clear hA hB
  have H0 : Hid (W0.cell? ⟨w.heap.size, 0, none⟩ = some (.string k) ∧ W0.cell? ⟨w.heap.size + 1, 0, none⟩ = some (.string k') ∧ W0.cell? ⟨w.heap.size + 1, 1, none⟩ = some (.int .i64 q') ∧ W0.cell? ⟨w.heap.size, 1, none⟩ = some (.int .i64 q) ∧ w.heap.size + 1 < W0.heap.size) :=
    ⟨HA.out.1, HB.out.1, HB.out.2.1, HA.out.2.1, block_lt_of_cell (a := ⟨w.heap.size + 1, 0, none⟩) HB.out.1⟩
  clear HA HB
  go_region_held3 (fun w' => w'.cell? ⟨w.heap.size, 0, none⟩ = some (.string k) ∧ w'.cell? ⟨w.heap.size + 1, 0, none⟩ = some (.string k') ∧ w'.cell? ⟨w.heap.size + 1, 1, none⟩ = some (.int .i64 q') ∧ w'.cell? ⟨w.heap.size, 1, none⟩ = some (.int .i64 q) ∧ w.heap.size + 1 < w'.heap.size)
    (first | exact H0.out | exact keep4 H0.out _)
    (first | (go_at_call 105; refine (HS.out _).mono ?_; rintro e w1 ⟨rfl, rfl⟩) | (go_at_call 106; refine (HI.out _).mono ?_; rintro e w1 ⟨rfl, rfl⟩) | (go_at_call 104; refine (or_any _ x y _ (World.cell?_alloc_at _ _ _ _ rfl) (World.cell?_alloc_at _ _ _ _ rfl) ⟨hkl, hil⟩ r HR).mono ?_; rintro e w1 ⟨rfl, rfl⟩))
  all_goals
    have hzz := (below_alloc hZ (.cells #[.int .i64 x, .int .i64 y] 3)).drew
    go_wp2_with fail
    go_ret
    exact ⟨rfl, hzz⟩

set_option maxHeartbeats 400000 in
set_option maxRecDepth 100000 in
theorem less_any (k : ByteArray) (q : Int) (g : Bool) (v : ByteArray) (u : Int) (k' : ByteArray) (q' : Int) (g' : Bool) (v' : ByteArray) (u' : Int) (w : World) :
    Calls Tryz.prog 84 #[.agg #[.string k, .int .i64 q, .bool g, .string v, .int .i64 u], .agg #[.string k', .int .i64 q', .bool g', .string v', .int .i64 u']] w fun e w' => e = .returned (.bool (lessE ⟨k, q, g, v, u⟩ ⟨k', q', g', v', u'⟩)) ∧ Below w.heap.size w w' := by
  have hl := cmpE_less ⟨k, q, g, v, u⟩ ⟨k', q', g', v', u'⟩
  have HC := Lib.hid (compare_any k q g v u k' q' g' v' u')
  generalize cmpE ⟨k, q, g, v, u⟩ ⟨k', q', g', v', u'⟩ = c at hl HC
  rw [← hl]
  clear hl
  go_enter Tryz.func84, Tryz.ntmps84
  go_wp2_with fail
  refine (HC.out _).mono ?_
  rintro e w1 ⟨rfl, hb⟩
  have hz := chain (below_alloc (below_alloc (Below.refl w.heap.size w) (.cells #[.string k, .int .i64 q, .bool g, .string v, .int .i64 u] 45)) (.cells #[.string k', .int .i64 q', .bool g', .string v', .int .i64 u'] 45)) hb
  go_wp2_with fail
  go_ret
  exact ⟨rfl, hz⟩

end Go.Proofs.YtpihmjdljbienaaGreatDoor.Ew
