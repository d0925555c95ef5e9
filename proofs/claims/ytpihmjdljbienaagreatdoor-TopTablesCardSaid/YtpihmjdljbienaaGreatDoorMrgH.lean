/- The walks of the heap of runs. -/
import Derived.Test.YtpihmjdljbienaaGreatDoorGi
import Derived.Test.YtpihmjdljbienaaGreatDoorGp
import Derived.Deep.RegionHeld3
import Derived.Deep.DeepCutAuto
namespace Go.Proofs.YtpihmjdljbienaaGreatDoor.Mg
open Ew
open Go.RowKit
open En B
set_option linter.unusedVariables false

theorem meth_is (w : World) (gb : Nat) (v : Value) (hc : w.cell? ⟨gb, 0, none⟩ = some v) (name : String) (f : FuncId) (k : Nat)
    (hm : (Tryz.prog.info? 163).bind (fun I => (I.methods.find? (·.name == name)).map fun m => (m.path, m.func)) = some (#[], some (f, false))) :
    (method (k + 1) 163 (.pointer (some ⟨gb, 0, none⟩)) name).run Tryz.prog w = .ok (f, v) w := by
  obtain ⟨I, hI, hm⟩ := Option.bind_eq_some_iff.1 hm
  obtain ⟨m, hf, hm⟩ := Option.map_eq_some_iff.1 hm
  simp only [Prod.mk.injEq] at hm
  have hu := Tryz.underlying163
  have ha : (isAgg 159).run Tryz.prog w = .ok false w := by kernel_rfl
  have hcc : (loadVar 159 ⟨gb, 0, none⟩).run Tryz.prog w = .ok v w := by
    unfold loadVar
    rw [Sem.run_bind, ha]
    simp [Result.andThen, load, Sem.run, hc]
  have hw : ∀ s : String, Builtin.ssaWrapNilChk_ #[163] 163 #[.pointer (some ⟨gb, 0, none⟩), strVal "", strVal s] = pure (.pointer (some ⟨gb, 0, none⟩)) := fun _ => rfl
  simp [method, typeInfo, hI, hf, hm.1, hm.2, follow, receiverAt, Sem.run_bind, run_underlying hu, Place.get, hw, asAddr, hcc, Result.andThen]
theorem meth_len (w : World) (gb : Nat) (v : Value) (hc : w.cell? ⟨gb, 0, none⟩ = some v) (k : Nat) : (method (k + 1) 163 (.pointer (some ⟨gb, 0, none⟩)) "Len").run Tryz.prog w = .ok (194, v) w := meth_is w gb v hc "Len" _ k (by kernel_rfl)
theorem meth_less (w : World) (gb : Nat) (v : Value) (hc : w.cell? ⟨gb, 0, none⟩ = some v) (k : Nat) : (method (k + 1) 163 (.pointer (some ⟨gb, 0, none⟩)) "Less").run Tryz.prog w = .ok (195, v) w := meth_is w gb v hc "Less" _ k (by kernel_rfl)
theorem meth_swap (w : World) (gb : Nat) (v : Value) (hc : w.cell? ⟨gb, 0, none⟩ = some v) (k : Nat) : (method (k + 1) 163 (.pointer (some ⟨gb, 0, none⟩)) "Swap").run Tryz.prog w = .ok (196, v) w := meth_is w gb v hc "Swap" _ k (by kernel_rfl)
theorem meth_pop (w : World) (a : Addr) (k : Nat) : (method (k + 1) 163 (.pointer (some a)) "Pop").run Tryz.prog w = .ok (197, .pointer (some a)) w := by kernel_rfl
theorem len_any (a : Option Addr) (n cap : Nat) (w : World) : Calls Tryz.prog 194 #[.slice a n cap] w fun e w' => e = .returned (.int .i64 n) ∧ w = w' := by
  go_enter Tryz.func194, Tryz.ntmps194
  go_wp2_with fail
  go_ret
  exact ⟨rfl, rfl⟩

/-- runs, wherever they lie -/
def RRow (w : World) (a : Option Addr) (n : Nat) (f : Nat → Run) : Prop :=
  n = 0 ∨ ∃ b off, a = some ⟨b, off, none⟩ ∧ b < w.heap.size ∧ ∀ i, i < n → w.cell? ⟨b, off + i * 2, none⟩ = some (.slice (f i).a (f i).m (f i).c) ∧ w.cell? ⟨b, off + i * 2 + 1, none⟩ = some (.int .i64 (f i).idx)
theorem RRow.at {w : World} {a : Option Addr} {n : Nat} {f : Nat → Run} (h : RRow w a n f) (hn : 0 < n) : ∃ b off, a = some ⟨b, off, none⟩ ∧ b < w.heap.size ∧ ∀ i, i < n → w.cell? ⟨b, off + i * 2, none⟩ = some (.slice (f i).a (f i).m (f i).c) ∧ w.cell? ⟨b, off + i * 2 + 1, none⟩ = some (.int .i64 (f i).idx) := by
  rcases h with h | h
  · omega
  · exact h
theorem own_rrow {w : World} {B n : Nat} {e : TypeId} {a : Option Addr} {m cap : Nat} {h : List Run} (ho : w.ownsRow B e 2 (.slice a m cap) n (rcells h)) : m = n ∧ n = h.length ∧ RRow w a n (fun i => h.getD i run0) := by
  have hl := ho.1
  rw [rcells_len] at hl
  have hn : n = h.length := by omega
  rcases ho.2 with ⟨hv, h0⟩ | ⟨g, cap', cur, hv, hB, hg, hnc, hm, hs, ht⟩
  · cases hv; exact ⟨h0.symm, hn, .inl h0⟩
  · cases hv
    refine ⟨rfl, hn, .inr ⟨g, 0, rfl, lt_of_block hg, fun i hi => ?_⟩⟩
    have key := fun j => World.ownsRow.cellAt (w := w) (base := B) (e := e) (size := 2) (g := g) (n := n) (cap := cap) (xs := rcells h) ⟨ho.1, .inr ⟨g, cap, cur, rfl, hB, hg, hnc, hm, hs, ht⟩⟩ j
    have hr := rcells_at h i (by omega)
    rw [Nat.zero_add]
    exact ⟨(key _ (by omega)).trans hr.1, (key _ (by omega)).trans hr.2⟩
/-- a run's entries lie where it says -/
structure VRun (w : World) (r : Run) : Prop where
  len : r.L.length = r.m
  cap : r.m ≤ r.c
  pos : 0 < r.m
  row : ERow w r.a r.m (fun i => r.L.getD i ent0)

theorem keep12 {W W' : World} {b0 b1 b2 o0 o0' o1 o2 : Nat} {x y a0 a1 a2 a3 a4 c0 c1 c2 c3 c4 : Value}
    (h : (W.cell? ⟨b0, o0, none⟩ = some x ∧ W.cell? ⟨b0, o0', none⟩ = some y ∧ b0 < W.heap.size) ∧ (W.cell? ⟨b1, o1, none⟩ = some a0 ∧ W.cell? ⟨b1, o1 + 1, none⟩ = some a1 ∧ W.cell? ⟨b1, o1 + 2, none⟩ = some a2 ∧ W.cell? ⟨b1, o1 + 3, none⟩ = some a3 ∧ W.cell? ⟨b1, o1 + 4, none⟩ = some a4) ∧
      (W.cell? ⟨b2, o2, none⟩ = some c0 ∧ W.cell? ⟨b2, o2 + 1, none⟩ = some c1 ∧ W.cell? ⟨b2, o2 + 2, none⟩ = some c2 ∧ W.cell? ⟨b2, o2 + 3, none⟩ = some c3 ∧ W.cell? ⟨b2, o2 + 4, none⟩ = some c4) ∧ b1 < W.heap.size ∧ b2 < W.heap.size)
    (k : Below W.heap.size W W') :
    ((W'.cell? ⟨b0, o0, none⟩ = some x ∧ W'.cell? ⟨b0, o0', none⟩ = some y ∧ b0 < W'.heap.size) ∧ (W'.cell? ⟨b1, o1, none⟩ = some a0 ∧ W'.cell? ⟨b1, o1 + 1, none⟩ = some a1 ∧ W'.cell? ⟨b1, o1 + 2, none⟩ = some a2 ∧ W'.cell? ⟨b1, o1 + 3, none⟩ = some a3 ∧ W'.cell? ⟨b1, o1 + 4, none⟩ = some a4) ∧
      (W'.cell? ⟨b2, o2, none⟩ = some c0 ∧ W'.cell? ⟨b2, o2 + 1, none⟩ = some c1 ∧ W'.cell? ⟨b2, o2 + 2, none⟩ = some c2 ∧ W'.cell? ⟨b2, o2 + 3, none⟩ = some c3 ∧ W'.cell? ⟨b2, o2 + 4, none⟩ = some c4) ∧ b1 < W'.heap.size ∧ b2 < W'.heap.size) := by
  obtain ⟨⟨x1, x2, x3⟩, ⟨h0, h1, h2, h3, h4⟩, ⟨g0, g1, g2, g3, g4⟩, hb1, hb2⟩ := h
  exact ⟨⟨(k.cell (p := ⟨b0, o0, Option.none⟩) x3).trans x1, (k.cell (p := ⟨b0, o0', Option.none⟩) x3).trans x2, Nat.lt_of_lt_of_le x3 k.size⟩, ⟨(k.cell (p := ⟨b1, o1, Option.none⟩) hb1).trans h0, (k.cell (p := ⟨b1, o1 + 1, Option.none⟩) hb1).trans h1, (k.cell (p := ⟨b1, o1 + 2, Option.none⟩) hb1).trans h2, (k.cell (p := ⟨b1, o1 + 3, Option.none⟩) hb1).trans h3, (k.cell (p := ⟨b1, o1 + 4, Option.none⟩) hb1).trans h4⟩,
    ⟨(k.cell (p := ⟨b2, o2, Option.none⟩) hb2).trans g0, (k.cell (p := ⟨b2, o2 + 1, Option.none⟩) hb2).trans g1, (k.cell (p := ⟨b2, o2 + 2, Option.none⟩) hb2).trans g2, (k.cell (p := ⟨b2, o2 + 3, Option.none⟩) hb2).trans g3, (k.cell (p := ⟨b2, o2 + 4, Option.none⟩) hb2).trans g4⟩,
    Nat.lt_of_lt_of_le hb1 k.size, Nat.lt_of_lt_of_le hb2 k.size⟩

theorem below1d (w : World) (o : Obj) : Below w.heap.size w (w.alloc o).drew := ((Below.refl _ _).alloc (Nat.le_refl _) _).drew
theorem below2d (w : World) (o o' : Obj) : Below w.heap.size w ((w.alloc o).alloc o').drew := (below_alloc ((Below.refl _ _).alloc (Nat.le_refl _) _) _).drew

set_option maxHeartbeats 3200000 in
set_option maxRecDepth 100000 in
theorem rless_runs (a : Option Addr) (n cap : Nat) (h : Nat → Run) (w : World) (hr : RRow w a n h) (hn : n ≤ 9223372036854775807) (i k : Nat) (hi : i < n) (hk : k < n) (hvi : VRun w (h i)) (hvk : VRun w (h k)) :
    Calls Tryz.prog 195 #[.slice a n cap, .int .i64 i, .int .i64 k] w fun e w' => e = .returned (.bool (ltR (h i) (h k))) ∧ Below w.heap.size w w' := by
  obtain ⟨b, off, rfl, hb, hc⟩ := hr.at (by omega)
  obtain ⟨q0, q1⟩ := hc i hi
  obtain ⟨p0, p1⟩ := hc k hk
  obtain ⟨e, he⟩ : ∃ e, e = h i := ⟨_, rfl⟩
  obtain ⟨f, hf⟩ : ∃ f, f = h k := ⟨_, rfl⟩
  rw [← he] at q0 q1 hvi ⊢
  rw [← hf] at p0 p1 hvk ⊢
  have hlt := Lib.hid (show ltR e f = if (lessE e.hd f.hd || lessE f.hd e.hd) = true then lessE e.hd f.hd else decide (e.idx < f.idx) from rfl)
  clear he hf hc hr
  have hpe := hvi.pos
  have hpf := hvk.pos
  obtain ⟨b1, o1, hea, hb1, hce⟩ := hvi.row.at hvi.pos
  obtain ⟨b2, o2, hfa, hb2, hcf⟩ := hvk.row.at hvk.pos
  have hd := hce 0 hvi.pos
  have hg := hcf 0 hvk.pos
  simp only [Nat.zero_mul, Nat.add_zero] at hd hg
  have e1 : e.L.getD 0 ent0 = e.hd := rfl
  have e2 : f.L.getD 0 ent0 = f.hd := rfl
  rw [e1] at hd
  rw [e2] at hg
  rw [hea] at q0
  rw [hfa] at p0
  generalize e.hd = x at hd hlt
  generalize f.hd = y at hg hlt
  generalize e.m = em at q0 hpe
  generalize f.m = fm at p0 hpf
  generalize e.c = ec at q0
  generalize f.c = fc at p0
  generalize e.idx = ei at q1 hlt
  generalize f.idx = fi at p1 hlt
  generalize ltR e f = res at hlt ⊢
  clear e1 e2 hce hcf hea hfa hvi hvk
  clear e f
  obtain ⟨kx, qx, gx, vx, ux⟩ := x
  obtain ⟨ky, qy, gy, vy, uy⟩ := y
  simp only at hd hg
  have HS0 : Hid ((w.cell? ⟨b, off + i * 2, none⟩ = some (.slice (some ⟨b1, o1, none⟩) em ec) ∧ w.cell? ⟨b, off + k * 2, none⟩ = some (.slice (some ⟨b2, o2, none⟩) fm fc) ∧ b < w.heap.size) ∧ (w.cell? ⟨b1, o1, none⟩ = some (.string kx) ∧ w.cell? ⟨b1, o1 + 1, none⟩ = some (.int .i64 qx) ∧ w.cell? ⟨b1, o1 + 2, none⟩ = some (.bool gx) ∧ w.cell? ⟨b1, o1 + 3, none⟩ = some (.string vx) ∧ w.cell? ⟨b1, o1 + 4, none⟩ = some (.int .i64 ux)) ∧
      (w.cell? ⟨b2, o2, none⟩ = some (.string ky) ∧ w.cell? ⟨b2, o2 + 1, none⟩ = some (.int .i64 qy) ∧ w.cell? ⟨b2, o2 + 2, none⟩ = some (.bool gy) ∧ w.cell? ⟨b2, o2 + 3, none⟩ = some (.string vy) ∧ w.cell? ⟨b2, o2 + 4, none⟩ = some (.int .i64 uy)) ∧ b1 < w.heap.size ∧ b2 < w.heap.size) := ⟨⟨q0, p0, hb⟩, hd, hg, hb1, hb2⟩
  have HQ1 := Lib.hid q1
  have HP1 := Lib.hid p1
  have i1 : (0 : Int) ≤ (i : Int) := by omega
  have i2 : (i : Int) < (n : Int) := by omega
  have k1 : (0 : Int) ≤ (k : Int) := by omega
  have k2 : (k : Int) < (n : Int) := by omega
  have em1 : (0 : Int) < (em : Int) := by omega
  have fm1 : (0 : Int) < (fm : Int) := by omega
  clear hd hg q0 q1 p0 p1
  go_enter Tryz.func195, Tryz.ntmps195
  go_upto_region 1 with fail
  go_cut [7, 8] (fun s7 s8 wx => ∃ g7 g8, s7 = .pointer (some ⟨g7, 0, none⟩) ∧ s8 = .pointer (some ⟨g8, 0, none⟩) ∧ Hid (EBox wx g7 45 ⟨kx, qx, gx, vx, ux⟩) ∧ Hid (EBox wx g8 45 ⟨ky, qy, gy, vy, uy⟩) ∧ Below w.heap.size w wx)
  case first =>
    go_region_held3 (fun W' => (W'.cell? ⟨b, off + i * 2, none⟩ = some (.slice (some ⟨b1, o1, none⟩) em ec) ∧ W'.cell? ⟨b, off + k * 2, none⟩ = some (.slice (some ⟨b2, o2, none⟩) fm fc) ∧ b < W'.heap.size) ∧ (W'.cell? ⟨b1, o1, none⟩ = some (.string kx) ∧ W'.cell? ⟨b1, o1 + 1, none⟩ = some (.int .i64 qx) ∧ W'.cell? ⟨b1, o1 + 2, none⟩ = some (.bool gx) ∧ W'.cell? ⟨b1, o1 + 3, none⟩ = some (.string vx) ∧ W'.cell? ⟨b1, o1 + 4, none⟩ = some (.int .i64 ux)) ∧
      (W'.cell? ⟨b2, o2, none⟩ = some (.string ky) ∧ W'.cell? ⟨b2, o2 + 1, none⟩ = some (.int .i64 qy) ∧ W'.cell? ⟨b2, o2 + 2, none⟩ = some (.bool gy) ∧ W'.cell? ⟨b2, o2 + 3, none⟩ = some (.string vy) ∧ W'.cell? ⟨b2, o2 + 4, none⟩ = some (.int .i64 uy)) ∧ b1 < W'.heap.size ∧ b2 < W'.heap.size)
      (first | exact HS0.out | exact keep12 HS0.out (below1d _ _) | exact keep12 HS0.out (below2d _ _ _))
      (fail)
    · go_wp2_with fail
      go_meet
      exact ⟨_, _, rfl, rfl, blk_alloc (heap_alloc_new _ _), blk_new (by simp), below2d _ _ _⟩
    · go_wp2_with fail
      go_meet
      exact ⟨_, _, rfl, rfl, blk_new (by simp), blk_alloc (heap_alloc_new _ _), below2d _ _ _⟩
  case rest =>
    obtain ⟨g7, g8, rfl, rfl, E7, E8, hbx⟩ := hcut
    obtain ⟨w1, rfl⟩ : ∃ w1 : World, w1 = wc := ⟨_, rfl⟩
    obtain ⟨x0, x1, x2, x3, x4⟩ := E7.out.cells
    obtain ⟨y0, y1, y2, y3, y4⟩ := E8.out.cells
    simp only at x0 x1 x2 x3 x4 y0 y1 y2 y3 y4
    have HL1 := Lib.hid (fun W => less_any kx qx gx vx ux ky qy gy vy uy W)
    have HL2 := Lib.hid (fun W => less_any ky qy gy vy uy kx qx gx vx ux W)
    generalize lessE ⟨kx, qx, gx, vx, ux⟩ ⟨ky, qy, gy, vy, uy⟩ = l1 at HL1 hlt
    generalize lessE ⟨ky, qy, gy, vy, uy⟩ ⟨kx, qx, gx, vx, ux⟩ = l2 at HL2 hlt
    go_wp2_with fail
    refine (HL1.out _).mono ?_
    rintro e w2 ⟨rfl, hb2'⟩
    have E72 := Lib.hid (E7.out.below hb2')
    have E82 := Lib.hid (E8.out.below hb2')
    have hbz := chain hbx hb2'
    clear x0 x1 x2 x3 x4 y0 y1 y2 y3 y4 hb2' E7 E8 hbx
    obtain ⟨x0, x1, x2, x3, x4⟩ := E72.out.cells
    obtain ⟨y0, y1, y2, y3, y4⟩ := E82.out.cells
    simp only at x0 x1 x2 x3 x4 y0 y1 y2 y3 y4
    cases l1 with
    | true =>
      have HRES := Lib.hid (show res = true by rw [hlt.out]; rfl)
      clear hlt
      go_wp2_with fail
      refine (HL1.out _).mono ?_
      rintro e w3 ⟨rfl, hb3⟩
      have hby := chain hbz hb3
      clear hb3 x0 x1 x2 x3 x4 y0 y1 y2 y3 y4
      go_wp2_with fail
      go_ret
      exact ⟨by rw [HRES.out]; rfl, hby⟩
    | false =>
      cases l2 with
      | true =>
        have HRES := Lib.hid (show res = false by rw [hlt.out]; rfl)
        clear hlt
        go_wp2_with fail
        refine (HL2.out _).mono ?_
        rintro e w3 ⟨rfl, hb3⟩
        have E73 := Lib.hid (E72.out.below hb3)
        have E83 := Lib.hid (E82.out.below hb3)
        have hby := chain hbz hb3
        clear hb3 x0 x1 x2 x3 x4 y0 y1 y2 y3 y4
        obtain ⟨x0, x1, x2, x3, x4⟩ := E73.out.cells
        obtain ⟨y0, y1, y2, y3, y4⟩ := E83.out.cells
        simp only at x0 x1 x2 x3 x4 y0 y1 y2 y3 y4
        go_wp2_with fail
        refine (HL1.out _).mono ?_
        rintro e w4 ⟨rfl, hb4⟩
        have hbu := chain hby hb4
        clear hb4 x0 x1 x2 x3 x4 y0 y1 y2 y3 y4
        go_wp2_with fail
        go_ret
        exact ⟨by rw [HRES.out]; rfl, hbu⟩
      | false =>
        have HRES := Lib.hid (show res = decide (ei < fi) by rw [hlt.out]; rfl)
        clear hlt
        go_wp2_with fail
        refine (HL2.out _).mono ?_
        rintro e w3 ⟨rfl, hb3⟩
        have hby := chain hbz hb3
        have z1 := (hby.cell (p := ⟨b, off + i * 2 + 1, none⟩) hb).trans HQ1.out
        have z2 := (hby.cell (p := ⟨b, off + k * 2 + 1, none⟩) hb).trans HP1.out
        clear hb3 x0 x1 x2 x3 x4 y0 y1 y2 y3 y4
        go_wp2_with fail
        go_quiet (fail)
        go_wp2_with fail
        go_ret
        exact ⟨by rw [HRES.out]; rfl, drewN hby⟩
end Go.Proofs.YtpihmjdljbienaaGreatDoor.Mg
