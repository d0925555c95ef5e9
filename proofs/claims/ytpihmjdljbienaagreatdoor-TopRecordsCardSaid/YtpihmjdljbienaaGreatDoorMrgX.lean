/- The walk of merge.Visible. -/
import Derived.Test.YtpihmjdljbienaaGreatDoorMrgJ
namespace Go.Proofs.YtpihmjdljbienaaGreatDoor.Mg
open Ew
open Go.RowKit
open En B
set_option linter.unusedVariables false
attribute [local go_sem] Oper.semAt_some

theorem Cell1.put {W : World} {g r : Nat} {t : TypeId} {v : Value} {o : Obj} (h : Cell1 W g t v) (hr : W.heap[r]? = some o) (ho : o.isCells = false) (o' : Obj) : Cell1 (W.putObj r o') g t v := by
  refine (World.putObj_heap_other (fun e => ?_)).trans h
  subst e
  unfold Cell1 at h
  rw [h] at hr
  cases hr
  cases ho
theorem below_put {w W : World} {B r : Nat} (h : Below B w W) (hB : B ≤ W.heap.size) (hr : B ≤ r) (o' : Obj) : Below B w (W.putObj r o') :=
  h.grown (grownBy_putObj' W r o') hB (fun k e => by cases e; exact hr)
theorem kept_refl (g : Nat) (W : World) : Kept g W W := ⟨Nat.le_refl _, rfl, fun _ _ h _ => h⟩
theorem Kept.trans {g : Nat} {A B C : World} (h : Kept g A B) (k : Kept g B C) : Kept g A C := ⟨Nat.le_trans h.size k.size, k.box.trans h.box, fun i o hi ho => k.other i o (h.other i o hi ho) ho⟩
theorem kept_below {g : Nat} {W W' : World} (hg : g < W.heap.size) (h : Below W.heap.size W W') : Kept g W W' := ⟨h.size, h.block g hg, fun k o hk _ => (h.block k (lt_of_block hk)).trans hk⟩
theorem kept_grown {g : Nat} {W W' : World} {r : Option Nat} (hg : g < W.heap.size) (h : W.grownBy W' r) (hne : r ≠ some g) (hc : ∀ k o, r = some k → W.heap[k]? = some o → o.isCells = true) : Kept g W W' :=
  ⟨h.size, h.block g hg (fun e => hne e.symm), fun k o hk ho => (h.block k (lt_of_block hk) (fun e => by rw [hc k o e.symm hk] at ho; cases ho)).trans hk⟩
theorem kept_set {g k : Nat} {W : World} {t : TypeId} {v : Value} (hc : Cell1 W k t v) (hne : g ≠ k) (v' : Value) : Kept g W (W.setCell ⟨k, 0, none⟩ v') :=
  ⟨by show W.heap.size ≤ (W.heap.modify _ _).size; rw [Array.size_modify]; exact Nat.le_refl _, Below.heap_setCell _ _ _ _ hne, fun i o hi ho => (Below.heap_setCell _ _ _ _ (fun e => by
    have e2 : i = k := e
    subst e2
    unfold Cell1 at hc
    rw [hc] at hi
    cases hi
    cases ho)).trans hi⟩

theorem size_set (W : World) (p : Addr) (v : Value) : (W.setCell p v).heap.size = W.heap.size := by show (W.heap.modify _ _).size = _; rw [Array.size_modify]
theorem seq_tail {ops : Array Oper} {l : List Oper} {k : Nat} (h : l = ops.toList.drop k) : ∀ j, l[j]? = ops[k + j]? := fun j => by
  subst h
  rw [List.getElem?_drop]
  simp
/-- out = append(out, x), x in a block that is known -/
theorem wpList_pushG {P : Program} {ops : Array Oper} {rest : List Oper} {o : Oper} {a : Act} {Q : Exit → Act → World → Prop} (hgd : o.guard = none) (s x : Operand) (t : TypeId)
    (ho : o.op = .call { callee := .builtin .append, args := #[s, x], argTypes := #[t, t] }) {e : TypeId} {z : Value} {size bytes : Nat} (ht : P.underlying t = some (.slice e))
    (hinfo : (P.info? e).map (fun i => (i.zero, i.size, i.bytes)) = some (some z, size, bytes)) (hzs : z.cells.size = size) (hsz : 0 < size) {w : World} {B n c g : Nat} {xs : List Value} {v : Value} (hs : a.eval s = v)
    (cs : Array Value) (hcs : cs.size = size) (h1 : ∀ u ∈ cs.toList, u.oneCell' = true) (hx : a.eval x = .slice (some ⟨g, 0, none⟩) 1 c) (hg : w.heap[g]? = some (.cells cs e (0, 0))) (hown : w.ownsRow B e size v n xs) (hbase : B ≤ w.heap.size)
    (h63 : n + 1 ≤ maxLen) (hbytes : (n + 1) * bytes ≤ 140737488355328)
    (h : ∀ a' cap w', w'.ownsRow B e size (.slice a' (n + 1) cap) (n + 1) (xs ++ cs.toList) → w.grownBy w' v.ownBlock → Below B w w' → wpList P ops Q rest (a.put o.dst (.slice a' (n + 1) cap)) w') :
    wpList P ops Q (o :: rest) a w := by
  obtain ⟨i0, hi, hz0, hz1, hz2⟩ := info_parts hinfo
  refine wpList_append_own _ hgd s x t ho B e i0 z size bytes ht hi hz0 hz1 hz2 hzs hsz v n xs hs hown ⟨g, 0, none⟩ 1 c cs.toList hx (by simp [hcs]) (World.news_of_block hg) h1 h63 hbytes hbase ?_
  intro v' w' hown' hgr _
  obtain ⟨a', cap, rfl, _⟩ := own_form hown'
  exact h a' cap w' hown' hgr ((Below.refl B w).grown hgr hbase (fun k hk => (hown.lt k hk).1))
/-- between two rounds of Visible -/
def VisJ (w : World) (L : List Ent) (s now : Int) (p : Nat) (W : World) : Prop :=
  Cell1 W w.heap.size 2 (.int .i64 s) ∧ Cell1 W (w.heap.size + 1) 2 (.int .i64 now) ∧
  (∃ pp m d, Cell1 W (w.heap.size + 2) 33 (.slice pp m d) ∧ W.ownsRow w.heap.size 45 5 (.slice pp m d) m (ecells (visT L s now p)) ∧ m = (visT L s now p).length) ∧ Below w.heap.size w W ∧ w.heap.size + 3 < W.heap.size
theorem visJ_bides (w : World) (L : List Ent) (s now : Int) (B : Nat) (hB : w.heap.size ≤ B) : Bides (w.heap.size + 3) B (VisJ w L s now) where
  set := by
    rintro p W v v' ⟨h1, h2, ⟨pp, m, d, h3, h4, h5⟩, h6, h7⟩ hc
    exact ⟨h1.far (p := ⟨w.heap.size + 3, 0, none⟩) (by show w.heap.size ≠ w.heap.size + 3; omega) _, h2.far (p := ⟨w.heap.size + 3, 0, none⟩) (by show w.heap.size + 1 ≠ w.heap.size + 3; omega) _, ⟨pp, m, d, h3.far (p := ⟨w.heap.size + 3, 0, none⟩) (by show w.heap.size + 2 ≠ w.heap.size + 3; omega) _, own_farB h4 (p := ⟨w.heap.size + 3, 0, none⟩) (row_ne (g := w.heap.size + 3) hc h4 (by decide)) _, h5⟩, h6.setCell (p := ⟨w.heap.size + 3, 0, none⟩) (by show w.heap.size ≤ w.heap.size + 3; omega) _, by rw [size_set]; exact h7⟩
  drew := by
    rintro p W k ⟨h1, h2, ⟨pp, m, d, h3, h4, h5⟩, h6, h7⟩
    exact ⟨h1, h2, ⟨pp, m, d, h3, own_drewN h4 k, h5⟩, drewN h6, h7⟩
  alloc := by
    rintro p W o ⟨h1, h2, ⟨pp, m, d, h3, h4, h5⟩, h6, h7⟩
    exact ⟨Cell1.alloc h1 o, Cell1.alloc h2 o, ⟨pp, m, d, Cell1.alloc h3 o, h4.alloc o, h5⟩, h6.alloc h6.size o, by simp; omega⟩
  put := by
    rintro p W r o o' ⟨h1, h2, ⟨pp, m, d, h3, h4, h5⟩, h6, h7⟩ hr ho hoc
    exact ⟨Cell1.put h1 ho hoc o', Cell1.put h2 ho hoc o', ⟨pp, m, d, Cell1.put h3 ho hoc o', ownsRow_putObj h4 o' ho hoc, h5⟩, below_put h6 h6.size (Nat.le_trans hB hr) o', by rw [World.putObj_size]; exact h7⟩

set_option maxHeartbeats 3200000 in
set_option maxRecDepth 100000 in
theorem vis_any (a : Option Addr) (n cap : Nat) (L : List Ent) (hl : L.length = n) (hnc : n ≤ cap) (hcap : cap ≤ 9223372036854775807) (hn : n * 56 ≤ 140737488351232) (hso : Sorted L) (w : World) (hr : ERow w a n (fun i => L.getD i ent0)) (s now : Int) :
    Calls Tryz.prog 26 #[.slice a n cap, .int .i64 s, .int .i64 now] w (OwnR w.heap.size 45 (visE L s now) w) := by
  have HL := Lib.hid hl
  have HS := Lib.hid hso
  have HR := Lib.hid hr
  clear hl hr hso
  refine (callsIn_wide (n := 0)).1 (callsIn_of_wp_marks Tryz.func26 rfl trivial ?_ rfl)
  refine wpIn_wide.2 ?_
  simp only [Tryz.ntmps26, List.size_toArray, List.length_cons, List.length_nil, Nat.reduceAdd, Nat.reduceSub, Array.replicate_succ, Array.replicate_zero, List.push_toArray, List.append_toArray, List.nil_append, List.cons_append]
  go_wp2_with fail
  refine (keys_any a n cap _).mono ?_
  rintro e w1 ⟨rfl, rfl⟩
  go_wp2_with fail
  have hbW : Below w.heap.size w ((((w.alloc (.cells #[.int .i64 s] 2)).alloc (.cells #[.int .i64 now] 2)).alloc (.cells #[.slice none 0 0] 33)).alloc (.cells #[.slice a n cap] 33)) :=
    below_alloc (below_alloc (below_alloc (below_alloc (Below.refl _ _) _) _) _) _
  have hsz : ((((w.alloc (.cells #[.int .i64 s] 2)).alloc (.cells #[.int .i64 now] 2)).alloc (.cells #[.slice none 0 0] 33)).alloc (.cells #[.slice a n cap] 33)).heap.size = w.heap.size + 4 := by simp
  have c4 : Cell1 ((((w.alloc (.cells #[.int .i64 s] 2)).alloc (.cells #[.int .i64 now] 2)).alloc (.cells #[.slice none 0 0] 33)).alloc (.cells #[.slice a n cap] 33)) w.heap.size 2 (.int .i64 s) := blk_alloc (blk_alloc (blk_alloc (blk_new rfl)))
  have c5 : Cell1 ((((w.alloc (.cells #[.int .i64 s] 2)).alloc (.cells #[.int .i64 now] 2)).alloc (.cells #[.slice none 0 0] 33)).alloc (.cells #[.slice a n cap] 33)) (w.heap.size + 1) 2 (.int .i64 now) := blk_alloc (blk_alloc (blk_new (by simp)))
  have c7 : Cell1 ((((w.alloc (.cells #[.int .i64 s] 2)).alloc (.cells #[.int .i64 now] 2)).alloc (.cells #[.slice none 0 0] 33)).alloc (.cells #[.slice a n cap] 33)) (w.heap.size + 2) 33 (.slice none 0 0) := blk_alloc (blk_new (by simp))
  have c8 : Cell1 ((((w.alloc (.cells #[.int .i64 s] 2)).alloc (.cells #[.int .i64 now] 2)).alloc (.cells #[.slice none 0 0] 33)).alloc (.cells #[.slice a n cap] 33)) (w.heap.size + 3) 33 (.slice a n cap) := blk_new (by simp)
  generalize (((w.alloc (.cells #[.int .i64 s] 2)).alloc (.cells #[.int .i64 now] 2)).alloc (.cells #[.slice none 0 0] 33)).alloc (.cells #[.slice a n cap] 33) = W0 at hbW hsz c4 c5 c7 c8 ⊢
  refine range_keys (g := w.heap.size + 3) (n := n) (cap := cap) (a0 := a) (L := L) rfl HL.out hnc hcap (by omega) HS.out c8 (VisJ w L s now) (visJ_bides w L s now _ (by omega)) (fun p W h => HR.out.below h.2.2.2.1)
    ⟨c4, c5, ⟨none, 0, 0, c7, World.ownsRow_nil _ _ _ _, rfl⟩, hbW, by omega⟩
    (fun v => { tmps := #[.slice a n cap, .int .i64 s, .int .i64 now, undef, .pointer (some ⟨w.heap.size, 0, none⟩), .pointer (some ⟨w.heap.size + 1, 0, none⟩), .slice none 0 0, .pointer (some ⟨w.heap.size + 1 + 1, 0, none⟩), v, undef, .slice a n cap, .func (.func 133) #[] #[.pointer (some ⟨w.heap.size + 1 + 1 + 1, 0, none⟩)], v, undef, undef, undef, undef, undef, undef, undef, undef, undef, undef, undef, undef, undef, undef, undef, undef, undef, undef, undef, undef, undef], defers := [] }) ?assign ?body ?done
  case assign =>
    intro l v W K hK
    gi_wp2
    exact hK
  case body =>
    clear c4 c5 c7 c8 hbW hsz
    clear W0
    rintro l p q v W hJ hcut hgrp hrs ⟨vb, hvb⟩
    obtain ⟨h4, h5, ⟨pp, m, d, h7, hown, hm⟩, hbel, hg3⟩ := hJ
    obtain ⟨a', k, c, rfl, hpk, hpc, her⟩ := hrs.row (by have := hgrp.le; rw [HL.out] at this; exact this) (HR.out.below hbel)
    have l4 := h4.cell
    have HH4 := Lib.hid h4
    have HH5 := Lib.hid h5
    have HH7 := Lib.hid h7
    have HOW := Lib.hid hown
    have HMM := Lib.hid hm
    have HER := Lib.hid her
    have HGR := Lib.hid hgrp
    have HPK := Lib.hid hpk
    have hqn : q ≤ n := by have := hgrp.le; rw [HL.out] at this; exact this
    have hkn : k ≤ n := by omega
    have hpq : p < q := hgrp.lt
    have hup := Lib.hid (upto_any a' k c (fun i => L.getD (p + i) ent0) (by omega) s W her)
    have hsW := hbel.size
    clear hrs hgrp hown hm her h4 h5 h7 hpk hpc hcut
    gi_wp2
    refine ⟨trivial, rfl, (CallsIn.inRound l (callsIn_wide.2 hup.out)).mono ?_⟩
    rintro e w1 ⟨r, rfl, hu, hb1⟩
    have hui : UpIs L p q s r := by
      rcases hu with ⟨i, hi, hik, h1, h2⟩ | ⟨hi, h1⟩
      · exact .inl ⟨i, hi, by have := HPK.out; omega, h1, h2⟩
      · exact .inr ⟨hi, fun k2 hk2 => h1 k2 (by have := HPK.out; omega)⟩
    have hvg := Lib.hid (visT_grp HS.out HGR.out (now := now) hui)
    have hrk : -1 ≤ r ∧ r < k := by
      rcases hu with ⟨i, hi, hik, h1, h2⟩ | ⟨hi, h1⟩ <;> omega
    have HB1 := Lib.hid hb1
    clear hu hui hup l4 hb1
    by_cases hr0 : r = -1
    · subst hr0
      have hv2 : visT L s now q = visT L s now p := by rw [hvg.out, if_neg (by omega), List.append_nil]
      have HV2 := Lib.hid hv2
      clear hvg hv2
      gi_wp2
      refine wpIn_round_quiet (by kernel_rfl) (by kernel_rfl) (by kernel_rfl) (fun ⟨_, _, h⟩ => h) ?_
      repeat (first | go_big_quiet_step (fail) | quiet_step (fail))
      refine wpQuiet_nil ?_
      rintro _ ⟨pr, rfl⟩
      have hb2 := chain HB1.out (below_regrown w1 pr.d pr.os)
      generalize Sort.grow (redrawn w1 pr.d) pr.os = w2 at hb2 ⊢
      have hs2 := hb2.size
      have hfin : Hid (∀ A, roundQ (w.heap.size + 3) q (VisJ w L s now) W .normal A w2) :=
        fun A => ⟨kept_below hg3 hb2, HH4.out.below hb2, HH5.out.below hb2, ⟨pp, m, d, HH7.out.below hb2, by rw [HV2.out]; exact own_below HOW.out hb2, by rw [HV2.out]; exact HMM.out⟩, chain hbel hb2, by omega⟩
      clear hb2
      gi_wp2
      exact hfin.out _
    · obtain ⟨i, rfl⟩ : ∃ i : Nat, r = (i : Int) := ⟨r.toNat, by omega⟩
      obtain ⟨ab, off, rfl, hab, hac⟩ := HER.out.at (by omega)
      have hd := hac i (by omega)
      have hvi : visT L s now q = visT L s now p ++ (if aliveE (L.getD (p + i) ent0) now = true then [L.getD (p + i) ent0] else []) := by
        rw [hvg.out]; simp
      generalize L.getD (p + i) ent0 = x at hd hvi
      obtain ⟨k0, q0, g0, v0, u0⟩ := x
      simp only at hd
      have HVI := Lib.hid hvi
      obtain ⟨d0, d1, d2, d3, d4⟩ := hd
      have HAB := Lib.hid hab
      have f0 := (HB1.out.cell (p := ⟨ab, off + i * 5, none⟩) hab).trans d0
      have f1 := (HB1.out.cell (p := ⟨ab, off + i * 5 + 1, none⟩) hab).trans d1
      have f2 := (HB1.out.cell (p := ⟨ab, off + i * 5 + 2, none⟩) hab).trans d2
      have f3 := (HB1.out.cell (p := ⟨ab, off + i * 5 + 3, none⟩) hab).trans d3
      have f4 := (HB1.out.cell (p := ⟨ab, off + i * 5 + 4, none⟩) hab).trans d4
      have f5 := (HB1.out.cell (p := ⟨w.heap.size + 1, 0, none⟩) (by show w.heap.size + 1 < _; omega)).trans HH5.out.cell
      have HD := Lib.hid (And.intro d0 (And.intro d1 (And.intro d2 (And.intro d3 d4))))
      have HF := Lib.hid (And.intro f0 (And.intro f1 (And.intro f2 (And.intro f3 f4))))
      have HAL := Lib.hid (fun W' => alive_any k0 q0 g0 v0 u0 now W')
      have r0 := fun d os => cell_regrown f0 d os
      have r1 := fun d os => cell_regrown f1 d os
      have r2 := fun d os => cell_regrown f2 d os
      have r3 := fun d os => cell_regrown f3 d os
      have r4 := fun d os => cell_regrown f4 d os
      have r5 := fun d os => cell_regrown f5 d os
      have i1 : (0 : Int) ≤ (i : Int) := by omega
      have i2 : (i : Int) < (k : Int) := by omega
      generalize aliveE ⟨k0, q0, g0, v0, u0⟩ now = al at HAL HVI
      clear hac d0 d1 d2 d3 d4 hvg hvi hr0 f0 f1 f2 f3 f4 f5 hab
      gi_wp2
      refine wpIn_round_quiet (by kernel_rfl) (by kernel_rfl) (by kernel_rfl) (fun ⟨_, _, h⟩ => h) ?_
      repeat (first | go_big_quiet_step (exact (HAL.out _).regrown_of) | quiet_step (exact (HAL.out _).regrown_of))
      refine wpQuiet_nil ?_
      rintro _ ⟨pr, rfl⟩
      have hb2 := chain HB1.out (below_regrown w1 pr.d pr.os)
      generalize Sort.grow (redrawn w1 pr.d) pr.os = w2 at hb2 ⊢
      have hs2 := hb2.size
      have HB2 := Lib.hid hb2
      have hbel2 := Lib.hid (chain hbel hb2)
      have HO2 := Lib.hid (own_below HOW.out hb2)
      have H72 := Lib.hid (HH7.out.below hb2)
      clear hb2 r0 r1 r2 r3 r4 r5
      cases al with
      | false =>
        have hfin : Hid (∀ A, roundQ (w.heap.size + 3) q (VisJ w L s now) W .normal A w2) :=
          fun A => ⟨kept_below hg3 HB2.out, HH4.out.below HB2.out, HH5.out.below HB2.out, ⟨pp, m, d, H72.out, by rw [HVI.out, if_neg (by decide), List.append_nil]; exact HO2.out, by rw [HVI.out, if_neg (by decide), List.append_nil]; exact HMM.out⟩, hbel2.out, by omega⟩
        gi_wp2
        exact hfin.out _
      | true =>
        have HV : Hid (visT L s now q = visT L s now p ++ [⟨k0, q0, g0, v0, u0⟩]) := by have := HVI.out; rwa [if_pos rfl] at this
        have f0 := (HB2.out.cell (p := ⟨ab, off + i * 5, none⟩) HAB.out).trans HD.out.1
        have f1 := (HB2.out.cell (p := ⟨ab, off + i * 5 + 1, none⟩) HAB.out).trans HD.out.2.1
        have f2 := (HB2.out.cell (p := ⟨ab, off + i * 5 + 2, none⟩) HAB.out).trans HD.out.2.2.1
        have f3 := (HB2.out.cell (p := ⟨ab, off + i * 5 + 3, none⟩) HAB.out).trans HD.out.2.2.2.1
        have f4 := (HB2.out.cell (p := ⟨ab, off + i * 5 + 4, none⟩) HAB.out).trans HD.out.2.2.2.2
        have f7 := H72.out.cell
        have HBL : Hid (Below w2.heap.size w2 ((w2.alloc (.cells #[.string k0, .int .i64 q0, .bool g0, .string v0, .int .i64 u0] 45)).drew)) := ((Below.refl _ _).alloc (Nat.le_refl _) _).drew
        have HAL0 : Hid (((w2.alloc (.cells #[.string k0, .int .i64 q0, .bool g0, .string v0, .int .i64 u0] 45)).drew).heap[w2.heap.size]? = some (.cells #[.string k0, .int .i64 q0, .bool g0, .string v0, .int .i64 u0] 45 (0, 0))) := heap_alloc_new _ _
        have HC7 : Hid ((w2.alloc (.cells #[.string k0, .int .i64 q0, .bool g0, .string v0, .int .i64 u0] 45)).cell? ⟨w.heap.size + 1 + 1, 0, none⟩ = some (.slice pp m d)) := (Cell1.alloc (w := w2) H72.out _).cell
        have hszd : w.heap.size ≤ ((w2.alloc (.cells #[.string k0, .int .i64 q0, .bool g0, .string v0, .int .i64 u0] 45)).drew).heap.size := Nat.le_trans hbel2.out.size HBL.out.size
        have hmp : m ≤ p := by have := visT_len L s now p; have := HMM.out; omega
        have hpost : Hid (∀ (W5 : World), Below w2.heap.size w2 W5 → ∀ (a5 : Option Addr) (cap5 : Nat) (w5 : World), w5.ownsRow w.heap.size 45 5 (.slice a5 (m + 1) cap5) (m + 1) (ecells (visT L s now p) ++ [.string k0, .int .i64 q0, .bool g0, .string v0, .int .i64 u0]) → W5.grownBy w5 (Value.slice pp m d).ownBlock → Below w.heap.size W5 w5 →
            Cell1 w5 (w.heap.size + 2) 33 (.slice pp m d) ∧ ∀ A, roundQ (w.heap.size + 3) q (VisJ w L s now) W .normal A (w5.setCell ⟨w.heap.size + 2, 0, none⟩ (.slice a5 (m + 1) cap5))) := fun W5 hW5 a5 cap5 w5 ho5 hg5 hb5 => by
          have hc := chain HB2.out hW5
          have HOD := own_below HO2.out hW5
          have C7 := H72.out.below hW5
          have C4 := HH4.out.below hc
          have C5 := HH5.out.below hc
          have GK := hvb.below hc
          have c7 : Cell1 w5 (w.heap.size + 2) 33 (.slice pp m d) := blk_grown hg5 C7 (row_ne C7 HOD (by decide))
          have c4 : Cell1 w5 w.heap.size 2 (.int .i64 s) := blk_grown hg5 C4 (row_ne C4 HOD (by decide))
          have c5 : Cell1 w5 (w.heap.size + 1) 2 (.int .i64 now) := blk_grown hg5 C5 (row_ne C5 HOD (by decide))
          refine ⟨c7, fun A => ⟨?_, c4.far (p := ⟨w.heap.size + 2, 0, none⟩) (by show w.heap.size ≠ w.heap.size + 2; omega) _, c5.far (p := ⟨w.heap.size + 2, 0, none⟩) (by show w.heap.size + 1 ≠ w.heap.size + 2; omega) _, ⟨a5, m + 1, cap5, c7.set _, ?_, ?_⟩, ?_, ?_⟩⟩
          · refine ((kept_below hg3 hc).trans (kept_grown GK.lt hg5 (row_ne GK HOD (by decide)) fun k o hk ho => ?_)).trans (kept_set c7 (by omega) _)
            rcases HOD.2 with ⟨he, _⟩ | ⟨g', cap', cur, he, _, hgb, _⟩
            · rw [he] at hk; cases hk
            · rw [he] at hk
              simp only [Value.ownBlock, Option.some.injEq] at hk
              subst hk
              rw [hgb] at ho
              cases ho
              rfl
          · rw [HV.out, ecells_snoc]
            exact own_farB ho5 (p := ⟨w.heap.size + 2, 0, none⟩) (row_ne (g := w.heap.size + 2) c7 ho5 (by decide)) _
          · rw [HV.out, List.length_append, ← HMM.out]; rfl
          · exact ((chain hbel2.out hW5).trans hb5).setCell (p := ⟨w.heap.size + 2, 0, none⟩) (by show w.heap.size ≤ w.heap.size + 2; omega) _
          · rw [size_set]; have := hg5.size; have := hW5.size; omega
        gi_wp2
        refine wpIn_round_any (by kernel_rfl) (by kernel_rfl) (fun ⟨_, _, h⟩ => h) ?_
        refine wpAny_take (i := 1) (v := .slice (some ⟨ab, off, none⟩) k c) rfl (by kernel_rfl) (by kernel_rfl) (by kernel_rfl) (fun _ _ _ h => h) (Or.inl ⟨by rfl, fun W => by go_simp⟩) ?_
        refine wpAny_take (i := 2) (v := .int .i64 i) rfl (by kernel_rfl) (by kernel_rfl) (by kernel_rfl) (fun _ _ _ h => h) (Or.inl ⟨by rfl, fun W => by go_simp⟩) ?_
        refine wpAny_take (i := 3) (v := .pointer (some ⟨ab, off + i * 5, none⟩)) rfl (by kernel_rfl) (by kernel_rfl) (by kernel_rfl) (fun _ _ _ h => h) (Or.inl ⟨by rfl, fun W => by go_simp⟩) ?_
        refine wpAny_ready (rs := [0, 4]) (by kernel_rfl) (by simp) ?_
        refine AllReady.cons rfl (fun K hK => ?_) (AllReady.cons rfl (fun K hK => ?_) AllReady.nil)
        · go_simp
          refine hK _ _ ?_
          clear hK K
          refine wpAny_of_seq _ 4 _ _ _ (seq_tail rfl) (by kernel_rfl) ?_
          go_wp2_with (at_builtin; refine wpList_pushG rfl _ _ 33 rfl Tryz.underlying33 infoAE rfl (by decide) rfl #[.string k0, .int .i64 q0, .bool g0, .string v0, .int .i64 u0] rfl ?c1 rfl HAL0.out (own_below HO2.out HBL.out) ?c2 ?c3 ?c4 ?_)
          case c1 => simp [Value.oneCell']
          case c2 => exact hszd
          case c3 => unfold maxLen; omega
          case c4 => omega
          intro a5 cap5 w5 hown5 hg5 hb5
          obtain ⟨hc5, hfin⟩ := hpost.out _ HBL.out _ _ _ hown5 hg5 hb5
          have s0 := hc5.cell
          have z0 := hc5.fz
          have HFIN := Lib.hid hfin
          clear hfin hown5 hg5 hb5 hc5
          go_wp2_with fail
          exact HFIN.out _
        · go_simp
          refine hK _ _ ?_
          clear hK K
          refine wpAny_ready (rs := [0, 5]) (by kernel_rfl) (by simp) ?_
          refine AllReady.cons rfl (fun K hK => ?_) (AllReady.cons rfl (fun K hK => ?_) AllReady.nil)
          · go_simp
            refine hK _ _ ?_
            clear hK K
            refine wpAny_of_seq _ 5 _ _ _ (seq_tail rfl) (by kernel_rfl) ?_
            go_wp2_with (at_builtin; refine wpList_pushG rfl _ _ 33 rfl Tryz.underlying33 infoAE rfl (by decide) rfl #[.string k0, .int .i64 q0, .bool g0, .string v0, .int .i64 u0] rfl ?d1 rfl HAL0.out (own_below HO2.out HBL.out) ?d2 ?d3 ?d4 ?_)
            case d1 => simp [Value.oneCell']
            case d2 => exact hszd
            case d3 => unfold maxLen; omega
            case d4 => omega
            intro a5 cap5 w5 hown5 hg5 hb5
            obtain ⟨hc5, hfin⟩ := hpost.out _ HBL.out _ _ _ hown5 hg5 hb5
            have s0 := hc5.cell
            have z0 := hc5.fz
            have HFIN := Lib.hid hfin
            clear hfin hown5 hg5 hb5 hc5
            go_wp2_with fail
            exact HFIN.out _
          · go_simp
            refine hK _ _ ?_
            clear hK K
            have f8 : (w2.alloc (.cells #[.string k0, .int .i64 q0, .bool g0, .string v0, .int .i64 u0] 45)).cell? ⟨w.heap.size + 1 + 1, 0, none⟩ = some (.slice pp m d) := HC7.out
            refine wpAny_ready (rs := [0]) (by kernel_rfl) (by simp) ?_
            refine AllReady.cons rfl (fun K hK => ?_) AllReady.nil
            go_simp
            refine hK _ _ ?_
            clear hK K
            refine wpAny_of_seq _ 6 _ _ _ (seq_tail rfl) (by kernel_rfl) ?_
            go_wp2_with (at_builtin; refine wpList_pushG rfl _ _ 33 rfl Tryz.underlying33 infoAE rfl (by decide) rfl #[.string k0, .int .i64 q0, .bool g0, .string v0, .int .i64 u0] rfl ?e1 rfl HAL0.out (own_below HO2.out HBL.out) ?e2 ?e3 ?e4 ?_)
            case e1 => simp [Value.oneCell']
            case e2 => exact hszd
            case e3 => unfold maxLen; omega
            case e4 => omega
            intro a5 cap5 w5 hown5 hg5 hb5
            obtain ⟨hc5, hfin⟩ := hpost.out _ HBL.out _ _ _ hown5 hg5 hb5
            have s0 := hc5.cell
            have z0 := hc5.fz
            have HFIN := Lib.hid hfin
            clear hfin hown5 hg5 hb5 hc5
            go_wp2_with fail
            exact HFIN.out _
  case done =>
    rintro W ⟨h4, h5, ⟨pp, m, d, h7, hown, hm⟩, hbel, hg3⟩ hD
    have l7 := h7.cell
    have he : visT L s now n = visE L s now := by rw [← HL.out]; exact visT_all L s now
    rw [he] at hown hm
    have HOW := Lib.hid hown
    have HMM := Lib.hid hm
    clear hown hm he
    go_wp2_with fail
    refine ⟨by simp, .inl ⟨_, _, rfl, run_takeDeferred hD, ?_⟩⟩
    have hm2 := HMM.out
    subst hm2
    exact ⟨_, results_tmp rfl _ _ _, pp, d, rfl, ownsRow_putObj HOW.out _ hD rfl, below_put hbel hbel.size hbW.size _⟩
end Go.Proofs.YtpihmjdljbienaaGreatDoor.Mg
