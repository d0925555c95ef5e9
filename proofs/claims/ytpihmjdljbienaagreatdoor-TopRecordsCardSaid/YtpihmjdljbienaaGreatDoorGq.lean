/- Several texts in one: MrgK, MrgJ, MrgX, MrgM. -/
import Derived.Test.YtpihmjdljbienaaGreatDoorGi
import Derived.RangeFuncNested
import Derived.RangeFuncBound
import Derived.RangeFuncCalls
import Derived.RangeFuncLeaves
import Derived.Shelf.Abstract
import Derived.OwnWalkIn
import Derived.TacticsInMore
import Derived.LoopNIn
import Derived.LoopIn
import Derived.Deep.LoopGhost
import Derived.Deep.CutBlock
import Derived.StillTailTactics
import Derived.Lib.QuietBelow
import Derived.Maps.Own
import Derived.Maps.Views
/- The entries of each key: the walk of keys' closure, over whatever a round does that keeps what it is handed. -/
namespace Go.Proofs.YtpihmjdljbienaaGreatDoor.Mg
open Ew
open Go.RowKit
open En B
set_option linter.unusedVariables false

theorem keys_any (a : Option Addr) (n cap : Nat) (w : World) :
    Calls Tryz.prog 85 #[.slice a n cap] w fun e w' => e = .returned (.func (.func 133) #[] #[.pointer (some ⟨w.heap.size, 0, none⟩)]) ∧ w' = w.alloc (.cells #[.slice a n cap] 33) := by
  go_enter Tryz.func85, Tryz.ntmps85
  go_wp2_with fail
  go_ret
  exact ⟨rfl, rfl⟩

theorem erow_drop {w : World} {b off n : Nat} {f : Nat → Ent} (h : ERow w (some ⟨b, off, none⟩) n f) (t : Nat) : ERow w (some ⟨b, off + t * 5, none⟩) (n - t) (fun i => f (t + i)) := by
  by_cases h0 : n - t = 0
  · exact .inl h0
  · rcases h with h | ⟨b', off', ha, hb, hc⟩
    · omega
    · cases ha
      refine .inr ⟨b, off + t * 5, rfl, hb, fun i hi => ?_⟩
      have := hc (t + i) (by omega)
      rwa [show off + (t + i) * 5 = off + t * 5 + i * 5 from by omega] at this
/-- what is left of a slice from place p on, up to n -/
def RestS (a0 : Option Addr) (v : Value) (n cap p : Nat) : Prop := ∃ a m c, v = .slice a m c ∧ p + m = n ∧ p + c = cap ∧ (m = 0 ∨ ∃ b off, a0 = some ⟨b, off, none⟩ ∧ a = some ⟨b, off + p * 5, none⟩)
theorem RestS.row {a0 : Option Addr} {v : Value} {n q cap p : Nat} {W : World} {L : List Ent} (h : RestS a0 v q cap p) (hq : q ≤ n) (hr : ERow W a0 n (fun i => L.getD i ent0)) :
    ∃ a m c, v = .slice a m c ∧ p + m = q ∧ p + c = cap ∧ ERow W a m (fun i => L.getD (p + i) ent0) := by
  obtain ⟨a, m, c, hv, hm, hc, h0 | ⟨b, off, rfl, rfl⟩⟩ := h
  · exact ⟨a, m, c, hv, hm, hc, .inl h0⟩
  · exact ⟨_, m, c, hv, hm, hc, (erow_drop hr p).take (by omega)⟩
theorem rest_0 {a0 : Option Addr} {n : Nat} {f : Nat → Ent} {w : World} (h : ERow w a0 n f) (cap : Nat) : RestS a0 (.slice a0 n cap) n cap 0 := by
  refine ⟨a0, n, cap, rfl, by omega, by omega, ?_⟩
  rcases h with h | ⟨b, off, ha, _⟩
  · exact .inl h
  · exact .inr ⟨b, off, ha, by rw [ha, Nat.zero_mul, Nat.add_zero]⟩
/-- the rest's box is as it was -/
def KeepB (g : Nat) (W W' : World) : Prop := W'.heap[g]? = W.heap[g]?

set_option maxHeartbeats 1600000 in
set_option maxRecDepth 100000 in
theorem keys1_any (l g n cap : Nat) (L : List Ent) (hl : L.length = n) (hnc : n ≤ cap) (hcap : cap ≤ 9223372036854775807) (hn6 : n ≤ 9223372036854775806) (hso : Sorted L) (J : Nat → World → Prop)
    (hset : ∀ p W v v', J p W → Cell1 W g 33 v → J p (W.setCell ⟨g, 0, none⟩ v')) (hdr : ∀ p W k, J p W → J p (W.drewN k))
    (a0 : Option Addr) (hrow : ∀ p W, J p W → ERow W a0 n (fun i => L.getD i ent0))
    (hY : ∀ p q W v, J p W → Cut L p → Grp L p q → RestS a0 v q cap p → (∃ v', Cell1 W g 33 v') →
      YieldAt Fence.wide 0 Tryz.prog l #[v] W fun e W' => e = .returned (.bool true) ∧ J q W' ∧ KeepB g W W')
    (W : World) (hbox : Cell1 W g 33 (.slice a0 n cap)) (h0 : J 0 W) :
    Calls Tryz.prog 133 #[.func (.yield l) #[] #[], .pointer (some ⟨g, 0, none⟩)] W fun e W' => (∃ v, e = .returned v) ∧ J n W' := by
  have HL := Lib.hid hl
  have HS := Lib.hid hso
  have HSET := Lib.hid hset
  have HDR := Lib.hid hdr
  have HRW := Lib.hid hrow
  have HYY := Lib.hid hY
  clear hl hso hset hdr hrow hY
  go_enter Tryz.func133, Tryz.ntmps133
  go_wp2_with fail
  go_loopg [3] n (fun gk s3 wr => ∃ (p : Nat) (v : Value), gk = n - p ∧ p ≤ n ∧ Hid (Cell1 wr g 33 v) ∧ Hid (RestS a0 v n cap p) ∧ Hid (J p wr) ∧ Hid (Cut L p))
  case atStart => exact ⟨0, _, rfl, by omega, hbox, rest_0 (HRW.out 0 W h0) _, h0, cut_0 L⟩
  case round =>
    obtain ⟨p, v, rfl, hp, hc1, hrs, hJ, hcut0⟩ := hrel
    obtain ⟨a2, m, c, hv, hpm, hpc, har⟩ := hrs.out
    have her : ERow wr a2 m (fun i => L.getD (p + i) ent0) := by
      obtain ⟨a3, m3, c3, hv3, _, _, h⟩ := hrs.out.row (Nat.le_refl _) (HRW.out p wr hJ.out)
      rw [hv] at hv3
      cases hv3
      exact h
    subst hv
    have HAR := Lib.hid har
    have HER := Lib.hid her
    have HPM := Lib.hid hpm
    have HPC := Lib.hid hpc
    have l0 := hc1.out.cell
    have hgl := hc1.out.lt
    have hm1 : m ≤ 9223372036854775806 := by omega
    have hm2 : m ≤ c := by omega
    clear her hrs har
    by_cases hlt : 0 < m
    · clear hpm hpc
      obtain ⟨ab, off, rfl, hab, hac⟩ := HER.out.at hlt
      obtain ⟨w1, rfl⟩ : ∃ w1 : World, w1 = wr := ⟨_, rfl⟩
      have hd0 := hac 0 hlt
      simp only [Nat.add_zero, Nat.zero_mul] at hd0
      have HAC := Lib.hid hac
      obtain ⟨k0, hk0⟩ : ∃ k0, k0 = (L.getD p ent0).key := ⟨_, rfl⟩
      have c00 := hd0.1
      rw [← hk0] at c00
      have HK0 := Lib.hid hk0
      clear hac hd0 hk0
      go_upto_block 2 with fail
      go_cut [3] (fun s3 wx => ∃ t : Nat, s3 = .int .i64 t ∧ 1 ≤ t ∧ t ≤ m ∧ Hid (∀ i, i < t → (L.getD (p + i) ent0).key = k0) ∧ Hid (p + t < n → (L.getD (p + t) ent0).key ≠ k0) ∧ ∃ nd, wx = w1.drewN nd)
      case first =>
        go_wp2_with fail
        go_loopw [3] (fun s3 wt => ∃ t : Nat, s3 = .int .i64 t ∧ 1 ≤ t ∧ t ≤ m ∧ Hid (∀ i, i < t → (L.getD (p + i) ent0).key = k0) ∧ ∃ nd, wt = w1.drewN nd) (fun s3 _ => m - (intOf s3).toNat)
        case atStart => exact ⟨1, rfl, by omega, by omega, (fun i hi => by obtain rfl : i = 0 := by omega
                                                                           rw [HK0.out, Nat.add_zero]), 0, rfl⟩
        case round =>
          obtain ⟨t, rfl, ht1, htm, hsame, nd, rfl⟩ := hrel
          by_cases htl : t < m
          · have hdt := HAC.out t htl
            obtain ⟨k3, hk3⟩ : ∃ k3, k3 = (L.getD (p + t) ent0).key := ⟨_, rfl⟩
            have ct := hdt.1
            rw [← hk3] at ct
            have HK3 := Lib.hid hk3
            have t1 : (0 : Int) ≤ (t : Int) := by omega
            have t2 : (t : Int) < (m : Int) := by omega
            clear hdt hk3
            by_cases hk : k3 = k0
            · have ek : (k3.toList == k0.toList) = true := by rw [hk]; exact beq_self_eq_true _
              have hs2 : Hid (∀ i, i < t + 1 → (L.getD (p + i) ent0).key = k0) := fun i hi => by
                by_cases e : i = t
                · subst e; rw [← HK3.out, hk]
                · exact hsame.out i (by omega)
              clear hk
              go_wp2_with fail
              go_quiet (fail)
              go_wp2_with fail
              go_roundw
              case rel => exact ⟨t + 1, by go_num, by omega, by omega, hs2, _, rfl⟩
              case measure => simp [intOf]; omega
            · have ek : (k3.toList == k0.toList) = false := beq_eq_false_iff_ne.2 fun e => hk (toList_inj e)
              have hnx : Hid (p + t < n → (L.getD (p + t) ent0).key ≠ k0) := fun _ e => hk (by rw [HK3.out, e])
              clear hk
              go_wp2_with fail
              go_quiet (fail)
              go_wp2_with fail
              go_meet
              exact ⟨t, rfl, ht1, htm, hsame, hnx, _, World.drewN_drewN _ _ _⟩
          · obtain rfl : t = m := by omega
            have hnx : Hid (p + t < n → (L.getD (p + t) ent0).key ≠ k0) := fun h => absurd HPM.out (by omega)
            go_wp2_with fail
            go_quiet (fail)
            go_wp2_with fail
            go_meet
            exact ⟨t, rfl, ht1, htm, hsame, hnx, _, World.drewN_drewN _ _ _⟩
      case rest =>
      obtain ⟨t, rfl, ht1, htm, hsame, hnx, nd, hwc⟩ := hcut
      obtain ⟨w2, hw2⟩ : ∃ w2, w2 = wc := ⟨_, rfl⟩
      rw [← hw2] at hwc ⊢
      have hb2 : Below w1.heap.size w1 w2 := by rw [hwc]; exact drewN (Below.refl _ _)
      have hgrp : Grp L p (p + t) := grp_of HS.out hcut0.out (by omega) (by rw [HL.out]; have := HPM.out; omega) (fun i h1 h2 => by
        have := hsame.out (i - p) (by omega)
        rw [show p + (i - p) = i from by omega] at this
        rw [this, HK0.out]) (fun h => by rw [← HK0.out]; exact hnx.out (by rw [← HL.out]; exact h))
      have hJ2 : J p w2 := by rw [hwc]; exact HDR.out p w1 nd hJ.out
      have hc2 := hc1.out.below hb2
      have hown : RestS a0 (.slice (some ⟨ab, off, none⟩) t c) (p + t) cap p := ⟨_, t, c, rfl, rfl, HPC.out, HAR.out.imp (fun h => by omega) id⟩
      obtain ⟨fn, tmps, assign, body, hy, hR⟩ := HYY.out p (p + t) w2 _ hJ2 hcut0.out hgrp hown ⟨_, hc2⟩
      have hcut2 := Lib.hid (hgrp.cut hcut0.out)
      have hJ2' := Lib.hid hJ2
      have HC2 := Lib.hid hc2
      have l2 := hc2.cell
      have t1 : (t : Int) ≤ (m : Int) := by omega
      have t3 : t ≤ c := by omega
      clear hsame hnx hgrp hown hJ2 hc2 l0 HAC c00 hb2 hwc hJ hcut0 hc1 HER hw2 hab
      clear hgl
      clear w1
      go_upto_region 4 with fail
      refine (wpIn_wide (n := 1)).1 ?_
      gi_wp2
      refine hR.mono ?_
      rintro e W3 ⟨rfl, hJ3, hk3⟩
      have HC3 : Hid (Cell1 W3 g 33 (.slice (some ⟨ab, off, none⟩) m c)) := hk3.trans HC2.out
      have l3 := HC3.out.cell
      have f3 := HC3.out.fz
      have HSET3 := Lib.hid (fun v' => HSET.out _ _ _ v' hJ3 HC3.out)
      clear hk3 l2 hR hy hJ2' hJ3 HC2
      have htc : t = c ∨ t < c := by omega
      rcases htc with htc | htc
      · subst htc
        have hpt := HPM.out
        have hpc2 := HPC.out
        have hst := Lib.hid (HSET3.out (.slice (some ⟨ab, off, none⟩) 0 0))
        have hb3 := Lib.hid (HC3.out.set (.slice (some ⟨ab, off, none⟩) 0 0))
        have hrs3 : Hid (RestS a0 (.slice (some ⟨ab, off, none⟩) 0 0) n cap (p + t)) := ⟨_, 0, 0, rfl, by omega, by omega, .inl rfl⟩
        clear hpt hpc2
        gi_wp2
        go_wp2_with fail
        go_roundg (n - (p + t))
        case measure => have := HPM.out; omega
        case rel => exact ⟨p + t, _, rfl, by have := HPM.out; omega, hb3.out, hrs3.out, hst.out, hcut2.out⟩
      · have hpt := HPM.out
        have hpc2 := HPC.out
        have hst := Lib.hid (HSET3.out (.slice (some ⟨ab, off + t * 5, none⟩) (m - t) (c - t)))
        have hb3 := Lib.hid (HC3.out.set (.slice (some ⟨ab, off + t * 5, none⟩) (m - t) (c - t)))
        have hrs3 : Hid (RestS a0 (.slice (some ⟨ab, off + t * 5, none⟩) (m - t) (c - t)) n cap (p + t)) := by
          refine ⟨_, m - t, c - t, rfl, by omega, by omega, HAR.out.imp (fun h => by omega) ?_⟩
          rintro ⟨b3, o3, h1, h2⟩
          refine ⟨b3, o3, h1, ?_⟩
          cases h2
          rw [show o3 + p * 5 + t * 5 = o3 + (p + t) * 5 from by omega]
        clear hpt hpc2
        gi_wp2
        go_wp2_with fail
        go_roundg (n - (p + t))
        case measure => have := HPM.out; omega
        case rel => exact ⟨p + t, _, rfl, by have := HPM.out; omega, hb3.out, hrs3.out, hst.out, hcut2.out⟩
    · obtain rfl : m = 0 := by omega
      obtain rfl : p = n := by omega
      go_wp2_with fail
      go_end0
      exact ⟨⟨_, rfl⟩, hJ.out⟩

/-- what may turn between two rounds: the rest's box; blocks that hold no cells, from B on; what is drawn; new blocks -/
structure Bides (g B : Nat) (J : Nat → World → Prop) : Prop where
  set : ∀ p W v v', J p W → Cell1 W g 33 v → J p (W.setCell ⟨g, 0, none⟩ v')
  drew : ∀ p W k, J p W → J p (W.drewN k)
  alloc : ∀ p W o, J p W → J p (W.alloc o)
  put : ∀ p W r o o', J p W → B ≤ r → W.heap[r]? = some o → o.isCells = false → J p (W.putObj r o')
/-- what a round keeps: the rest's box; what holds no cells -/
structure Kept (g : Nat) (W W' : World) : Prop where
  size : W.heap.size ≤ W'.heap.size
  box : W'.heap[g]? = W.heap[g]?
  other : ∀ (k : Nat) (o : Obj), W.heap[k]? = some o → o.isCells = false → W'.heap[k]? = some o
def roundQ (g q : Nat) (J : Nat → World → Prop) (W : World) : Exit → Act → World → Prop
  | .normal, _, W' => Kept g W W' ∧ J q W'
  | _, _, _ => False

set_option maxHeartbeats 800000 in
/-- a range over the entries of each key, whose body goes on to its end -/
theorem range_keys {f : Operand} {t : Tmp} {assign body : Code} {Q : Exit → Act → World → Prop} {a : Act} {w : World} {g n cap : Nat} {a0 : Option Addr} {L : List Ent}
    (hf : a.eval f = .func (.func 133) #[] #[.pointer (some ⟨g, 0, none⟩)]) (hl : L.length = n) (hnc : n ≤ cap) (hcap : cap ≤ 9223372036854775807) (hn6 : n ≤ 9223372036854775806) (hso : Sorted L)
    (hbox : Cell1 w g 33 (.slice a0 n cap)) (J : Nat → World → Prop) (hJ : Bides g w.heap.size J) (hrow : ∀ p W, J p W → ERow W a0 n (fun i => L.getD i ent0)) (h0 : J 0 w) (a₁ : Value → Act)
    (hassign : ∀ (l : Nat) (v : Value) (W : World) (K : Act → World → Prop), K (a₁ v) W → assign.wpIn (Fence.wide.inRound l) 0 Tryz.prog (Exit.then K (fun _ _ _ => False)) { tmps := a.tmps.setIfInBounds t v, defers := [] } W)
    (hbody : ∀ (l p q : Nat) (v : Value) (W : World), J p W → Cut L p → Grp L p q → RestS a0 v q cap p → (∃ v', Cell1 W g 33 v') → body.wpIn (Fence.wide.inRound l) 0 Tryz.prog (roundQ g q J W) (a₁ v) W)
    (hdone : ∀ W, J n W → W.heap[w.heap.size]? = some (.deferred (some [])) → Q .normal { a with defers := { target := .collected w.heap.size, args := #[] } :: a.defers } W) :
    (Code.rangeFunc f #[t] assign body).wp Tryz.prog Q a w := by
  refine (wpIn_wide (n := 1)).1 (wpIn_rangeFunc ?_)
  intro fn hfn
  have hro : Fence.wide.round = none := rfl
  rw [hro]
  obtain ⟨rec, hrec⟩ : ∃ rec : LoopState → Loop, rec = fun st => { state := st, pending := none, fn, tmps := a.tmps, params := #[t], assign, body, defers := w.heap.size } := ⟨_, rfl⟩
  obtain ⟨W1, hW1⟩ : ∃ W1, (w.alloc (.deferred (some []))).alloc (.loop (rec .ready)) = W1 := ⟨_, rfl⟩
  have hL1 : W1.heap[w.heap.size + 1]? = some (.loop (rec .ready)) := by rw [← hW1]; exact blk_new (by simp)
  have hK1 : W1.heap[w.heap.size]? = some (.deferred (some [])) := by rw [← hW1]; exact blk_alloc (blk_new rfl)
  have hJ1 : J 0 W1 := by rw [← hW1]; exact hJ.alloc _ _ _ (hJ.alloc _ _ _ h0)
  have hB1 : Cell1 W1 g 33 (.slice a0 n cap) := by rw [← hW1]; exact Cell1.alloc (Cell1.alloc hbox _) _
  have hg : g < w.heap.size := hbox.lt
  refine ⟨w.heap.size + 1, [{ target := .collected w.heap.size, args := #[] }], W1, { target := .fn (.func 133) #[.pointer (some ⟨g, 0, none⟩)], args := #[.func (.yield (w.heap.size + 1)) #[] #[]] }, W1, 133,
    #[.func (.yield (w.heap.size + 1)) #[] #[]] ++ #[.pointer (some ⟨g, 0, none⟩)], W1, ?_, ?_, ?_, ?_, (fun h => by cases h), ?_⟩
  · rw [← hW1, hrec]; exact run_enterLoop_outer _ _ _ _ _
  · simp only [resolve, hf]
    simp [go_sem]
  · intro f' hf'; trivial
  · simp [invoke, go_sem]
  · refine callsIn_wide.2 ((keys1_any (w.heap.size + 1) g n cap L hl hnc hcap hn6 hso
      (fun p W => J p W ∧ W.heap[w.heap.size + 1]? = some (.loop (rec .ready)) ∧ W.heap[w.heap.size]? = some (.deferred (some [])))
      (fun p W v v' hj hc => ⟨hJ.set p W v v' hj.1 hc, (Below.heap_setCell _ _ _ _ (by show w.heap.size + 1 ≠ g; omega)).trans hj.2.1, (Below.heap_setCell _ _ _ _ (by show w.heap.size ≠ g; omega)).trans hj.2.2⟩)
      (fun p W k hj => ⟨hJ.drew p W k hj.1, hj.2⟩) a0 (fun p W hj => hrow p W hj.1) ?_ W1 hB1 ⟨hJ1, hL1, hK1⟩).mono ?_)
    · rintro p q W v ⟨hj, hlp, hd⟩ hcut hgrp hrs ⟨vb, hvb⟩
      have hlt : w.heap.size + 1 < W.heap.size := lt_of_block hlp
      have hy := run_yield (P := Tryz.prog) (args := #[v]) hlp (by rw [hrec]; rfl)
      rw [hrec] at hy
      have htm : ((#[t] : Array Tmp).zip #[v]).foldl (fun tmps (t, a) => tmps.setIfInBounds t a) a.tmps = a.tmps.setIfInBounds t v := by simp
      simp only [htm] at hy
      refine ⟨fn, _, assign, body, hy, roundIn_of_wpIn hfn ?_⟩
      refine hassign _ v W _ ?_
      refine ⟨_, run_beginRound hlp (by rw [hrec]), ?_⟩
      have hj2 := hJ.put p W (w.heap.size + 1) _ (.loop { rec .ready with state := .busy }) hj (by omega) hlp rfl
      have hl2 : (W.putObj (w.heap.size + 1) (.loop { rec .ready with state := .busy })).heap[w.heap.size + 1]? = some (.loop { rec .ready with state := .busy }) := World.putObj_heap_same hlt
      have hd2 : (W.putObj (w.heap.size + 1) (.loop { rec .ready with state := .busy })).heap[w.heap.size]? = some (.deferred (some [])) := (World.putObj_heap_other (by omega)).trans hd
      have hg2 : (W.putObj (w.heap.size + 1) (.loop { rec .ready with state := .busy })).heap[g]? = W.heap[g]? := World.putObj_heap_other (by omega)
      refine wpIn_mono (hbody _ p q v _ hj2 hcut hgrp hrs ⟨vb, hg2.trans hvb⟩) ?_
      rintro e a3 W3 hp
      cases e with
      | normal =>
        obtain ⟨hk, hj3⟩ := hp
        have hl3 := hk.other _ _ hl2 rfl
        have hd3 := hk.other _ _ hd2 rfl
        have hend := run_endRound (P := Tryz.prog) none hl3
        refine ⟨_, _, hend, rfl, ⟨hJ.put q W3 _ _ _ hj3 (by omega) hl3 rfl, ?_, (World.putObj_heap_other (by omega)).trans hd3⟩, ?_⟩
        · refine (World.putObj_heap_same (lt_of_block hl3)).trans ?_
          rw [hrec]; rfl
        · exact (World.putObj_heap_other (by omega)).trans (hk.box.trans hg2)
      | ret => exact hp.elim
      | exit id => exact hp.elim
      | goto l => exact hp.elim
      | panic ch => exact hp.elim
      | outgrown => exact hp.elim
    · rintro e W2 ⟨⟨v, rfl⟩, hj, hlp, hd⟩
      have hend := run_endLoop (P := Tryz.prog) hlp (by rw [hrec]; simp)
      have hpe : (rec .ready).pending = none := by rw [hrec]
      rw [hpe] at hend
      exact ⟨none, _, hend, hdone _ (hJ.put n W2 _ _ _ hj (by omega) hlp rfl) ((World.putObj_heap_other (by omega)).trans hd)⟩
end Go.Proofs.YtpihmjdljbienaaGreatDoor.Mg

/- A region that draws its order, in a round of a range over a function: what holds of it in a plain walk holds there. -/
namespace Go.Proofs.YtpihmjdljbienaaGreatDoor.Mg
open Ew
open Go.RowKit
open En B
set_option linter.unusedVariables false

section
variable {P : Program} {ops : Array Oper} {Q : Exit → Act → World → Prop}
theorem rowsIn_of {n : Nat} {row : String} {args : Array Value} {w : World} {R : Value → World → Prop} (h : Rows P row args w R) : RowsIn Fence.wide n P row args w R :=
  fun c cs _ => let ⟨v, w', r, s⟩ := h c cs; ⟨v, w', r, stepsIn_wide.2 s⟩
theorem opIn_of {o : Oper} {a : Act} {w : World} {K : Act → World → Prop} (l n : Nat) (hnd : ∀ c, o.op ≠ .defer c) (h : o.wp P a w K Q) : o.wpIn (Fence.wide.inRound l) n P a w K Q := by
  refine ⟨fun _ _ => trivial, ?_⟩
  rw [show (Fence.wide.inRound l).round = some l from rfl, Oper.semAt_eq _ _ _ hnd]
  unfold Oper.wp at h
  generalize (execOp a.eval o).run P w = r at h
  cases r with
  | ok x w' =>
    cases x <;> simp only [Oper.upon] at h <;> simp only [Oper.uponIn]
    case value => exact h
    case skip => exact h
    case defer => exact h
    case enter => exact ⟨(fun h => by cases h), callsIn_wide.2 h⟩
    case row => exact ⟨(fun h => by cases h), rowsIn_of h⟩
  | halt x w' => cases x <;> simp only [Oper.upon] at h <;> simp only [Oper.uponIn]; exact h
theorem opsIn_of (l n : Nat) (hq : ¬ LetsOut Q) (hnd : ∀ (i : Nat) (o : Oper), ops[i]? = some o → ∀ c, o.op ≠ .defer c) : ∀ (is : List Nat) (a : Act) (w : World), wpOps P ops Q is a w → wpOpsIn (Fence.wide.inRound l) n P ops Q is a w
  | [], _, _, h => h
  | i :: is, a, w, h => by
    unfold wpOps at h
    unfold wpOpsIn
    cases ho : ops[i]? with
    | none => simp only [ho] at h ⊢; exact opsIn_of l n hq hnd is a w h
    | some o =>
      simp only [ho] at h ⊢
      split
      · rename_i hw
      
        rw [if_pos hw] at h
        rcases h with h | h
        · have h2 := opIn_of l n (hnd i o ho) h
          refine ⟨h2.1, ?_⟩
          have h3 := h2.2
          revert h3
          generalize (o.semAt (Fence.wide.inRound l).round a.eval).run P w = r
          intro h3
          cases r with
          | ok x w' =>
            cases x <;> simp only [Oper.uponIn] at h3 ⊢
            case value => exact opsIn_of l n hq hnd is _ _ h3
            case skip => exact opsIn_of l n hq hnd is _ _ h3
            case defer => exact opsIn_of l n hq hnd is _ _ h3
            case enter => exact ⟨h3.1, h3.2.mono fun e w'' he => by cases e <;> first | exact opsIn_of l n hq hnd is _ _ he | exact he⟩
            case row => exact ⟨h3.1, h3.2.mono fun v w'' he => opsIn_of l n hq hnd is _ _ he⟩
            case round => exact ⟨h3.1, h3.2.mono fun e w'' he => by cases e <;> first | exact opsIn_of l n hq hnd is _ _ he | exact he⟩
          | halt x w' => cases x <;> simp only [Oper.uponIn] at h3 ⊢; exact h3
        · exact absurd h.2 hq
      · rename_i hw
        rw [if_neg hw] at h
        exact ⟨fun _ _ => trivial, opsIn_of l n hq hnd is _ _ h⟩
/-- it holds no 'defer' -/
def noDefer (ops : Array Oper) : Bool := ops.toList.all fun o => match o.op with | .defer _ => false | _ => true
theorem noDefer_spec (h : noDefer ops = true) (i : Nat) (o : Oper) (ho : ops[i]? = some o) (c : Call) : o.op ≠ .defer c := by
  intro e
  have := List.all_eq_true.1 h o (List.mem_of_getElem? (by rw [Array.getElem?_toList]; exact ho))
  rw [e] at this
  cases this
theorem wpIn_round_any {id l n : Nat} {a : Act} {w : World} (hm : P.follows .mixedOrders = true) (hd : noDefer ops = true) (hq : ¬ LetsOut Q)
    (h : wpAny P .any ops Q ops.size (Array.replicate ops.size false) a w.drew) : (Code.region id ops true).wpIn (Fence.wide.inRound l) n P Q a w :=
  wpIn_region_draw fun t => by
    simp only [Region.schedule, hm, Bool.true_or, if_true]
    exact opsIn_of l n hq (noDefer_spec hd) _ _ _ (wpAny_sound ops.size t _ a _ h)
end

/-- reads and callees that lay blocks of their own -/
theorem wpIn_round_quiet {P : Program} {id l n : Nat} {Q : Exit → Act → World → Prop} {a : Act} {w : World} {ol : List Oper} (hm : P.follows .mixedOrders = true) (hB : Region.lexB .any ol.toArray = true) (hd : noDefer ol.toArray = true) (hq : ¬ LetsOut Q)
    (h : wpQuiet P ol.toArray (fun w' => ∃ p : Regrown, w' = Sort.grow (redrawn w p.d) p.os) (fun a' => ∀ w', (∃ p : Regrown, w' = Sort.grow (redrawn w p.d) p.os) → Q .normal a' w') ol a) : (Code.region id ol.toArray true).wpIn (Fence.wide.inRound l) n P Q a w := by
  simp only [Region.lexB, Bool.and_eq_true] at hB
  refine wpIn_round_any hm hd hq (wpAny_of_quiet (C := fun w' => ∃ p : Regrown, w' = Sort.grow (redrawn w p.d) p.os) (Q := fun a' => ∀ w', (∃ p : Regrown, w' = Sort.grow (redrawn w p.d) p.os) → Q .normal a' w') (fun _ w' hw' h => h w' hw') _ _ _ _ ⟨⟨w.drawn + 1, #[]⟩, by rw [Sort.grow_empty]; rfl⟩ ?_)
  have := wpAnyQ_lex (C := fun w' => ∃ p : Regrown, w' = Sort.grow (redrawn w p.d) p.os) (md := .any) hB.1 ol 0 (Array.replicate ol.toArray.size false) a (by simp) (by simpa using hB.2) h
  simpa using this
/-- reads, and one chain of others behind them -/
theorem wpIn_round_tail {P : Program} {id l m : Nat} {Q : Exit → Act → World → Prop} {a : Act} {w : World} {ol : List Oper} (n : Nat) (hm : P.follows .mixedOrders = true) (hB : Region.lexTailB .any ol.toArray n = true) (hd : noDefer ol.toArray = true) (hq : ¬ LetsOut Q)
    (h : wpStill P ol.toArray w.drew (fun a' => wpList P ol.toArray Q (ol.drop n) a' w.drew) (ol.take n) a) : (Code.region id ol.toArray true).wpIn (Fence.wide.inRound l) m P Q a w := by
  simp only [Region.lexTailB, Bool.and_eq_true, decide_eq_true_eq] at hB
  obtain ⟨⟨⟨⟨h1, h2⟩, h3⟩, h4⟩, h5⟩ := hB
  have e1 : (ol.take n).length = n := by have : n < ol.length := by simpa using h2
                                         simp; omega
  have e2 : (ol.drop n).length = ol.toArray.size - n := by simp
  have e3 : ol.toArray.size = n + (ol.toArray.size - n) := by omega
  have H := wpAnyL_lex (md := .any) (g := ol.toArray.size - n) h1 h3 h4 h2 (ol.take n) 0 (Array.replicate ol.toArray.size false) a
    (fun j hj => by rw [e1] at hj; simp [hj]) (by omega)
    ⟨by simp, fun j oj _ hl => (by rw [getD_replicate_false] at hl; cases hl), fun t _ ht => getD_in (by simpa using ht) (getD_replicate_false _ _)⟩ (by rw [e1]; exact h5) h
  rw [e1] at H
  refine wpIn_round_any hm hd hq ?_
  have K := wpAny_of_head (Q' := Q) (g := ol.toArray.size - n) (fun listed a' hL => by
    have := wpAny_of_seq (md := .any) (Q' := Q) (ol.drop n) n listed a' w.drew (fun j => by simp [List.getElem?_drop]) (by rw [e2]; exact hL.1) hL.2
    rwa [e2] at this) n _ a H
  rw [← e3] at K
  exact K
end Go.Proofs.YtpihmjdljbienaaGreatDoor.Mg

/- The walk of merge.Visible. -/
namespace Go.Proofs.YtpihmjdljbienaaGreatDoor.Mg
open Ew
open Go.RowKit
open En B
set_option linter.unusedVariables false
attribute [local go_sem] Oper.semAt_some

theorem Cell1.put {W : World} {g r : Nat} {t : TypeId} {v : Value} {o : Obj} (h : Cell1 W g t v) (hr : W.heap[r]? = some o) (ho : o.isCells = false) (o' : Obj) : Cell1 (W.putObj r o') g t v := by
  refine (World.putObj_heap_other (fun e => ?_)).trans h
  subst e
  unfold Cell1 at h
  rw [h] at hr
  cases hr
  cases ho
theorem below_put {w W : World} {B r : Nat} (h : Below B w W) (hB : B ≤ W.heap.size) (hr : B ≤ r) (o' : Obj) : Below B w (W.putObj r o') :=
  h.grown (grownBy_putObj' W r o') hB (fun k e => by cases e; exact hr)
theorem kept_refl (g : Nat) (W : World) : Kept g W W := ⟨Nat.le_refl _, rfl, fun _ _ h _ => h⟩
theorem Kept.trans {g : Nat} {A B C : World} (h : Kept g A B) (k : Kept g B C) : Kept g A C := ⟨Nat.le_trans h.size k.size, k.box.trans h.box, fun i o hi ho => k.other i o (h.other i o hi ho) ho⟩
theorem kept_below {g : Nat} {W W' : World} (hg : g < W.heap.size) (h : Below W.heap.size W W') : Kept g W W' := ⟨h.size, h.block g hg, fun k o hk _ => (h.block k (lt_of_block hk)).trans hk⟩
theorem kept_grown {g : Nat} {W W' : World} {r : Option Nat} (hg : g < W.heap.size) (h : W.grownBy W' r) (hne : r ≠ some g) (hc : ∀ k o, r = some k → W.heap[k]? = some o → o.isCells = true) : Kept g W W' :=
  ⟨h.size, h.block g hg (fun e => hne e.symm), fun k o hk ho => (h.block k (lt_of_block hk) (fun e => by rw [hc k o e.symm hk] at ho; cases ho)).trans hk⟩
theorem kept_set {g k : Nat} {W : World} {t : TypeId} {v : Value} (hc : Cell1 W k t v) (hne : g ≠ k) (v' : Value) : Kept g W (W.setCell ⟨k, 0, none⟩ v') :=
  ⟨by show W.heap.size ≤ (W.heap.modify _ _).size; rw [Array.size_modify]; exact Nat.le_refl _, Below.heap_setCell _ _ _ _ hne, fun i o hi ho => (Below.heap_setCell _ _ _ _ (fun e => by
    have e2 : i = k := e
    subst e2
    unfold Cell1 at hc
    rw [hc] at hi
    cases hi
    cases ho)).trans hi⟩

theorem size_set (W : World) (p : Addr) (v : Value) : (W.setCell p v).heap.size = W.heap.size := by show (W.heap.modify _ _).size = _; rw [Array.size_modify]
theorem seq_tail {ops : Array Oper} {l : List Oper} {k : Nat} (h : l = ops.toList.drop k) : ∀ j, l[j]? = ops[k + j]? := fun j => by
  subst h
  rw [List.getElem?_drop]
  simp
/-- out = append(out, x), x in a block that is known -/
theorem wpList_pushG {P : Program} {ops : Array Oper} {rest : List Oper} {o : Oper} {a : Act} {Q : Exit → Act → World → Prop} (hgd : o.guard = none) (s x : Operand) (t : TypeId)
    (ho : o.op = .call { callee := .builtin .append, args := #[s, x], argTypes := #[t, t] }) {e : TypeId} {z : Value} {size bytes : Nat} (ht : P.underlying t = some (.slice e))
    (hinfo : (P.info? e).map (fun i => (i.zero, i.size, i.bytes)) = some (some z, size, bytes)) (hzs : z.cells.size = size) (hsz : 0 < size) {w : World} {B n c g : Nat} {xs : List Value} {v : Value} (hs : a.eval s = v)
    (cs : Array Value) (hcs : cs.size = size) (h1 : ∀ u ∈ cs.toList, u.oneCell' = true) (hx : a.eval x = .slice (some ⟨g, 0, none⟩) 1 c) (hg : w.heap[g]? = some (.cells cs e (0, 0))) (hown : w.ownsRow B e size v n xs) (hbase : B ≤ w.heap.size)
    (h63 : n + 1 ≤ maxLen) (hbytes : (n + 1) * bytes ≤ 140737488355328)
    (h : ∀ a' cap w', w'.ownsRow B e size (.slice a' (n + 1) cap) (n + 1) (xs ++ cs.toList) → w.grownBy w' v.ownBlock → Below B w w' → wpList P ops Q rest (a.put o.dst (.slice a' (n + 1) cap)) w') :
    wpList P ops Q (o :: rest) a w := by
  obtain ⟨i0, hi, hz0, hz1, hz2⟩ := info_parts hinfo
  refine wpList_append_own _ hgd s x t ho B e i0 z size bytes ht hi hz0 hz1 hz2 hzs hsz v n xs hs hown ⟨g, 0, none⟩ 1 c cs.toList hx (by simp [hcs]) (World.news_of_block hg) h1 h63 hbytes hbase ?_
  intro v' w' hown' hgr _
  obtain ⟨a', cap, rfl, _⟩ := own_form hown'
  exact h a' cap w' hown' hgr ((Below.refl B w).grown hgr hbase (fun k hk => (hown.lt k hk).1))
/-- between two rounds of Visible -/
def VisJ (w : World) (L : List Ent) (s now : Int) (p : Nat) (W : World) : Prop :=
  Cell1 W w.heap.size 2 (.int .i64 s) ∧ Cell1 W (w.heap.size + 1) 2 (.int .i64 now) ∧
  (∃ pp m d, Cell1 W (w.heap.size + 2) 33 (.slice pp m d) ∧ W.ownsRow w.heap.size 45 5 (.slice pp m d) m (ecells (visT L s now p)) ∧ m = (visT L s now p).length) ∧ Below w.heap.size w W ∧ w.heap.size + 3 < W.heap.size
theorem visJ_bides (w : World) (L : List Ent) (s now : Int) (B : Nat) (hB : w.heap.size ≤ B) : Bides (w.heap.size + 3) B (VisJ w L s now) where
  set := by
    rintro p W v v' ⟨h1, h2, ⟨pp, m, d, h3, h4, h5⟩, h6, h7⟩ hc
    exact ⟨h1.far (p := ⟨w.heap.size + 3, 0, none⟩) (by show w.heap.size ≠ w.heap.size + 3; omega) _, h2.far (p := ⟨w.heap.size + 3, 0, none⟩) (by show w.heap.size + 1 ≠ w.heap.size + 3; omega) _, ⟨pp, m, d, h3.far (p := ⟨w.heap.size + 3, 0, none⟩) (by show w.heap.size + 2 ≠ w.heap.size + 3; omega) _, own_farB h4 (p := ⟨w.heap.size + 3, 0, none⟩) (row_ne (g := w.heap.size + 3) hc h4 (by decide)) _, h5⟩, h6.setCell (p := ⟨w.heap.size + 3, 0, none⟩) (by show w.heap.size ≤ w.heap.size + 3; omega) _, by rw [size_set]; exact h7⟩
  drew := by
    rintro p W k ⟨h1, h2, ⟨pp, m, d, h3, h4, h5⟩, h6, h7⟩
    exact ⟨h1, h2, ⟨pp, m, d, h3, own_drewN h4 k, h5⟩, drewN h6, h7⟩
  alloc := by
    rintro p W o ⟨h1, h2, ⟨pp, m, d, h3, h4, h5⟩, h6, h7⟩
    exact ⟨Cell1.alloc h1 o, Cell1.alloc h2 o, ⟨pp, m, d, Cell1.alloc h3 o, h4.alloc o, h5⟩, h6.alloc h6.size o, by simp; omega⟩
  put := by
    rintro p W r o o' ⟨h1, h2, ⟨pp, m, d, h3, h4, h5⟩, h6, h7⟩ hr ho hoc
    exact ⟨Cell1.put h1 ho hoc o', Cell1.put h2 ho hoc o', ⟨pp, m, d, Cell1.put h3 ho hoc o', ownsRow_putObj h4 o' ho hoc, h5⟩, below_put h6 h6.size (Nat.le_trans hB hr) o', by rw [World.putObj_size]; exact h7⟩

set_option maxHeartbeats 3200000 in
set_option maxRecDepth 100000 in
theorem vis_any (a : Option Addr) (n cap : Nat) (L : List Ent) (hl : L.length = n) (hnc : n ≤ cap) (hcap : cap ≤ 9223372036854775807) (hn : n * 56 ≤ 140737488351232) (hso : Sorted L) (w : World) (hr : ERow w a n (fun i => L.getD i ent0)) (s now : Int) :
    Calls Tryz.prog 26 #[.slice a n cap, .int .i64 s, .int .i64 now] w (OwnR w.heap.size 45 (visE L s now) w) := by
  have HL := Lib.hid hl
  have HS := Lib.hid hso
  have HR := Lib.hid hr
  clear hl hr hso
  refine (callsIn_wide (n := 0)).1 (callsIn_of_wp_marks Tryz.func26 rfl trivial ?_ rfl)
  refine wpIn_wide.2 ?_
  simp only [Tryz.ntmps26, List.size_toArray, List.length_cons, List.length_nil, Nat.reduceAdd, Nat.reduceSub, Array.replicate_succ, Array.replicate_zero, List.push_toArray, List.append_toArray, List.nil_append, List.cons_append]
  go_wp2_with fail
  refine (keys_any a n cap _).mono ?_
  rintro e w1 ⟨rfl, rfl⟩
  go_wp2_with fail
  have hbW : Below w.heap.size w ((((w.alloc (.cells #[.int .i64 s] 2)).alloc (.cells #[.int .i64 now] 2)).alloc (.cells #[.slice none 0 0] 33)).alloc (.cells #[.slice a n cap] 33)) :=
    below_alloc (below_alloc (below_alloc (below_alloc (Below.refl _ _) _) _) _) _
  have hsz : ((((w.alloc (.cells #[.int .i64 s] 2)).alloc (.cells #[.int .i64 now] 2)).alloc (.cells #[.slice none 0 0] 33)).alloc (.cells #[.slice a n cap] 33)).heap.size = w.heap.size + 4 := by simp
  have c4 : Cell1 ((((w.alloc (.cells #[.int .i64 s] 2)).alloc (.cells #[.int .i64 now] 2)).alloc (.cells #[.slice none 0 0] 33)).alloc (.cells #[.slice a n cap] 33)) w.heap.size 2 (.int .i64 s) := blk_alloc (blk_alloc (blk_alloc (blk_new rfl)))
  have c5 : Cell1 ((((w.alloc (.cells #[.int .i64 s] 2)).alloc (.cells #[.int .i64 now] 2)).alloc (.cells #[.slice none 0 0] 33)).alloc (.cells #[.slice a n cap] 33)) (w.heap.size + 1) 2 (.int .i64 now) := blk_alloc (blk_alloc (blk_new (by simp)))
  have c7 : Cell1 ((((w.alloc (.cells #[.int .i64 s] 2)).alloc (.cells #[.int .i64 now] 2)).alloc (.cells #[.slice none 0 0] 33)).alloc (.cells #[.slice a n cap] 33)) (w.heap.size + 2) 33 (.slice none 0 0) := blk_alloc (blk_new (by simp))
  have c8 : Cell1 ((((w.alloc (.cells #[.int .i64 s] 2)).alloc (.cells #[.int .i64 now] 2)).alloc (.cells #[.slice none 0 0] 33)).alloc (.cells #[.slice a n cap] 33)) (w.heap.size + 3) 33 (.slice a n cap) := blk_new (by simp)
  generalize (((w.alloc (.cells #[.int .i64 s] 2)).alloc (.cells #[.int .i64 now] 2)).alloc (.cells #[.slice none 0 0] 33)).alloc (.cells #[.slice a n cap] 33) = W0 at hbW hsz c4 c5 c7 c8 ⊢
  refine range_keys (g := w.heap.size + 3) (n := n) (cap := cap) (a0 := a) (L := L) rfl HL.out hnc hcap (by omega) HS.out c8 (VisJ w L s now) (visJ_bides w L s now _ (by omega)) (fun p W h => HR.out.below h.2.2.2.1)
    ⟨c4, c5, ⟨none, 0, 0, c7, World.ownsRow_nil _ _ _ _, rfl⟩, hbW, by omega⟩
    (fun v => { tmps := #[.slice a n cap, .int .i64 s, .int .i64 now, undef, .pointer (some ⟨w.heap.size, 0, none⟩), .pointer (some ⟨w.heap.size + 1, 0, none⟩), .slice none 0 0, .pointer (some ⟨w.heap.size + 1 + 1, 0, none⟩), v, undef, .slice a n cap, .func (.func 133) #[] #[.pointer (some ⟨w.heap.size + 1 + 1 + 1, 0, none⟩)], v, undef, undef, undef, undef, undef, undef, undef, undef, undef, undef, undef, undef, undef, undef, undef, undef, undef, undef, undef, undef, undef], defers := [] }) ?assign ?body ?done
  case assign =>
    intro l v W K hK
    gi_wp2
    exact hK
  case body =>
    clear c4 c5 c7 c8 hbW hsz
    clear W0
    rintro l p q v W hJ hcut hgrp hrs ⟨vb, hvb⟩
    obtain ⟨h4, h5, ⟨pp, m, d, h7, hown, hm⟩, hbel, hg3⟩ := hJ
    obtain ⟨a', k, c, rfl, hpk, hpc, her⟩ := hrs.row (by have := hgrp.le; rw [HL.out] at this; exact this) (HR.out.below hbel)
    have l4 := h4.cell
    have HH4 := Lib.hid h4
    have HH5 := Lib.hid h5
    have HH7 := Lib.hid h7
    have HOW := Lib.hid hown
    have HMM := Lib.hid hm
    have HER := Lib.hid her
    have HGR := Lib.hid hgrp
    have HPK := Lib.hid hpk
    have hqn : q ≤ n := by have := hgrp.le; rw [HL.out] at this; exact this
    have hkn : k ≤ n := by omega
    have hpq : p < q := hgrp.lt
    have hup := Lib.hid (upto_any a' k c (fun i => L.getD (p + i) ent0) (by omega) s W her)
    have hsW := hbel.size
    clear hrs hgrp hown hm her h4 h5 h7 hpk hpc hcut
    gi_wp2
    refine ⟨trivial, rfl, (CallsIn.inRound l (callsIn_wide.2 hup.out)).mono ?_⟩
    rintro e w1 ⟨r, rfl, hu, hb1⟩
    have hui : UpIs L p q s r := by
      rcases hu with ⟨i, hi, hik, h1, h2⟩ | ⟨hi, h1⟩
      · exact .inl ⟨i, hi, by have := HPK.out; omega, h1, h2⟩
      · exact .inr ⟨hi, fun k2 hk2 => h1 k2 (by have := HPK.out; omega)⟩
    have hvg := Lib.hid (visT_grp HS.out HGR.out (now := now) hui)
    have hrk : -1 ≤ r ∧ r < k := by
      rcases hu with ⟨i, hi, hik, h1, h2⟩ | ⟨hi, h1⟩ <;> omega
    have HB1 := Lib.hid hb1
    clear hu hui hup l4 hb1
    by_cases hr0 : r = -1
    · subst hr0
      have hv2 : visT L s now q = visT L s now p := by rw [hvg.out, if_neg (by omega), List.append_nil]
      have HV2 := Lib.hid hv2
      clear hvg hv2
      gi_wp2
      refine wpIn_round_quiet (by kernel_rfl) (by kernel_rfl) (by kernel_rfl) (fun ⟨_, _, h⟩ => h) ?_
      repeat (first | go_big_quiet_step (fail) | quiet_step (fail))
      refine wpQuiet_nil ?_
      rintro _ ⟨pr, rfl⟩
      have hb2 := chain HB1.out (below_regrown w1 pr.d pr.os)
      generalize Sort.grow (redrawn w1 pr.d) pr.os = w2 at hb2 ⊢
      have hs2 := hb2.size
      have hfin : Hid (∀ A, roundQ (w.heap.size + 3) q (VisJ w L s now) W .normal A w2) :=
        fun A => ⟨kept_below hg3 hb2, HH4.out.below hb2, HH5.out.below hb2, ⟨pp, m, d, HH7.out.below hb2, by rw [HV2.out]; exact own_below HOW.out hb2, by rw [HV2.out]; exact HMM.out⟩, chain hbel hb2, by omega⟩
      clear hb2
      gi_wp2
      exact hfin.out _
    · obtain ⟨i, rfl⟩ : ∃ i : Nat, r = (i : Int) := ⟨r.toNat, by omega⟩
      obtain ⟨ab, off, rfl, hab, hac⟩ := HER.out.at (by omega)
      have hd := hac i (by omega)
      have hvi : visT L s now q = visT L s now p ++ (if aliveE (L.getD (p + i) ent0) now = true then [L.getD (p + i) ent0] else []) := by
        rw [hvg.out]; simp
      generalize L.getD (p + i) ent0 = x at hd hvi
      obtain ⟨k0, q0, g0, v0, u0⟩ := x
      simp only at hd
      have HVI := Lib.hid hvi
      obtain ⟨d0, d1, d2, d3, d4⟩ := hd
      have HAB := Lib.hid hab
      have f0 := (HB1.out.cell (p := ⟨ab, off + i * 5, none⟩) hab).trans d0
      have f1 := (HB1.out.cell (p := ⟨ab, off + i * 5 + 1, none⟩) hab).trans d1
      have f2 := (HB1.out.cell (p := ⟨ab, off + i * 5 + 2, none⟩) hab).trans d2
      have f3 := (HB1.out.cell (p := ⟨ab, off + i * 5 + 3, none⟩) hab).trans d3
      have f4 := (HB1.out.cell (p := ⟨ab, off + i * 5 + 4, none⟩) hab).trans d4
      have f5 := (HB1.out.cell (p := ⟨w.heap.size + 1, 0, none⟩) (by show w.heap.size + 1 < _; omega)).trans HH5.out.cell
      have HD := Lib.hid (And.intro d0 (And.intro d1 (And.intro d2 (And.intro d3 d4))))
      have HF := Lib.hid (And.intro f0 (And.intro f1 (And.intro f2 (And.intro f3 f4))))
      have HAL := Lib.hid (fun W' => alive_any k0 q0 g0 v0 u0 now W')
      have r0 := fun d os => cell_regrown f0 d os
      have r1 := fun d os => cell_regrown f1 d os
      have r2 := fun d os => cell_regrown f2 d os
      have r3 := fun d os => cell_regrown f3 d os
      have r4 := fun d os => cell_regrown f4 d os
      have r5 := fun d os => cell_regrown f5 d os
      have i1 : (0 : Int) ≤ (i : Int) := by omega
      have i2 : (i : Int) < (k : Int) := by omega
      generalize aliveE ⟨k0, q0, g0, v0, u0⟩ now = al at HAL HVI
      clear hac d0 d1 d2 d3 d4 hvg hvi hr0 f0 f1 f2 f3 f4 f5 hab
      gi_wp2
      refine wpIn_round_quiet (by kernel_rfl) (by kernel_rfl) (by kernel_rfl) (fun ⟨_, _, h⟩ => h) ?_
      repeat (first | go_big_quiet_step (exact (HAL.out _).regrown_of) | quiet_step (exact (HAL.out _).regrown_of))
      refine wpQuiet_nil ?_
      rintro _ ⟨pr, rfl⟩
      have hb2 := chain HB1.out (below_regrown w1 pr.d pr.os)
      generalize Sort.grow (redrawn w1 pr.d) pr.os = w2 at hb2 ⊢
      have hs2 := hb2.size
      have HB2 := Lib.hid hb2
      have hbel2 := Lib.hid (chain hbel hb2)
      have HO2 := Lib.hid (own_below HOW.out hb2)
      have H72 := Lib.hid (HH7.out.below hb2)
      clear hb2 r0 r1 r2 r3 r4 r5
      cases al with
      | false =>
        have hfin : Hid (∀ A, roundQ (w.heap.size + 3) q (VisJ w L s now) W .normal A w2) :=
          fun A => ⟨kept_below hg3 HB2.out, HH4.out.below HB2.out, HH5.out.below HB2.out, ⟨pp, m, d, H72.out, by rw [HVI.out, if_neg (by decide), List.append_nil]; exact HO2.out, by rw [HVI.out, if_neg (by decide), List.append_nil]; exact HMM.out⟩, hbel2.out, by omega⟩
        gi_wp2
        exact hfin.out _
      | true =>
        have HV : Hid (visT L s now q = visT L s now p ++ [⟨k0, q0, g0, v0, u0⟩]) := by have := HVI.out; rwa [if_pos rfl] at this
        have f0 := (HB2.out.cell (p := ⟨ab, off + i * 5, none⟩) HAB.out).trans HD.out.1
        have f1 := (HB2.out.cell (p := ⟨ab, off + i * 5 + 1, none⟩) HAB.out).trans HD.out.2.1
        have f2 := (HB2.out.cell (p := ⟨ab, off + i * 5 + 2, none⟩) HAB.out).trans HD.out.2.2.1
        have f3 := (HB2.out.cell (p := ⟨ab, off + i * 5 + 3, none⟩) HAB.out).trans HD.out.2.2.2.1
        have f4 := (HB2.out.cell (p := ⟨ab, off + i * 5 + 4, none⟩) HAB.out).trans HD.out.2.2.2.2
        have f7 := H72.out.cell
        have HBL : Hid (Below w2.heap.size w2 ((w2.alloc (.cells #[.string k0, .int .i64 q0, .bool g0, .string v0, .int .i64 u0] 45)).drew)) := ((Below.refl _ _).alloc (Nat.le_refl _) _).drew
        have HAL0 : Hid (((w2.alloc (.cells #[.string k0, .int .i64 q0, .bool g0, .string v0, .int .i64 u0] 45)).drew).heap[w2.heap.size]? = some (.cells #[.string k0, .int .i64 q0, .bool g0, .string v0, .int .i64 u0] 45 (0, 0))) := heap_alloc_new _ _
        have HC7 : Hid ((w2.alloc (.cells #[.string k0, .int .i64 q0, .bool g0, .string v0, .int .i64 u0] 45)).cell? ⟨w.heap.size + 1 + 1, 0, none⟩ = some (.slice pp m d)) := (Cell1.alloc (w := w2) H72.out _).cell
        have hszd : w.heap.size ≤ ((w2.alloc (.cells #[.string k0, .int .i64 q0, .bool g0, .string v0, .int .i64 u0] 45)).drew).heap.size := Nat.le_trans hbel2.out.size HBL.out.size
        have hmp : m ≤ p := by have := visT_len L s now p; have := HMM.out; omega
        have hpost : Hid (∀ (W5 : World), Below w2.heap.size w2 W5 → ∀ (a5 : Option Addr) (cap5 : Nat) (w5 : World), w5.ownsRow w.heap.size 45 5 (.slice a5 (m + 1) cap5) (m + 1) (ecells (visT L s now p) ++ [.string k0, .int .i64 q0, .bool g0, .string v0, .int .i64 u0]) → W5.grownBy w5 (Value.slice pp m d).ownBlock → Below w.heap.size W5 w5 →
            Cell1 w5 (w.heap.size + 2) 33 (.slice pp m d) ∧ ∀ A, roundQ (w.heap.size + 3) q (VisJ w L s now) W .normal A (w5.setCell ⟨w.heap.size + 2, 0, none⟩ (.slice a5 (m + 1) cap5))) := fun W5 hW5 a5 cap5 w5 ho5 hg5 hb5 => by
          have hc := chain HB2.out hW5
          have HOD := own_below HO2.out hW5
          have C7 := H72.out.below hW5
          have C4 := HH4.out.below hc
          have C5 := HH5.out.below hc
          have GK := hvb.below hc
          have c7 : Cell1 w5 (w.heap.size + 2) 33 (.slice pp m d) := blk_grown hg5 C7 (row_ne C7 HOD (by decide))
          have c4 : Cell1 w5 w.heap.size 2 (.int .i64 s) := blk_grown hg5 C4 (row_ne C4 HOD (by decide))
          have c5 : Cell1 w5 (w.heap.size + 1) 2 (.int .i64 now) := blk_grown hg5 C5 (row_ne C5 HOD (by decide))
          refine ⟨c7, fun A => ⟨?_, c4.far (p := ⟨w.heap.size + 2, 0, none⟩) (by show w.heap.size ≠ w.heap.size + 2; omega) _, c5.far (p := ⟨w.heap.size + 2, 0, none⟩) (by show w.heap.size + 1 ≠ w.heap.size + 2; omega) _, ⟨a5, m + 1, cap5, c7.set _, ?_, ?_⟩, ?_, ?_⟩⟩
          · refine ((kept_below hg3 hc).trans (kept_grown GK.lt hg5 (row_ne GK HOD (by decide)) fun k o hk ho => ?_)).trans (kept_set c7 (by omega) _)
            rcases HOD.2 with ⟨he, _⟩ | ⟨g', cap', cur, he, _, hgb, _⟩
            · rw [he] at hk; cases hk
            · rw [he] at hk
              simp only [Value.ownBlock, Option.some.injEq] at hk
              subst hk
              rw [hgb] at ho
              cases ho
              rfl
          · rw [HV.out, ecells_snoc]
            exact own_farB ho5 (p := ⟨w.heap.size + 2, 0, none⟩) (row_ne (g := w.heap.size + 2) c7 ho5 (by decide)) _
          · rw [HV.out, List.length_append, ← HMM.out]; rfl
          · exact ((chain hbel2.out hW5).trans hb5).setCell (p := ⟨w.heap.size + 2, 0, none⟩) (by show w.heap.size ≤ w.heap.size + 2; omega) _
          · rw [size_set]; have := hg5.size; have := hW5.size; omega
        gi_wp2
        refine wpIn_round_any (by kernel_rfl) (by kernel_rfl) (fun ⟨_, _, h⟩ => h) ?_
        refine wpAny_take (i := 1) (v := .slice (some ⟨ab, off, none⟩) k c) rfl (by kernel_rfl) (by kernel_rfl) (by kernel_rfl) (fun _ _ _ h => h) (Or.inl ⟨by rfl, fun W => by go_simp⟩) ?_
        refine wpAny_take (i := 2) (v := .int .i64 i) rfl (by kernel_rfl) (by kernel_rfl) (by kernel_rfl) (fun _ _ _ h => h) (Or.inl ⟨by rfl, fun W => by go_simp⟩) ?_
        refine wpAny_take (i := 3) (v := .pointer (some ⟨ab, off + i * 5, none⟩)) rfl (by kernel_rfl) (by kernel_rfl) (by kernel_rfl) (fun _ _ _ h => h) (Or.inl ⟨by rfl, fun W => by go_simp⟩) ?_
        refine wpAny_ready (rs := [0, 4]) (by kernel_rfl) (by simp) ?_
        refine AllReady.cons rfl (fun K hK => ?_) (AllReady.cons rfl (fun K hK => ?_) AllReady.nil)
        · go_simp
          refine hK _ _ ?_
          clear hK K
          refine wpAny_of_seq _ 4 _ _ _ (seq_tail rfl) (by kernel_rfl) ?_
          go_wp2_with (at_builtin; refine wpList_pushG rfl _ _ 33 rfl Tryz.underlying33 infoAE rfl (by decide) rfl #[.string k0, .int .i64 q0, .bool g0, .string v0, .int .i64 u0] rfl ?c1 rfl HAL0.out (own_below HO2.out HBL.out) ?c2 ?c3 ?c4 ?_)
          case c1 => simp [Value.oneCell']
          case c2 => exact hszd
          case c3 => unfold maxLen; omega
          case c4 => omega
          intro a5 cap5 w5 hown5 hg5 hb5
          obtain ⟨hc5, hfin⟩ := hpost.out _ HBL.out _ _ _ hown5 hg5 hb5
          have s0 := hc5.cell
          have z0 := hc5.fz
          have HFIN := Lib.hid hfin
          clear hfin hown5 hg5 hb5 hc5
          go_wp2_with fail
          exact HFIN.out _
        · go_simp
          refine hK _ _ ?_
          clear hK K
          refine wpAny_ready (rs := [0, 5]) (by kernel_rfl) (by simp) ?_
          refine AllReady.cons rfl (fun K hK => ?_) (AllReady.cons rfl (fun K hK => ?_) AllReady.nil)
          · go_simp
            refine hK _ _ ?_
            clear hK K
            refine wpAny_of_seq _ 5 _ _ _ (seq_tail rfl) (by kernel_rfl) ?_
            go_wp2_with (at_builtin; refine wpList_pushG rfl _ _ 33 rfl Tryz.underlying33 infoAE rfl (by decide) rfl #[.string k0, .int .i64 q0, .bool g0, .string v0, .int .i64 u0] rfl ?d1 rfl HAL0.out (own_below HO2.out HBL.out) ?d2 ?d3 ?d4 ?_)
            case d1 => simp [Value.oneCell']
            case d2 => exact hszd
            case d3 => unfold maxLen; omega
            case d4 => omega
            intro a5 cap5 w5 hown5 hg5 hb5
            obtain ⟨hc5, hfin⟩ := hpost.out _ HBL.out _ _ _ hown5 hg5 hb5
            have s0 := hc5.cell
            have z0 := hc5.fz
            have HFIN := Lib.hid hfin
            clear hfin hown5 hg5 hb5 hc5
            go_wp2_with fail
            exact HFIN.out _
          · go_simp
            refine hK _ _ ?_
            clear hK K
            have f8 : (w2.alloc (.cells #[.string k0, .int .i64 q0, .bool g0, .string v0, .int .i64 u0] 45)).cell? ⟨w.heap.size + 1 + 1, 0, none⟩ = some (.slice pp m d) := HC7.out
            refine wpAny_ready (rs := [0]) (by kernel_rfl) (by simp) ?_
            refine AllReady.cons rfl (fun K hK => ?_) AllReady.nil
            go_simp
            refine hK _ _ ?_
            clear hK K
            refine wpAny_of_seq _ 6 _ _ _ (seq_tail rfl) (by kernel_rfl) ?_
            go_wp2_with (at_builtin; refine wpList_pushG rfl _ _ 33 rfl Tryz.underlying33 infoAE rfl (by decide) rfl #[.string k0, .int .i64 q0, .bool g0, .string v0, .int .i64 u0] rfl ?e1 rfl HAL0.out (own_below HO2.out HBL.out) ?e2 ?e3 ?e4 ?_)
            case e1 => simp [Value.oneCell']
            case e2 => exact hszd
            case e3 => unfold maxLen; omega
            case e4 => omega
            intro a5 cap5 w5 hown5 hg5 hb5
            obtain ⟨hc5, hfin⟩ := hpost.out _ HBL.out _ _ _ hown5 hg5 hb5
            have s0 := hc5.cell
            have z0 := hc5.fz
            have HFIN := Lib.hid hfin
            clear hfin hown5 hg5 hb5 hc5
            go_wp2_with fail
            exact HFIN.out _
  case done =>
    rintro W ⟨h4, h5, ⟨pp, m, d, h7, hown, hm⟩, hbel, hg3⟩ hD
    have l7 := h7.cell
    have he : visT L s now n = visE L s now := by rw [← HL.out]; exact visT_all L s now
    rw [he] at hown hm
    have HOW := Lib.hid hown
    have HMM := Lib.hid hm
    clear hown hm he
    go_wp2_with fail
    refine ⟨by simp, .inl ⟨_, _, rfl, run_takeDeferred hD, ?_⟩⟩
    have hm2 := HMM.out
    subst hm2
    exact ⟨_, results_tmp rfl _ _ _, pp, d, rfl, ownsRow_putObj HOW.out _ hD rfl, below_put hbel hbel.size hbW.size _⟩
end Go.Proofs.YtpihmjdljbienaaGreatDoor.Mg

/- A map of counts: what a look-up and a store do. -/
namespace Go.Proofs.YtpihmjdljbienaaGreatDoor.Mg
open Ew
open Go.RowKit
open En B
set_option linter.unusedVariables false

/-- block b is a map of at most k counts: c -/
def MapC (W : World) (b k : Nat) (c : Nat → Int) : Prop :=
  ∃ D : DataW Unit, Maps.IsMap D ∧ W.ownsMap Tryz.prog 3 (plainElem Tryz.prog 3) b k D ∧ ∀ i : Nat, i ≤ 9223372036854775807 → D.atKey (.int .i64 i) (.lit (.int .i64 0)) = .lit (.int .i64 (c i))
theorem wf64 {x : Int} (h : -9223372036854775808 ≤ x ∧ x ≤ 9223372036854775807) : (Lit.int .i64 x).wf = true := by
  simpa [Lit.wf, IntKind.min, IntKind.max, IntKind.signed, IntKind.bits] using h
theorem mapC_new (w : World) : MapC (w.alloc (.map #[] 0)) w.heap.size 0 (fun _ => 0) :=
  ⟨.map [], Maps.isMap_empty, World.ownsMap_made _ _ _ _, fun i _ => rfl⟩
theorem MapC.kept {w w' : World} {row : Option Nat} {b k : Nat} {c : Nat → Int} (h : MapC w b k c) (hg : w.grownBy w' row) (hne : some b ≠ row) : MapC w' b k c := by
  obtain ⟨D, h1, h2, h3⟩ := h
  exact ⟨D, h1, h2.kept hg hne, h3⟩
theorem MapC.below {w w' : World} {b k : Nat} {c : Nat → Int} (h : MapC w b k c) (hb : Below w.heap.size w w') : MapC w' b k c :=
  h.kept (row := none) ⟨hb.os, hb.tape, hb.output, hb.size, fun i hi _ => hb.block i hi⟩ (by simp)
theorem MapC.mono {w : World} {b k k' : Nat} {c : Nat → Int} (h : MapC w b k c) (hk : k ≤ k') : MapC w b k' c := by
  obtain ⟨D, h1, h2, h3⟩ := h
  exact ⟨D, h1, h2.mono hk, h3⟩
theorem MapC.blk {w : World} {b k : Nat} {c : Nat → Int} (h : MapC w b k c) : ∃ es ck, w.heap[b]? = some (.map es ck) := by
  obtain ⟨D, h1, ⟨es, ck, hh, _⟩, h3⟩ := h
  exact ⟨es, ck, hh⟩
theorem wpListIn_pushG {F : Fence} {nF : Nat} {P : Program} {ops : Array Oper} {rest : List Oper} {o : Oper} {a : Act} {Q : Exit → Act → World → Prop} (hgd : o.guard = none) (s x : Operand) (t : TypeId)
    (ho : o.op = .call { callee := .builtin .append, args := #[s, x], argTypes := #[t, t] }) {e : TypeId} {z : Value} {size bytes : Nat} (ht : P.underlying t = some (.slice e))
    (hinfo : (P.info? e).map (fun i => (i.zero, i.size, i.bytes)) = some (some z, size, bytes)) (hzs : z.cells.size = size) (hsz : 0 < size) {w : World} {B n c g : Nat} {xs : List Value} {v : Value} (hs : a.eval s = v)
    (cs : Array Value) (hcs : cs.size = size) (h1 : ∀ u ∈ cs.toList, u.oneCell' = true) (hx : a.eval x = .slice (some ⟨g, 0, none⟩) 1 c) (hg : w.heap[g]? = some (.cells cs e (0, 0))) (hown : w.ownsRow B e size v n xs) (hbase : B ≤ w.heap.size)
    (h63 : n + 1 ≤ maxLen) (hbytes : (n + 1) * bytes ≤ 140737488355328)
    (h : ∀ a' cap w', w'.ownsRow B e size (.slice a' (n + 1) cap) (n + 1) (xs ++ cs.toList) → w.grownBy w' v.ownBlock → Below B w w' → wpListIn F nF P ops Q rest (a.put o.dst (.slice a' (n + 1) cap)) w') :
    wpListIn F nF P ops Q (o :: rest) a w := by
  obtain ⟨i0, hi, hz0, hz1, hz2⟩ := info_parts hinfo
  refine wpListIn_append_own _ hgd s x t ho B e i0 z size bytes ht hi hz0 hz1 hz2 hzs hsz v n xs hs hown ⟨g, 0, none⟩ 1 c cs.toList hx (by simp [hcs]) (World.news_of_block hg) h1 h63 hbytes hbase ?_
  intro v' w' hown' hgr _
  obtain ⟨a', cap, rfl, _⟩ := own_form hown'
  exact h a' cap w' hown' hgr ((Below.refl B w).grown hgr hbase (fun k hk => (hown.lt k hk).1))
theorem ecells_take (R : List Ent) (m : Nat) : (ecells R).take (m * 5) = ecells (R.take m) := by
  induction R generalizing m with
  | nil => simp [ecells]
  | cons e t ih =>
    cases m with
    | zero => simp [ecells]
    | succ m =>
      show (e.cells ++ ecells t).take ((m + 1) * 5) = e.cells ++ ecells (t.take m)
      rw [List.take_append, List.take_of_length_le (by show 5 ≤ _; omega), show (m + 1) * 5 - e.cells.length = m * 5 from by show (m + 1) * 5 - 5 = _; omega, ih]
theorem own_shrink {w : World} {B m d : Nat} {e : TypeId} {pp : Option Addr} {R : List Ent} (h : w.ownsRow B e 5 (.slice pp m d) m (ecells R)) (j : Nat) (hj : j ≤ m) (h0 : 0 < m) : w.ownsRow B e 5 (.slice pp j d) j (ecells (R.take j)) := by
  have hl := h.1
  rw [ecells_len] at hl
  rcases h.2 with ⟨_, h1⟩ | ⟨g, cap, cur, hv, hB, hg, hn, hm, hs, ht⟩
  · omega
  · cases hv
    refine ⟨by rw [ecells_len, List.length_take]; omega, .inr ⟨g, d, cur, rfl, hB, hg, by omega, hm, hs, ?_⟩⟩
    rw [← ecells_take, ← ht, List.take_take, Nat.min_eq_left (by omega)]
theorem own_cells {w : World} {B n size : Nat} {e : TypeId} {v : Value} {xs : List Value} (h : w.ownsRow B e size v n xs) (k : Nat) (o : Obj) (hk : v.ownBlock = some k) (ho : w.heap[k]? = some o) : o.isCells = true := by
  rcases h.2 with ⟨he, _⟩ | ⟨g', cap', cur, he, _, hgb, _⟩
  · rw [he] at hk; cases hk
  · rw [he] at hk
    simp only [Value.ownBlock, Option.some.injEq] at hk
    subst hk
    rw [hgb] at ho
    cases ho
    rfl

/-- how long the slice is that a variable holds -/
def lenAt (W : World) (g : Nat) : Nat := match W.cell? ⟨g, 0, none⟩ with | some (.slice _ m _) => m | _ => 0
theorem lenAt_is {W : World} {g : Nat} {t : TypeId} {a : Option Addr} {m d : Nat} (h : Cell1 W g t (.slice a m d)) : lenAt W g = m := by unfold lenAt; rw [h.cell]
/-- the state within a round of Compact -/
structure RJ (w W : World) (sa : Option Addr) (sn scap : Nat) (now : Int) (bot : Bool) (vb : Value) (gm km : Nat) (cn : Nat → Int) (R : List Ent) (pp : Option Addr) (m d : Nat) (wr : World) : Prop where
  c4 : Cell1 wr w.heap.size 200 (.slice sa sn scap)
  c5 : Cell1 wr (w.heap.size + 1) 2 (.int .i64 now)
  c6 : Cell1 wr (w.heap.size + 2) 4 (.bool bot)
  c7 : Cell1 wr (w.heap.size + 3) 33 (.slice pp m d)
  own : wr.ownsRow w.heap.size 45 5 (.slice pp m d) m (ecells R)
  len : m = R.length
  bel : Below w.heap.size w wr
  siz : w.heap.size + 4 < wr.heap.size
  kept : Kept (w.heap.size + 4) W wr
  box : Cell1 wr (w.heap.size + 4) 33 vb
  map : MapC wr gm km cn

section
variable {w W wr : World} {sa : Option Addr} {sn scap : Nat} {now : Int} {bot : Bool} {vb : Value} {gm km : Nat} {cn : Nat → Int} {R : List Ent} {pp : Option Addr} {m d : Nat}
theorem RJ.below {w' : World} (h : RJ w W sa sn scap now bot vb gm km cn R pp m d wr) (k : Below wr.heap.size wr w') : RJ w W sa sn scap now bot vb gm km cn R pp m d w' :=
  ⟨h.c4.below k, h.c5.below k, h.c6.below k, h.c7.below k, own_below h.own k, h.len, chain h.bel k, Nat.lt_of_lt_of_le h.siz k.size, h.kept.trans (kept_below h.siz k), h.box.below k, h.map.below k⟩
theorem map_ne {b k g : Nat} {c : Nat → Int} {t : TypeId} {v : Value} (h : MapC wr b k c) (hc : Cell1 wr g t v) : b ≠ g := fun e => by
  obtain ⟨es, ck, hh⟩ := h.blk
  subst e
  unfold Cell1 at hc
  rw [hc] at hh
  cases hh
theorem MapC.setCell {b k g : Nat} {c : Nat → Int} {t : TypeId} {v : Value} (h : MapC wr b k c) (hc : Cell1 wr g t v) (v' : Value) : MapC (wr.setCell ⟨g, 0, none⟩ v') b k c :=
  h.kept (row := some g) (grownBy_setCell' wr g v') (fun e => map_ne h hc (Option.some.inj e))
theorem RJ.push {w5 : World} {a5 : Option Addr} {cap5 : Nat} {e : Ent} (h : RJ w W sa sn scap now bot vb gm km cn R pp m d wr) (ho : w5.ownsRow w.heap.size 45 5 (.slice a5 (m + 1) cap5) (m + 1) (ecells R ++ e.cells))
    (hg : wr.grownBy w5 (Value.slice pp m d).ownBlock) (hb : Below w.heap.size wr w5) :
    Cell1 w5 (w.heap.size + 3) 33 (.slice pp m d) ∧ RJ w W sa sn scap now bot vb gm km cn (R ++ [e]) a5 (m + 1) cap5 (w5.setCell ⟨w.heap.size + 3, 0, none⟩ (.slice a5 (m + 1) cap5)) := by
  have c7 : Cell1 w5 (w.heap.size + 3) 33 (.slice pp m d) := blk_grown hg h.c7 (row_ne h.c7 h.own (by decide))
  have c4 : Cell1 w5 w.heap.size 200 (.slice sa sn scap) := blk_grown hg h.c4 (row_ne h.c4 h.own (by decide))
  have c5 : Cell1 w5 (w.heap.size + 1) 2 (.int .i64 now) := blk_grown hg h.c5 (row_ne h.c5 h.own (by decide))
  have c6 : Cell1 w5 (w.heap.size + 2) 4 (.bool bot) := blk_grown hg h.c6 (row_ne h.c6 h.own (by decide))
  have c8 : Cell1 w5 (w.heap.size + 4) 33 vb := blk_grown hg h.box (row_ne h.box h.own (by decide))
  have hm : MapC w5 gm km cn := h.map.kept hg (fun e' => by
    obtain ⟨es, ck, hh⟩ := h.map.blk
    have := own_cells h.own gm _ e'.symm hh
    cases this)
  refine ⟨c7, ⟨c4.far (p := ⟨w.heap.size + 3, 0, none⟩) (by show w.heap.size ≠ w.heap.size + 3; omega) _, c5.far (p := ⟨w.heap.size + 3, 0, none⟩) (by show w.heap.size + 1 ≠ w.heap.size + 3; omega) _, c6.far (p := ⟨w.heap.size + 3, 0, none⟩) (by show w.heap.size + 2 ≠ w.heap.size + 3; omega) _, c7.set _, ?_, ?_, (h.bel.trans hb).setCell (p := ⟨w.heap.size + 3, 0, none⟩) (by show w.heap.size ≤ w.heap.size + 3; omega) _, ?_, ?_, c8.far (p := ⟨w.heap.size + 3, 0, none⟩) (by show w.heap.size + 4 ≠ w.heap.size + 3; omega) _, hm.setCell c7 _⟩⟩
  · rw [ecells_snoc]
    exact own_farB ho (p := ⟨w.heap.size + 3, 0, none⟩) (row_ne (g := w.heap.size + 3) c7 ho (by decide)) _
  · rw [List.length_append, ← h.len]; rfl
  · rw [size_set]; exact Nat.lt_of_lt_of_le h.siz hg.size
  · exact (h.kept.trans (kept_grown h.siz hg (row_ne h.box h.own (by decide)) (own_cells h.own))).trans (kept_set c7 (by omega) _)
theorem RJ.upd {w3 : World} {km' : Nat} {cn' : Nat → Int} (h : RJ w W sa sn scap now bot vb gm km cn R pp m d wr) (hg : wr.grownBy w3 (some gm)) (hm : MapC w3 gm km' cn') (hW : W.heap.size ≤ gm) (hw : w.heap.size ≤ W.heap.size) :
    RJ w W sa sn scap now bot vb gm km' cn' R pp m d w3 := by
  have ne : ∀ {g : Nat} {t : TypeId} {v : Value}, Cell1 wr g t v → some gm ≠ some g := fun hc e => map_ne h.map hc (Option.some.inj e)
  refine ⟨blk_grown hg h.c4 (ne h.c4), blk_grown hg h.c5 (ne h.c5), blk_grown hg h.c6 (ne h.c6), blk_grown hg h.c7 (ne h.c7), h.own.kept hg (.inr fun e => ?_), h.len, ?_, Nat.lt_of_lt_of_le h.siz hg.size, ?_, blk_grown hg h.box (ne h.box), hm⟩
  · obtain ⟨es, ck, hh⟩ := h.map.blk
    have := own_cells h.own gm _ e hh
    cases this
  · exact h.bel.grown hg h.bel.size (fun k e => by cases e; omega)
  · exact ⟨Nat.le_trans h.kept.size hg.size, (hg.block _ h.siz (ne h.box).symm).trans h.kept.box, fun k o hk ho => (hg.block k (lt_of_block (h.kept.other k o hk ho)) (fun e => by have := lt_of_block hk; cases e; omega)).trans (h.kept.other k o hk ho)⟩
theorem RJ.pop (h : RJ w W sa sn scap now bot vb gm km cn R pp m d wr) (h0 : 0 < m) :
    RJ w W sa sn scap now bot vb gm km cn (R.take (m - 1)) pp (m - 1) d (wr.setCell ⟨w.heap.size + 3, 0, none⟩ (.slice pp (m - 1) d)) := by
  have hs := own_shrink h.own (m - 1) (by omega) h0
  refine ⟨h.c4.far (p := ⟨w.heap.size + 3, 0, none⟩) (by show w.heap.size ≠ w.heap.size + 3; omega) _, h.c5.far (p := ⟨w.heap.size + 3, 0, none⟩) (by show w.heap.size + 1 ≠ w.heap.size + 3; omega) _, h.c6.far (p := ⟨w.heap.size + 3, 0, none⟩) (by show w.heap.size + 2 ≠ w.heap.size + 3; omega) _, h.c7.set _, ?_, ?_, h.bel.setCell (p := ⟨w.heap.size + 3, 0, none⟩) (by show w.heap.size ≤ w.heap.size + 3; omega) _, ?_, ?_, h.box.far (p := ⟨w.heap.size + 3, 0, none⟩) (by show w.heap.size + 4 ≠ w.heap.size + 3; omega) _, h.map.setCell h.c7 _⟩
  · exact own_farB hs (p := ⟨w.heap.size + 3, 0, none⟩) (row_ne (g := w.heap.size + 3) h.c7 hs (by decide)) _
  · rw [List.length_take, ← h.len]; omega
  · rw [size_set]; exact h.siz
  · exact h.kept.trans (kept_set h.c7 (by omega) _)
end
end Go.Proofs.YtpihmjdljbienaaGreatDoor.Mg
