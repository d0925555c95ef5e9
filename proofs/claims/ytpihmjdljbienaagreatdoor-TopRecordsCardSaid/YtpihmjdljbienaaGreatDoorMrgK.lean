/- The entries of each key: the walk of keys' closure, over whatever a round does that keeps what it is handed. -/
import Derived.Test.YtpihmjdljbienaaGreatDoorGi
import Derived.RangeFuncNested
import Derived.RangeFuncBound
import Derived.RangeFuncCalls
import Derived.RangeFuncLeaves
import Derived.Shelf.Abstract
import Derived.OwnWalkIn
import Derived.TacticsInMore
import Derived.LoopNIn
import Derived.LoopIn
import Derived.Deep.LoopGhost
import Derived.Deep.CutBlock
namespace Go.Proofs.YtpihmjdljbienaaGreatDoor.Mg
open Ew
open Go.RowKit
open En B
set_option linter.unusedVariables false

theorem keys_any (a : Option Addr) (n cap : Nat) (w : World) :
    Calls Tryz.prog 85 #[.slice a n cap] w fun e w' => e = .returned (.func (.func 133) #[] #[.pointer (some ⟨w.heap.size, 0, none⟩)]) ∧ w' = w.alloc (.cells #[.slice a n cap] 33) := by
  go_enter Tryz.func85, Tryz.ntmps85
  go_wp2_with fail
  go_ret
  exact ⟨rfl, rfl⟩

theorem erow_drop {w : World} {b off n : Nat} {f : Nat → Ent} (h : ERow w (some ⟨b, off, none⟩) n f) (t : Nat) : ERow w (some ⟨b, off + t * 5, none⟩) (n - t) (fun i => f (t + i)) := by
  by_cases h0 : n - t = 0
  · exact .inl h0
  · rcases h with h | ⟨b', off', ha, hb, hc⟩
    · omega
    · cases ha
      refine .inr ⟨b, off + t * 5, rfl, hb, fun i hi => ?_⟩
      have := hc (t + i) (by omega)
      rwa [show off + (t + i) * 5 = off + t * 5 + i * 5 from by omega] at this
/-- what is left of a slice from place p on, up to n -/
def RestS (a0 : Option Addr) (v : Value) (n cap p : Nat) : Prop := ∃ a m c, v = .slice a m c ∧ p + m = n ∧ p + c = cap ∧ (m = 0 ∨ ∃ b off, a0 = some ⟨b, off, none⟩ ∧ a = some ⟨b, off + p * 5, none⟩)
theorem RestS.row {a0 : Option Addr} {v : Value} {n q cap p : Nat} {W : World} {L : List Ent} (h : RestS a0 v q cap p) (hq : q ≤ n) (hr : ERow W a0 n (fun i => L.getD i ent0)) :
    ∃ a m c, v = .slice a m c ∧ p + m = q ∧ p + c = cap ∧ ERow W a m (fun i => L.getD (p + i) ent0) := by
  obtain ⟨a, m, c, hv, hm, hc, h0 | ⟨b, off, rfl, rfl⟩⟩ := h
  · exact ⟨a, m, c, hv, hm, hc, .inl h0⟩
  · exact ⟨_, m, c, hv, hm, hc, (erow_drop hr p).take (by omega)⟩
theorem rest_0 {a0 : Option Addr} {n : Nat} {f : Nat → Ent} {w : World} (h : ERow w a0 n f) (cap : Nat) : RestS a0 (.slice a0 n cap) n cap 0 := by
  refine ⟨a0, n, cap, rfl, by omega, by omega, ?_⟩
  rcases h with h | ⟨b, off, ha, _⟩
  · exact .inl h
  · exact .inr ⟨b, off, ha, by rw [ha, Nat.zero_mul, Nat.add_zero]⟩
/-- the rest's box is as it was -/
def KeepB (g : Nat) (W W' : World) : Prop := W'.heap[g]? = W.heap[g]?

set_option maxHeartbeats 1600000 in
set_option maxRecDepth 100000 in
theorem keys1_any (l g n cap : Nat) (L : List Ent) (hl : L.length = n) (hnc : n ≤ cap) (hcap : cap ≤ 9223372036854775807) (hn6 : n ≤ 9223372036854775806) (hso : Sorted L) (J : Nat → World → Prop)
    (hset : ∀ p W v v', J p W → Cell1 W g 33 v → J p (W.setCell ⟨g, 0, none⟩ v')) (hdr : ∀ p W k, J p W → J p (W.drewN k))
    (a0 : Option Addr) (hrow : ∀ p W, J p W → ERow W a0 n (fun i => L.getD i ent0))
    (hY : ∀ p q W v, J p W → Cut L p → Grp L p q → RestS a0 v q cap p → (∃ v', Cell1 W g 33 v') →
      YieldAt Fence.wide 0 Tryz.prog l #[v] W fun e W' => e = .returned (.bool true) ∧ J q W' ∧ KeepB g W W')
    (W : World) (hbox : Cell1 W g 33 (.slice a0 n cap)) (h0 : J 0 W) :
    Calls Tryz.prog 133 #[.func (.yield l) #[] #[], .pointer (some ⟨g, 0, none⟩)] W fun e W' => (∃ v, e = .returned v) ∧ J n W' := by
  have HL := Lib.hid hl
  have HS := Lib.hid hso
  have HSET := Lib.hid hset
  have HDR := Lib.hid hdr
  have HRW := Lib.hid hrow
  have HYY := Lib.hid hY
  clear hl hso hset hdr hrow hY
  go_enter Tryz.func133, Tryz.ntmps133
  go_wp2_with fail
  go_loopg [3] n (fun gk s3 wr => ∃ (p : Nat) (v : Value), gk = n - p ∧ p ≤ n ∧ Hid (Cell1 wr g 33 v) ∧ Hid (RestS a0 v n cap p) ∧ Hid (J p wr) ∧ Hid (Cut L p))
  case atStart => exact ⟨0, _, rfl, by omega, hbox, rest_0 (HRW.out 0 W h0) _, h0, cut_0 L⟩
  case round =>
    obtain ⟨p, v, rfl, hp, hc1, hrs, hJ, hcut0⟩ := hrel
    obtain ⟨a2, m, c, hv, hpm, hpc, har⟩ := hrs.out
    have her : ERow wr a2 m (fun i => L.getD (p + i) ent0) := by
      obtain ⟨a3, m3, c3, hv3, _, _, h⟩ := hrs.out.row (Nat.le_refl _) (HRW.out p wr hJ.out)
      rw [hv] at hv3
      cases hv3
      exact h
    subst hv
    have HAR := Lib.hid har
    have HER := Lib.hid her
    have HPM := Lib.hid hpm
    have HPC := Lib.hid hpc
    have l0 := hc1.out.cell
    have hgl := hc1.out.lt
    have hm1 : m ≤ 9223372036854775806 := by omega
    have hm2 : m ≤ c := by omega
    clear her hrs har
    by_cases hlt : 0 < m
    · clear hpm hpc
      obtain ⟨ab, off, rfl, hab, hac⟩ := HER.out.at hlt
      obtain ⟨w1, rfl⟩ : ∃ w1 : World, w1 = wr := ⟨_, rfl⟩
      have hd0 := hac 0 hlt
      simp only [Nat.add_zero, Nat.zero_mul] at hd0
      have HAC := Lib.hid hac
      obtain ⟨k0, hk0⟩ : ∃ k0, k0 = (L.getD p ent0).key := ⟨_, rfl⟩
      have c00 := hd0.1
      rw [← hk0] at c00
      have HK0 := Lib.hid hk0
      clear hac hd0 hk0
      go_upto_block 2 with fail
      go_cut [3] (fun s3 wx => ∃ t : Nat, s3 = .int .i64 t ∧ 1 ≤ t ∧ t ≤ m ∧ Hid (∀ i, i < t → (L.getD (p + i) ent0).key = k0) ∧ Hid (p + t < n → (L.getD (p + t) ent0).key ≠ k0) ∧ ∃ nd, wx = w1.drewN nd)
      case first =>
        go_wp2_with fail
        go_loopw [3] (fun s3 wt => ∃ t : Nat, s3 = .int .i64 t ∧ 1 ≤ t ∧ t ≤ m ∧ Hid (∀ i, i < t → (L.getD (p + i) ent0).key = k0) ∧ ∃ nd, wt = w1.drewN nd) (fun s3 _ => m - (intOf s3).toNat)
        case atStart => exact ⟨1, rfl, by omega, by omega, (fun i hi => by obtain rfl : i = 0 := by omega
                                                                           rw [HK0.out, Nat.add_zero]), 0, rfl⟩
        case round =>
          obtain ⟨t, rfl, ht1, htm, hsame, nd, rfl⟩ := hrel
          by_cases htl : t < m
          · have hdt := HAC.out t htl
            obtain ⟨k3, hk3⟩ : ∃ k3, k3 = (L.getD (p + t) ent0).key := ⟨_, rfl⟩
            have ct := hdt.1
            rw [← hk3] at ct
            have HK3 := Lib.hid hk3
            have t1 : (0 : Int) ≤ (t : Int) := by omega
            have t2 : (t : Int) < (m : Int) := by omega
            clear hdt hk3
            by_cases hk : k3 = k0
            · have ek : (k3.toList == k0.toList) = true := by rw [hk]; exact beq_self_eq_true _
              have hs2 : Hid (∀ i, i < t + 1 → (L.getD (p + i) ent0).key = k0) := fun i hi => by
                by_cases e : i = t
                · subst e; rw [← HK3.out, hk]
                · exact hsame.out i (by omega)
              clear hk
              go_wp2_with fail
              go_quiet (fail)
              go_wp2_with fail
              go_roundw
              case rel => exact ⟨t + 1, by go_num, by omega, by omega, hs2, _, rfl⟩
              case measure => simp [intOf]; omega
            · have ek : (k3.toList == k0.toList) = false := beq_eq_false_iff_ne.2 fun e => hk (toList_inj e)
              have hnx : Hid (p + t < n → (L.getD (p + t) ent0).key ≠ k0) := fun _ e => hk (by rw [HK3.out, e])
              clear hk
              go_wp2_with fail
              go_quiet (fail)
              go_wp2_with fail
              go_meet
              exact ⟨t, rfl, ht1, htm, hsame, hnx, _, World.drewN_drewN _ _ _⟩
          · obtain rfl : t = m := by omega
            have hnx : Hid (p + t < n → (L.getD (p + t) ent0).key ≠ k0) := fun h => absurd HPM.out (by omega)
            go_wp2_with fail
            go_quiet (fail)
            go_wp2_with fail
            go_meet
            exact ⟨t, rfl, ht1, htm, hsame, hnx, _, World.drewN_drewN _ _ _⟩
      case rest =>
      obtain ⟨t, rfl, ht1, htm, hsame, hnx, nd, hwc⟩ := hcut
      obtain ⟨w2, hw2⟩ : ∃ w2, w2 = wc := ⟨_, rfl⟩
      rw [← hw2] at hwc ⊢
      have hb2 : Below w1.heap.size w1 w2 := by rw [hwc]; exact drewN (Below.refl _ _)
      have hgrp : Grp L p (p + t) := grp_of HS.out hcut0.out (by omega) (by rw [HL.out]; have := HPM.out; omega) (fun i h1 h2 => by
        have := hsame.out (i - p) (by omega)
        rw [show p + (i - p) = i from by omega] at this
        rw [this, HK0.out]) (fun h => by rw [← HK0.out]; exact hnx.out (by rw [← HL.out]; exact h))
      have hJ2 : J p w2 := by rw [hwc]; exact HDR.out p w1 nd hJ.out
      have hc2 := hc1.out.below hb2
      have hown : RestS a0 (.slice (some ⟨ab, off, none⟩) t c) (p + t) cap p := ⟨_, t, c, rfl, rfl, HPC.out, HAR.out.imp (fun h => by omega) id⟩
      obtain ⟨fn, tmps, assign, body, hy, hR⟩ := HYY.out p (p + t) w2 _ hJ2 hcut0.out hgrp hown ⟨_, hc2⟩
      have hcut2 := Lib.hid (hgrp.cut hcut0.out)
      have hJ2' := Lib.hid hJ2
      have HC2 := Lib.hid hc2
      have l2 := hc2.cell
      have t1 : (t : Int) ≤ (m : Int) := by omega
      have t3 : t ≤ c := by omega
      clear hsame hnx hgrp hown hJ2 hc2 l0 HAC c00 hb2 hwc hJ hcut0 hc1 HER hw2 hab
      clear hgl
      clear w1
      go_upto_region 4 with fail
      refine (wpIn_wide (n := 1)).1 ?_
      gi_wp2
      refine hR.mono ?_
      rintro e W3 ⟨rfl, hJ3, hk3⟩
      have HC3 : Hid (Cell1 W3 g 33 (.slice (some ⟨ab, off, none⟩) m c)) := hk3.trans HC2.out
      have l3 := HC3.out.cell
      have f3 := HC3.out.fz
      have HSET3 := Lib.hid (fun v' => HSET.out _ _ _ v' hJ3 HC3.out)
      clear hk3 l2 hR hy hJ2' hJ3 HC2
      have htc : t = c ∨ t < c := by omega
      rcases htc with htc | htc
      · subst htc
        have hpt := HPM.out
        have hpc2 := HPC.out
        have hst := Lib.hid (HSET3.out (.slice (some ⟨ab, off, none⟩) 0 0))
        have hb3 := Lib.hid (HC3.out.set (.slice (some ⟨ab, off, none⟩) 0 0))
        have hrs3 : Hid (RestS a0 (.slice (some ⟨ab, off, none⟩) 0 0) n cap (p + t)) := ⟨_, 0, 0, rfl, by omega, by omega, .inl rfl⟩
        clear hpt hpc2
        gi_wp2
        go_wp2_with fail
        go_roundg (n - (p + t))
        case measure => have := HPM.out; omega
        case rel => exact ⟨p + t, _, rfl, by have := HPM.out; omega, hb3.out, hrs3.out, hst.out, hcut2.out⟩
      · have hpt := HPM.out
        have hpc2 := HPC.out
        have hst := Lib.hid (HSET3.out (.slice (some ⟨ab, off + t * 5, none⟩) (m - t) (c - t)))
        have hb3 := Lib.hid (HC3.out.set (.slice (some ⟨ab, off + t * 5, none⟩) (m - t) (c - t)))
        have hrs3 : Hid (RestS a0 (.slice (some ⟨ab, off + t * 5, none⟩) (m - t) (c - t)) n cap (p + t)) := by
          refine ⟨_, m - t, c - t, rfl, by omega, by omega, HAR.out.imp (fun h => by omega) ?_⟩
          rintro ⟨b3, o3, h1, h2⟩
          refine ⟨b3, o3, h1, ?_⟩
          cases h2
          rw [show o3 + p * 5 + t * 5 = o3 + (p + t) * 5 from by omega]
        clear hpt hpc2
        gi_wp2
        go_wp2_with fail
        go_roundg (n - (p + t))
        case measure => have := HPM.out; omega
        case rel => exact ⟨p + t, _, rfl, by have := HPM.out; omega, hb3.out, hrs3.out, hst.out, hcut2.out⟩
    · obtain rfl : m = 0 := by omega
      obtain rfl : p = n := by omega
      go_wp2_with fail
      go_end0
      exact ⟨⟨_, rfl⟩, hJ.out⟩

/-- what may turn between two rounds: the rest's box; blocks that hold no cells, from B on; what is drawn; new blocks -/
structure Bides (g B : Nat) (J : Nat → World → Prop) : Prop where
  set : ∀ p W v v', J p W → Cell1 W g 33 v → J p (W.setCell ⟨g, 0, none⟩ v')
  drew : ∀ p W k, J p W → J p (W.drewN k)
  alloc : ∀ p W o, J p W → J p (W.alloc o)
  put : ∀ p W r o o', J p W → B ≤ r → W.heap[r]? = some o → o.isCells = false → J p (W.putObj r o')
/-- what a round keeps: the rest's box; what holds no cells -/
structure Kept (g : Nat) (W W' : World) : Prop where
  size : W.heap.size ≤ W'.heap.size
  box : W'.heap[g]? = W.heap[g]?
  other : ∀ (k : Nat) (o : Obj), W.heap[k]? = some o → o.isCells = false → W'.heap[k]? = some o
def roundQ (g q : Nat) (J : Nat → World → Prop) (W : World) : Exit → Act → World → Prop
  | .normal, _, W' => Kept g W W' ∧ J q W'
  | _, _, _ => False

set_option maxHeartbeats 800000 in
/-- a range over the entries of each key, whose body goes on to its end -/
theorem range_keys {f : Operand} {t : Tmp} {assign body : Code} {Q : Exit → Act → World → Prop} {a : Act} {w : World} {g n cap : Nat} {a0 : Option Addr} {L : List Ent}
    (hf : a.eval f = .func (.func 133) #[] #[.pointer (some ⟨g, 0, none⟩)]) (hl : L.length = n) (hnc : n ≤ cap) (hcap : cap ≤ 9223372036854775807) (hn6 : n ≤ 9223372036854775806) (hso : Sorted L)
    (hbox : Cell1 w g 33 (.slice a0 n cap)) (J : Nat → World → Prop) (hJ : Bides g w.heap.size J) (hrow : ∀ p W, J p W → ERow W a0 n (fun i => L.getD i ent0)) (h0 : J 0 w) (a₁ : Value → Act)
    (hassign : ∀ (l : Nat) (v : Value) (W : World) (K : Act → World → Prop), K (a₁ v) W → assign.wpIn (Fence.wide.inRound l) 0 Tryz.prog (Exit.then K (fun _ _ _ => False)) { tmps := a.tmps.setIfInBounds t v, defers := [] } W)
    (hbody : ∀ (l p q : Nat) (v : Value) (W : World), J p W → Cut L p → Grp L p q → RestS a0 v q cap p → (∃ v', Cell1 W g 33 v') → body.wpIn (Fence.wide.inRound l) 0 Tryz.prog (roundQ g q J W) (a₁ v) W)
    (hdone : ∀ W, J n W → W.heap[w.heap.size]? = some (.deferred (some [])) → Q .normal { a with defers := { target := .collected w.heap.size, args := #[] } :: a.defers } W) :
    (Code.rangeFunc f #[t] assign body).wp Tryz.prog Q a w := by
  refine (wpIn_wide (n := 1)).1 (wpIn_rangeFunc ?_)
  intro fn hfn
  have hro : Fence.wide.round = none := rfl
  rw [hro]
  obtain ⟨rec, hrec⟩ : ∃ rec : LoopState → Loop, rec = fun st => { state := st, pending := none, fn, tmps := a.tmps, params := #[t], assign, body, defers := w.heap.size } := ⟨_, rfl⟩
  obtain ⟨W1, hW1⟩ : ∃ W1, (w.alloc (.deferred (some []))).alloc (.loop (rec .ready)) = W1 := ⟨_, rfl⟩
  have hL1 : W1.heap[w.heap.size + 1]? = some (.loop (rec .ready)) := by rw [← hW1]; exact blk_new (by simp)
  have hK1 : W1.heap[w.heap.size]? = some (.deferred (some [])) := by rw [← hW1]; exact blk_alloc (blk_new rfl)
  have hJ1 : J 0 W1 := by rw [← hW1]; exact hJ.alloc _ _ _ (hJ.alloc _ _ _ h0)
  have hB1 : Cell1 W1 g 33 (.slice a0 n cap) := by rw [← hW1]; exact Cell1.alloc (Cell1.alloc hbox _) _
  have hg : g < w.heap.size := hbox.lt
  refine ⟨w.heap.size + 1, [{ target := .collected w.heap.size, args := #[] }], W1, { target := .fn (.func 133) #[.pointer (some ⟨g, 0, none⟩)], args := #[.func (.yield (w.heap.size + 1)) #[] #[]] }, W1, 133,
    #[.func (.yield (w.heap.size + 1)) #[] #[]] ++ #[.pointer (some ⟨g, 0, none⟩)], W1, ?_, ?_, ?_, ?_, (fun h => by cases h), ?_⟩
  · rw [← hW1, hrec]; exact run_enterLoop_outer _ _ _ _ _
  · simp only [resolve, hf]
    simp [go_sem]
  · intro f' hf'; trivial
  · simp [invoke, go_sem]
  · refine callsIn_wide.2 ((keys1_any (w.heap.size + 1) g n cap L hl hnc hcap hn6 hso
      (fun p W => J p W ∧ W.heap[w.heap.size + 1]? = some (.loop (rec .ready)) ∧ W.heap[w.heap.size]? = some (.deferred (some [])))
      (fun p W v v' hj hc => ⟨hJ.set p W v v' hj.1 hc, (Below.heap_setCell _ _ _ _ (by show w.heap.size + 1 ≠ g; omega)).trans hj.2.1, (Below.heap_setCell _ _ _ _ (by show w.heap.size ≠ g; omega)).trans hj.2.2⟩)
      (fun p W k hj => ⟨hJ.drew p W k hj.1, hj.2⟩) a0 (fun p W hj => hrow p W hj.1) ?_ W1 hB1 ⟨hJ1, hL1, hK1⟩).mono ?_)
    · rintro p q W v ⟨hj, hlp, hd⟩ hcut hgrp hrs ⟨vb, hvb⟩
      have hlt : w.heap.size + 1 < W.heap.size := lt_of_block hlp
      have hy := run_yield (P := Tryz.prog) (args := #[v]) hlp (by rw [hrec]; rfl)
      rw [hrec] at hy
      have htm : ((#[t] : Array Tmp).zip #[v]).foldl (fun tmps (t, a) => tmps.setIfInBounds t a) a.tmps = a.tmps.setIfInBounds t v := by simp
      simp only [htm] at hy
      refine ⟨fn, _, assign, body, hy, roundIn_of_wpIn hfn ?_⟩
      refine hassign _ v W _ ?_
      refine ⟨_, run_beginRound hlp (by rw [hrec]), ?_⟩
      have hj2 := hJ.put p W (w.heap.size + 1) _ (.loop { rec .ready with state := .busy }) hj (by omega) hlp rfl
      have hl2 : (W.putObj (w.heap.size + 1) (.loop { rec .ready with state := .busy })).heap[w.heap.size + 1]? = some (.loop { rec .ready with state := .busy }) := World.putObj_heap_same hlt
      have hd2 : (W.putObj (w.heap.size + 1) (.loop { rec .ready with state := .busy })).heap[w.heap.size]? = some (.deferred (some [])) := (World.putObj_heap_other (by omega)).trans hd
      have hg2 : (W.putObj (w.heap.size + 1) (.loop { rec .ready with state := .busy })).heap[g]? = W.heap[g]? := World.putObj_heap_other (by omega)
      refine wpIn_mono (hbody _ p q v _ hj2 hcut hgrp hrs ⟨vb, hg2.trans hvb⟩) ?_
      rintro e a3 W3 hp
      cases e with
      | normal =>
        obtain ⟨hk, hj3⟩ := hp
        have hl3 := hk.other _ _ hl2 rfl
        have hd3 := hk.other _ _ hd2 rfl
        have hend := run_endRound (P := Tryz.prog) none hl3
        refine ⟨_, _, hend, rfl, ⟨hJ.put q W3 _ _ _ hj3 (by omega) hl3 rfl, ?_, (World.putObj_heap_other (by omega)).trans hd3⟩, ?_⟩
        · refine (World.putObj_heap_same (lt_of_block hl3)).trans ?_
          rw [hrec]; rfl
        · exact (World.putObj_heap_other (by omega)).trans (hk.box.trans hg2)
      | ret => exact hp.elim
      | exit id => exact hp.elim
      | goto l => exact hp.elim
      | panic ch => exact hp.elim
      | outgrown => exact hp.elim
    · rintro e W2 ⟨⟨v, rfl⟩, hj, hlp, hd⟩
      have hend := run_endLoop (P := Tryz.prog) hlp (by rw [hrec]; simp)
      have hpe : (rec .ready).pending = none := by rw [hrec]
      rw [hpe] at hend
      exact ⟨none, _, hend, hdone _ (hJ.put n W2 _ _ _ hj (by omega) hlp rfl) ((World.putObj_heap_other (by omega)).trans hd)⟩
end Go.Proofs.YtpihmjdljbienaaGreatDoor.Mg
