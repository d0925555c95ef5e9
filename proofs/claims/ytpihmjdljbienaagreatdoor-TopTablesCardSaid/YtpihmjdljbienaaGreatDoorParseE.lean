/- The walk of block.Parse: the loop. -/
import Derived.Test.YtpihmjdljbienaaGreatDoorParseD
import Derived.Test.YtpihmjdljbienaaGreatDoorGb
import Derived.Test.YtpihmjdljbienaaGreatDoorGe
namespace Go.Proofs.YtpihmjdljbienaaGreatDoor.Ew
open Go.RowKit
open En B Vp Vw
set_option linter.unusedVariables false

theorem info45 : (Tryz.prog.info? 45).map (fun i => (i.zero, i.size, i.bytes)) = some (some (.agg #[.string ⟨#[]⟩, .int .i64 0, .bool false, .string ⟨#[]⟩, .int .i64 0]), 5, 56) := by kernel_rfl

theorem own_ne {w : World} {B n size g : Nat} {e t : TypeId} {v : Value} {xs : List Value} {cs : Array Value} {fr : Nat × Nat} (h : w.ownsRow B e size v n xs) (hg : w.heap[g]? = some (.cells cs t fr)) (hne : e ≠ t) : v.ownBlock ≠ some g := by
  rcases h.2 with ⟨rfl, _⟩ | ⟨g', cap, cur, rfl, _, hb, _⟩
  · simp [Value.ownBlock]
  · intro hh
    simp only [Value.ownBlock, Option.some.injEq] at hh
    subst hh
    rw [hb] at hg
    simp only [Option.some.injEq, Obj.cells.injEq] at hg
    exact hne hg.2.1
theorem own_setOther {w : World} {B n size : Nat} {e t : TypeId} {v : Value} {xs : List Value} {g : Nat} {x : Value} (h : w.ownsRow B e size v n xs) (hg : Cell1 w g t x) (hne : e ≠ t) (y : Value) : (w.setCell ⟨g, 0, none⟩ y).ownsRow B e size v n xs := by
  refine ⟨h.1, ?_⟩
  rcases h.2 with hv | ⟨g', cap', cur, hv, hB, hb, hr⟩
  · exact .inl hv
  · refine .inr ⟨g', cap', cur, hv, hB, (Below.heap_setCell w ⟨g, 0, none⟩ y g' fun e' => ?_).trans hb, hr⟩
    have e2 : g' = g := e'
    subst e2
    unfold Cell1 at hg
    rw [hb] at hg
    simp only [Option.some.injEq, Obj.cells.injEq] at hg
    exact hne hg.2.1
theorem cap_own {w : World} {B n m size cap : Nat} {e : TypeId} {p : Option Addr} {xs : List Value} (h : w.ownsRow B e size (.slice p m cap) n xs) : n ≤ cap ∧ cap ≤ 9223372036854775807 := by
  rcases h.2 with ⟨hv, hn⟩ | ⟨g, c, cur, hv, _, _, h1, h2, _⟩
  · simp at hv; omega
  · simp at hv; unfold maxLen at h2; omega
theorem goodE_sz {e : Ent} (h : goodE e = 0) : e.key.size ≤ 64 ∧ e.val.size ≤ 512 := by
  unfold goodE at h
  by_cases h1 : 64 < e.key.size ∨ 512 < e.val.size
  · rw [if_pos h1] at h; simp at h
  · omega
theorem entry_bad {rb : Nat} {s : ByteArray} {a : Int} {last : ByteArray} (hs : s.size ≤ 4611686018427387904) (hla : last.size ≤ 4611686018427387904) {r : IR} (hr : oneE s a last = r) (h : r.e ≠ 0) (w : World) (hb : RBox w rb s a) :
    Calls Tryz.prog 131 #[.pointer (some ⟨rb, 0, none⟩), .string last] w fun e w' => e = pan 206 r.e ∧ Only rb w w' := by
  subst hr
  refine (entry_any rb s a hs last hla w hb).mono ?_
  rintro e w' ⟨h1, ⟨h2, _⟩ | ⟨_, h3, _⟩⟩
  · exact absurd h2 h
  · exact ⟨h3, h1⟩
theorem entry_ok {rb : Nat} {s : ByteArray} {a : Int} {last : ByteArray} (hs : s.size ≤ 4611686018427387904) (hla : last.size ≤ 4611686018427387904) {r : IR} (hr : oneE s a last = r) (h : r.e = 0) (w : World) (hb : RBox w rb s a) :
    Calls Tryz.prog 131 #[.pointer (some ⟨rb, 0, none⟩), .string last] w fun e w' => e = .returned r.x.v ∧ RBox w' rb s r.next ∧ Only rb w w' := by
  subst hr
  refine (entry_any rb s a hs last hla w hb).mono ?_
  rintro e w' ⟨h1, ⟨_, h3, h4⟩ | ⟨h2, _⟩⟩
  · exact ⟨h3, h4, h1⟩
  · exact absurd h h2

set_option maxHeartbeats 1600000 in
set_option maxRecDepth 100000 in
theorem parse_run (s : ByteArray) (hs : s.size ≤ 4611686018427387904) (m : Nat) (a0 : Int) (hc : cntB s 0 4096 5 = ⟨m, a0, 0⟩) (hm : m ≤ 4096) (w : World) :
    Calls Tryz.prog 83 #[.string s] w (GotD w (if (onesE s m a0 []).e ≠ 0 then ([], (onesE s m a0 []).e) else if (onesE s m a0 []).next < s.size then ([], 4) else ((onesE s m a0 []).l, 0))) := by
  have hmf : ∀ (fn : Fn) (first cap : Array Value) (w : World), (Instr.makeFunc fn first cap).run Tryz.prog w = .ok (.func fn first cap) w := fun _ _ _ _ => rfl
  obtain ⟨R, hR⟩ : ∃ R, R = onesE s m a0 [] := ⟨_, rfl⟩
  rw [← hR]
  obtain ⟨X, hXX⟩ : ∃ X, X = (if R.e ≠ 0 then (([], R.e) : List Ent × Int) else if R.next < s.size then ([], 4) else (R.l, 0)) := ⟨_, rfl⟩
  rw [← hXX]
  have HXX := Lib.hid hXX
  have HR := Lib.hid hR
  clear hXX
  have HC := Lib.hid (fun (rb : Nat) (W : World) (hX : RBox W rb s 0) => count_ok hs hc rfl W hX)
  clear hc hR
  go_enter_defers Tryz.func83, Tryz.ntmps83
  go_wp2_with fail
  generalize hW : World.alloc _ _ = W0
  have hA : Cell1 W0 w.heap.size 33 (.slice none 0 0) := by rw [← hW]; exact blk_alloc (blk_alloc (heap_alloc_new _ _))
  have hE : Cell1 W0 (w.heap.size + 1) 28 (.int .i64 0) := by rw [← hW]; exact blk_alloc (blk_new (by simp))
  have hX : RBox W0 (w.heap.size + 1 + 1) s 0 := by rw [← hW]; exact blk_new (by simp)
  have hB : Below w.heap.size w W0 := by rw [← hW]; exact below_alloc (below_alloc (below_alloc (Below.refl _ _) _) _) _
  clear hW
  refine (HC.out _ _ hX).mono ?_
  rintro e w1 ⟨rfl, hX1, ho⟩
  have HA1 := Lib.hid (hA.only ho (by omega))
  have HE1 := Lib.hid (hE.only ho (by omega))
  have hB1 := ho.below hB (by omega) (by have := hA.lt; omega)
  have HX1 := Lib.hid hX1
  clear hA hE hX hB ho hX1
  go_wp2_with fail
  go_loopw [15, 6] (fun i sl wr => ∃ (j : Nat) (a : Int) (acc : List Ent) (p : Option Addr) (d : Nat), i = .int .i64 j ∧ sl = .string (lastE acc).key ∧ j ≤ m ∧ (lastE acc).key.size ≤ 64 ∧ Cell1 wr w.heap.size 33 (.slice p j d) ∧ Cell1 wr (w.heap.size + 1) 28 (.int .i64 0) ∧ RBox wr (w.heap.size + 1 + 1) s a ∧
    wr.ownsRow w.heap.size 45 5 (.slice p j d) j (ecells acc) ∧ Hid (onesE s m a0 [] = onesE s (m - j) a acc) ∧ Below w.heap.size w wr) (fun i _ _ => m - (intOf i).toNat)
  case atStart => exact ⟨0, a0, [], none, 0, rfl, rfl, by omega, by decide, HA1.out, HE1.out, HX1.out, World.ownsRow_nil _ _ _ _, rfl, hB1⟩
  case round =>
    obtain ⟨j, a, acc, p, d, rfl, rfl, hj, hk64, hA, hE, hX, hown, hit, hbel⟩ := hrel
    have HA := Lib.hid hA
    have HE := Lib.hid hE
    have HX := Lib.hid hX
    have HO := Lib.hid hown
    have ca := hA.cell
    have hnr := own_ne hown hX (by decide)
    have hna := own_ne hown hA (by decide)
    have hne := own_ne hown hE (by decide)
    have hlA := hA.lt
    by_cases hlt : j < m
    · obtain ⟨k, hk⟩ : ∃ k, m - j = k + 1 := ⟨m - j - 1, by omega⟩
      have hst := hit.out
      rw [hk] at hst
      have hla : (lastE acc).key.size ≤ 4611686018427387904 := by omega
      obtain ⟨r, hr⟩ : ∃ r, r = oneE s a (lastE acc).key := ⟨_, rfl⟩
      simp only [onesE] at hst
      rw [← hr] at hst
      have HST := Lib.hid hst
      have HK := Lib.hid hk
      clear hA hE hX hown hst hit hk
      by_cases h1 : r.e = 0
      · obtain ⟨⟨k1, q1, g1, v1, u1⟩, rx, re⟩ := r
        simp only at h1 HST hr
        subst h1
        rw [if_neg (by simp)] at HST
        have HII : Hid (Calls Tryz.prog 131 #[.pointer (some ⟨w.heap.size + 1 + 1, 0, none⟩), .string (lastE acc).key] wr fun e w' => e = .returned (.agg #[.string k1, .int .i64 q1, .bool g1, .string v1, .int .i64 u1]) ∧ RBox w' (w.heap.size + 1 + 1) s rx ∧ Only (w.heap.size + 1 + 1) wr w') := entry_ok hs hla hr.symm rfl wr HX.out
        have hln := (own_erow HO.out).2.1
        have hcp := cap_own HO.out
        have HN := Lib.hid (fun (W : World) hr => next_any p j d acc hln.symm hcp.1 hcp.2 k1 q1 g1 v1 u1 W hr)
        clear hr hla hln
        obtain ⟨lk, hlk⟩ : ∃ lk, lk = (lastE acc).key := ⟨_, rfl⟩
        rw [← hlk] at HII
        have HLK := Lib.hid hlk
        rw [← hlk]
        clear hlk
        go_wp2_with fail
        refine HII.out.mono ?_
        rintro e w2 ⟨rfl, hx2, ho2⟩
        have hA2 := Cell1.only HA.out ho2 (by omega)
        have hE2 := Cell1.only HE.out ho2 (by omega)
        have hO2 := Only.own HO.out ho2 hnr
        have hB2 := Only.below hbel ho2 (by omega) hbel.size
        have hA9 : Cell1 (w2.alloc (.cells #[.string k1, .int .i64 q1, .bool g1, .string v1, .int .i64 u1] 45)) _ _ _ := blk_alloc hA2
        have ca3 := hA9.cell
        clear hA9
        go_wp2_with fail
        clear ca3
        have hlg := hA2.lt
        have hng := own_new hO2 (Nat.le_refl _)
        generalize hW : World.alloc w2 _ = W3
        have hE0 : W3.heap[w2.heap.size]? = some (.cells #[.string k1, .int .i64 q1, .bool g1, .string v1, .int .i64 u1] 45 (0, 0)) := by rw [← hW]; exact blk_new rfl
        have hA3 : Cell1 W3 w.heap.size 33 (.slice p j d) := by rw [← hW]; exact blk_alloc hA2
        have hE3 : Cell1 W3 (w.heap.size + 1) 28 (.int .i64 0) := by rw [← hW]; exact blk_alloc hE2
        have hX3 : RBox W3 (w.heap.size + 1 + 1) s rx := by rw [← hW]; exact blk_alloc hx2
        have hO3 : W3.ownsRow w.heap.size 45 5 (.slice p j d) j (ecells acc) := by rw [← hW]; exact hO2.alloc _
        have hB3 : Below w.heap.size w W3 := by rw [← hW]; exact below_alloc hB2 _
        have hXg : w.heap.size + 1 + 1 < w2.heap.size := lt_of_block hx2
        generalize w2.heap.size = g at hlg hng hE0 hXg ⊢
        clear hW hA2 hE2 hO2 hB2 hx2 ho2 w2
        refine (HN.out _ (own_erow hO3).2.2).mono ?_
        rintro e w4 ⟨rfl, hb4⟩
        have E4 := Lib.hid (show w4.heap[g]? = some (.cells #[.string k1, .int .i64 q1, .bool g1, .string v1, .int .i64 u1] 45 (0, 0)) from (hb4.block g (lt_of_block hE0)).trans hE0)
        have HA4 := Lib.hid (hA3.below hb4)
        have HE4 := Lib.hid (hE3.below hb4)
        have HX4 := Lib.hid (hX3.below hb4)
        have HO4 := Lib.hid (show w4.ownsRow w.heap.size 45 5 (.slice p j d) j (ecells acc) from hO3.kept (row := none) ⟨hb4.os, hb4.tape, hb4.output, hb4.size, fun i hi _ => hb4.block i hi⟩ (by cases p <;> simp [Value.ownBlock]))
        have hB4 := hB3.trans (hb4.mono hB3.size)
        clear hE0 hA3 hE3 hX3 hO3 hB3 hb4 W3
        obtain ⟨z, hz⟩ : ∃ z, z = nextE acc ⟨k1, q1, g1, v1, u1⟩ := ⟨_, rfl⟩
        rw [← hz] at HST ⊢
        have HZ := Lib.hid hz
        clear hz
        by_cases h2 : z = 0
        case neg =>
          have hRe : R = ⟨[], 0, z⟩ := by rw [HR.out, HST.out, if_pos h2]
          have hXe := Lib.hid (show X = ([], z) by rw [HXX.out, hRe, if_pos h2])
          clear hRe
          go_wp2_with fail
          refine (must_bad _ h2 _).mono ?_
          rintro e w5 ⟨rfl, rfl⟩
          go_wp2_with fail
          rw [hXe.out]
          exact door_bad rfl rfl HA4.out HE4.out hB4
        case pos =>
        subst h2
        rw [if_neg (by simp)] at HST
        have hky : k1.size ≤ 64 := (goodE_sz (nextE_0 HZ.out.symm).1).1
        go_wp2_with fail
        refine (must_ok _).mono ?_
        rintro e w5 ⟨rfl, rfl⟩
        have ca4 := HA4.out.cell
        have hl4 := HA4.out.lt
        go_wp2_with fail
        obtain ⟨k0, k1', k2, k3, k4⟩ := cells5 E4.out
        have hlg4 := lt_of_block E4.out
        have UA4 : Hid (w4.heap[w.heap.size]? = some (.cells #[.slice p j d] 33 (0, 0))) := HA4.out
        have UE4 : Hid (w4.heap[w.heap.size + 1]? = some (.cells #[.int .i64 0] 28 (0, 0))) := HE4.out
        have UX4 : Hid (w4.heap[w.heap.size + 1 + 1]? = some (.cells #[.string s, .int .i64 rx] 210 (0, 0))) := HX4.out
        refine wp_region_noPanic ?_
        go_region_law
          (first
            | (refine step_pushG (B := w.heap.size) (n := j) (xs := ecells acc) (v := .slice p j d) (by rfl) _ _ 33 (by rfl) Tryz.underlying33 info45 rfl (by decide) (by rfl) #[.string k1, .int .i64 q1, .bool g1, .string v1, .int .i64 u1] rfl (by simp [Value.oneCell']) (by rfl) ?_ ?_ ?_ (by unfold maxLen; omega) (by omega) ?_
               · repeat (first | ((with_reducible refine blk_new ?_); (focus (simp; done))) | with_reducible refine blk_drew ?_ | with_reducible refine blk_alloc ?_)
               · repeat (first | with_reducible exact HO4.out | with_reducible refine own_drew ?_ | with_reducible refine World.ownsRow.alloc ?_ _)
               · refine Below.size (B := w.heap.size) (w := w) ?_
                 repeat (first | with_reducible exact hB4 | with_reducible refine Below.drew ?_ | with_reducible refine below_alloc ?_ _)
               intro a1 c1 w5 hq hgr hb
               have hA5 : Cell1 w5 w.heap.size 33 (.slice p j d) := blk_grown hgr (by repeat (first | with_reducible exact UA4.out | with_reducible refine blk_drew ?_ | with_reducible refine blk_alloc ?_)) hna
               have hE5 : Cell1 w5 (w.heap.size + 1) 28 (.int .i64 0) := blk_grown hgr (by repeat (first | with_reducible exact UE4.out | with_reducible refine blk_drew ?_ | with_reducible refine blk_alloc ?_)) hne
               have hX5 : RBox w5 (w.heap.size + 1 + 1) s rx := blk_grown hgr (by repeat (first | with_reducible exact UX4.out | with_reducible refine blk_drew ?_ | with_reducible refine blk_alloc ?_)) hnr
               have e5 : w5.heap[g]? = some (.cells #[.string k1, .int .i64 q1, .bool g1, .string v1, .int .i64 u1] 45 (0, 0)) := blk_grown hgr (by repeat (first | with_reducible exact E4.out | with_reducible refine blk_drew ?_ | with_reducible refine blk_alloc ?_)) hng
               have hB5 : Below w.heap.size w w5 := Below.trans (by repeat (first | with_reducible exact hB4 | with_reducible refine Below.drew ?_ | with_reducible refine below_alloc ?_ _)) hb
               have ca5 := hA5.cell
               have fa5 := hA5.fz
               have cg5 := (cells5 e5).1
               have cg6 := (cells5 (w := w5.setCell ⟨w.heap.size, 0, none⟩ (.slice a1 (j + 1) c1)) (blk_far e5 (by show g ≠ w.heap.size; omega))).1
               have HA5 := Lib.hid hA5
               have HE5 := Lib.hid hE5
               have HX5 := Lib.hid hX5
               have HB5 := Lib.hid hB5
               have HQ5 := Lib.hid hq
               clear hA5 hE5 hX5 e5 hB5 hq hgr hb))
        all_goals refine NoPanic.normal ?_
        all_goals go_wp2_with fail
        all_goals
          go_roundw
          case rel => exact ⟨j + 1, rx, acc ++ [⟨k1, q1, g1, v1, u1⟩], a1, c1, by go_num, by rw [lastE_snoc], by omega, by rw [lastE_snoc]; exact hky, HA5.out.set _, HE5.out.far (by simp) _, blk_far HX5.out (by show w.heap.size + 1 + 1 ≠ w.heap.size; omega), by rw [ecells_snoc]; exact own_setOther HQ5.out HA5.out (by decide) _, by show onesE s m a0 [] = _; rw [HST.out, show m - (j + 1) = k from by have := HK.out; omega], HB5.out.setCell (p := ⟨w.heap.size, 0, none⟩) (Nat.le_refl _) _⟩
          case measure => simp [intOf]; omega
      · have HI := Lib.hid (fun (W : World) (hX : RBox W (w.heap.size + 1 + 1) s a) => entry_bad hs hla hr.symm h1 W hX)
        have hRe : R = ⟨[], 0, r.e⟩ := by rw [HR.out, HST.out, if_pos h1]
        have HRE := Lib.hid hRe
        clear hRe hr
        generalize (lastE acc).key = lk at HI
        have HII := Lib.hid (HI.out wr HX.out)
        have hXe := Lib.hid (show X = ([], r.e) by rw [HXX.out, HRE.out, if_pos h1])
        go_wp2_with fail
        refine HII.out.mono ?_
        rintro e w2 ⟨rfl, ho⟩
        have hA2 := Cell1.only HA.out ho (by omega)
        have hE2 := Cell1.only HE.out ho (by omega)
        have hB2 := Only.below hbel ho (by omega) hbel.size
        clear ho
        go_wp2_with fail
        rw [hXe.out]
        exact door_bad rfl rfl hA2 hE2 hB2
    · obtain rfl : j = m := by omega
      have hln := (own_erow hown).2.1
      have hR2 : R = ⟨acc, a, 0⟩ := by rw [HR.out, hit.out, Nat.sub_self]; rfl
      subst hln
      obtain ⟨x0, x1, x2⟩ := hX.cells
      by_cases hls : a < (s.size : Int)
      · have hXe : X = ([], 4) := by rw [HXX.out, hR2]; simp [hls]
        subst hXe
        have hd : decide (a < (s.size : Int)) = true := dt hls
        have hE2 := hE.far (p := ⟨w.heap.size, 0, none⟩) (by simp) (.slice none 0 0)
        have HE2 := Lib.hid hE2
        have fa := hA.fz
        have ce := hE2.cell
        have fe := hE2.fz
        clear hR2 hA hE hX hown hit hE2 hls
        go_wp2_with fail
        exact door_ret (a := none) (c := 0) rfl rfl ((HA.out.set _).far (by simp) _) (HE2.out.set _) ((hbel.setCell (p := ⟨w.heap.size, 0, none⟩) (Nat.le_refl _) _).setCell (p := ⟨w.heap.size + 1, 0, none⟩) (by simp) _) (World.ownsRow_nil _ _ _ _)
      · have hXe : X = (acc, 0) := by rw [HXX.out, hR2]; simp [hls]
        subst hXe
        have hd : decide (a < (s.size : Int)) = false := df hls
        have hE2 := hE.far (p := ⟨w.heap.size, 0, none⟩) (by simp) (.slice p acc.length d)
        have HE2 := Lib.hid hE2
        have fa := hA.fz
        have ce := hE2.cell
        have fe := hE2.fz
        clear hR2 hA hE hX hown hit hE2 hls
        go_wp2_with fail
        exact door_ret (a := p) (c := d) rfl rfl ((HA.out.set _).far (by simp) _) (HE2.out.set _) ((hbel.setCell (p := ⟨w.heap.size, 0, none⟩) (Nat.le_refl _) _).setCell (p := ⟨w.heap.size + 1, 0, none⟩) (by simp) _)
          (own_setOther (own_setOther HO.out HA.out (by decide) _) (HE2.out) (by decide) _)

theorem parse_any (s : ByteArray) (hs : s.size ≤ 4611686018427387904) (w : World) : Calls Tryz.prog 83 #[.string s] w (GotD w (parseE s)) := by
  unfold parseE
  by_cases h1 : (cntB s 0 4096 5).e = 0
  · rw [if_neg (by simp [h1])]
    have hb := cntB_bd h1
    obtain ⟨m, hm⟩ := Int.eq_ofNat_of_zero_le hb.1
    have h2 := hb.2.2 (by decide)
    have hc : cntB s 0 4096 5 = ⟨(m : Int), (cntB s 0 4096 5).next, 0⟩ := by
      generalize cntB s 0 4096 5 = c at h1 hm
      obtain ⟨cn, cx, ce⟩ := c
      simp only at h1 hm
      subst h1 hm
      rfl
    have := parse_run s hs m (cntB s 0 4096 5).next hc (by omega) w
    rw [hm, Int.toNat_natCast]
    exact this
  · rw [if_pos h1]
    exact parse_bad s hs h1 w
end Go.Proofs.YtpihmjdljbienaaGreatDoor.Ew
