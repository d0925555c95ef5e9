/- The walk of law 11's lists. -/
import Derived.Test.YtajfalffpcamhaaRows
import Derived.Test.YtajfalffpcamhaaGb
import Derived.Lib.MinMax
import Derived.Deep.RegionHeld3
namespace Go.Proofs.Ytajfalffpcamhaa.Ew
open Go.RowKit
open En B
set_option linter.unusedVariables false

set_option maxHeartbeats 1600000 in
set_option maxRecDepth 100000 in
theorem lists11_in (a : Option Addr) (n0 n cap : Nat) (hm : n = min n0 3000) (hc : n0 ≤ cap) (l : List Ent) (hl : l.length = n) (w : World) (hrow : ERow w a n (fun i => l.getD i ent0)) :
    Calls Try.prog 9 #[.slice a n0 cap] w (GotL w l) := by
  have HL := Lib.hid hl
  have HR := Lib.hid hrow
  have hn : n * 56 ≤ 140737488351232 := by omega
  have hmi : min (n0 : Int) 3000 = (n : Int) := by omega
  clear hl hrow
  go_enter Try.func9, Try.ntmps9
  go_wp2_with fail
  go_loopw [4, 5, 14] (fun v1 v2 i wr => ∃ j : Nat, i = .int .i64 j ∧ j ≤ n ∧ wr.ownsRow w.heap.size 57 5 v1 j (ecells (l.take j)) ∧ wr.ownsRow w.heap.size 56 5 v2 j (ecells (l.take j)) ∧ Below w.heap.size w wr) (fun _ _ i _ => n - (intOf i).toNat)
  case atStart => exact ⟨0, rfl, by omega, World.ownsRow_nil _ _ _ _, World.ownsRow_nil _ _ _ _, Below.refl _ _⟩
  case round =>
    obtain ⟨j, rfl, hj, ho1, ho2, hbel⟩ := hrel
    obtain ⟨p1, d1, rfl, _⟩ := own_form ho1
    obtain ⟨p2, d2, rfl, _⟩ := own_form ho2
    by_cases hlt : j < n
    · obtain ⟨ab, off, rfl, hab, hac⟩ := (HR.out.below hbel).at (by omega)
      obtain ⟨h0, h1, h2, h3, h4⟩ := hac j hlt
      have hts := take_snoc l j ent0 (by rw [HL.out]; exact hlt)
      generalize l.getD j ent0 = x at h0 h1 h2 h3 h4 hts
      have HTS := Lib.hid hts
      have HO1 := Lib.hid ho1
      have HO2 := Lib.hid ho2
      obtain ⟨k, q, g, v, u⟩ := x
      simp only at h0 h1 h2 h3 h4
      generalize l.take j = tj at HO1 HO2 HTS
      clear hac hts ho1 ho2
      go_wp2_with fail
      generalize hW : wr.alloc _ = W0
      have hE0 : W0.heap[wr.heap.size]? = some (.cells #[.string k, .int .i64 q, .bool g, .string v, .int .i64 u] 69 (0, 0)) := by rw [← hW]; exact heap_alloc_new _ _
      have hB0 : Below w.heap.size w W0 := by rw [← hW]; exact hbel.alloc hbel.size _
      have hO1 := HO1.out.alloc (.cells #[.string k, .int .i64 q, .bool g, .string v, .int .i64 u] 69)
      have hO2 := HO2.out.alloc (.cells #[.string k, .int .i64 q, .bool g, .string v, .int .i64 u] 69)
      rw [hW] at hO1 hO2
      have E0 := Lib.hid hE0
      have O1 := Lib.hid hO1
      have O2 := Lib.hid hO2
      have HW := Lib.hid hW
      clear hE0 hO1 hO2 hW
      go_region_held3 (fun w' => w'.cell? ⟨wr.heap.size, 0, none⟩ = some (.string k) ∧ w'.cell? ⟨wr.heap.size, 1, none⟩ = some (.int .i64 q) ∧ w'.cell? ⟨wr.heap.size, 2, none⟩ = some (.bool g) ∧ w'.cell? ⟨wr.heap.size, 3, none⟩ = some (.string v) ∧ w'.cell? ⟨wr.heap.size, 4, none⟩ = some (.int .i64 u))
        ((refine cells5 (t := 69) ?_; repeat (first | with_reducible exact E0.out | with_reducible refine blk_drew ?_ | ((with_reducible refine blk_new ?_); (focus (simp; done))) | with_reducible refine blk_alloc ?_ | with_reducible refine keep_blk hk2 ?_ (by decide) | with_reducible refine keep_blk hk1 ?_ (by decide))))
        (first
          | (refine step_push (B := w.heap.size) (n := j) (xs := ecells tj) (v := .slice p1 j d1) (by rfl) _ _ 23 (by rfl) Try.underlying23 infoApi rfl (by decide) (by rfl) #[.string k, .int .i64 q, .bool g, .string v, .int .i64 u] rfl (by simp [Value.oneCell']) (by rfl) ?_ ?_ ?_ (by unfold maxLen; omega) (by omega) ?_
             · repeat (first | with_reducible exact E0.out | with_reducible refine blk_drew ?_ | ((with_reducible refine blk_new ?_); (focus (simp; done))) | with_reducible refine blk_alloc ?_ | with_reducible refine keep_blk hk2 ?_ (by decide) | with_reducible refine keep_blk hk1 ?_ (by decide))
             · repeat (first | with_reducible exact O1.out | with_reducible exact O2.out | with_reducible refine own_drew ?_ | with_reducible refine World.ownsRow.alloc ?_ _ | with_reducible refine own_keeps ?_ hk1 (by decide))
             · refine Below.size (B := w.heap.size) (w := w) ?_
               repeat (first | with_reducible exact hB0 | with_reducible refine Below.drew ?_ | with_reducible refine below_alloc ?_ _ | with_reducible refine Below.trans ?_ hb1)
             intro a1 c1 w1 hq1 hk1 hb1)
          | (refine step_push (B := w.heap.size) (n := j) (xs := ecells tj) (v := .slice p2 j d2) (by rfl) _ _ 24 (by rfl) Try.underlying24 infoRef rfl (by decide) (by rfl) #[.string k, .int .i64 q, .bool g, .string v, .int .i64 u] rfl (by simp [Value.oneCell']) (by rfl) ?_ ?_ ?_ (by unfold maxLen; omega) (by omega) ?_
             · repeat (first | with_reducible exact E0.out | with_reducible refine blk_drew ?_ | ((with_reducible refine blk_new ?_); (focus (simp; done))) | with_reducible refine blk_alloc ?_ | with_reducible refine keep_blk hk2 ?_ (by decide) | with_reducible refine keep_blk hk1 ?_ (by decide))
             · repeat (first | with_reducible exact O1.out | with_reducible exact O2.out | with_reducible refine own_drew ?_ | with_reducible refine World.ownsRow.alloc ?_ _ | with_reducible refine own_keeps ?_ hk1 (by decide))
             · refine Below.size (B := w.heap.size) (w := w) ?_
               repeat (first | with_reducible exact hB0 | with_reducible refine Below.drew ?_ | with_reducible refine below_alloc ?_ _ | with_reducible refine Below.trans ?_ hb1)
             intro a2 c2 w2 hq2 hk2 hb2))
      all_goals
        change w1.ownsRow _ _ _ _ _ (ecells tj ++ Ent.cells ⟨k, q, g, v, u⟩) at hq1
        have hz1 : w2.ownsRow w.heap.size 57 5 (.slice a1 (j + 1) c1) (j + 1) (ecells (l.take (j + 1))) := by
          rw [HTS.out, ecells_snoc]
          refine own_keeps ?_ hk2 (by decide)
          repeat (first | with_reducible exact hq1 | with_reducible refine own_drew ?_ | with_reducible refine World.ownsRow.alloc ?_ _)
        have hz2 : w2.ownsRow w.heap.size 56 5 (.slice a2 (j + 1) c2) (j + 1) (ecells (l.take (j + 1))) := by
          rw [HTS.out, ecells_snoc]
          exact hq2
        have hzb : Below w.heap.size w w2 := by
          repeat (first | with_reducible exact hB0 | with_reducible refine Below.drew ?_ | with_reducible refine below_alloc ?_ _ | with_reducible refine Below.trans ?_ hb2 | with_reducible refine Below.trans ?_ hb1)
        have HZ1 := Lib.hid hz1
        have HZ2 := Lib.hid hz2
        clear hz1 hz2 hq1 hq2 hk1 hk2 hb1 hb2
        go_wp2_with fail
        go_roundw
        case rel => exact ⟨j + 1, by go_num, by omega, HZ1.out, HZ2.out, hzb⟩
        case measure => simp [intOf]; omega
    · obtain rfl : j = n := by omega
      have e1 : l.take j = l := List.take_of_length_le (by rw [HL.out]; exact Nat.le_refl _)
      rw [e1] at ho1 ho2
      have HO1 := Lib.hid ho1
      have HO2 := Lib.hid ho2
      clear ho1 ho2 e1
      go_wp2_with fail
      go_ret2
      unfold GotL
      rw [HL.out]
      exact ⟨p1, d1, p2, d2, rfl, HO1.out, HO2.out, hbel⟩

theorem lists11_any (a : Option Addr) (n cap : Nat) (L : List Ent) (hl : L.length = n) (hc : n ≤ cap) (w : World) (hrow : ERow w a n (fun i => L.getD i ent0)) :
    Calls Try.prog 9 #[.slice a n cap] w (GotL w (L.take 3000)) :=
  lists11_in a n (min n 3000) cap rfl hc (L.take 3000) (by rw [List.length_take, hl]; omega) w ((hrow.take (by omega)).congr fun i hi => by
    simp [List.getD_eq_getElem?_getD, show i < 3000 by omega])
end Go.Proofs.Ytajfalffpcamhaa.Ew
