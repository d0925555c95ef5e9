/- The walk of New. -/
import Derived.Test.YtpihmjdljbienaaGreatDoorGh
import Derived.Deep.OwnRows
import Derived.Deep.RegionLaw
import Derived.Deep.AppendLies
namespace Go.Proofs.YtpihmjdljbienaaGreatDoor.Sw
open Ew
open Go.RowKit
open En B
set_option linter.unusedVariables false

/-- entries in order in towers -/
def SK (w : World) (B lb : Nat) (z : List Int) (ns : List Nd) (size : Int) : Prop :=
  ∃ ha ca cc, B ≤ lb ∧ LB w lb ca z.length cc ha ns.length size ∧ Tower w B ha ns (VN ns) ∧ w.ownsRow B 3 1 (.slice ca z.length cc) z.length (z.map (Value.int .i64))
theorem infoNode : (Tryz.prog.info? 106).map (fun i => (i.zero, i.size, i.bytes)) = some (some (.pointer none), 1, 8) := by kernel_rfl
theorem infoInt : (Tryz.prog.info? 3).map (fun i => (i.zero, i.size, i.bytes)) = some (some (.int .i64 0), 1, 8) := by kernel_rfl
theorem coins_row {w : World} {B n cc : Nat} {ca : Option Addr} {z : List Int} (h : w.ownsRow B 3 1 (.slice ca n cc) n (z.map (Value.int .i64))) : Row w ca n (fun i => .int .i64 (z.getD i 0)) := by
  have h1 := h.1
  refine (own_row h).2.congr fun i hi => ?_
  have : i < z.length := by simp at h1; omega
  rw [List.getD_eq_getElem?_getD, List.getElem?_map, List.getElem?_eq_getElem this, List.getD_eq_getElem?_getD, List.getElem?_eq_getElem this]; rfl

theorem made_range (z : Value) (n : Nat) : madeCells #[z] n = ((List.range n).map (fun _ => z)).toArray := by
  apply Array.ext
  · simp [madeCells]
  · intro i h1 h2
    simp [madeCells]
    rw [Nat.mod_one]; rfl
theorem tower_nil {w : World} {B ha : Nat} (h : w.heap[ha]? = some (.cells (madeCells #[.pointer none] 8) 106 (0, 0))) (hB : B ≤ ha) : Tower w B ha [] (VN []) where
  nodes := fun i hi => by simp at hi
  arrs := fun p hp => by
    obtain rfl : p = 0 := by simpa using hp
    unfold Arr arrP hP
    rw [if_pos rfl, if_pos rfl, h, made_range]
    rfl
  inj := fun p q hp hq _ => by simp at hp hq; omega
  lo := fun p hp => by
    obtain rfl : p = 0 := by simpa using hp
    exact hB
  hs := fun i hi => by simp at hi
theorem sk_new {w : World} {B ha cc : Nat} {ca : Option Addr} {z : List Int} (lb : Nat) (hB : B ≤ lb) (hl : LB w lb ca z.length cc ha 0 0) (h : w.heap[ha]? = some (.cells (madeCells #[.pointer none] 8) 106 (0, 0))) (hh : B ≤ ha)
    (ho : w.ownsRow B 3 1 (.slice ca z.length cc) z.length (z.map (Value.int .i64))) : SK w B lb z [] 0 :=
  ⟨ha, ca, cc, hB, hl, tower_nil h hh, ho⟩

set_option maxHeartbeats 800000 in
set_option maxRecDepth 100000 in
theorem new_any (a : Option Addr) (n cap : Nat) (z : List Int) (hz : z.length = n) (hn : n * 8 ≤ 140737488351232) (w : World) (hr : Row w a n (fun i => .int .i64 (z.getD i 0))) :
    Calls Tryz.prog 15 #[.slice a n cap] w fun e w' => ∃ lb, e = .returned (.pointer (some ⟨lb, 0, none⟩)) ∧ SK w' w.heap.size lb z [] 0 ∧ Below w.heap.size w w' := by
  have hmk : ∀ W : World, (Instr.makeSlice 101 (.int .i64 8) (.int .i64 8)).run Tryz.prog W = .ok (.slice (some ⟨W.heap.size, 0, none⟩) 8 8) (W.alloc (.cells (madeCells #[.pointer none] 8) 106)) := fun W => run_make_row' (P := Tryz.prog) 101 106 (.pointer none) 8 Tryz.underlying101 infoNode rfl .i64 .i64 8 (by omega) (by omega) W
  by_cases h0 : n = 0
  · subst h0
    obtain rfl : z = [] := List.eq_nil_of_length_eq_zero hz
    have hB0 : Below w.heap.size w (((w.alloc (.cells (madeCells #[.pointer none] 8) 106)).alloc (.cells #[.slice none 0 0, .string ⟨#[]⟩, .int .i64 0, .bool false, .string ⟨#[]⟩, .int .i64 0, .slice (some ⟨w.heap.size, 0, none⟩) 8 8, .int .i64 0, .int .i64 0] 105)).drew) :=
      (below_alloc (below_alloc (Below.refl _ _) _) _).drew
    cases a with
    | none =>
      go_enter Tryz.func15, Tryz.ntmps15
      go_wp2_with fail
      go_region_law (fail)
      all_goals go_wp2_with fail
      all_goals go_ret
      all_goals exact ⟨w.heap.size + 1, rfl, sk_new (z := []) (w.heap.size + 1) (ca := none) (cc := 0) (by omega) (blk_new (by simp)) (blk_alloc (blk_new rfl)) (Nat.le_refl _) (World.ownsRow_nil _ _ _ _), hB0⟩
    | some a =>
      go_enter Tryz.func15, Tryz.ntmps15
      go_wp2_with fail
      go_region_law (fail)
      all_goals go_wp2_with fail
      all_goals go_ret
      all_goals exact ⟨w.heap.size + 1, rfl, sk_new (z := []) (w.heap.size + 1) (ca := none) (cc := 0) (by omega) (blk_new (by simp)) (blk_alloc (blk_new rfl)) (Nat.le_refl _) (World.ownsRow_nil _ _ _ _), hB0⟩
  · obtain ⟨b, off, rfl, hbl, hc⟩ := hr.at (by omega)
    have hnews : ∀ j u, (z.map (Value.int .i64))[j]? = some u → w.drew.cell? ((⟨b, off, none⟩ : Addr).add j) = some u := fun j u hu => by
      rw [List.getElem?_map] at hu
      obtain ⟨x, hx, rfl⟩ := Option.map_eq_some_iff.1 hu
      have hj : j < z.length := (List.getElem?_eq_some_iff.1 hx).1
      have := hc j (by omega)
      rw [List.getD_eq_getElem?_getD, hx] at this
      have hadd : (⟨b, off, none⟩ : Addr).add j = ⟨b, off + j, none⟩ := by unfold Addr.add; split <;> simp_all
      rw [hadd]
      exact this
    have HN := Lib.hid hnews
    obtain ⟨i0, hi, hz0, hz1, hz2⟩ := info_parts infoInt
    have HI := Lib.hid hi
    clear hi hnews hc hr
    go_enter Tryz.func15, Tryz.ntmps15
    go_wp2_with fail
    go_region_law
      (first
        | (refine step_append_lies _ (by rfl) _ _ 24 (by rfl) w.heap.size 3 i0 (.int .i64 0) 1 8 Tryz.underlying24 HI.out hz0 hz1 hz2 (by rfl) (by decide) (.slice none 0 0) 0 [] (by rfl) (World.ownsRow_nil _ _ _ _) ⟨b, off, none⟩ n cap (z.map (Value.int .i64)) (by rfl) ?_ ?_ ?_ (by omega) (by unfold maxLen; omega) (by omega) ?_ _ rfl ?_
           · rw [List.length_map]; omega
           · intro j u hu
             first
               | exact HN.out j u hu
               | exact (World.cell?_alloc_some w _ _ (by rw [show w.cell? _ = some u from HN.out j u hu]; rfl)).trans (HN.out j u hu)
           · intro u hu; simp at hu; obtain ⟨x, _, rfl⟩ := hu; rfl
           · first
               | exact Nat.le_refl _
               | (show w.heap.size ≤ (w.drew.alloc _).heap.size; simp)
           intro g c1 w1 hq hgr _ hg
           simp only [Nat.zero_add, List.nil_append] at hq ⊢
           have HQ := Lib.hid hq
           have HG := Lib.hid hgr
           clear hq hgr))
    · go_wp2_with fail
      go_ret
      have hb1 : Below w.heap.size w w1 := (Below.refl _ _).drew.grown HG.out (by simp) (fun k hk => by simp [Value.ownBlock] at hk)
      subst hz
      exact ⟨w1.heap.size + 1, rfl, sk_new (ha := w1.heap.size) _ (by have := hb1.size; omega) (blk_new (by simp)) (blk_alloc (blk_new rfl)) hb1.size ((HQ.out.alloc _).alloc _), below_alloc (below_alloc hb1 _) _⟩
    · go_wp2_with fail
      go_ret
      have hb1 : Below w.heap.size w w1 := (below_alloc (Below.refl _ _).drew (.cells (madeCells #[.pointer none] 8) 106)).grown HG.out (by simp) (fun k hk => by simp [Value.ownBlock] at hk)
      have hA : w1.heap[w.heap.size]? = some (.cells (madeCells #[.pointer none] 8) 106 (0, 0)) := blk_grown HG.out (blk_new (w := w) rfl) (by simp [Value.ownBlock])
      subst hz
      exact ⟨w1.heap.size, rfl, sk_new (ha := w.heap.size) _ (by have := hb1.size; omega) (blk_new rfl) (blk_alloc hA) (Nat.le_refl _) (HQ.out.alloc _), below_alloc hb1 _⟩
end Go.Proofs.YtpihmjdljbienaaGreatDoor.Sw
