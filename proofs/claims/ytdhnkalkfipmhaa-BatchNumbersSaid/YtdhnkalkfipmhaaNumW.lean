/- The walks of batch.Number and batch.Size. -/
import Derived.Test.YtdhnkalkfipmhaaLists
namespace Go.Proofs.Ytdhnkalkfipmhaa.Ew
open Go.RowKit
open En B
set_option linter.unusedVariables false

def numE (e : Ent) (q : Int) : Ent := { e with seq := q }
/-- items with rising numbers -/
def nums (l : List Ent) (q : Int) : List Ent := (List.range l.length).map fun i => numE (l.getD i ent0) (q + i)
def numsTo (l : List Ent) (q : Int) (k : Nat) : List Ent := (List.range k).map fun i => numE (l.getD i ent0) (q + i)
theorem numsTo_succ (l : List Ent) (q : Int) (k : Nat) : numsTo l q (k + 1) = numsTo l q k ++ [numE (l.getD k ent0) (q + k)] := by
  simp [numsTo, List.range_succ]
theorem numsTo_len (l : List Ent) (q : Int) (k : Nat) : (numsTo l q k).length = k := by simp [numsTo]
def sizeE (e : Ent) : Nat := e.key.size + e.val.size
def sizeL (l : List Ent) : Nat := (l.map sizeE).sum
theorem sizeL_snoc (l : List Ent) (e : Ent) : sizeL (l ++ [e]) = sizeL l + sizeE e := by simp [sizeL]

set_option maxHeartbeats 800000 in
set_option maxRecDepth 100000 in
theorem number_any (a : Option Addr) (n cap : Nat) (l : List Ent) (q : Int) (hl : l.length = n) (hn : n * 56 ≤ 140737488351232) (hq1 : -4611686018427387904 ≤ q) (hq2 : q ≤ 4611686018427387904) (w : World) (hrow : ERow w a n (fun i => l.getD i ent0)) :
    Calls Try.prog 15 #[.slice a n cap, .int .i64 q] w fun e w' => ∃ a1 c1, e = .returned (.slice a1 n c1) ∧ w'.ownsRow w.heap.size 36 5 (.slice a1 n c1) n (ecells (numsTo l q n)) ∧ Below w.heap.size w w' := by
  have HL := Lib.hid hl
  have HR := Lib.hid hrow
  clear hl hrow
  go_enter Try.func15, Try.ntmps15
  go_wp2_with fail
  go_loopw [5, 10] (fun v1 i wr => ∃ j : Nat, i = .int .i64 j ∧ j ≤ n ∧ wr.ownsRow w.heap.size 36 5 v1 j (ecells (numsTo l q j)) ∧ Below w.heap.size w wr) (fun _ i _ => n - (intOf i).toNat)
  case atStart => exact ⟨0, rfl, by omega, World.ownsRow_nil _ _ _ _, Below.refl _ _⟩
  case round =>
    obtain ⟨j, rfl, hj, hown, hbel⟩ := hrel
    obtain ⟨p1, d1, rfl, _⟩ := own_form hown
    by_cases hlt : j < n
    · obtain ⟨ab, off, rfl, hab, hac⟩ := (HR.out.below hbel).at (by omega)
      obtain ⟨h0, h1, h2, h3, h4⟩ := hac j hlt
      have hts := numsTo_succ l q j
      generalize l.getD j ent0 = x at h0 h1 h2 h3 h4 hts
      have HTS := Lib.hid hts
      obtain ⟨k, q0, g, v, u⟩ := x
      simp only at h0 h1 h2 h3 h4
      generalize numsTo l q j = tj at hown HTS
      clear hac hts
      have hbA := fun C : Obj => hbel.alloc hbel.size C
      go_wp2_with (at_builtin; refine wpList_push2 rfl _ _ 23 rfl Try.underlying23 infoApi rfl (by decide) rfl _ rfl ?c1 rfl ?c0 (hown.alloc _) ?c2 ?c3 ?c4 ?_)
      case c0 => simp
      case c1 => simp [Value.oneCell']
      case c2 => exact (hbA _).size
      case c3 => unfold maxLen; omega
      case c4 => omega
      intro a' cap' w2 hown2 _ hb2
      have hz : w2.ownsRow w.heap.size 36 5 (.slice a' (j + 1) cap') (j + 1) (ecells (numsTo l q (j + 1))) := by
        rw [HTS.out, ecells_snoc]; exact hown2
      have hb3 := (hbA _).trans hb2
      have HZ := Lib.hid hz
      clear hown2 hz hbA
      go_wp2_with fail
      go_roundw
      case rel => exact ⟨j + 1, by go_num, by omega, HZ.out, hb3⟩
      case measure => simp [intOf]; omega
    · obtain rfl : j = n := by omega
      go_wp2_with fail
      go_ret
      exact ⟨p1, d1, rfl, hown, hbel⟩

theorem wrap_add (a b : Int) : wrap64 (wrap64 a + b) = wrap64 (a + b) := by unfold wrap64; omega

set_option maxHeartbeats 800000 in
set_option maxRecDepth 100000 in
theorem size_any (a : Option Addr) (n cap : Nat) (l : List Ent) (hl : l.length = n) (hn : n * 56 ≤ 140737488351232) (hf : ∀ e ∈ l, Fits e) (w : World) (hrow : ERow w a n (fun i => l.getD i ent0)) :
    Calls Try.prog 16 #[.slice a n cap] w fun e w' => e = .returned (.int .i64 (wrap64 (sizeL l))) ∧ Below w.heap.size w w' := by
  have HF := Lib.hid hf
  have HL := Lib.hid hl
  have HR := Lib.hid hrow
  clear hl hrow hf
  go_enter Try.func16, Try.ntmps16
  go_wp2_with fail
  go_loopw [3, 8] (fun s i wr => ∃ j : Nat, i = .int .i64 j ∧ j ≤ n ∧ s = .int .i64 (wrap64 (sizeL (l.take j))) ∧ Below w.heap.size w wr) (fun _ i _ => n - (intOf i).toNat)
  case atStart => exact ⟨0, rfl, by omega, by rw [List.take_zero]; simp [sizeL, wrap64], Below.refl _ _⟩
  case round =>
    obtain ⟨j, rfl, hj, rfl, hbel⟩ := hrel
    by_cases hlt : j < n
    · obtain ⟨ab, off, rfl, hab, hac⟩ := (HR.out.below hbel).at (by omega)
      obtain ⟨h0, h1, h2, h3, h4⟩ := hac j hlt
      have hts := take_snoc l j ent0 (by rw [HL.out]; exact hlt)
      have hfit : Fits (l.getD j ent0) := HF.out _ (by rw [List.getD_eq_getElem?_getD, List.getElem?_eq_getElem (by rw [HL.out]; exact hlt)]; exact List.getElem_mem _)
      generalize l.getD j ent0 = x at h0 h1 h2 h3 h4 hts hfit
      obtain ⟨k, q, g, v, u⟩ := x
      have hk1 := hfit.key
      have hv1 := hfit.val
      simp only at h0 h1 h2 h3 h4 hk1 hv1
      have hsz : ∀ z, z = wrap64 (sizeL (l.take j)) → wrap64 (sizeL (l.take (j + 1))) = wrap64 (z + ((k.size : Int) + (v.size : Int))) := by
        rintro z rfl
        rw [wrap_add, hts, sizeL_snoc]
        congr 1
      obtain ⟨z, hz⟩ : ∃ z, z = wrap64 (sizeL (l.take j)) := ⟨_, rfl⟩
      have HSZ := Lib.hid (hsz z hz)
      rw [← hz]
      clear hac hts hsz hz hfit
      go_wp2_with fail
      go_roundw
      case rel => exact ⟨j + 1, by go_num, by omega, by rw [HSZ.out], hbel.alloc hbel.size _⟩
      case measure => simp [intOf]; omega
    · obtain rfl : j = n := by omega
      have e1 : l.take j = l := List.take_of_length_le (by rw [HL.out]; exact Nat.le_refl _)
      rw [e1]
      clear e1
      go_wp2_with fail
      go_ret
      exact ⟨rfl, hbel⟩

end Go.Proofs.Ytdhnkalkfipmhaa.Ew
