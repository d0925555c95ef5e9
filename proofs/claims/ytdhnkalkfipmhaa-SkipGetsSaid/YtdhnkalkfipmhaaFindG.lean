/- The walk of the reference's Get of a list. -/
import Derived.Test.YtdhnkalkfipmhaaFindP
import Derived.Test.YtdhnkalkfipmhaaEqE
import Derived.Test.YtdhnkalkfipmhaaSetE
namespace Go.Proofs.Ytdhnkalkfipmhaa.Ew
open Go.RowKit
open En B
set_option linter.unusedVariables false

def GotG (w : World) (r : Ent × Bool) (e : Ending) (w' : World) : Prop :=
  e = .returned (.tuple #[r.1.v, .bool r.2]) ∧ Below w.heap.size w w'
theorem get_exit {w W : World} {T : Array Value} {r : Ent × Bool} (h6 : T.getD 6 undef = .pointer (some ⟨w.heap.size, 0, none⟩)) (h7 : T.getD 7 undef = .bool r.2)
    (hE : EBox W w.heap.size 55 r.1) (hB : Below w.heap.size w W) :
    bodyPost Try.prog Try.f22 (GotG w r) .ret { tmps := T, defers := [] } W := by
  obtain ⟨c0, c1, c2, c3, c4⟩ := hE.cells
  simp [Array.getD_eq_getD_getElem?] at h6 h7
  refine bodyPost_ret (v := .tuple #[r.1.v, .bool r.2]) ?_ rfl ⟨rfl, hB⟩
  simp [results, Try.results22, go_sem, c0, c1, c2, c3, c4, h6, h7, Ent.v]

set_option maxHeartbeats 1600000 in
set_option maxRecDepth 100000 in
theorem get06_any (gb : Nat) (a : Option Addr) (n cap : Nat) (l : List Ent) (hl : l.length = n) (hn : n ≤ 4611686018427387904) (key : ByteArray) (seq : Int) (w : World) (hg : w.cell? ⟨gb, 1, none⟩ = some (.slice a n cap)) (hrow : ERow w a n (fun i => l.getD i ent0)) :
    Calls Try.prog 22 #[.pointer (some ⟨gb, 0, none⟩), .string key, .int .i64 seq] w (GotG w (foundE l key seq)) := by
  obtain ⟨r, hr⟩ : ∃ r, r = foundE l key seq := ⟨_, rfl⟩
  rw [← hr]
  have HR := Lib.hid hr
  have HL := Lib.hid hl
  have HROW := Lib.hid hrow
  have hgl := World.block_lt_of_cell? w _ hg
  have hB0 := below_alloc (Below.refl w.heap.size w) (.cells #[.string ⟨#[]⟩, .int .i64 0, .bool false, .string ⟨#[]⟩, .int .i64 0] 55)
  have hE0 : EBox (w.alloc (.cells #[.string ⟨#[]⟩, .int .i64 0, .bool false, .string ⟨#[]⟩, .int .i64 0] 55)) w.heap.size 55 ent0 := EBox.new w 55 ent0
  have HG0 := Lib.hid ((hB0.cell (p := ⟨gb, 1, none⟩) hgl).trans hg)
  have HE0 := Lib.hid hE0
  have HR0 := Lib.hid (hrow.below hB0)
  clear hr hl hrow hg hE0
  go_enter Try.func22, Try.ntmps22
  go_wp2_with fail
  generalize hW : World.alloc _ _ = W0
  rw [hW] at hB0 HG0 HE0 HR0
  clear hW
  have c0 := HG0.out
  obtain ⟨q0, q1, q2, q3, q4⟩ := HE0.out.cells
  obtain ⟨z0, z2, z3, z4, z5⟩ : _ ∧ _ ∧ _ ∧ _ ∧ _ := ⟨HE0.out.fz 0, HE0.out.fz 1, HE0.out.fz 2, HE0.out.fz 3, HE0.out.fz 4⟩
  simp only [ent0] at q0 q1 q2 q3 q4
  go_loopw [8] (fun si wr => ∃ (i : Nat), si = .int .i64 i ∧ i ≤ n ∧ Hid (∀ m, m < i → isK key seq (l.getD m ent0) = false) ∧ wr = W0) (fun si _ => n - (intOf si).toNat)
  case atStart => exact ⟨0, rfl, by omega, fun m hm => by omega, rfl⟩
  case round =>
    obtain ⟨i, rfl, hi, hlo, rfl⟩ := hrel
    by_cases hlt : i < n
    · obtain ⟨ab, off, rfl, hab, hac⟩ := HR0.out.at (by omega)
      have hd := hac i hlt
      obtain ⟨x, hx⟩ : ∃ x, x = l.getD i ent0 := ⟨_, rfl⟩
      rw [← hx] at hd
      have HX := Lib.hid hx
      obtain ⟨k1, qq, g1, v1, u1⟩ := x
      simp only at hd
      obtain ⟨d0, d1, d2, d3, d4⟩ := hd
      have i1 : (0 : Int) ≤ (i : Int) := by omega
      have i2 : (i : Int) < (n : Int) := by omega
      clear hac hx
      by_cases hk : k1 = key
      · by_cases hq : qq ≤ seq
        · have hy := Lib.hid (show r = (⟨k1, qq, g1, v1, u1⟩, true) by
            rw [HR.out, found_at i (by rw [HL.out]; exact hlt) hlo.out (by rw [← HX.out]; simp [isK, hk, hq]), ← HX.out])
          have hqd : decide (qq ≤ seq) = true := dt hq
          subst hk
          clear hq
          go_wp2_with fail
          rw [hy.out]
          exact get_exit rfl rfl (HE0.out.set5 ⟨k1, qq, g1, v1, u1⟩) (below_set5 hB0 (Nat.le_refl _) ⟨k1, qq, g1, v1, u1⟩)
        · have hno := Lib.hid (show isK key seq (l.getD i ent0) = false by rw [← HX.out]; simp [isK, hq])
          have hqd : decide (qq ≤ seq) = false := df hq
          subst hk
          clear hq
          go_wp2_with fail
          go_roundw
          case rel => exact ⟨i + 1, by go_num, by omega, fun m hm => by
            by_cases h : m = i
            · subst h; exact hno.out
            · exact hlo.out m (by omega), trivial⟩
          case measure => simp [intOf]; omega
      · have hno := Lib.hid (show isK key seq (l.getD i ent0) = false by rw [← HX.out]; simp [isK, hk])
        have hkk : (k1.toList == key.toList) = false := beq_eq_false_iff_ne.2 fun e => hk (toList_inj e)
        clear hk
        go_wp2_with fail
        go_roundw
        case rel => exact ⟨i + 1, by go_num, by omega, fun m hm => by
          by_cases h : m = i
          · subst h; exact hno.out
          · exact hlo.out m (by omega), trivial⟩
        case measure => simp [intOf]; omega
    · obtain rfl : i = n := by omega
      have hy := Lib.hid (show r = (ent0, false) by rw [HR.out, found_no (fun k hk => hlo.out k (by rw [HL.out] at hk; exact hk))])
      go_wp2_with fail
      rw [hy.out]
      exact get_exit rfl rfl (HE0.out.set5 ent0) (below_set5 hB0 (Nat.le_refl _) ent0)
end Go.Proofs.Ytdhnkalkfipmhaa.Ew
