/- A strings.Builder within the table's writer. -/
import Derived.Test.YtajfalffpcamhaaGa
import Derived.Test.YtajfalffpcamhaaTabC
import Derived.Test.YtajfalffpcamhaaFrameG
import Derived.Shelf.RegionOpenPlain
namespace Go.Proofs.Ytajfalffpcamhaa.Tw
open Go.Proofs
open Go.Shelf
open Go.RowKit B Fp Tb Vp
set_option linter.unusedVariables false

def HoldsW (B b : Nat) (l : List UInt8) (w : World) : Prop := Lib.IsBuilder 80 5 B b (Lib.byteCells l) w

set_option maxHeartbeats 1000000 in
set_option maxRecDepth 100000 in
theorem copyCheckW_fresh (b : Nat) (w : World) (h0 : w.cell? ⟨b, 0, none⟩ = some (.pointer none)) (hsh : w.shape? b = some (80, 2)) (hfz : w.frozen? ⟨b, 0, none⟩ = false) :
    Calls Try.prog 92 #[.pointer (some ⟨b, 0, none⟩)] w fun e w' => e = .returned (.tuple #[]) ∧ w' = w.setCell ⟨b, 0, none⟩ (.pointer (some ⟨b, 0, none⟩)) := by
  obtain ⟨j, hj, hjs⟩ := Option.map_eq_some_iff.1 Bd.infoB
  have hjs2 : j.size ≠ 0 := by
    have := congrArg Prod.fst hjs
    simp only at this
    omega
  have hlies : liesAt Try.prog Try.prog.depth 80 (2 / Try.prog.cellsOf 80) 0 78 1 = true := by kernel_rfl
  go_enter Try.func92, Try.ntmps92
  go_wp2
  rw [Lib.run_to_unsafe w ⟨b, 0, none⟩ Try.underlying76 Try.underlying165 hj hjs2 hsh (Nat.zero_lt_succ 1)]
  simp only [Result.andThen]
  rw [Oper.upon_value]
  go_wp2
  rw [run_callFunc_extern Try.func101 (by kernel_rfl) (by kernel_rfl) (by kernel_rfl) (e := Extern.AbiNoEscape.same) (by kernel_rfl)]
  rw [Lib.run_noEscape]
  simp only [Result.andThen]
  rw [Oper.upon_value]
  go_wp2
  rw [Lib.run_from_unsafe w ⟨b, 0, none⟩ Try.underlying165 Try.underlying76 hj hsh hlies]
  simp only [Result.andThen]
  rw [Oper.upon_value]
  go_wp2
  go_end0
  exact ⟨rfl, rfl⟩

theorem copyCheckW_any (B b : Nat) (bs : List Value) (w : World) (h : Lib.IsBuilder 80 5 B b bs w) :
    Calls Try.prog 92 #[.pointer (some ⟨b, 0, none⟩)] w fun e w' => e = .returned (.tuple #[]) ∧ (Lib.BuilderAt 80 5 B b (.pointer (some ⟨b, 0, none⟩)) bs w' ∧ Below B w w' ∧ Keeps [80, 5] w w') := by
  rcases h with h | h
  · refine (copyCheckW_fresh b w h.cell0 h.shape h.frozen0).mono ?_
    rintro e w' ⟨rfl, rfl⟩
    obtain ⟨v, hb, _⟩ := h.2
    exact ⟨rfl, h.used _, (Below.refl B w).setCell (p := ⟨b, 0, none⟩) h.1 _, Keeps.setCell (p := ⟨b, 0, none⟩) hb (by simp) _⟩
  · refine (Bd.copyCheck_used b w h.cell0).mono ?_
    rintro e w' ⟨rfl, rfl⟩
    exact ⟨rfl, h, Below.refl B _, Keeps.refl _ _⟩


set_option maxHeartbeats 1000000 in
set_option maxRecDepth 100000 in
theorem writeW_keeps (B b : Nat) (l : List UInt8) (s : ByteArray) (w : World) (h : HoldsW B b l w) (hlen : l.length + s.size ≤ 140737488355328) (hBw : B ≤ w.heap.size) :
    Calls Try.prog 64 #[.pointer (some ⟨b, 0, none⟩), .string s] w fun e w' => e = .returned (.tuple #[.int .i64 s.size, .nilIface]) ∧ HoldsW B b (l ++ s.data.toList) w' ∧ Below B w w' ∧ Keeps [80, 5] w w' := by
  obtain ⟨i0, hi, hz0, hz1, hz2⟩ := info_parts Bd.infoByte
  have hbl : (Lib.byteCells l).length = l.length := Lib.byteCells_length l
  go_enter Try.func64, Try.ntmps64
  go_wp2_with fail
  refine (copyCheckW_any B b _ _ h).mono ?_
  rintro e w1 ⟨rfl, h1, hb1, hkk1⟩
  have HK1 := Lib.hid hkk1
  clear hkk1
  obtain ⟨hB, v, hbk, hown, hne⟩ := h1
  have c0 : w1.cell? ⟨b, 0, none⟩ = some (.pointer (some ⟨b, 0, none⟩)) := by rw [Lib.cell_of_heap hbk]; rfl
  have c1 : w1.cell? ⟨b, 1, none⟩ = some v := by rw [Lib.cell_of_heap hbk]; rfl
  have hneB : 80 ≠ 5 := by decide
  have HN := Lib.hid hneB
  clear hneB
  go_wp2_with (at_builtin; refine Lib.wpList_append_own_string _ rfl _ _ 64 9 rfl B 5 i0 Try.underlying64 Try.underlying9 hi hz0 hz1 hz2 _ _ _ rfl hown s rfl ?c3 ?c4 ?c5 ?_)
  case c3 => rw [hbl]; unfold maxLen; omega
  case c4 => rw [hbl]; omega
  case c5 => have := hb1.size; omega
  intro v' w2 hown' hgrow _
  have hlt : b < w1.heap.size := lt_of_block hbk
  have hb2 : w2.heap[b]? = some (.cells #[.pointer (some ⟨b, 0, none⟩), v] 80 (0, 0)) := by
    rw [hgrow.block b hlt (fun e => hne e.symm)]
    exact hbk
  have d0 : w2.cell? ⟨b, 0, none⟩ = some (.pointer (some ⟨b, 0, none⟩)) := by rw [Lib.cell_of_heap hb2]; rfl
  have d1 : w2.cell? ⟨b, 1, none⟩ = some v := by rw [Lib.cell_of_heap hb2]; rfl
  have f1 : w2.frozen? ⟨b, 1, none⟩ = false := Lib.frozen_of_heap hb2 1
  obtain ⟨ao, n', cap, rfl⟩ : ∃ ao n' cap, v' = .slice ao n' cap := by
    rcases hown'.2 with ⟨hv, _⟩ | ⟨g, cap, cur, hv, _⟩
    · exact ⟨_, _, _, hv⟩
    · exact ⟨_, _, _, hv⟩
  go_wp2
  go_ret2
  refine ⟨rfl, .inr ?_, ?_, ?_⟩
  · rw [Bd.byteCells_append]
    exact Lib.BuilderAt.put (T := 80) (e := 5) hB hb2 (bs' := Lib.byteCells l ++ Lib.strCells s) (by simpa [Lib.strCells_length, hbl] using hown') HN.out
  · exact (hb1.grown hgrow (by have := hb1.size; omega) (fun k hk => (hown.lt k hk).1)).setCell (p := ⟨b, 1, none⟩) hB _
  · exact HK1.out.trans ((Keeps.grown hown (by simp) hgrow).trans (Keeps.setCell (p := ⟨b, 1, none⟩) hb2 (by simp) _))

theorem writeW_any (B b : Nat) (l : List UInt8) (s : ByteArray) (w : World) (h : HoldsW B b l w) (hlen : l.length + s.size ≤ 140737488355328) (hBw : B ≤ w.heap.size) :
    Calls Try.prog 64 #[.pointer (some ⟨b, 0, none⟩), .string s] w fun e w' => e = .returned (.tuple #[.int .i64 s.size, .nilIface]) ∧ HoldsW B b (l ++ s.data.toList) w' ∧ Below B w w' :=
  (writeW_keeps B b l s w h hlen hBw).mono fun _ _ ⟨a, b, c, _⟩ => ⟨a, b, c⟩

theorem HoldsW.below {B b : Nat} {l : List UInt8} {w w' : World} (h : HoldsW B b l w) (k : Below w.heap.size w w') : HoldsW B b l w' := by
  have key : ∀ p, Lib.BuilderAt 80 5 B b p (Lib.byteCells l) w → Lib.BuilderAt 80 5 B b p (Lib.byteCells l) w' := by
    rintro p ⟨hB, v, hb, hown, hne⟩
    exact ⟨hB, v, (k.block b (lt_of_block hb)).trans hb, own_below hown k, hne⟩
  rcases h with h | h
  · exact .inl (key _ h)
  · exact .inr (key _ h)

/-- a fresh builder -/
theorem freshW (w : World) : HoldsW w.heap.size w.heap.size [] (w.alloc (.cells #[.pointer none, .slice none 0 0] 80)) := Lib.fresh_isBuilder _ _ w

theorem HoldsW.cells {B b : Nat} {l : List UInt8} {w : World} (h : HoldsW B b l w) : ∃ a c, w.cell? ⟨b, 1, none⟩ = some (.slice a l.length c) := by
  have key : ∀ p, Lib.BuilderAt 80 5 B b p (Lib.byteCells l) w → ∃ a c, w.cell? ⟨b, 1, none⟩ = some (.slice a l.length c) := by
    rintro p ⟨hB, v, hb, hown, hne⟩
    have hbl : (Lib.byteCells l).length = l.length := Lib.byteCells_length l
    rw [hbl] at hown
    rcases hown.2 with ⟨hv, h0⟩ | ⟨g, cap, cur, hv, _⟩
    · subst hv
      exact ⟨none, 0, by rw [Lib.cell_of_heap hb, h0]; rfl⟩
    · subst hv
      exact ⟨some ⟨g, 0, none⟩, cap, by rw [Lib.cell_of_heap hb]; rfl⟩
  rcases h with h | h
  · exact key _ h
  · exact key _ h
set_option maxHeartbeats 400000 in
theorem lenW_any (B b : Nat) (l : List UInt8) (w : World) (h : HoldsW B b l w) :
    Calls Try.prog 67 #[.pointer (some ⟨b, 0, none⟩)] w fun e w' => e = .returned (.int .i64 (l.length : Nat)) ∧ w = w' := by
  obtain ⟨a, c, c1⟩ := h.cells
  clear h
  go_enter Try.func67, Try.ntmps67
  go_wp2_with fail
  go_ret
  exact ⟨rfl, rfl⟩

set_option maxHeartbeats 2000000 in
set_option maxRecDepth 100000 in
theorem stringW_any (B b : Nat) (l : List UInt8) (w : World) (h : HoldsW B b l w) (hl : l ≠ []) :
    Calls Try.prog 35 #[.pointer (some ⟨b, 0, none⟩)] w fun e w' => e = .returned (.string (str l)) ∧ Below B w w' := by
  obtain ⟨p, hB, v, hbk, hown, hne⟩ : ∃ p, Lib.BuilderAt 80 5 B b p (Lib.byteCells l) w := by
    rcases h with h | h
    · exact ⟨_, h⟩
    · exact ⟨_, h⟩
  have hbl : (Lib.byteCells l).length = l.length := Lib.byteCells_length l
  rw [hbl] at hown
  have h0 : 0 < l.length := by cases l with | nil => exact absurd rfl hl | cons _ _ => simp
  rcases hown.2 with ⟨rfl, hz⟩ | ⟨g, cap, cur, rfl, hbg, hg, hnc, hcm, hs, ht⟩
  · omega
  have c1 : w.drew.cell? ⟨b, 1, none⟩ = some (.slice (some ⟨g, 0, none⟩) l.length cap) := by
    have : w.drew.heap[b]? = some (.cells #[p, .slice (some ⟨g, 0, none⟩) l.length cap] 80 (0, 0)) := hbk
    rw [Lib.cell_of_heap this]; rfl
  have hSD : (Builtin.unsafeSliceData_ #[64] 130 #[.slice (some ⟨g, 0, none⟩) l.length cap]).run Try.prog w.drew = .ok (.pointer (some ⟨g, 0, none⟩)) w.drew :=
    Lib.run_unsafeSliceData_row _ _ _ _ _ _ (by omega)
  have hUS : (Builtin.unsafeString_ #[130, 3] 9 #[.pointer (some ⟨g, 0, none⟩), .int .i64 l.length]).run Try.prog w.drew = .ok (.string ⟨l.toArray⟩) (w.drew.freeze ⟨g, 0, none⟩ l.length) := by
    refine Lib.run_unsafeString_row w.drew 130 3 9 5 Try.underlying130 Bd.builderExtra169.cellsByte g cur.size (by have hg' : w.drew.heap[g]? = some (.cells cur 5 (0, 0)) := hg; simp [World.shape?, hg']) l hl (by omega) (by unfold maxLen at hcm; omega) ?_
    intro j x hx
    have := hown.cells (g := g) rfl j (.int .u8 x.toNat) (by simp [Lib.byteCells, hx])
    exact this
  have mixed := Bd.lays169.mixed
  clear hbk hown hne hg
  go_enter Try.func35, Try.ntmps35
  go_wp2
  go_region_o
  all_goals (go_wp2; go_ret; exact ⟨rfl, Lib.below_freeze (Below.drew (Below.refl B w)) (p := ⟨g, 0, none⟩) hbg _⟩)

set_option maxHeartbeats 400000 in
set_option maxRecDepth 100000 in
theorem put_any2 (B b : Nat) (l : List UInt8) (s : ByteArray) (w : World) (h : HoldsW B b l w) (hlen : l.length + 65543 ≤ 140737488355328) (hBw : B ≤ w.heap.size) :
    Calls Try.prog 30 #[.pointer (some ⟨b, 0, none⟩), .string s] w fun e w' => e = .returned (.tuple #[.int .i64 (l.length : Nat), .int .i64 ((fr s.data.toList).length : Nat)]) ∧ HoldsW B b (l ++ fr s.data.toList) w' ∧ Below B w w' := by
  have HF : Hid (Calls Try.prog 66 #[.string s] w fun e w' => (∃ x : Int, e = .returned (.tuple #[.string (str (fr s.data.toList)), .int .i64 x])) ∧ Below w.heap.size w w') := by
    show Calls _ _ _ _ _
    by_cases hs : s.size ≤ 65535
    · rw [fr_is (by simpa using hs)]
      exact (Fw.put_ok s hs w).mono fun e w' ⟨h1, h2⟩ => ⟨⟨_, h1⟩, h2⟩
    · have hz : fr s.data.toList = [] := by unfold fr; rw [if_neg (by simpa using hs)]
      rw [hz]
      refine (Fw.put_long s (by omega) w).mono ?_
      rintro e w' ⟨rfl, rfl⟩
      exact ⟨⟨5, rfl⟩, Below.refl _ _⟩
  have hfl := fr_len s.data.toList
  have hfz : (str (fr s.data.toList)).size = (fr s.data.toList).length := str_size _
  have hft : (str (fr s.data.toList)).data.toList = fr s.data.toList := rfl
  generalize fr s.data.toList = f at HF hfl hfz hft ⊢
  generalize str f = t at HF hfz hft
  subst hft
  have HFZ := Lib.hid hfz
  have htl : t.size ≤ 65543 := by omega
  clear hfz hfl
  have HH := Lib.hid h
  clear h
  go_enter Try.func30, Try.ntmps30
  go_wp2_with fail
  refine HF.out.mono ?_
  rintro e w1 ⟨⟨x, rfl⟩, hb1⟩
  have H1 := Lib.hid (HH.out.below hb1)
  have hb1s := hb1.size
  have HB1 := Lib.hid (hb1.mono hBw)
  clear hb1
  go_wp2_with fail
  refine (lenW_any B b l _ H1.out).mono ?_
  rintro e w2 ⟨rfl, rfl⟩
  go_wp2_with fail
  refine (writeW_any B b l t _ H1.out (by omega) (by omega)).mono ?_
  rintro e w3 ⟨rfl, h3, hb3⟩
  go_wp2_with fail
  go_ret2
  exact ⟨by rw [← HFZ.out]; rfl, h3, HB1.out.trans hb3⟩
end Go.Proofs.Ytajfalffpcamhaa.Tw
