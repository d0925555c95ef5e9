/- Several texts in one: TabV, TabK. -/
import Derived.Test.YtpihmjdljbienaaGreatDoorGa
import Derived.Test.YtpihmjdljbienaaGreatDoorTabC
import Derived.Test.YtpihmjdljbienaaGreatDoorGc
import Derived.Shelf.RegionOpenPlain
import Derived.Test.YtpihmjdljbienaaGreatDoorBloomN
import Derived.Test.YtpihmjdljbienaaGreatDoorPutAll
import Derived.Shelf.Slices.CompactS
import Derived.Lib.OwnBridge
/- A strings.Builder within the table's writer. -/
namespace Go.Proofs.YtpihmjdljbienaaGreatDoor.Tw
open Go.Proofs
open Go.Shelf
open Go.RowKit B Fp Tb Vp
set_option linter.unusedVariables false

def HoldsW (B b : Nat) (l : List UInt8) (w : World) : Prop := Lib.IsBuilder 121 5 B b (Lib.byteCells l) w

set_option maxHeartbeats 1000000 in
set_option maxRecDepth 100000 in
theorem copyCheckW_fresh (b : Nat) (w : World) (h0 : w.cell? ⟨b, 0, none⟩ = some (.pointer none)) (hsh : w.shape? b = some (121, 2)) (hfz : w.frozen? ⟨b, 0, none⟩ = false) :
    Calls Tryz.prog 95 #[.pointer (some ⟨b, 0, none⟩)] w fun e w' => e = .returned (.tuple #[]) ∧ w' = w.setCell ⟨b, 0, none⟩ (.pointer (some ⟨b, 0, none⟩)) := by
  obtain ⟨j, hj, hjs⟩ := Option.map_eq_some_iff.1 Bd.infoB
  have hjs2 : j.size ≠ 0 := by
    have := congrArg Prod.fst hjs
    simp only at this
    omega
  have hlies : liesAt Tryz.prog Tryz.prog.depth 121 (2 / Tryz.prog.cellsOf 121) 0 82 1 = true := by kernel_rfl
  go_enter Tryz.func95, Tryz.ntmps95
  go_wp2
  rw [Lib.run_to_unsafe w ⟨b, 0, none⟩ Tryz.underlying79 Tryz.underlying221 hj hjs2 hsh (Nat.zero_lt_succ 1)]
  simp only [Result.andThen]
  rw [Oper.upon_value]
  go_wp2
  rw [run_callFunc_extern Tryz.func139 (by kernel_rfl) (by kernel_rfl) (by kernel_rfl) (e := Extern.AbiNoEscape.same) (by kernel_rfl)]
  rw [Lib.run_noEscape]
  simp only [Result.andThen]
  rw [Oper.upon_value]
  go_wp2
  rw [Lib.run_from_unsafe w ⟨b, 0, none⟩ Tryz.underlying221 Tryz.underlying79 hj hsh hlies]
  simp only [Result.andThen]
  rw [Oper.upon_value]
  go_wp2
  go_end0
  exact ⟨rfl, rfl⟩

theorem copyCheckW_any (B b : Nat) (bs : List Value) (w : World) (h : Lib.IsBuilder 121 5 B b bs w) :
    Calls Tryz.prog 95 #[.pointer (some ⟨b, 0, none⟩)] w fun e w' => e = .returned (.tuple #[]) ∧ (Lib.BuilderAt 121 5 B b (.pointer (some ⟨b, 0, none⟩)) bs w' ∧ Below B w w' ∧ Keeps [121, 5] w w') := by
  rcases h with h | h
  · refine (copyCheckW_fresh b w h.cell0 h.shape h.frozen0).mono ?_
    rintro e w' ⟨rfl, rfl⟩
    obtain ⟨v, hb, _⟩ := h.2
    exact ⟨rfl, h.used _, (Below.refl B w).setCell (p := ⟨b, 0, none⟩) h.1 _, Keeps.setCell (p := ⟨b, 0, none⟩) hb (by simp) _⟩
  · refine (Bd.copyCheck_used b w h.cell0).mono ?_
    rintro e w' ⟨rfl, rfl⟩
    exact ⟨rfl, h, Below.refl B _, Keeps.refl _ _⟩


set_option maxHeartbeats 1000000 in
set_option maxRecDepth 100000 in
theorem writeW_keeps (B b : Nat) (l : List UInt8) (s : ByteArray) (w : World) (h : HoldsW B b l w) (hlen : l.length + s.size ≤ 140737488355328) (hBw : B ≤ w.heap.size) :
    Calls Tryz.prog 35 #[.pointer (some ⟨b, 0, none⟩), .string s] w fun e w' => e = .returned (.tuple #[.int .i64 s.size, .nilIface]) ∧ HoldsW B b (l ++ s.data.toList) w' ∧ Below B w w' ∧ Keeps [121, 5] w w' := by
  obtain ⟨i0, hi, hz0, hz1, hz2⟩ := info_parts Bd.infoByte
  have hbl : (Lib.byteCells l).length = l.length := Lib.byteCells_length l
  go_enter Tryz.func35, Tryz.ntmps35
  go_wp2_with fail
  refine (copyCheckW_any B b _ _ h).mono ?_
  rintro e w1 ⟨rfl, h1, hb1, hkk1⟩
  have HK1 := Lib.hid hkk1
  clear hkk1
  obtain ⟨hB, v, hbk, hown, hne⟩ := h1
  have c0 : w1.cell? ⟨b, 0, none⟩ = some (.pointer (some ⟨b, 0, none⟩)) := by rw [Lib.cell_of_heap hbk]; rfl
  have c1 : w1.cell? ⟨b, 1, none⟩ = some v := by rw [Lib.cell_of_heap hbk]; rfl
  have hneB : 121 ≠ 5 := by decide
  have HN := Lib.hid hneB
  clear hneB
  go_wp2_with (at_builtin; refine Lib.wpList_append_own_string _ rfl _ _ 80 9 rfl B 5 i0 Tryz.underlying80 Tryz.underlying9 hi hz0 hz1 hz2 _ _ _ rfl hown s rfl ?c3 ?c4 ?c5 ?_)
  case c3 => rw [hbl]; unfold maxLen; omega
  case c4 => rw [hbl]; omega
  case c5 => have := hb1.size; omega
  intro v' w2 hown' hgrow _
  have hlt : b < w1.heap.size := lt_of_block hbk
  have hb2 : w2.heap[b]? = some (.cells #[.pointer (some ⟨b, 0, none⟩), v] 121 (0, 0)) := by
    rw [hgrow.block b hlt (fun e => hne e.symm)]
    exact hbk
  have d0 : w2.cell? ⟨b, 0, none⟩ = some (.pointer (some ⟨b, 0, none⟩)) := by rw [Lib.cell_of_heap hb2]; rfl
  have d1 : w2.cell? ⟨b, 1, none⟩ = some v := by rw [Lib.cell_of_heap hb2]; rfl
  have f1 : w2.frozen? ⟨b, 1, none⟩ = false := Lib.frozen_of_heap hb2 1
  obtain ⟨ao, n', cap, rfl⟩ : ∃ ao n' cap, v' = .slice ao n' cap := by
    rcases hown'.2 with ⟨hv, _⟩ | ⟨g, cap, cur, hv, _⟩
    · exact ⟨_, _, _, hv⟩
    · exact ⟨_, _, _, hv⟩
  go_wp2
  go_ret2
  refine ⟨rfl, .inr ?_, ?_, ?_⟩
  · rw [Bd.byteCells_append]
    exact Lib.BuilderAt.put (T := 121) (e := 5) hB hb2 (bs' := Lib.byteCells l ++ Lib.strCells s) (by simpa [Lib.strCells_length, hbl] using hown') HN.out
  · exact (hb1.grown hgrow (by have := hb1.size; omega) (fun k hk => (hown.lt k hk).1)).setCell (p := ⟨b, 1, none⟩) hB _
  · exact HK1.out.trans ((Keeps.grown hown (by simp) hgrow).trans (Keeps.setCell (p := ⟨b, 1, none⟩) hb2 (by simp) _))

theorem writeW_any (B b : Nat) (l : List UInt8) (s : ByteArray) (w : World) (h : HoldsW B b l w) (hlen : l.length + s.size ≤ 140737488355328) (hBw : B ≤ w.heap.size) :
    Calls Tryz.prog 35 #[.pointer (some ⟨b, 0, none⟩), .string s] w fun e w' => e = .returned (.tuple #[.int .i64 s.size, .nilIface]) ∧ HoldsW B b (l ++ s.data.toList) w' ∧ Below B w w' :=
  (writeW_keeps B b l s w h hlen hBw).mono fun _ _ ⟨a, b, c, _⟩ => ⟨a, b, c⟩

theorem HoldsW.below {B b : Nat} {l : List UInt8} {w w' : World} (h : HoldsW B b l w) (k : Below w.heap.size w w') : HoldsW B b l w' := by
  have key : ∀ p, Lib.BuilderAt 121 5 B b p (Lib.byteCells l) w → Lib.BuilderAt 121 5 B b p (Lib.byteCells l) w' := by
    rintro p ⟨hB, v, hb, hown, hne⟩
    exact ⟨hB, v, (k.block b (lt_of_block hb)).trans hb, own_below hown k, hne⟩
  rcases h with h | h
  · exact .inl (key _ h)
  · exact .inr (key _ h)

/-- a fresh builder -/
theorem freshW (w : World) : HoldsW w.heap.size w.heap.size [] (w.alloc (.cells #[.pointer none, .slice none 0 0] 121)) := Lib.fresh_isBuilder _ _ w

theorem HoldsW.cells {B b : Nat} {l : List UInt8} {w : World} (h : HoldsW B b l w) : ∃ a c, w.cell? ⟨b, 1, none⟩ = some (.slice a l.length c) := by
  have key : ∀ p, Lib.BuilderAt 121 5 B b p (Lib.byteCells l) w → ∃ a c, w.cell? ⟨b, 1, none⟩ = some (.slice a l.length c) := by
    rintro p ⟨hB, v, hb, hown, hne⟩
    have hbl : (Lib.byteCells l).length = l.length := Lib.byteCells_length l
    rw [hbl] at hown
    rcases hown.2 with ⟨hv, h0⟩ | ⟨g, cap, cur, hv, _⟩
    · subst hv
      exact ⟨none, 0, by rw [Lib.cell_of_heap hb, h0]; rfl⟩
    · subst hv
      exact ⟨some ⟨g, 0, none⟩, cap, by rw [Lib.cell_of_heap hb]; rfl⟩
  rcases h with h | h
  · exact key _ h
  · exact key _ h
set_option maxHeartbeats 400000 in
theorem lenW_any (B b : Nat) (l : List UInt8) (w : World) (h : HoldsW B b l w) :
    Calls Tryz.prog 118 #[.pointer (some ⟨b, 0, none⟩)] w fun e w' => e = .returned (.int .i64 (l.length : Nat)) ∧ w = w' := by
  obtain ⟨a, c, c1⟩ := h.cells
  clear h
  go_enter Tryz.func118, Tryz.ntmps118
  go_wp2_with fail
  go_ret
  exact ⟨rfl, rfl⟩

set_option maxHeartbeats 2000000 in
set_option maxRecDepth 100000 in
theorem stringW_any (B b : Nat) (l : List UInt8) (w : World) (h : HoldsW B b l w) (hl : l ≠ []) :
    Calls Tryz.prog 39 #[.pointer (some ⟨b, 0, none⟩)] w fun e w' => e = .returned (.string (str l)) ∧ Below B w w' := by
  obtain ⟨p, hB, v, hbk, hown, hne⟩ : ∃ p, Lib.BuilderAt 121 5 B b p (Lib.byteCells l) w := by
    rcases h with h | h
    · exact ⟨_, h⟩
    · exact ⟨_, h⟩
  have hbl : (Lib.byteCells l).length = l.length := Lib.byteCells_length l
  rw [hbl] at hown
  have h0 : 0 < l.length := by cases l with | nil => exact absurd rfl hl | cons _ _ => simp
  rcases hown.2 with ⟨rfl, hz⟩ | ⟨g, cap, cur, rfl, hbg, hg, hnc, hcm, hs, ht⟩
  · omega
  have c1 : w.drew.cell? ⟨b, 1, none⟩ = some (.slice (some ⟨g, 0, none⟩) l.length cap) := by
    have : w.drew.heap[b]? = some (.cells #[p, .slice (some ⟨g, 0, none⟩) l.length cap] 121 (0, 0)) := hbk
    rw [Lib.cell_of_heap this]; rfl
  have hSD : (Builtin.unsafeSliceData_ #[80] 170 #[.slice (some ⟨g, 0, none⟩) l.length cap]).run Tryz.prog w.drew = .ok (.pointer (some ⟨g, 0, none⟩)) w.drew :=
    Lib.run_unsafeSliceData_row _ _ _ _ _ _ (by omega)
  have hUS : (Builtin.unsafeString_ #[170, 3] 9 #[.pointer (some ⟨g, 0, none⟩), .int .i64 l.length]).run Tryz.prog w.drew = .ok (.string ⟨l.toArray⟩) (w.drew.freeze ⟨g, 0, none⟩ l.length) := by
    refine Lib.run_unsafeString_row w.drew 170 3 9 5 Tryz.underlying170 Bd.builderExtra169.cellsByte g cur.size (by have hg' : w.drew.heap[g]? = some (.cells cur 5 (0, 0)) := hg; simp [World.shape?, hg']) l hl (by omega) (by unfold maxLen at hcm; omega) ?_
    intro j x hx
    have := hown.cells (g := g) rfl j (.int .u8 x.toNat) (by simp [Lib.byteCells, hx])
    exact this
  have mixed := Bd.lays169.mixed
  clear hbk hown hne hg
  go_enter Tryz.func39, Tryz.ntmps39
  go_wp2
  go_region_o
  all_goals (go_wp2; go_ret; exact ⟨rfl, Lib.below_freeze (Below.drew (Below.refl B w)) (p := ⟨g, 0, none⟩) hbg _⟩)

set_option maxHeartbeats 400000 in
set_option maxRecDepth 100000 in
theorem put_any2 (B b : Nat) (l : List UInt8) (s : ByteArray) (w : World) (h : HoldsW B b l w) (hlen : l.length + 65543 ≤ 140737488355328) (hBw : B ≤ w.heap.size) :
    Calls Tryz.prog 66 #[.pointer (some ⟨b, 0, none⟩), .string s] w fun e w' => e = .returned (.tuple #[.int .i64 (l.length : Nat), .int .i64 ((fr s.data.toList).length : Nat)]) ∧ HoldsW B b (l ++ fr s.data.toList) w' ∧ Below B w w' := by
  have HF : Hid (Calls Tryz.prog 41 #[.string s] w fun e w' => (∃ x : Int, e = .returned (.tuple #[.string (str (fr s.data.toList)), .int .i64 x])) ∧ Below w.heap.size w w') := by
    show Calls _ _ _ _ _
    by_cases hs : s.size ≤ 65535
    · rw [fr_is (by simpa using hs)]
      exact (Fw.put_ok s hs w).mono fun e w' ⟨h1, h2⟩ => ⟨⟨_, h1⟩, h2⟩
    · have hz : fr s.data.toList = [] := by unfold fr; rw [if_neg (by simpa using hs)]
      rw [hz]
      refine (Fw.put_long s (by omega) w).mono ?_
      rintro e w' ⟨rfl, rfl⟩
      exact ⟨⟨5, rfl⟩, Below.refl _ _⟩
  have hfl := fr_len s.data.toList
  have hfz : (str (fr s.data.toList)).size = (fr s.data.toList).length := str_size _
  have hft : (str (fr s.data.toList)).data.toList = fr s.data.toList := rfl
  generalize fr s.data.toList = f at HF hfl hfz hft ⊢
  generalize str f = t at HF hfz hft
  subst hft
  have HFZ := Lib.hid hfz
  have htl : t.size ≤ 65543 := by omega
  clear hfz hfl
  have HH := Lib.hid h
  clear h
  go_enter Tryz.func66, Tryz.ntmps66
  go_wp2_with fail
  refine HF.out.mono ?_
  rintro e w1 ⟨⟨x, rfl⟩, hb1⟩
  have H1 := Lib.hid (HH.out.below hb1)
  have hb1s := hb1.size
  have HB1 := Lib.hid (hb1.mono hBw)
  clear hb1
  go_wp2_with fail
  refine (lenW_any B b l _ H1.out).mono ?_
  rintro e w2 ⟨rfl, rfl⟩
  go_wp2_with fail
  refine (writeW_any B b l t _ H1.out (by omega) (by omega)).mono ?_
  rintro e w3 ⟨rfl, h3, hb3⟩
  go_wp2_with fail
  go_ret2
  exact ⟨by rw [← HFZ.out]; rfl, h3, HB1.out.trans hb3⟩
end Go.Proofs.YtpihmjdljbienaaGreatDoor.Tw

/- slices.Compact of keys. -/
namespace Go.Proofs.YtpihmjdljbienaaGreatDoor.Tw
open Go.Proofs
open Go.Shelf
open Go.RowKit B Fp Tb Vp En
set_option linter.unusedVariables false

def lays194_ren : Go.Shelf.Ren := ⟨fun | 194 => 63 | n => n, fun | 0 => 0 | 3 => 3 | 4 => 4 | 9 => 9 | 31 => 39 | n => n, fun | n => n⟩
theorem lays194 : Go.Proofs.Lays.n194 Tryz.prog lays194_ren := {
  mixed := by kernel_rfl
  f194 := Tryz.func63.trans (congrArg some (by kernel_rfl))
  t0 := Tryz.underlying0
  a0 := Tryz.isAgg0
  z0 := Tryz.sizeOf0
  v0 := Tryz.zeroValue0
  t3 := Tryz.underlying3
  a3 := Tryz.isAgg3
  z3 := Tryz.sizeOf3
  v3 := Tryz.zeroValue3
  t4 := Tryz.underlying4
  a4 := Tryz.isAgg4
  z4 := Tryz.sizeOf4
  v4 := Tryz.zeroValue4
  t9 := Tryz.underlying9
  a9 := Tryz.isAgg9
  z9 := Tryz.sizeOf9
  v9 := Tryz.zeroValue9
  t31 := Tryz.underlying39
  a31 := Tryz.isAgg39
  z31 := Tryz.sizeOf39
  v31 := Tryz.zeroValue39 }

theorem compact_le (zs : List (List UInt8)) : (Lib.compact zs).length ≤ zs.length := by
  unfold Lib.compact Lib.compactUpTo
  rw [List.length_map]
  exact Nat.le_trans (List.length_filter_le _ _) (by simp)
theorem compact_any (B : Nat) (a : Option Addr) (n cap : Nat) (zs : List (List UInt8)) (w : World) (h : w.ownsRow B 9 1 (.slice a n cap) n (zs.map encStr)) (hB : B ≤ w.heap.size) :
    Calls Tryz.prog 63 #[.slice a n cap] w fun e w' => ∃ a' c', e = .returned (.slice a' (Lib.compact zs).length c') ∧ w'.ownsRow B 9 1 (.slice a' (Lib.compact zs).length c') (Lib.compact zs).length ((Lib.compact zs).map encStr) ∧ Below B w w' := by
  have hzl : zs.length = n := by simpa using h.1
  by_cases h0 : (.slice a n cap : Value) = .slice none 0 0
  · simp only [Value.slice.injEq] at h0
    obtain ⟨rfl, rfl, rfl⟩ := h0
    obtain rfl : zs = [] := List.eq_nil_of_length_eq_zero hzl
    refine (Any.slices_Compact_string_empty lays194 none 0 w).mono ?_
    rintro e w' ⟨rfl, rfl⟩
    exact ⟨none, 0, rfl, h, Below.refl _ _⟩
  · obtain ⟨g, cap', hv, hg, hlt, hnc, hcm, _, hH⟩ := Lib.holds_of_ownsRow h h0
    simp only [Value.slice.injEq, true_and] at hv
    obtain ⟨rfl, rfl⟩ := hv
    subst hzl
    have hc := compact_le zs
    refine (Any.slices_Compact_string lays194 g 0 cap zs w hH (by unfold maxLen at hcm; omega) hnc).mono ?_
    rintro e w' ⟨rfl, q, rfl⟩
    refine ⟨some ⟨g, 0, none⟩, cap, rfl, ?_, Lib.below_putRow (Below.refl _ _) hg⟩
    have := Lib.ownsRow_putRow (q := q) (k := (Lib.compact zs).length) (ys := Lib.compact zs ++ List.replicate (zs.length - (Lib.compact zs).length) []) h (by simp; omega) hc
    rwa [List.take_left] at this

/-! the keys, each once -/
def keysL (l : List Ent) : List (List UInt8) := l.map fun e => e.key.data.toList
theorem keysC_snoc (x : Ent) : ∀ l : List Ent, keysC (l ++ [x]) = if l ≠ [] ∧ (lastE l).key = x.key then keysC l else keysC l ++ [x.key.data.toList]
  | [] => by simp [keysC]
  | [e] => by
    simp only [List.singleton_append, keysC]
    by_cases h : e.key = x.key
    · rw [if_pos h, if_pos ⟨by simp, h⟩, h]
    · rw [if_neg h, if_neg (fun hh => h hh.2)]
  | e :: y :: t => by
    have ih := keysC_snoc x (y :: t)
    have hl : lastE (e :: y :: t) = lastE (y :: t) := by unfold lastE; simp
    have e1 : keysC (e :: y :: (t ++ [x])) = if e.key = y.key then keysC (y :: (t ++ [x])) else e.key.data.toList :: keysC (y :: (t ++ [x])) := rfl
    have e2 : keysC (e :: y :: t) = if e.key = y.key then keysC (y :: t) else e.key.data.toList :: keysC (y :: t) := rfl
    simp only [List.cons_append] at ih ⊢
    rw [e1, e2, ih, hl]
    by_cases h : (lastE (y :: t)).key = x.key
    · simp [h]
    · by_cases h2 : e.key = y.key <;> simp [h, h2]
theorem keysC_upto (l : List Ent) : ∀ m, m ≤ l.length → keysC (l.take m) = Lib.compactUpTo (keysL l).toArray m
  | 0, _ => rfl
  | m + 1, h => by
    have hk : ∀ j, j < l.length → (keysL l).toArray[j]! = (l.getD j ent0).key.data.toList := fun j hj => by
      simp [keysL, getElem!_pos, hj, List.getD_eq_getElem?_getD]
    rw [take_snoc l m ent0 (by omega), keysC_snoc, Lib.compactUpTo_succ, ← keysC_upto l m (by omega), hk m (by omega)]
    by_cases h0 : m = 0
    · subst h0
      rw [if_neg (by simp), if_pos (by simp [Lib.keeps])]
    · have hl : lastE (l.take m) = l.getD (m - 1) ent0 := by
        obtain ⟨j, rfl⟩ : ∃ j, m = j + 1 := ⟨m - 1, by omega⟩
        exact lastE_take l j (by omega)
      have hne : l.take m ≠ [] := fun hh => by have := congrArg List.length hh; rw [List.length_take, List.length_nil] at this; omega
      rw [hl]
      by_cases h1 : (l.getD (m - 1) ent0).key = (l.getD m ent0).key
      · rw [if_pos ⟨hne, h1⟩, Lib.keeps_neg (by omega) (by rw [hk m (by omega), hk (m - 1) (by omega), h1])]
        simp
      · rw [if_neg (fun hh => h1 hh.2), Lib.keeps_pos (by
          rw [hk m (by omega), hk (m - 1) (by omega)]
          intro hh
          exact h1 (ba_ext hh).symm), if_pos rfl]
theorem keysC_is (l : List Ent) : keysC l = Lib.compact (keysL l) := by
  have := keysC_upto l l.length (Nat.le_refl _)
  rw [List.take_length] at this
  rw [this]; unfold Lib.compact; simp [keysL]
theorem own_strs {w : World} {B n : Nat} {a : Option Addr} {m cap : Nat} {zs : List (List UInt8)} (h : w.ownsRow B 9 1 (.slice a m cap) n (zs.map encStr)) : m = n ∧ n ≤ cap ∧ cap ≤ 9223372036854775807 ∧ Row w a n (fun i => .string ((zs.map str).getD i ByteArray.empty)) := by
  have hl : zs.length = n := by simpa using h.1
  rcases h.2 with ⟨hv, h0⟩ | ⟨g, cap', cur, hv, hB, hg, hnc, hm, hs, ht⟩
  · cases hv; exact ⟨h0.symm, by omega, by omega, .inl h0⟩
  · cases hv
    refine ⟨rfl, hnc, by unfold maxLen at hm; omega, .inr ⟨g, 0, rfl, lt_of_block hg, fun i hi => ?_⟩⟩
    have h2 := World.ownsRow.cellAt (w := w) (base := B) (e := 9) (size := 1) (g := g) (n := n) (cap := cap) (xs := zs.map encStr) ⟨h.1, .inr ⟨g, cap, cur, rfl, hB, hg, hnc, hm, hs, ht⟩⟩ i (by omega)
    rw [Nat.zero_add, h2]
    simp [List.getD_eq_getElem?_getD, List.getElem?_eq_getElem (show i < zs.length from by omega), encStr, str]
theorem strs_back (zs : List (List UInt8)) : (zs.map str).map (fun s => s.data.toList) = zs := by simp [Function.comp_def, str]
end Go.Proofs.YtpihmjdljbienaaGreatDoor.Tw
