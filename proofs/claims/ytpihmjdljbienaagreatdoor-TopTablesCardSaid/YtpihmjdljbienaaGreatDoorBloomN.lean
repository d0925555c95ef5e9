/- The walk of bloom.New. -/
import Derived.Test.YtpihmjdljbienaaGreatDoorBloomPl
import Derived.Test.YtpihmjdljbienaaGreatDoorGa
import Derived.Deep.QuietTactic
import Derived.BigQuiet
import Derived.Lib.SmallJoins
import Derived.Lib.MinMax
import Derived.Deep.OwnRows
namespace Go.Proofs.YtpihmjdljbienaaGreatDoor.Mw
open Go.RowKit
open Mp Fp B Fw
set_option linter.unusedVariables false

theorem made (z : Value) (n : Nat) : madeCells #[z] n = (List.replicate n z).toArray := by
  apply Array.ext
  · simp [madeCells]
  · intro i h1 h2
    simp [madeCells, Nat.mod_one]
theorem infoU8 : (Tryz.prog.info? 5).map (fun i => (i.zero, i.size, i.bytes)) = some (some (.int .u8 0), 1, 1) := by kernel_rfl
theorem Row.setCell {w : World} {a : Option Addr} {n : Nat} {f : Nat → Value} {p : Addr} (h : Row w a n f) (hp : ∀ q, a = some q → p.block < q.block) (v : Value) : Row (w.setCell p v) a n f := by
  rcases h with h | ⟨b, off, ha, hb, hc⟩
  · exact .inl h
  · have hne := hp _ ha
    have hk : b ≠ p.block := by simp at hne; omega
    refine .inr ⟨b, off, ha, Nat.lt_of_lt_of_le hb ((Below.refl 0 w).setCell (Nat.zero_le _) v).size, fun i hi => (World.cell?_of_block (w := w) (Below.heap_setCell w p v b hk)).trans (hc i hi)⟩
/-- a block of bytes -/
def Blk (w : World) (g : Nat) (l : List UInt8) : Prop := w.heap[g]? = some (.cells (l.map bv).toArray 5)
theorem Blk.below {w w' : World} {g : Nat} {l : List UInt8} (h : Blk w g l) (k : Below w.heap.size w w') : Blk w' g l := (k.block g (lt_of_block h)).trans h
theorem Blk.cell {w : World} {g i : Nat} {l : List UInt8} (h : Blk w g l) (hi : i < l.length) : w.cell? ⟨g, i, none⟩ = some (.int .u8 (l.getD i 0).toNat) := by
  rw [cell_of_row w _ _ _ _ _ h, List.getElem?_toArray, List.getElem?_map, List.getElem?_eq_getElem hi, List.getD_eq_getElem?_getD, List.getElem?_eq_getElem hi]
  rfl
theorem Blk.frozen {w : World} {g i : Nat} {l : List UInt8} (h : Blk w g l) : w.frozen? ⟨g, i, none⟩ = false := by
  unfold Blk at h
  simp only [World.frozen?, h]; simp
theorem Blk.set {w : World} {g i : Nat} {l : List UInt8} (h : Blk w g l) (z : UInt8) : Blk (w.setCell ⟨g, i, none⟩ (.int .u8 z.toNat)) g (l.set i z) := by
  have h2 := Joins.block_setCell h (i := i) (.int .u8 z.toNat)
  unfold Blk
  rw [h2]
  congr 2
  rw [List.setIfInBounds_toArray, List.map_set]
  rfl
theorem Blk.str {w : World} {g n cap : Nat} {l : List UInt8} (h : Blk w g l) (hn : n = l.length) :
    (convert 80 9 (.slice (some ⟨g, 0, none⟩) n cap)).run Tryz.prog w = .ok (.string (str l)) w :=
  conv_row (rest := []) Tryz.underlying80 Tryz.underlying5 Tryz.underlying9 (by rw [List.append_nil]; exact h) hn

theorem or_bits (y : UInt8) (k : Nat) (hk : k < 8) : bits .or .u8 (y.toNat : Int) (2 ^ k % 256) = ((UInt8.ofNat (y.toNat ||| 2 ^ k)).toNat : Int) := by
  have hy := UInt8.toNat_lt y
  have hp : 2 ^ k < 256 := Nat.lt_of_lt_of_le (Nat.pow_lt_pow_right (by omega) hk) (by decide)
  have e : ((2 : Int) ^ k % 256) = ((2 ^ k : Nat) : Int) := by
    have : ((2 : Int) ^ k) = ((2 ^ k : Nat) : Int) := by rw [Int.natCast_pow]; rfl
    rw [this]
    generalize 2 ^ k = q at hp ⊢
    omega
  rw [e, or_toNat _ _ hk]
  generalize 2 ^ k = q at hp
  have : ∀ a b : Fin 256, bits .or .u8 (a.val : Int) (b.val : Int) = ((a.val ||| b.val : Nat) : Int) := by decide +kernel
  exact this ⟨y.toNat, hy⟩ ⟨q, hp⟩
theorem set_cons1 (b : UInt8) (l : List UInt8) (p : Nat) (z : UInt8) (i : Nat) (hi : i = p / 8) (hz : z = UInt8.ofNat ((l.getD i 0).toNat ||| 2 ^ (p % 8))) : (b :: l).set (1 + i) z = b :: setBit l p := by
  subst hi hz
  rw [Nat.add_comm]
  rfl

set_option maxHeartbeats 1600000 in
set_option maxRecDepth 100000 in
theorem new_ok (bits : Nat) (a : Option Addr) (n cap : Nat) (ss : List ByteArray) (hb1 : 1 ≤ bits) (hb2 : bits ≤ 16) (hz : ss.length = n) (hn : n ≤ cap) (hm : cap ≤ 9223372036854775807) (hn6 : n ≤ 65536) (hs : ∀ s ∈ ss, s.size ≤ 2305843009213693952) (w : World) (hrow : Row w a n (fun i => .string (ss.getD i ByteArray.empty))) :
    Calls Tryz.prog 62 #[.int .i64 bits, .slice a n cap] w fun e w' => e = .returned (.tuple #[.string (str (filt bits (ss.map fun s => s.data.toList))), .int .i64 0]) ∧ Below w.heap.size w w' := by
  have t1 : decide (bits < 1) = false := df (by omega)
  have t2 : decide (16 < bits) = false := df (by omega)
  have t3 : decide (65536 < n) = false := df (by omega)
  have hfilt : filt bits (ss.map fun s => s.data.toList) = UInt8.ofNat (probN bits) :: marks (ss.map fun s => s.data.toList) (probN bits) (byteN bits n) := by rw [← hz]; unfold filt; rw [List.length_map]
  have hprl := probN_le bits
  have hnb1 := byteN_pos bits n
  have hnbl := byteN_le bits n hb2 hn6
  obtain ⟨b0, hb0⟩ : ∃ b0, b0 = UInt8.ofNat (probN bits) := ⟨_, rfl⟩
  obtain ⟨pr, hpr⟩ : ∃ pr, pr = probN bits := ⟨_, rfl⟩
  have e1 : max 1 (min 8 ((bits : Int) * 69 / 100)) = (pr : Int) := by rw [hpr]; unfold probN; omega
  obtain ⟨bn, hbn⟩ : ∃ bn, bn = bits * n := ⟨_, rfl⟩
  have hbnl : bn ≤ 16 * 65536 := by rw [hbn]; exact Nat.mul_le_mul hb2 hn6
  have e2 : (bits : Int) * (n : Int) = (bn : Int) := by rw [hbn, Int.natCast_mul]
  obtain ⟨nb, hnb⟩ : ∃ nb, nb = byteN bits n := ⟨_, rfl⟩
  have e3 : (max 64 (bn : Int) + 7) / 8 = (nb : Int) := by rw [hnb]; unfold byteN; omega
  have eb0 : pr = b0.toNat := by rw [hb0, UInt8.toNat_ofNat', hpr]; omega
  obtain ⟨sz, hsz⟩ : ∃ sz, sz = 8 * nb := ⟨_, rfl⟩
  have e4 : 8 * (nb : Int) = (sz : Int) := by omega
  obtain ⟨M, hM⟩ : ∃ M : Nat → List UInt8, M = fun j => marks ((ss.map fun s => s.data.toList).take j) pr nb := ⟨_, rfl⟩
  have hM0 : M 0 = List.replicate nb 0 := by rw [hM]; rfl
  have hMl : ∀ j, (M j).length = nb := by intro j; rw [hM]; exact marks_len _ _ _
  have hMs : ∀ j, j < n → M (j + 1) = (plsN (ss.getD j ByteArray.empty).data.toList pr sz).foldl setBit (M j) := by
    intro j hj
    rw [hM, hsz]
    show marks _ _ _ = List.foldl _ (marks _ _ _) _
    rw [← marks_step]
    congr 1
    rw [List.take_add_one, List.getElem?_map, List.getElem?_eq_getElem (by omega), List.getD_eq_getElem?_getD, List.getElem?_eq_getElem (by omega)]
    rfl
  have hMn : filt bits (ss.map fun s => s.data.toList) = b0 :: M n := by
    rw [hfilt, hM, hb0, ← hpr, ← hnb]
    show _ = _ :: marks _ _ _
    rw [List.take_of_length_le (by rw [List.length_map]; omega)]
  rw [hMn]
  rw [← hpr] at hprl
  rw [← hnb] at hnb1 hnbl
  have HM0 := Lib.hid hM0
  have HMl := Lib.hid hMl
  have HMs := Lib.hid hMs
  have HS := Lib.hid hs
  have HR := Lib.hid hrow
  have HZ := Lib.hid hz
  have HSZ := Lib.hid hsz
  have hszl : sz ≤ 16777216 := by omega
  have hsz1 : 1 ≤ sz := by omega
  clear hpr hbn hnb hb0
  subst eb0
  clear hM hM0 hMl hMs hMn hfilt hs hrow hz hsz
  have hmk := fun W : World => run_make_row' (P := Tryz.prog) 80 5 (.int .u8 0) 1 Tryz.underlying80 infoU8 rfl .i64 .i64 (1 + nb) (by omega) (by omega) W
  have ec : (((1 + nb : Nat)) : Int) = 1 + (nb : Int) := by omega
  rw [ec] at hmk
  have hb0 : Blk (w.alloc (.cells (madeCells #[.int .u8 0] (1 + nb)) 5)) w.heap.size (List.replicate (1 + nb) 0) := by
    unfold Blk
    rw [heap_alloc_new, made, List.map_replicate]; rfl
  have hc0 : (w.alloc (.cells (madeCells #[.int .u8 0] (1 + nb)) 5)).cell? ⟨w.heap.size, 0, none⟩ = some (.int .u8 0) := by
    rw [hb0.cell (by simp; omega)]; simp [Nat.add_comm 1 nb, List.replicate_succ]
  have hf0 := hb0.frozen (i := 0)
  have hb1 : Blk (w.alloc (.cells ((madeCells #[.int .u8 0] (1 + nb)).setIfInBounds 0 (.int .u8 (b0.toNat : Int))) 5)) w.heap.size (b0 :: M 0) := by
    unfold Blk
    rw [heap_alloc_new, made, List.setIfInBounds_toArray, Nat.add_comm 1 nb, List.replicate_succ, HM0.out, List.set_cons_zero, List.map_cons, List.map_replicate]; rfl
  have hbw : Below w.heap.size w (w.alloc (.cells ((madeCells #[.int .u8 0] (1 + nb)).setIfInBounds 0 (.int .u8 (b0.toNat : Int))) 5)) := (Below.refl _ _).alloc (Nat.le_refl _) _
  have HB1 := Lib.hid hb1
  clear hb0 hb1
  go_enter Tryz.func62, Tryz.ntmps62
  go_wp2_with fail
  clear e1 e2 e3 hmk ec hc0 hf0
  go_loopw [46] (fun i wr => ∃ j : Nat, i = .int .i64 j ∧ j ≤ n ∧ Blk wr w.heap.size (b0 :: M j) ∧ Below w.heap.size w wr) (fun i _ => n - (intOf i).toNat)
  case atStart => exact ⟨0, rfl, by omega, HB1.out, hbw⟩
  case round =>
    obtain ⟨j, rfl, hj, hblk, hbel⟩ := hrel
    by_cases hlt : j < n
    · obtain ⟨ab, aoff, rfl, hab, hac⟩ := (HR.out.below hbel).at (by omega)
      have hck := hac j hlt
      obtain ⟨s, hs⟩ : ∃ s, s = ss.getD j ByteArray.empty := ⟨_, rfl⟩
      have hsl : s.size ≤ 2305843009213693952 := by
        have hmem : s ∈ ss := by
          rw [hs, List.getD_eq_getElem?_getD, List.getElem?_eq_getElem (by rw [HZ.out]; exact hlt)]
          exact List.getElem_mem _
        exact HS.out s hmem
      have hms := HMs.out j hlt
      rw [← hs] at hms hck
      have HP := Lib.hid (fun W : World => places_ok s b0.toNat sz (by omega) (by omega) (by omega) (by omega) hsl W)
      have hpl := plsN_len s.data.toList b0.toNat sz
      have hplt := plsN_lt s.data.toList b0.toNat sz (by omega)
      generalize plsN s.data.toList b0.toNat sz = L at HP hpl hplt hms
      have HPL := Lib.hid hplt
      have HMS := Lib.hid hms
      have HBK := Lib.hid hblk
      have HLN := Lib.hid hpl
      clear hac hs hplt hms hblk hpl
      go_wp2_with fail
      refine (HP.out _).mono ?_
      rintro e w1 ⟨pa, pc, rfl, hrp, hfp, hbp⟩
      have hb1 := HBK.out.below hbp
      have HB1 := Lib.hid hb1
      have HRP := Lib.hid hrp
      have hbe1 := hbel.trans (hbp.mono hbel.size)
      have HFP := Lib.hid hfp
      have hAl : w.heap.size < wr.heap.size := lt_of_block HBK.out
      clear hb1 hrp hfp
      go_wp2_with fail
      obtain ⟨wo, hwo⟩ : ∃ wo : World, wo = wr := ⟨_, rfl⟩
      go_loopw [57] (fun i wi => ∃ q : Nat, i = .int .i64 q ∧ q ≤ L.length ∧ Blk wi w.heap.size (b0 :: (L.take q).foldl setBit (M j)) ∧ Row wi pa L.length (fun i => .int .i64 ((L.getD i 0 : Nat) : Int)) ∧ Below w.heap.size w wi) (fun i _ => L.length - (intOf i).toNat)
      case atStart => exact ⟨0, rfl, by omega, HB1.out, HRP.out, hbe1⟩
      case round =>
        obtain ⟨q, rfl, hq, hbk, hrp, hbe⟩ := hrel
        by_cases hql : q < L.length
        · have hmem : L.getD q 0 ∈ L := by rw [List.getD_eq_getElem?_getD, List.getElem?_eq_getElem hql]; exact List.getElem_mem _
          have hps := HPL.out _ hmem
          have hstep : (L.take (q + 1)).foldl setBit (M j) = setBit ((L.take q).foldl setBit (M j)) (L.getD q 0) := by
            rw [List.take_add_one, List.foldl_append, List.getElem?_eq_getElem hql, List.getD_eq_getElem?_getD, List.getElem?_eq_getElem hql]; rfl
          have hll : ((L.take q).foldl setBit (M j)).length = nb := by rw [sets_len, HMl.out]
          have hroww := hrp
          obtain ⟨b2, off2, rfl, hb2, hc2⟩ := hrp.at (by omega)
          have hce2 := hc2 q hql
          generalize L.getD q 0 = p at hmem hps hstep hce2
          generalize (L.take q).foldl setBit (M j) = l at hstep hll hbk
          obtain ⟨pd, hpd⟩ : ∃ pd, pd = p / 8 := ⟨_, rfl⟩
          obtain ⟨pm, hpm⟩ : ∃ pm, pm = p % 8 := ⟨_, rfl⟩
          have e5 : (p : Int) / 8 = (pd : Int) := by omega
          have e6 : (p : Int) % 8 = (pm : Int) := by omega
          have hpm8 : pm < 8 := by omega
          have hpdn : pd < nb := by have := HSZ.out; omega
          have hce := hbk.cell (i := 1 + pd) (by rw [List.length_cons]; omega)
          have hfz := hbk.frozen (i := 1 + pd)
          have hgd : (b0 :: l).getD (1 + pd) 0 = l.getD pd 0 := by rw [Nat.add_comm]; rfl
          rw [hgd] at hce
          obtain ⟨z, hz⟩ : ∃ z, z = UInt8.ofNat ((l.getD pd 0).toNat ||| 2 ^ pm) := ⟨_, rfl⟩
          have hor := or_bits (l.getD pd 0) pm hpm8
          rw [← hz] at hor
          have hset := hbk.set (i := 1 + pd) z
          rw [set_cons1 b0 l p z pd hpd (by rw [hz, hpm]), ← hstep] at hset
          have hrow3 := Row.setCell (p := ⟨w.heap.size, 1 + pd, none⟩) hroww (fun x hx => by have := HFP.out x hx; show w.heap.size < x.block; omega) (.int .u8 z.toNat)
          have hbe3 := hbe.setCell (p := ⟨w.heap.size, 1 + pd, none⟩) (Nat.le_refl _) (.int .u8 z.toNat)
          have HST := Lib.hid hset
          have HR3 := Lib.hid hrow3
          generalize l.getD pd 0 = y at hce hor
          clear hmem hps hstep hll hroww hrp hc2 hbk hpd hpm hgd hz hset hrow3
          have hq9 : q ≤ 8 := by have := HLN.out; omega
          go_wp2_with fail
          go_region
          all_goals
            go_wp2_with fail
            go_roundw
            case rel => exact ⟨q + 1, by go_num, by omega, HST.out, HR3.out, hbe3.drew⟩
            case measure => simp [intOf]; omega
        · have hqe : q = L.length := by omega
          have hfin : Blk wr w.heap.size (b0 :: M (j + 1)) := by
            rw [HMS.out]
            rw [hqe, List.take_length] at hbk
            exact hbk
          have HFI := Lib.hid hfin
          clear hrp hbk hqe hfin
          go_wp2_with fail
          go_roundw
          case rel => exact ⟨j + 1, by go_num, by omega, HFI.out, hbe⟩
          case measure => simp [intOf]; omega
    · obtain rfl : n = j := by omega
      have hcv := hblk.str (n := 1 + nb) (cap := 1 + nb) (by rw [List.length_cons, HMl.out]; omega)
      clear hblk
      go_wp2_with fail
      go_ret2
      exact ⟨rfl, hbel⟩

set_option maxHeartbeats 400000 in
theorem new_bad (bits : Int) (a : Option Addr) (n cap : Nat) (h : bits < 1 ∨ 16 < bits) (w : World) :
    Calls Tryz.prog 62 #[.int .i64 bits, .slice a n cap] w fun e w' => e = .returned (.tuple #[.string ⟨#[]⟩, .int .i64 2]) ∧ w = w' := by
  by_cases h1 : bits < 1
  · have t1 : decide (bits < 1) = true := dt h1
    clear h
    go_enter Tryz.func62, Tryz.ntmps62
    go_wp2_with fail
    go_ret2
    exact ⟨rfl, rfl⟩
  · have t1 : decide (bits < 1) = false := df h1
    have t2 : decide (16 < bits) = true := dt (by omega)
    clear h
    go_enter Tryz.func62, Tryz.ntmps62
    go_wp2_with fail
    go_ret2
    exact ⟨rfl, rfl⟩

set_option maxHeartbeats 400000 in
theorem new_many (bits : Nat) (a : Option Addr) (n cap : Nat) (h1 : 1 ≤ bits) (h2 : bits ≤ 16) (h : 65536 < n) (w : World) :
    Calls Tryz.prog 62 #[.int .i64 bits, .slice a n cap] w fun e w' => e = .returned (.tuple #[.string ⟨#[]⟩, .int .i64 5]) ∧ w = w' := by
  have t1 : decide (bits < 1) = false := df (by omega)
  have t2 : decide (16 < bits) = false := df (by omega)
  have t3 : decide (65536 < n) = true := dt h
  go_enter Tryz.func62, Tryz.ntmps62
  go_wp2_with fail
  go_ret2
  exact ⟨rfl, rfl⟩

/-- a filter and an error -/
def GotM (w : World) (m : List UInt8 × Int) (e : Ending) (w' : World) : Prop :=
  e = .returned (.tuple #[.string (str m.1), .int .i64 m.2]) ∧ Below w.heap.size w w'
theorem new_any (bits : Int) (a : Option Addr) (n cap : Nat) (ss : List ByteArray) (hz : ss.length = n) (hn : n ≤ cap) (hm : cap ≤ 9223372036854775807) (hs : ∀ s ∈ ss, s.size ≤ 2305843009213693952) (w : World) (hrow : Row w a n (fun i => .string (ss.getD i ByteArray.empty))) :
    Calls Tryz.prog 62 #[.int .i64 bits, .slice a n cap] w (GotM w (mk bits (ss.map fun s => s.data.toList))) := by
  unfold mk
  rw [List.length_map, hz]
  by_cases h : bits < 1 ∨ 16 < bits
  · rw [if_pos h]
    refine (new_bad bits a n cap h w).mono ?_
    rintro e w' ⟨rfl, rfl⟩
    exact ⟨rfl, Below.refl _ _⟩
  · rw [if_neg h]
    obtain ⟨b, rfl⟩ := Int.eq_ofNat_of_zero_le (show 0 ≤ bits by omega)
    by_cases h2 : 65536 < n
    · rw [if_pos h2]
      refine (new_many b a n cap (by omega) (by omega) h2 w).mono ?_
      rintro e w' ⟨rfl, rfl⟩
      exact ⟨rfl, Below.refl _ _⟩
    · rw [if_neg h2]
      exact new_ok b a n cap ss (by omega) (by omega) hz hn hm (by omega) hs w hrow

end Go.Proofs.YtpihmjdljbienaaGreatDoor.Mw
