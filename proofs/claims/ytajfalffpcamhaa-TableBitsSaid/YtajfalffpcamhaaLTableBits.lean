/- TableBits: of a table in which one bit is turned either it can't be opened, or no entry is told that wasn't put. No condition on the input. -/
import Derived.Test.YtajfalffpcamhaaTabQ
import Derived.Test.YtajfalffpcamhaaTabL
import Derived.BigQuiet
import Derived.Deep.QuietTactic
import Derived.Lib.SmallJoins
import Derived.ProofKit
import Derived.OpenShut
import Derived.ShutString
import Derived.ChangeOld
import Derived.Below
import Derived.SizedLaws
import Derived.Test.YtajfalffpcamhaaOpen
import Derived.Test.YtajfalffpcamhaaOpenE
namespace Go.Proofs.Ytajfalffpcamhaa.tableBits
open Go.ChangeShapes Go.WideShapes Go.ChangeAt Go.RowKit
open Go.ChangeMaps (open_string shut_string)
set_option linter.unusedVariables false
open Tw Tb En Ew B Vp Fp

theorem xor_bits (y : UInt8) (k : Nat) (hk : k < 8) : bits .xor .u8 (y.toNat : Int) (2 ^ k % 256) = ((UInt8.ofNat (y.toNat ^^^ 2 ^ k)).toNat : Int) := by
  have hy := UInt8.toNat_lt y
  have hp : 2 ^ k < 256 := Nat.lt_of_lt_of_le (Nat.pow_lt_pow_right (by omega) hk) (by decide)
  have hx : y.toNat ^^^ 2 ^ k < 256 := Nat.xor_lt_two_pow (n := 8) hy hp
  have e : ((2 : Int) ^ k % 256) = ((2 ^ k : Nat) : Int) := by
    have : ((2 : Int) ^ k) = ((2 ^ k : Nat) : Int) := by rw [Int.natCast_pow]; rfl
    rw [this]
    generalize 2 ^ k = q at hp ⊢
    omega
  rw [e, u8_xor_nat _ _ hy hp, UInt8.toNat_ofNat', Nat.mod_eq_of_lt (by omega)]
theorem xor_bits0 (y : UInt8) : bits .xor .u8 (y.toNat : Int) 1 = ((UInt8.ofNat (y.toNat ^^^ 2 ^ 0)).toNat : Int) := xor_bits y 0 (by omega)
theorem set_row (l : List UInt8) (rest : List Value) (p : Nat) (y : UInt8) (h : p < l.length) : (l.map bv ++ rest).toArray.setIfInBounds p (bv y) = ((l.set p y).map bv ++ rest).toArray := by
  simp [List.set_append_left, h, List.map_set]
/-- a bit turned is another byte -/
theorem turned (y : UInt8) (k : Nat) (hk : k < 8) : UInt8.ofNat (y.toNat ^^^ 2 ^ k) ≠ y := by
  intro h
  have h1 := congrArg UInt8.toNat h
  have hy := UInt8.toNat_lt y
  have hp : 2 ^ k < 256 := Nat.lt_of_lt_of_le (Nat.pow_lt_pow_right (by omega) hk) (by decide)
  have hx : y.toNat ^^^ 2 ^ k < 256 := Nat.xor_lt_two_pow (n := 8) hy hp
  rw [UInt8.toNat_ofNat', Nat.mod_eq_of_lt (by omega)] at h1
  have h2 : (y.toNat ^^^ 2 ^ k).testBit k = y.toNat.testBit k := by rw [h1]
  rw [Nat.testBit_xor, Nat.testBit_two_pow_self] at h2
  cases y.toNat.testBit k <;> simp at h2
theorem bytesRow_eq (l : List UInt8) (cap : Nat) : bytesRow (str l) cap = (l.map bv ++ List.replicate (cap - l.length) (Value.int .u8 0)).toArray := by
  unfold bytesRow
  rw [str_size]
  simp [str, bv]

set_option maxHeartbeats 3200000 in
set_option maxRecDepth 100000 in
theorem walk (a0 : Option Addr) (n0 c0 : Nat) (z : List Ent) (bit : Int) (key : ByteArray) (w : World)
    (f0 : z.length = n0 ∧ n0 ≤ c0 ∧ n0 * 56 ≤ 140737488351232 ∧ (∀ e ∈ z, Fits e) ∧ ERow w a0 n0 (fun i => z.getD i ent0)) (hbi : -9223372036854775808 ≤ bit ∧ bit ≤ 9223372036854775807) (hks : key.size ≤ 140737488351232) :
    Calls Try.prog 7 #[.slice a0 n0 c0, .int .i64 bit, .string key] w fun e w' => e = .returned (.bool true) ∧ Below w.heap.size w w' := by
  obtain ⟨hl, hc, hn, hfit, hrow⟩ := f0
  have HLS := Lib.hid (lists11_any a0 n0 c0 z hl hc w hrow)
  have hfL : ∀ e ∈ z.take 3000, Fits e := fun e he => hfit e (List.mem_of_mem_take he)
  have hLl : (z.take 3000).length ≤ 3000 := by rw [List.length_take]; omega
  generalize z.take 3000 = L at HLS hfL hLl
  have HW := Lib.hid wakes11_any
  have HBU := Lib.hid (fun a c h1 h2 W hr => tbuild_any a L.length c L rfl h1 h2 hfL 40 10 W hr)
  have hbo := fun T (h : tabB L 40 10 = (T, 0)) => built_of h hfL
  generalize tabB L 40 10 = t at HBU hbo
  obtain ⟨T, te⟩ := t
  simp only [retB] at HBU
  have HBO := Lib.hid hbo
  clear hl hc hn hfit hrow hbo hfL
  by_cases h0 : te = 0
  case neg =>
    have d1 : (te != 0) = true := nt h0
    go_enter Try.func7, Try.ntmps7
    go_wp2_with fail
    refine HLS.out.mono ?_
    rintro e w1 ⟨a1, c1, a2, c2, rfl, ho1, _, hb1⟩
    have HB1 := Lib.hid hb1
    have HR1 := Lib.hid (own_erow ho1).2.2
    have hcp := cap_own ho1
    clear ho1 hb1 HLS
    go_wp2_with fail
    refine (HBU.out _ _ hcp.1 hcp.2 _ HR1.out).mono ?_
    rintro e w2 ⟨rfl, hb2⟩
    have HB2 := Lib.hid (chain HB1.out hb2)
    clear hb2 HB1 HR1 HBU
    go_wp2_with fail
    refine (HW.out _).mono ?_
    rintro e w3 ⟨rfl, hb3⟩
    have HB3 := Lib.hid (chain HB2.out hb3)
    clear hb3 HB2
    go_wp2_with fail
    refine (HW.out _).mono ?_
    rintro e w4 ⟨rfl, hb4⟩
    have HB4 := Lib.hid (chain HB3.out hb4)
    clear hb4
    go_wp2_with fail
    go_ret
    exact ⟨rfl, HB4.out⟩
  subst h0
  obtain ⟨cs, f, hB⟩ := HBO.out T rfl
  have hTz : T.length ≤ 140737488351232 ∧ 24 ≤ T.length := by
    have h1 := whole_len (frAll cs) (bts cs.length ++ ixAll cs 0) f
    have h2 := hB.frl
    have h3 := frm_len (bts cs.length ++ ixAll cs 0)
    have h4 := frm_len f
    have h5 := hB.ixs
    have h6 := hB.short
    rw [hB.is]; omega
  have HTU := Lib.hid (fun p z hp hz => hB.turn p z hp hz key)
  obtain ⟨hT1, hT2⟩ := hTz
  obtain ⟨n, hTn⟩ : ∃ n, T.length = n := ⟨_, rfl⟩
  have hszT : (str T).size = n := by rw [str_size, hTn]
  rw [hTn] at hT1 hT2 HTU
  obtain ⟨c, hc⟩ : ∃ c : Nat, (c : Int) = max 0 bit % (8 * (n : Int)) := ⟨(max 0 bit % (8 * (n : Int))).toNat, Int.toNat_of_nonneg (Int.emod_nonneg _ (by omega))⟩
  have hcl : c < 8 * n := by have := Int.emod_lt_of_pos (max 0 bit) (show (0 : Int) < 8 * (n : Int) by omega); omega
  have hcm : max 0 bit % (8 * (n : Int)) = (c : Int) := hc.symm
  obtain ⟨p, hp⟩ : ∃ p, p = c / 8 := ⟨_, rfl⟩
  obtain ⟨k, hk⟩ : ∃ k, k = c % 8 := ⟨_, rfl⟩
  have hpL : p < n := by omega
  have hk8 : k < 8 := by omega
  have hcp0 : (c : Int) / 8 = (p : Int) := by omega
  have hck : (c : Int) % 8 = (k : Int) := by omega
  have hse : ((n : Int) == 0) = false := ef (by omega)
  have hcv := fun W : World => run_bytes_of_string (P := Try.prog) W 9 64 5 (str T) Try.underlying9 Try.underlying64 Try.underlying5
  have HTN := Lib.hid hTn
  clear hp hk hc HBO hB hTn
  go_enter Try.func7, Try.ntmps7
  go_wp2_with fail
  refine HLS.out.mono ?_
  rintro e w1 ⟨a1, c1, a2, c2, rfl, ho1, _, hb1⟩
  have HB1 := Lib.hid hb1
  have HR1 := Lib.hid (own_erow ho1).2.2
  have hcp := cap_own ho1
  clear ho1 hb1 HLS
  go_wp2_with fail
  refine (HBU.out _ _ hcp.1 hcp.2 _ HR1.out).mono ?_
  rintro e w2 ⟨rfl, hb2⟩
  have HB2 := Lib.hid (chain HB1.out hb2)
  have HR2 := Lib.hid (HR1.out.below hb2)
  clear hb2 HB1 HR1 HBU
  go_wp2_with fail
  refine (HW.out _).mono ?_
  rintro e w3 ⟨rfl, hb3⟩
  have HB3 := Lib.hid (chain HB2.out hb3)
  have HR3 := Lib.hid (HR2.out.below hb3)
  clear hb3 HB2 HR2
  have HCM := Lib.hid hcm
  clear hcm
  go_upto_region 5 with fail
  go_cut [1] (fun s1 wx => s1 = .int .i64 c ∧ wx = w3)
  case first =>
    go_wp2_with fail
    all_goals go_meet
    all_goals exact ⟨by rw [HCM.out], rfl⟩
  case rest =>
  obtain ⟨rfl, hcw⟩ := hcut
  subst hcw
  go_wp2_with fail
  have hrow2 := bytesRow_eq T (grownCap wc n 0 5)
  have hcapL := grownCap_ge wc n 0 5
  have hrsz : (bytesRow (str T) (grownCap wc n 0 5)).size = grownCap wc n 0 5 := by rw [hrow2]; simp [HTN.out]; omega
  have hhe : (wc.alloc (.cells (bytesRow (str T) (grownCap wc n 0 5)) 5 ((bytesRow (str T) (grownCap wc n 0 5)).size, (bytesRow (str T) (grownCap wc n 0 5)).size + 1))).drew.heap[wc.heap.size]? = some (.cells (T.map bv ++ List.replicate (grownCap wc n 0 5 - n) (Value.int .u8 0)).toArray 5 (grownCap wc n 0 5, grownCap wc n 0 5 + 1)) := by
    rw [hrsz]
    have h := heap_alloc_new wc (.cells (bytesRow (str T) (grownCap wc n 0 5)) 5 (grownCap wc n 0 5, grownCap wc n 0 5 + 1))
    rw [hrow2, HTN.out] at h ⊢
    exact h
  have hb2 : Below wc.heap.size wc (wc.alloc (.cells (bytesRow (str T) (grownCap wc n 0 5)) 5 ((bytesRow (str T) (grownCap wc n 0 5)).size, (bytesRow (str T) (grownCap wc n 0 5)).size + 1))).drew := ((Below.refl _ _).alloc (Nat.le_refl _) _).drew
  clear hrsz hrow2 hcv
  generalize (wc.alloc (.cells (bytesRow (str T) (grownCap wc n 0 5)) 5 ((bytesRow (str T) (grownCap wc n 0 5)).size, (bytesRow (str T) (grownCap wc n 0 5)).size + 1))).drew = w2 at hhe hb2 ⊢
  generalize grownCap wc n 0 5 = gc at hhe hcapL ⊢
  have hpl : p < T.length := by rw [HTN.out]; omega
  obtain ⟨y, hy⟩ : ∃ y, y = T.getD p 0 := ⟨_, rfl⟩
  have hce : w2.cell? ⟨wc.heap.size, p, none⟩ = some (.int .u8 y.toNat) := by
    rw [cell_of_row w2 _ _ _ _ _ hhe]
    simp only [List.getElem?_toArray]
    rw [List.getElem?_append_left (by simpa using hpl), List.getElem?_map, List.getElem?_eq_getElem hpl, hy, List.getD_eq_getElem?_getD, List.getElem?_eq_getElem hpl]
    rfl
  have hfz : w2.frozen? ⟨wc.heap.size, p, none⟩ = false := by
    simp only [World.frozen?, hhe]; simp; omega
  obtain ⟨z, hz⟩ : ∃ z, z = UInt8.ofNat (y.toNat ^^^ 2 ^ k) := ⟨_, rfl⟩
  have hx := xor_bits y k hk8
  rw [← hz] at hx
  have hzy : z ≠ T.getD p 0 := by rw [← hy, hz]; exact turned y k (by omega)
  have hset : (w2.setCell ⟨wc.heap.size, p, none⟩ (.int .u8 z.toNat)).drew.heap[wc.heap.size]? = some (.cells ((T.set p z).map bv ++ List.replicate (gc - n) (Value.int .u8 0)).toArray 5 (gc, gc + 1)) := by
    have h := Joins.block_setCell hhe (i := p) (.int .u8 z.toNat)
    rw [show Value.int .u8 z.toNat = bv z from rfl, set_row _ _ _ _ hpl] at h
    exact h
  have hcv := conv_row (P := Try.prog) (dst := 9) Try.underlying64 Try.underlying5 Try.underlying9 hset (n := n) (cap := gc) (by rw [List.length_set, HTN.out])
  have hb3 : Below wc.heap.size wc (w2.setCell ⟨wc.heap.size, p, none⟩ (.int .u8 z.toNat)).drew := (hb2.setCell (p := ⟨wc.heap.size, p, none⟩) (Nat.le_refl _) _).drew
  have HQ := Lib.hid (HTU.out p z hpL hzy)
  have hsl : (str (T.set p z)).size = n := by rw [str_size, List.length_set, HTN.out]
  obtain ⟨s, hs⟩ : ∃ s, str (T.set p z) = s := ⟨_, rfl⟩
  rw [hs] at HQ hcv hsl
  have HB4 := Lib.hid (chain HB3.out hb3)
  have HR4 := Lib.hid (HR3.out.below hb3)
  clear hhe hy hpl hz hzy hset HTU hs HB3 HR3
  go_region
  clear hce hfz hx hb2 hb3
  go_wp2_with fail
  generalize (w2.setCell ⟨wc.heap.size, p, none⟩ (.int .u8 z.toNat)).drew = w4 at HB4 HR4 ⊢
  clear hcv
  refine (source_any s _).mono ?_
  rintro e w5 ⟨rfl, rfl⟩
  have HC5 : Hid (Cell1 (w4.alloc (.cells #[.string s] 9)) w4.heap.size 9 (.string s)) := heap_alloc_new _ _
  have hba := below_alloc (Below.refl w4.heap.size w4) (.cells #[.string s] 9)
  have HB5 := Lib.hid (chain HB4.out hba)
  have HR5 := Lib.hid (HR4.out.below hba)
  generalize hW : World.alloc _ _ = W5 at HC5 HB5 HR5 ⊢
  clear hW hba HB4 HR4
  generalize w4.heap.size = g at HC5 ⊢
  have HOP := Lib.hid (fun g W hc => open_any g s (by omega) (n : Nat) (by omega) W hc)
  have hgd := @open_good s (n : Nat)
  generalize openB s (n : Nat) = r at HOP HQ hgd
  obtain ⟨sp, fl, re⟩ := r
  simp only at hgd HQ
  go_wp2_with fail
  refine (HOP.out g _ HC5.out).mono ?_
  rintro e w6 ⟨hb6, hor⟩
  have HB6 := Lib.hid (chain HB5.out hb6)
  have HR6 := Lib.hid (HR5.out.below hb6)
  by_cases h0 : re = 0
  case neg =>
    have he : e = .returned (.tuple #[.pointer none, .int .i64 re]) := by
      rcases hor with ⟨h, _⟩ | ⟨_, h⟩
      · exact absurd h h0
      · exact h
    subst he
    have d1 : (re != 0) = true := nt h0
    clear hor hb6 HOP hgd HQ
    go_wp2_with fail
    go_ret
    exact ⟨rfl, HB6.out⟩
  subst h0
  obtain ⟨tb, rfl, hT6⟩ : ∃ tb, e = .returned (.tuple #[.pointer (some ⟨tb, 0, none⟩), .int .i64 0]) ∧ TBox w6 tb g s sp fl := by
    rcases hor with ⟨_, h⟩ | ⟨h, _⟩
    · exact h
    · exact absurd rfl h
  obtain ⟨hss, hl⟩ := hgd rfl
  have HALL := Lib.hid (fun tb g W h => all_any tb g s fl (by omega) sp hss hl key W h)
  have HQ2 : Hid (allB s sp key = (L.filter (fromK key), 0) ∨ ((allB s sp key).1 = [] ∧ (allB s sp key).2 ≠ 0)) := by
    rcases HQ.out with h | ⟨_, h⟩
    · exact absurd rfl h
    · exact h
  have HT6 := Lib.hid hT6
  generalize allB s sp key = q at HALL HQ2
  clear hor hb6 HOP hgd HQ hT6 hss hl HC5 HB5 HR5
  rcases HQ2.out with h | ⟨h1, h2⟩
  case inr =>
    obtain ⟨ql, qe⟩ := q
    simp only at h1 h2
    subst h1
    have d1 : (qe != 0) = true := nt h2
    clear HQ2
    go_wp2_with fail
    refine (HALL.out tb g _ HT6.out).mono ?_
    rintro e w7 ⟨am, cm, rfl, hO7, hb7⟩
    have HB7 := Lib.hid (chain HB6.out hb7)
    clear hO7 hb7
    simp only [List.length_nil]
    go_wp2_with fail
    go_ret
    exact ⟨rfl, HB7.out⟩
  subst h
  clear HQ2
  go_wp2_with fail
  refine (HALL.out tb g _ HT6.out).mono ?_
  rintro e w7 ⟨am, cm, rfl, hO7, hb7⟩
  have HB7 := Lib.hid (chain HB6.out hb7)
  have HR7 := Lib.hid (HR6.out.below hb7)
  have hcm := cap_own hO7
  have HM7 := Lib.hid (own_erow hO7).2.2
  simp only at hcm HM7 ⊢
  clear hO7 hb7 HB6 HR6 HALL HT6
  go_wp2_with fail
  go_loopw [14, 84] (fun sm si wr => ∃ (j : Nat) (N : List Ent) (a : Option Addr) (c : Nat), si = .int .i64 j ∧ sm = .slice a N.length c ∧ j ≤ L.length ∧ N.length ≤ c ∧ c ≤ 9223372036854775807 ∧ Hid (N = (L.drop j).filter (fromK key)) ∧ Hid (ERow w7 a N.length (fun i => N.getD i ent0)) ∧ Below w7.heap.size w7 wr) (fun sm si _ => L.length - (intOf si).toNat)
  case atStart => exact ⟨0, L.filter (fromK key), am, cm, rfl, rfl, by omega, hcm.1, hcm.2, by show _ = _; rw [List.drop_zero], HM7.out, Below.refl _ _⟩
  case round =>
    obtain ⟨j, N, a, c, rfl, rfl, hj, hnc, hc9, hN, hrow, hbel⟩ := hrel
    by_cases hlt : j < L.length
    · obtain ⟨b1, o1, rfl, hl1, hc1⟩ := (HR7.out.below hbel).at (by omega)
      have hd := hc1 j hlt
      have hN2 : N = if fromK key (L.getD j ent0) = true then L.getD j ent0 :: (L.drop (j + 1)).filter (fromK key) else (L.drop (j + 1)).filter (fromK key) := by
        rw [hN.out, List.drop_eq_getElem_cons hlt, List.filter_cons]
        simp only [List.getD_eq_getElem?_getD, List.getElem?_eq_getElem hlt, Option.getD_some]
      obtain ⟨N', hN'⟩ : ∃ N', N' = (L.drop (j + 1)).filter (fromK key) := ⟨_, rfl⟩
      rw [← hN'] at hN2
      have HN' := Lib.hid hN'
      generalize L.getD j ent0 = x at hd hN2
      obtain ⟨xk, xq, xg, xv, xu⟩ := x
      simp only at hd
      obtain ⟨x0, x1, x2, x3, x4⟩ := hd
      have i1 : (0 : Int) ≤ (j : Int) := by omega
      have i2 : (j : Int) < (L.length : Int) := by omega
      have hlss := lssS xk key
      have HBL := Lib.hid (hbel.trans ((below_alloc (Below.refl wr.heap.size wr) (.cells #[.string xk, .int .i64 xq, .bool xg, .string xv, .int .i64 xu] 57)).mono hbel.size))
      clear hc1 hN hN'
      by_cases hfb : cmpK xk key < 0
      · have hl2 : Op.bytesLess xk.toList key.toList = true := by rw [hlss]; exact dt hfb
        have hN3 : N = N' := by rw [hN2, if_neg (by simp [fromK, hfb])]
        subst hN3
        clear hN2 hlss hfb hbel
        go_wp2_with fail
        go_roundw
        case rel => exact ⟨j + 1, N, a, c, by go_num, rfl, by omega, hnc, hc9, HN'.out, hrow.out, HBL.out⟩
        case measure => simp [intOf]; omega
      · have hl2 : Op.bytesLess xk.toList key.toList = false := by rw [hlss]; exact df hfb
        have hN3 : N = ⟨xk, xq, xg, xv, xu⟩ :: N' := by rw [hN2, if_pos (by simp [fromK, hfb])]
        subst hN3
        obtain ⟨n', hn'⟩ : ∃ n', N'.length = n' := ⟨_, rfl⟩
        have hrw := hrow.out.below hbel
        rw [List.length_cons, hn'] at hrw hnc
        obtain ⟨b2, o2, rfl, hl2, hc2⟩ := hrw.at (by omega)
        have hd2 := hc2 0 (by omega)
        simp only [Nat.zero_mul, Nat.add_zero, List.getD_cons_zero] at hd2
        obtain ⟨p0, p1, p2, p3, p4⟩ := hd2
        have hne1 : ∀ W : World, (binOp .neq 57 (.agg #[.string xk, .int .i64 xq, .bool xg, .string xv, .int .i64 xu]) (.agg #[.string xk, .int .i64 xq, .bool xg, .string xv, .int .i64 xu])).run Try.prog W = .ok (.bool false) W := fun W => by rw [neq_api, eqE_refl]; rfl
        have z0 : (((n' + 1 : Nat) : Int) == 0) = false := ef (by omega)
        have HRW := Lib.hid hrow.out
        have HNN := Lib.hid hn'
        rw [List.length_cons, hn']
        clear hN2 hlss hfb hrw hc2 hn' hrow hbel
        go_wp2_with fail
        go_quiet (fail)
        go_wp2_with fail
        have hA6 : ERow w7 (if c = 1 then some ⟨b2, o2, none⟩ else some ⟨b2, o2 + 5, none⟩) n' (fun i => N'.getD i ent0) := by
          by_cases h : c = 1
          · exact .inl (by omega)
          · rw [if_neg h]
            have h9 := HRW.out
            rw [List.length_cons, HNN.out] at h9
            have h8 := (erow_drop (c := 1) h9).congr (g := fun i => N'.getD i ent0) fun i hi => by simp [Nat.add_comm 1 i]
            rw [Nat.one_mul, Nat.add_sub_cancel] at h8
            exact h8
        have HA6 := Lib.hid hA6
        clear hA6
        generalize (if c = 1 then some (⟨b2, o2, none⟩ : Addr) else some ⟨b2, o2 + 5, none⟩) = a6 at HA6 ⊢
        rw [← HNN.out] at HA6 ⊢
        go_roundw
        case rel => exact ⟨j + 1, N', a6, c - 1, by go_num, rfl, by omega, by have := HNN.out; omega, by omega, HN'.out, HA6.out, drewN HBL.out⟩
        case measure => simp [intOf]; omega
    · obtain rfl : j = L.length := by omega
      have hN0 : N = [] := by rw [hN.out, List.drop_length]; rfl
      subst hN0
      have HB8 := Lib.hid (chain HB7.out hbel)
      clear hbel
      go_wp2_with fail
      go_ret
      exact ⟨rfl, HB8.out⟩

theorem entT : Op.EntT Try.prog 69 ((match Try.prog.underlying 69 with | some (.struct fs) => fs | _ => #[])) := by
  rw [Try.underlying69]
  exact ⟨Try.underlying69, by kernel_rfl, by kernel_rfl, ⟨_, rfl, Try.underlying9⟩, ⟨_, rfl, Try.underlying2⟩, ⟨_, rfl, Try.underlying4⟩, ⟨_, rfl, Try.underlying9⟩, ⟨_, rfl, Try.underlying2⟩, rfl⟩
theorem bd64 {n : Int} (h : (Lit.int .i64 n).wf = true) : -9223372036854775808 ≤ n ∧ n ≤ 9223372036854775807 := by
  simpa [Lit.wf, IntKind.min, IntKind.max, IntKind.signed, IntKind.bits] using h


theorem own : ownKnob Try.prog.godebug = none := by kernel_rfl
theorem laidOut : laidOutB Try.prog = true := by kernel_rfl

set_option maxRecDepth 100000 in
theorem lifted (os : Os) (started : os.Started) (H : Type) (enc : TypeId × Value → H) :
    ReturnsInHanded {} Try.checked os 7 .any (Rows.tableBitsSpec.pre6 enc Try.prog Try.f7 Rows.tableBitsRow.domain false) (Rows.tableBitsSpec.post enc Try.prog Try.f7 false true false false) := by
  refine returnsInHanded_of_change_sized (C := Try.checked) own started (by kernel_rfl) Try.func7
    (ChangeSpec.witness6 (enc := enc) (C := Try.checked) false ⟨#[], #[.slice none 0 0, .int .i64 0, .string ByteArray.empty], []⟩ 8 (by kernel_rfl) (by kernel_rfl) (by kernel_rfl) (by kernel_rfl)) ?_
  intro W base args ds gs before hval0 hW hcnd hsz0 _
  have hval : ∀ (j : Nat) t v, Try.f7.params[j]? = some t → args[j]? = some v → Value.okWide Try.prog W .any base t v := hval0
  have hsz : (DataW.weightsEach Try.prog (Try.f7.params.toList ++ Rows.tableBitsSpec.plain.varTypes Try.prog) (ds ++ gs)).all (· ≤ reachBytes) = true := hsz0
  have hW' := hW
  obtain ⟨p, q, hA0, hV, rfl, hfz, hnd⟩ := hW
  have hA : DataW.TrodAll enc Try.prog W 0 (fun _ => true) true Try.f7.params.toList args.toList ds p := hA0
  rw [Try.params7] at hA hval hsz
  obtain ⟨v0, vs0, d0, ds0, p0, q0, hargs, rfl, rfl, h0, r0⟩ := trodAll_cons hA
  obtain ⟨v1, vs1, d1, ds1, p1, q1, rfl, rfl, rfl, h1, r1⟩ := trodAll_cons r0
  obtain ⟨v2, vs2, d2, ds2, p2, q2, rfl, rfl, rfl, h2, r2⟩ := trodAll_cons r1
  obtain ⟨rfl, rfl, rfl⟩ := trodAll_nil r2
  obtain rfl : args = #[v0, v1, v2] := by cases args; simp_all
  obtain ⟨rfl, rfl⟩ := trodVars_none hV
  have k0 := h0
  have lt0 : ∀ x ∈ p0, x.block < W.heap.size := by obtain ⟨m, hm⟩ := k0; exact DataW.trod_lt m _ _ _ hm
  have k1 := h1
  have lt1 : ∀ x ∈ p1, x.block < W.heap.size := by obtain ⟨m, hm⟩ := k1; exact DataW.trod_lt m _ _ _ hm
  have k2 := h2
  have lt2 : ∀ x ∈ p2, x.block < W.heap.size := by obtain ⟨m, hm⟩ := k2; exact DataW.trod_lt m _ _ _ hm
  obtain ⟨a0, n0, cap0, z0, rfl, w0, row0, lc0, cm0, wf0, wt0, bk0⟩ := Op.ents1 entT Try.underlying22 (hval 0 22 v0 rfl rfl) h0
  have wb0 := wt0 reachBytes (fun m hm => of_decide_eq_true (List.all_eq_true.1 hsz _ (DataW.weights_mem_each (j := 0) rfl rfl m hm)))
  have f0 : z0.length = n0 ∧ n0 ≤ cap0 ∧ n0 * 56 ≤ 140737488351232 ∧ (∀ e ∈ z0, En.Fits e) ∧ En.ERow W a0 n0 (fun i => z0.getD i En.ent0) := ⟨w0, lc0, by have h9 := wb0.2; rw [show Try.prog.bytesOf 69 = 56 from by kernel_rfl] at h9; exact h9, fun x hx => by have h9 := wf0 x hx; have h8 := wb0.1 x hx; exact ⟨h8.1, h8.2, (bd64 h9.2.2.1).1, (bd64 h9.2.2.1).2, (bd64 h9.2.2.2).1, (bd64 h9.2.2.2).2⟩, row0⟩
  obtain ⟨a1, rfl, rfl, rfl, w1⟩ := open_int Try.underlying3 (hval 1 3 v1 rfl rfl) h1
  have b1 : -9223372036854775808 ≤ a1 ∧ a1 ≤ 9223372036854775807 := by simpa [Lit.wf, IntKind.min, IntKind.max, IntKind.signed, IntKind.bits] using w1
  obtain ⟨a2, rfl, rfl, rfl, w2⟩ := open_string Try.underlying9 (hval 2 9 v2 rfl rfl) h2
  have b2 : a2.size ≤ 140737488351232 := by have := sized_string hsz (j := 2) rfl rfl; simpa [reachBytes] using this
  clear hA0 hval0
  refine (walk a0 n0 cap0 z0 a1 a2 W f0 b1 b2).mono fun e W' ⟨he, bel⟩ => ?_
  subst he
  exact ⟨_, rfl, _, _, _, [], _, [], hW', trodAll_mk1 (shut_bool Try.underlying4 _), (trodAll_cons_mk (Below.trod laidOut (by kernel_rfl) (of_decide_eq_true (by kernel_rfl)) k0 bel lt0) (trodAll_cons_mk (Below.trod laidOut (by kernel_rfl) (of_decide_eq_true (by kernel_rfl)) k1 bel lt1) (trodAll_cons_mk (Below.trod laidOut (by kernel_rfl) (of_decide_eq_true (by kernel_rfl)) k2 bel lt2) trodAll_mk0))), rfl, bel.frame _, fun h => by cases h⟩

theorem over : Rows.tableBitsRow.holds Try.pinned (OpenSpec.ofChange Rows.tableBitsSpec) :=
  OpenClaim.holds_of_wide 7 Try.f7 rfl rfl rfl rfl rfl rfl rfl ⟨rfl, rfl, rfl, rfl, rfl⟩ rfl rfl rfl rfl rfl (by kernel_rfl) Try.func7 (by kernel_rfl)
    (of_decide_eq_true (by kernel_rfl)) (by unfold Func.isWrapper; first | (rw [if_pos (by decide +kernel)]; kernel_rfl) | (rw [if_neg (by decide +kernel)]; exact ⟨rfl, rfl⟩))
    (fun os started H enc _ => lifted os started H enc)

/-- THE STATEMENT -/
theorem proved : Rows.TableBitsSaid := over
end Go.Proofs.Ytajfalffpcamhaa.tableBits
