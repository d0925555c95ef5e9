/- The walk of table.Build. -/
import Derived.Test.YtpihmjdljbienaaGreatDoorGf
import Derived.Test.YtpihmjdljbienaaGreatDoorGe
import Derived.Test.YtpihmjdljbienaaGreatDoorGr
import Derived.Test.YtpihmjdljbienaaGreatDoorGa
namespace Go.Proofs.YtpihmjdljbienaaGreatDoor.Tw
open Go.RowKit
open Tb Fp Vp B En
set_option linter.unusedVariables false

/-- bytes and an error -/
def retB (r : List UInt8 × Int) : Ending := .returned (.tuple #[.string (str r.1), .int .i64 r.2])
theorem infoS9 : (Tryz.prog.info? 9).map (fun i => (i.zero, i.size, i.bytes)) = some (some (.string ⟨#[]⟩), 1, 16) := by kernel_rfl

set_option maxHeartbeats 400000 in
theorem tb_bad (a : Option Addr) (n cap : Nat) (l : List Ent) (size bits : Int) (h : size < 1 ∨ 4096 < size ∨ bits < 1 ∨ 16 < bits) (w : World) :
    Calls Tryz.prog 19 #[.slice a n cap, .int .i64 size, .int .i64 bits] w fun e w' => e = retB (tabB l size bits) ∧ Below w.heap.size w w' := by
  have hr : tabB l size bits = ([], 2) := by unfold tabB; rw [if_pos h]
  rw [hr]
  by_cases h1 : size < 1
  · have d1 : decide (size < 1) = true := dt h1
    go_enter Tryz.func19, Tryz.ntmps19
    go_wp2_with fail
    go_ret2
    exact ⟨rfl, Below.refl _ _⟩
  have d1 : decide (size < 1) = false := df h1
  by_cases h2 : 4096 < size
  · have d2 : decide (4096 < size) = true := dt h2
    go_enter Tryz.func19, Tryz.ntmps19
    go_wp2_with fail
    go_ret2
    exact ⟨rfl, Below.refl _ _⟩
  have d2 : decide (4096 < size) = false := df h2
  by_cases h3 : bits < 1
  · have d3 : decide (bits < 1) = true := dt h3
    go_enter Tryz.func19, Tryz.ntmps19
    go_wp2_with fail
    go_ret2
    exact ⟨rfl, Below.refl _ _⟩
  have d3 : decide (bits < 1) = false := df h3
  have d4 : decide (16 < bits) = true := dt (by omega)
  go_enter Tryz.func19, Tryz.ntmps19
  go_wp2_with fail
  go_ret2
  exact ⟨rfl, Below.refl _ _⟩

theorem erow_take2 {w : World} {a : Option Addr} {j : Nat} {l : List Ent} (h : ERow w a l.length (fun i => l.getD i ent0)) (hj : j ≤ l.length) : ERow w a j (fun i => (l.take j).getD i ent0) :=
  (h.take hj).congr fun i hi => by simp [List.getD_eq_getElem?_getD, hi]
theorem erow_drop {w : World} {b off n c : Nat} {f : Nat → Ent} (h : ERow w (some ⟨b, off, none⟩) n f) : ERow w (some ⟨b, off + c * 5, none⟩) (n - c) (fun i => f (c + i)) := by
  rcases h with h | ⟨b', off', ha, hlt, hc⟩
  · exact .inl (by omega)
  · simp only [Option.some.injEq, Addr.mk.injEq, and_true] at ha
    obtain ⟨rfl, rfl⟩ := ha
    refine .inr ⟨b, off + c * 5, rfl, hlt, fun i hi => ?_⟩
    have := hc (c + i) (by omega)
    rw [show off + (c + i) * 5 = off + c * 5 + i * 5 from by omega] at this
    exact this

/-- between the blocks -/
structure BI (w : World) (l : List Ent) (size : Nat) (R : BS) (wb : Nat) (v0 : Value) (rest : List Ent) (b : BS) (wr : World) : Prop where
  sl : ∃ a c, v0 = .slice a rest.length c ∧ rest.length ≤ c ∧ c ≤ 9223372036854775807 ∧ ERow w a rest.length (fun i => rest.getD i ent0)
  go : ∃ k, rest.length ≤ k ∧ loopB size k rest b = R
  mem : ∀ e ∈ rest, e ∈ l
  le : rest.length ≤ l.length
  ns : b.s.length ≤ (l.length - rest.length) * 65543
  nx : b.ix.length ≤ (l.length - rest.length) * 94
  nn : b.n ≤ l.length - rest.length
  hold : HoldsW wb wb b.s wr
  bel : Below w.heap.size w wr
  wbl : w.heap.size ≤ wb
theorem ixE_len (l : List Ent) (a : Nat) (h : (lastE l).key.size ≤ 64) (ha : a ≤ 1099511627776) : (ixE l a).length ≤ 94 := by
  have h1 := txt_len (lastE l).key.data.toList
  have e1 : (lastE l).key.data.toList.length = (lastE l).key.size := by simp
  have h2 := bts_len (n := (((lastE l).key.data.toList).length : Int)) ⟨by omega, by omega⟩
  have h3 := bts_len (n := (a : Int)) ⟨by omega, by omega⟩
  have h5 : (blkF l).length ≤ 65543 := fr_len _
  have h4 := bts_len (n := ((blkF l).length : Int)) ⟨by omega, by omega⟩
  unfold ixE
  simp only [List.length_append]
  omega

/-- how long a slice is -/
def measL : Value → Nat
  | .slice _ n _ => n
  | _ => 0

set_option maxHeartbeats 3200000 in
set_option maxRecDepth 100000 in
theorem tb_main (a : Option Addr) (n cap : Nat) (l : List Ent) (hl : l.length = n) (hcap : n ≤ cap) (hm : cap ≤ 9223372036854775807) (hf : ∀ e ∈ l, Fits e) (size bits : Nat) (h1 : 1 ≤ size) (h2 : size ≤ 4096) (h3 : 1 ≤ bits) (h4 : bits ≤ 16)
    (w : World) (hrow : ERow w a n (fun i => l.getD i ent0)) :
    Calls Tryz.prog 19 #[.slice a n cap, .int .i64 size, .int .i64 bits] w fun e w' => e = retB (tabB l size bits) ∧ Below w.heap.size w w' := by
  have d1 : decide ((size : Int) < 1) = false := df (by omega)
  have d2 : decide ((4096 : Int) < (size : Int)) = false := df (by omega)
  have d3 : decide ((bits : Int) < 1) = false := df (by omega)
  have d4 : decide ((16 : Int) < (bits : Int)) = false := df (by omega)
  have d1' : decide (size < 1) = false := df (by omega)
  have d2' : decide (4096 < size) = false := df (by omega)
  have d3' : decide (bits < 1) = false := df (by omega)
  have d4' : decide (16 < bits) = false := df (by omega)
  by_cases hn : 65536 < n
  · have hr : tabB l size bits = ([], 5) := by unfold tabB; rw [if_neg (by omega), if_pos (by rw [hl]; exact hn)]
    rw [hr]
    have d5 : decide (65536 < n) = true := dt hn
    clear hrow
    go_enter Tryz.func19, Tryz.ntmps19
    go_wp2_with fail
    go_ret2
    exact ⟨rfl, Below.refl _ _⟩
  have d5 : decide (65536 < n) = false := df hn
  have HORD := Lib.hid (Ew.ordered_any a n cap l hl hcap hm w hrow)
  by_cases ho : (orderedE l).2 = 0
  case neg =>
    have hr : tabB l size bits = ([], (orderedE l).2) := by unfold tabB; rw [if_neg (by omega), if_neg (by rw [hl]; exact hn), if_pos ho]
    rw [hr]
    generalize orderedE l = oe at HORD ho ⊢
    obtain ⟨oi, oe⟩ := oe
    simp only at HORD ho ⊢
    have d6 : (oe != 0) = true := nt ho
    clear hrow
    go_enter Tryz.func19, Tryz.ntmps19
    go_wp2_with fail
    refine HORD.out.mono ?_
    rintro e w1 ⟨rfl, hb⟩
    go_wp2_with fail
    go_ret2
    exact ⟨rfl, hb⟩
  obtain ⟨r, hr⟩ : ∃ r, r = tabB l size bits := ⟨_, rfl⟩
  rw [← hr]
  have hr2 : r = endB (loopB size n l ⟨[], [], 0⟩) (Mp.filt bits (keysC l)) := by
    rw [hr]; unfold tabB; rw [if_neg (by omega), if_neg (by rw [hl]; exact hn), if_neg (fun hh => hh ho), Int.toNat_natCast, Int.toNat_natCast, hl]
  have hgood := ordered_good ho
  have hk : ∀ e ∈ l, e.key.size ≤ 64 ∧ e.val.size ≤ 512 := fun e he => ⟨(goodE_0 (hgood e he).1).1, (goodE_0 (hgood e he).1).2.1⟩
  rw [show (orderedE l).2 = 0 from ho] at HORD
  generalize (orderedE l).1 = oi at HORD
  have HR := Lib.hid hr2
  have HK := Lib.hid hk
  have HF := Lib.hid hf
  have HROW := Lib.hid hrow
  have HL := Lib.hid hl
  clear hr hr2 hgood hk hf ho hrow hl
  go_enter Tryz.func19, Tryz.ntmps19
  go_wp2_with fail
  refine HORD.out.mono ?_
  rintro e w1 ⟨rfl, hb1⟩
  have HB1 := Lib.hid hb1
  clear hb1 HORD
  go_wp2_with fail
  go_loopw [10, 56] (fun so sj wr => ∃ j : Nat, sj = .int .i64 j ∧ j ≤ n ∧ (∃ p c, so = .slice p j c) ∧ Hid (wr.ownsRow w.heap.size 9 1 so j ((keysL (l.take j)).map encStr)) ∧ Below w.heap.size w wr) (fun so sj _ => n - (intOf sj).toNat)
  case atStart => exact ⟨0, rfl, by omega, ⟨none, 0, rfl⟩, World.ownsRow_nil _ _ _ _, HB1.out⟩
  case round =>
    obtain ⟨j, rfl, hj, ⟨p, c, rfl⟩, hO, hb⟩ := hrel
    by_cases hlt : j < n
    · obtain ⟨b, off, rfl, hlb, hlc⟩ := HROW.out.at (by omega)
      have hd := hlc j hlt
      have hst : keysL (l.take (j + 1)) = keysL (l.take j) ++ [(l.getD j ent0).key.data.toList] := by rw [take_snoc l j ent0 (by rw [HL.out]; exact hlt)]; simp [keysL]
      generalize l.getD j ent0 = x at hd hst
      obtain ⟨xk, xq, xg, xv, xu⟩ := x
      simp only at hd hst
      have hlb2 : ∀ p : Addr, p.block < w.heap.size → wr.cell? p = w.cell? p := fun p hp => hb.cell hp
      have e0 := (hlb2 _ hlb).trans hd.1
      have e1 := (hlb2 _ hlb).trans hd.2.1
      have e2 := (hlb2 _ hlb).trans hd.2.2.1
      have e3 := (hlb2 _ hlb).trans hd.2.2.2.1
      have e4 := (hlb2 _ hlb).trans hd.2.2.2.2
      have i1 : (0 : Int) ≤ (j : Int) := by omega
      have i2 : (j : Int) < (n : Int) := by omega
      have HST := Lib.hid hst
      have HO3 := Lib.hid (hO.out.alloc (.cells #[.string xk, .int .i64 xq, .bool xg, .string xv, .int .i64 xu] 45))
      have HB3 := Lib.hid (below_alloc hb (.cells #[.string xk, .int .i64 xq, .bool xg, .string xv, .int .i64 xu] 45))
      have hbs := hb.size
      clear hlb2 hd hlc hO hst hb
      go_wp2_with (at_builtin; refine wpList_pushL rfl _ _ 39 rfl Tryz.underlying39 infoS9 rfl (by decide) rfl #[.string xk] rfl ?c1 rfl ?c0 HO3.out ?c2 ?c3 ?c4 ?_)
      case c0 => simp
      case c1 => simp [Value.oneCell']
      case c2 => exact HB3.out.size
      case c3 => unfold maxLen; omega
      case c4 => omega
      intro g7 cap7 w7 hO7 hg7 hb7 hn7
      have HO7 : Hid (w7.ownsRow w.heap.size 9 1 (.slice (some ⟨g7, 0, none⟩) (j + 1) cap7) (j + 1) ((keysL (l.take (j + 1))).map encStr)) := by
        show World.ownsRow _ _ _ _ _ _ _
        rw [HST.out, List.map_append]
        exact hO7
      have HB7 := Lib.hid (HB3.out.trans hb7)
      clear hO7 hg7 hb7 hn7
      go_wp2_with fail
      go_roundw
      case rel => exact ⟨j + 1, by go_num, by omega, ⟨_, _, by go_num⟩, HO7.out, HB7.out⟩
      case measure => simp [intOf]; omega
    · obtain rfl : j = n := by omega
      have hO2 := hO.out
      rw [show l.take j = l from by rw [← HL.out, List.take_length]] at hO2
      have HCM := Lib.hid (compact_any w.heap.size p j c (keysL l) wr hO2 hb.size)
      have HB2 := Lib.hid hb
      clear hO hO2 hb
      have hkc := keysC_is l
      have hkl := keysC_len l
      rw [hkc] at hkl HR
      have hks : ∀ s ∈ (Lib.compact (keysL l)).map str, s.size ≤ 2305843009213693952 := by
        intro s hs
        obtain ⟨z, hz, rfl⟩ := List.mem_map.1 hs
        have : z ∈ keysL l := by
          unfold Lib.compact Lib.compactUpTo at hz
          obtain ⟨i, hi, rfl⟩ := List.mem_map.1 hz
          have hi2 := List.mem_range.1 (List.mem_filter.1 hi).1
          rw [getElem!_pos (h := by simpa using hi2)]
          simp
        obtain ⟨e, he, rfl⟩ := List.mem_map.1 this
        have := (HK.out e he).1
        rw [str_size]; simp; omega
      have HKS := Lib.hid hks
      have hsb := strs_back (Lib.compact (keysL l))
      generalize Lib.compact (keysL l) = ks at HCM hkl HR HKS hsb
      have hmk : Mp.mk (bits : Int) ks = (Mp.filt bits ks, 0) := by
        unfold Mp.mk; rw [if_neg (by omega), if_neg (by rw [HL.out] at hkl; omega), Int.toNat_natCast]
      have HNEW : Hid (∀ (a' : Option Addr) (c' : Nat) (W : World), W.ownsRow w.heap.size 9 1 (.slice a' ks.length c') ks.length (ks.map encStr) → Calls Tryz.prog 62 #[.int .i64 bits, .slice a' ks.length c'] W fun e w' => e = .returned (.tuple #[.string (str (Mp.filt bits ks)), .int .i64 0]) ∧ Below W.heap.size W w') := by
        intro a' c' W hW
        obtain ⟨_, g1, g2, g3⟩ := own_strs hW
        have := Mw.new_any bits a' ks.length c' (ks.map str) (by simp) g1 g2 HKS.out W g3
        rw [hsb, hmk] at this
        exact this
      have hfl : (Mp.filt bits ks).length ≤ 131074 := by
        unfold Mp.filt
        rw [List.length_cons, Mp.marks_len]
        have := Mp.byteN_le bits ks.length h4 (by rw [HL.out] at hkl; omega)
        omega
      obtain ⟨F, hF⟩ : ∃ F, str (Mp.filt bits ks) = F := ⟨_, rfl⟩
      rw [hF] at HNEW
      have hF2 : Mp.filt bits ks = F.data.toList := by rw [← hF]; rfl
      have HFF := Lib.hid hF2
      have hFs : F.size ≤ 131074 := by rw [← hF, str_size]; exact hfl
      clear hkc hkl hks hsb hmk HKS hF hF2 hfl
      go_wp2_with fail
      refine HCM.out.mono ?_
      rintro e w2 ⟨a2, c2, rfl, hO2, hb2⟩
      have HO2 := Lib.hid hO2
      have hB2 := HB2.out.trans hb2
      have HB3 := Lib.hid hB2
      clear hO2 hb2 hB2 HB2 HCM
      go_wp2_with fail
      refine (HNEW.out _ _ _ HO2.out).mono ?_
      rintro e w3 ⟨rfl, hb3⟩
      have HB4 := Lib.hid (chain HB3.out hb3)
      clear hb3 HB3 HO2 HNEW
      go_wp2_with fail
      generalize hW : World.alloc _ _ = W4
      have hH4 : HoldsW w3.heap.size w3.heap.size [] W4 := by rw [← hW]; exact freshW w3
      have hB4 : Below w.heap.size w W4 := by rw [← hW]; exact below_alloc HB4.out _
      have hwb : w.heap.size ≤ w3.heap.size := HB4.out.size
      have hwb4 : w3.heap.size ≤ W4.heap.size := by rw [← hW]; simp
      clear hW HB4
      generalize w3.heap.size = wb at hH4 hwb hwb4 ⊢
      obtain ⟨R, hRR⟩ : ∃ R, loopB size l.length l ⟨[], [], 0⟩ = R := ⟨_, rfl⟩
      have hlz := HL.out
      have HI : Hid (BI w l size R wb (.slice a l.length cap) l ⟨[], [], 0⟩ W4) :=
        ⟨⟨a, cap, rfl, by omega, hm, by have := HROW.out; rwa [← hlz] at this⟩, ⟨l.length, Nat.le_refl _, hRR⟩, fun _ h => h, Nat.le_refl _, by simp, by simp, by simp, hH4, hB4, hwb⟩
      rw [show loopB size j l ⟨[], [], 0⟩ = R from by rw [← hRR, hlz]] at HR
      rw [hlz] at HI
      clear hRR hH4 hB4 hlz
      go_loopw [0, 16, 17] (fun s0 sx sn wr => ∃ (rest : List Ent) (ix : ByteArray) (cn : Nat), sx = .string ix ∧ sn = .int .i64 cn ∧ cn ≤ 65536 ∧ Hid (∃ b : BS, ix = str b.ix ∧ cn = b.n ∧ BI w l size R wb s0 rest b wr) ∧ Hid (measL s0 = rest.length)) (fun s0 sx sn _ => measL s0)
      case atStart => exact ⟨l, ⟨#[]⟩, 0, rfl, rfl, by omega, ⟨⟨[], [], 0⟩, rfl, rfl, HI.out⟩, by show measL _ = _; simp [measL]; exact HL.out.symm⟩
      case round =>
        obtain ⟨rest, ix, cn, rfl, rfl, hcn, hS, hms⟩ := hrel
        obtain ⟨b, hix, hcb, hS⟩ := hS.out
        obtain ⟨a5, c5, rfl, hrc, hc5, hr5⟩ := hS.sl
        have hle := hS.le
        have hlz := HL.out
        by_cases hrs : rest = []
        · subst hrs
          obtain ⟨k, _, hk2⟩ := hS.go
          rw [loop_nil] at hk2
          have HRE := Lib.hid (show r = endB b F.data.toList by rw [HR.out, hk2, HFF.out])
          have hnx := hS.nx
          have hns := hS.ns
          simp only [List.length_nil, Nat.sub_zero] at hnx hns
          have hns2 : b.s.length ≤ 4295458816 := by omega
          have HPC := Lib.hid (fun W => Vw.put_any (cn : Int) (by omega) (by omega) W)
          have hCs : (enc (cn : Int)).size ≤ 10 := by rw [enc, str_size]; exact vb_len10 (zz_lt (by omega) (by omega))
          have hCi : enc (cn : Int) ++ ix = str (bts b.n ++ b.ix) := by rw [enc_bts, hix, str_append, hcb]
          generalize enc (cn : Int) = C at HPC hCs hCi
          have hixs : ix.size = b.ix.length := by rw [hix, str_size]
          have hIs : ix.size ≤ 6160384 := by omega
          have hIL : (bts b.n ++ b.ix).length = C.size + ix.size := by rw [← str_size, ← hCi, ByteArray.size_append]
          have hFl : F.data.toList.length = F.size := by simp
          have HHD := Lib.hid hS.hold
          have HBW := Lib.hid hS.bel
          have hwbr : wb ≤ wr.heap.size := by
            obtain ⟨_, _, hh⟩ := hS.hold.cells
            exact Nat.le_of_lt (block_lt_of_cell hh)
          have s1 : ¬ (9223372036854775807 < C.size + ix.size) := by omega
          have HCI := Lib.hid hCi
          by_cases g1 : 65535 < C.size + ix.size
          · obtain rfl : r = ([], 5) := by rw [HRE.out]; unfold endB; rw [if_pos (.inl (by rw [hIL]; exact g1))]
            have d8 : decide ((65535 : Int) < (C.size : Int) + (ix.size : Int)) = true := dt (by omega)
            clear hix hcb hS hk2 hnx hns hCi hIL hFl hixs g1
            go_wp2_with fail
            refine (HPC.out _).mono ?_
            rintro e w5 ⟨rfl, hb5⟩
            have HB5 := Lib.hid (chain HBW.out hb5)
            clear hb5
            go_wp2_with fail
            go_ret2
            exact ⟨rfl, HB5.out⟩
          have d8 : decide ((65535 : Int) < (C.size : Int) + (ix.size : Int)) = false := df (by omega)
          by_cases g2 : 65535 < F.size
          · obtain rfl : r = ([], 5) := by rw [HRE.out]; unfold endB; rw [if_pos (.inr (by rw [hFl]; exact g2))]
            have d9 : decide (65535 < F.size) = true := dt g2
            have d9' : decide ((65535 : Int) < (F.size : Int)) = true := dt (by omega)
            clear hix hcb hS hk2 hnx hns hCi hIL hFl hixs g1 g2
            go_wp2_with fail
            refine (HPC.out _).mono ?_
            rintro e w5 ⟨rfl, hb5⟩
            have HB5 := Lib.hid (chain HBW.out hb5)
            clear hb5
            go_wp2_with fail
            go_ret2
            exact ⟨rfl, HB5.out⟩
          have d9 : decide (65535 < F.size) = false := df g2
          have d9' : decide ((65535 : Int) < (F.size : Int)) = false := df (by omega)
          have hend : r = (b.s ++ (fr (C ++ ix).data.toList ++ (fr F.data.toList ++ fr (eight b.s.length ++ eight (b.s.length + (fr (C ++ ix).data.toList).length)))), 0) := by
            rw [HRE.out]
            unfold endB
            rw [if_neg (by rw [hIL, hFl]; omega), hCi]
            rfl
          have HP1 := Lib.hid (fun W (hW : HoldsW wb wb b.s W) (hw : wb ≤ W.heap.size) => put_any2 wb wb b.s (C ++ ix) W hW (by omega) hw)
          have hf1 := fr_len (C ++ ix).data.toList
          generalize fr (C ++ ix).data.toList = f1 at HP1 hf1 hend
          obtain ⟨n1, hn1⟩ : ∃ n1, b.s.length = n1 := ⟨_, rfl⟩
          obtain ⟨t1, ht1⟩ : ∃ t1, b.s ++ f1 = t1 := ⟨_, rfl⟩
          have hn2 : t1.length = n1 + f1.length := by rw [← ht1, List.length_append, hn1]
          obtain ⟨n2, hnn2⟩ : ∃ n2, n1 + f1.length = n2 := ⟨_, rfl⟩
          have HP2 := Lib.hid (fun W (hW : HoldsW wb wb t1 W) (hw : wb ≤ W.heap.size) => put_any2 wb wb t1 F W hW (by omega) hw)
          have hf2 := fr_len F.data.toList
          rw [hn1] at hend
          rw [hnn2] at hend hn2
          rw [hn1] at HP1
          rw [ht1] at HP1
          rw [hn2] at HP2
          generalize fr F.data.toList = f2 at HP2 hf2 hend
          obtain ⟨t2, ht2⟩ : ∃ t2, t1 ++ f2 = t2 := ⟨_, rfl⟩
          rw [ht2] at HP2
          have ht2l : t2.length = n2 + f2.length := by rw [← ht2, List.length_append, hn2]
          have HE1 := Lib.hid (fun W => eight_any n1 (by omega) W)
          have HE2 := Lib.hid (fun W => eight_any n2 (by omega) W)
          obtain ⟨E1, hE1⟩ : ∃ E1, str (eight n1) = E1 := ⟨_, rfl⟩
          obtain ⟨E2, hE2⟩ : ∃ E2, str (eight n2) = E2 := ⟨_, rfl⟩
          rw [hE1] at HE1
          rw [hE2] at HE2
          have hE1s : E1.size = 8 := by rw [← hE1, str_size, eight_len]
          have hE2s : E2.size = 8 := by rw [← hE2, str_size, eight_len]
          have s2 : ¬ (9223372036854775807 < E1.size + E2.size) := by omega
          have HP3 := Lib.hid (fun W (hW : HoldsW wb wb t2 W) (hw : wb ≤ W.heap.size) => put_any2 wb wb t2 (E1 ++ E2) W hW (by omega) hw)
          have hEE : (E1 ++ E2).data.toList = eight n1 ++ eight n2 := by rw [← hE1, ← hE2, str_append]; rfl
          rw [hEE] at HP3
          have hf3 : fr (eight n1 ++ eight n2) ≠ [] := by
            rw [fr_is (by rw [foot_len]; omega)]
            intro h; have := congrArg List.length h
            rw [frm_len] at this; simp at this
          generalize fr (eight n1 ++ eight n2) = f3 at HP3 hf3 hend
          obtain ⟨t3, ht3⟩ : ∃ t3, t2 ++ f3 = t3 := ⟨_, rfl⟩
          rw [ht3] at HP3
          have ht3n : t3 ≠ [] := by rw [← ht3]; simp [hf3]
          have HST := Lib.hid (fun W (hW : HoldsW wb wb t3 W) => stringW_any wb wb t3 W hW ht3n)
          obtain rfl : r = (t3, 0) := by rw [hend, ← ht3, ← ht2, ← ht1]; simp
          have q1 : IntKind.u64.wrap (n1 : Int) = (n1 : Int) := by rw [IntKind.wrap_u64]; omega
          have q2 : IntKind.u64.wrap (n2 : Int) = (n2 : Int) := by rw [IntKind.wrap_u64]; omega
          clear hix hcb hS hk2 hnx hns hCi hIL hFl hixs g1 g2 hend hn1 hn2 hnn2 ht1 ht2 ht3 ht2l hE1 hE2 hE1s hE2s hEE hf3 ht3n hf1 hf2 HRE
          go_wp2_with fail
          refine (HPC.out _).mono ?_
          rintro e w5 ⟨rfl, hb5⟩
          have HB5 := Lib.hid (chain HBW.out hb5)
          have HH5 := Lib.hid (HHD.out.below hb5)
          have hwb5 := Nat.le_trans hwbr hb5.size
          clear hb5 HBW HHD
          go_wp2_with fail
          refine (HP1.out _ HH5.out hwb5).mono ?_
          rintro e w6 ⟨rfl, hH6, hb6⟩
          have HH6 := Lib.hid hH6
          have HB6 := Lib.hid (HB5.out.trans (hb6.mono hwb))
          have hwb6 := Nat.le_trans hwb5 hb6.size
          clear hH6 hb6 HB5 HH5
          go_wp2_with fail
          refine (HP2.out _ HH6.out hwb6).mono ?_
          rintro e w7 ⟨rfl, hH7, hb7⟩
          have HH7 := Lib.hid hH7
          have HB7 := Lib.hid (HB6.out.trans (hb7.mono hwb))
          have hwb7 := Nat.le_trans hwb6 hb7.size
          clear hH7 hb7 HB6 HH6
          go_wp2_with fail
          refine (HE1.out _).mono ?_
          rintro e w8 ⟨rfl, hb8⟩
          have HB8 := Lib.hid (chain HB7.out hb8)
          have HH8 := Lib.hid (HH7.out.below hb8)
          have hwb8 := Nat.le_trans hwb7 hb8.size
          clear hb8 HB7 HH7
          go_wp2_with fail
          refine (HE2.out _).mono ?_
          rintro e w9 ⟨rfl, hb9⟩
          have HB9 := Lib.hid (chain HB8.out hb9)
          have HH9 := Lib.hid (HH8.out.below hb9)
          have hwb9 := Nat.le_trans hwb8 hb9.size
          clear hb9 HB8 HH8
          go_wp2_with fail
          refine (HP3.out _ HH9.out hwb9).mono ?_
          rintro e w10 ⟨rfl, hH10, hb10⟩
          have HH10 := Lib.hid hH10
          have HB10 := Lib.hid (HB9.out.trans (hb10.mono hwb))
          have hwb10 := Nat.le_trans hwb9 hb10.size
          clear hH10 hb10 HB9 HH9
          go_wp2_with fail
          refine (HST.out _ HH10.out).mono ?_
          rintro e w11 ⟨rfl, hb11⟩
          have HB11 := Lib.hid (HB10.out.trans (hb11.mono hwb))
          clear hb11
          go_wp2_with fail
          go_ret2
          exact ⟨rfl, HB11.out⟩
        · have hr0 : 0 < rest.length := by cases rest with | nil => exact absurd rfl hrs | cons _ _ => simp
          have hcp := cut_pos size rest hrs
          have hcl := cut_le size rest
          have hkr : ∀ e ∈ rest, e.key.size ≤ 64 ∧ e.val.size ≤ 512 := fun e he => HK.out e (hS.mem e he)
          have HCUT := Lib.hid (fun W hW => cut_any a5 rest.length c5 rest rfl (by omega) size hkr W hW)
          obtain ⟨k, hk1, hk2⟩ := hS.go
          obtain ⟨k', rfl⟩ : ∃ k', k = k' + 1 := ⟨k - 1, by omega⟩
          rw [loop_step _ _ _ _ hrs] at hk2
          generalize cutE size rest = c at HCUT hcp hcl hk2
          have hbl : (rest.take c).length = c := by rw [List.length_take]; omega
          have HBLD := Lib.hid (fun W hW => Ew.build_any a5 c c5 (rest.take c) 16 hbl (by omega) hc5 (fun e he => HF.out e (hS.mem e (List.mem_of_mem_take he))) W hW)
          have HROWT := Lib.hid (erow_take2 hr5 hcl.1)
          obtain ⟨bb, off, rfl, hlb, hlc⟩ := hr5.at hr0
          have hlast : rest.getD (c - 1) ent0 = lastE (rest.take c) := by
            obtain ⟨d, rfl⟩ : ∃ d, c = d + 1 := ⟨c - 1, by omega⟩
            rw [lastE_take rest d (by omega)]; rfl
          obtain ⟨d, hd⟩ : ∃ d, c - 1 = d := ⟨_, rfl⟩
          have hkey := (hlc (c - 1) (by omega)).1
          have hksz := (hkr _ (mem_getD (show c - 1 < rest.length by omega))).1
          rw [hlast] at hkey hksz
          rw [hd] at hkey
          have HADD : Hid (addB b (rest.take c) = ⟨b.s ++ fr (buildE (rest.take c) 16).1.data.toList, b.ix ++ (txt (lastE (rest.take c)).key.data.toList ++ (bts b.s.length ++ bts (fr (buildE (rest.take c) 16).1.data.toList).length)), b.n + 1⟩) := rfl
          have hixl := ixE_len (rest.take c) b.s.length hksz (by have := hS.ns; omega)
          have hix2 : (ixE (rest.take c) b.s.length) = txt (lastE (rest.take c)).key.data.toList ++ (bts b.s.length ++ bts (fr (buildE (rest.take c) 16).1.data.toList).length) := rfl
          rw [hix2] at hixl
          obtain ⟨bo, hbo⟩ : ∃ bo, buildE (rest.take c) 16 = bo := ⟨_, rfl⟩
          rw [hbo] at HBLD HADD hixl
          obtain ⟨ky, hky⟩ : ∃ ky, (lastE (rest.take c)).key = ky := ⟨_, rfl⟩
          rw [hky] at hkey hksz HADD hixl
          obtain ⟨body, be⟩ := bo
          simp only at HBLD HADD hixl
          have hcc : 1 ≤ c := hcp
          have hns := hS.ns
          have hsl : b.s.length ≤ 4295458816 := by omega
          have HPUT := Lib.hid (fun W (hW : HoldsW wb wb b.s W) (hw : wb ≤ W.heap.size) => put_any2 wb wb b.s body W hW (by omega) hw)
          have hfl2 := fr_len body.data.toList
          generalize fr body.data.toList = f at HPUT HADD hixl hfl2
          have HPT := Lib.hid (fun W => Vw.putText_any ky (by omega) W)
          have ht1 : (enc ky.size ++ ky) = str (txt ky.data.toList) := by
            unfold txt
            rw [← str_append, str_toList, enc_bts]
            simp
          rw [ht1] at HPT
          have i1 : (0 : Int) ≤ (c : Int) := by omega
          have i2 : (c : Int) ≤ (c5 : Int) := by omega
          have i3 : c ≤ c5 := by omega
          have i4 : (c : Int) ≤ (rest.length : Int) := by omega
          have e1 : IntKind.i64.wrap ((c : Int) - 1) = (d : Int) := by rw [IntWalk.i64_in _ (by omega)]; omega
          have i5 : (0 : Int) ≤ (d : Int) := by omega
          have i6 : (d : Int) < (rest.length : Int) := by omega
          have i7 : d < rest.length := by omega
          have HIX := Lib.hid hix
          have HCB := Lib.hid hcb
          have HS := Lib.hid hS
          have HK2 := Lib.hid hk2
          have HKY := Lib.hid hkey
          have HHD := Lib.hid hS.hold
          have HBW := Lib.hid hS.bel
          have HR5 := Lib.hid hr5
          have hsz5 : w.heap.size ≤ wr.heap.size := hS.bel.size
          have hwbr : wb ≤ wr.heap.size := by
            obtain ⟨_, _, hh⟩ := hS.hold.cells
            exact Nat.le_of_lt (block_lt_of_cell hh)
          have d7 : decide (0 < rest.length) = true := dt hr0
          clear hix hcb hS hk2 hkey hlc hr5 hkr hbo hky hix2 ht1 hd hlast hlz
          go_wp2_with fail
          refine (HCUT.out _ (HR5.out.below HBW.out)).mono ?_
          rintro e w5 ⟨rfl, hb5⟩
          have HB5 := Lib.hid (chain HBW.out hb5)
          have HH5 := Lib.hid (HHD.out.below hb5)
          have hwb5 := Nat.le_trans hwbr hb5.size
          clear hb5 HHD HBW HCUT
          go_wp2_with fail
          refine (HBLD.out _ (HROWT.out.below HB5.out)).mono ?_
          rintro e w6 ⟨rfl, hb6⟩
          have HB6 := Lib.hid (chain HB5.out hb6)
          have HH6 := Lib.hid (HH5.out.below hb6)
          have hwb6 := Nat.le_trans hwb5 hb6.size
          clear hb6 HH5 HB5 HBLD
          go_wp2_with fail
          refine (HPUT.out _ HH6.out hwb6).mono ?_
          rintro e w7 ⟨rfl, hH7, hb7⟩
          have HH7 := Lib.hid hH7
          have HB7 := Lib.hid (HB6.out.trans (hb7.mono hwb))
          have hwb7 := Nat.le_trans hwb6 hb7.size
          have k7 := (HB7.out.cell (p := ⟨bb, off + d * 5, none⟩) hlb).trans HKY.out
          clear hH7 hb7 HH6 HB6 HPUT
          go_wp2_with fail
          refine (HPT.out _).mono ?_
          rintro e w8 ⟨rfl, hb8⟩
          have HB8 := Lib.hid (chain HB7.out hb8)
          have HH8 := Lib.hid (HH7.out.below hb8)
          clear hb8 HH7 HB7 k7 HPT
          obtain ⟨T1, hT1⟩ : ∃ T1, str (txt ky.data.toList) = T1 := ⟨_, rfl⟩
          rw [hT1]
          have HT1 := Lib.hid hT1
          clear hT1
          go_wp2_with fail
          have hen : Vw.encs [(b.s.length : Int), (f.length : Int)] = bts b.s.length ++ bts f.length := by simp [Vw.encs, bts]
          have hrow2 : Row (w8.alloc (.cells #[.int .i64 (b.s.length : Int), .int .i64 (f.length : Int)] 2)) (some ⟨w8.heap.size, 0, none⟩) 2 (fun i => .int .i64 ([(b.s.length : Int), (f.length : Int)].getD i 0)) := by
            refine .inr ⟨w8.heap.size, 0, rfl, by simp, fun i hi => ?_⟩
            rw [World.cell?_alloc_at _ _ _ _ rfl]
            have hi2 : i = 0 ∨ i = 1 := by omega
            rcases hi2 with rfl | rfl <;> rfl
          refine (Vw.putAll_any (some ⟨w8.heap.size, 0, none⟩) 2 2 [(b.s.length : Int), (f.length : Int)] rfl (by omega) (by
            intro x hx
            simp only [List.mem_cons, List.not_mem_nil, or_false] at hx
            rcases hx with rfl | rfl <;> omega) _ hrow2).mono ?_
          rintro e w9 ⟨rfl, hb9⟩
          rw [hen]
          have hB9 := chain (below_alloc HB8.out (.cells #[.int .i64 (b.s.length : Int), .int .i64 (f.length : Int)] 2)) hb9
          have HB9 := Lib.hid hB9
          have HH9 := Lib.hid ((HH8.out.below ((Below.refl w8.heap.size w8).alloc (Nat.le_refl _) (.cells #[.int .i64 (b.s.length : Int), .int .i64 (f.length : Int)] 2))).below hb9)
          clear hB9 hb9 hen hrow2 HB8 HH8
          obtain ⟨T2, hT2⟩ : ∃ T2, str (bts b.s.length ++ bts f.length) = T2 := ⟨_, rfl⟩
          rw [hT2]
          have hz1 : T1.size = (txt ky.data.toList).length := by rw [← HT1.out, str_size]
          have hz2 : T2.size = (bts b.s.length ++ bts f.length).length := by rw [← hT2, str_size]
          have hz3 : ix.size = b.ix.length := by rw [HIX.out, str_size]
          have hz4 := HS.out.nx
          rw [List.length_append] at hixl
          have s1 : ¬ (9223372036854775807 < T1.size + T2.size) := by omega
          have s2 : ¬ (9223372036854775807 < ix.size + (T1.size + T2.size)) := by have := HL.out; omega
          have HT2 := Lib.hid hT2
          have hcn2 : cn + 1 ≤ 65536 := by have := HS.out.nn; have := HCB.out; have := HL.out; omega
          have HIXL := Lib.hid hixl
          clear hT2 hz1 hz2 hz3 hz4 hixl
          go_wp2_with fail
          have hA6 : ERow w (if c5 = c then some ⟨bb, off, none⟩ else some ⟨bb, off + c * 5, none⟩) (rest.length - c) (fun i => (rest.drop c).getD i ent0) := by
            by_cases h : c5 = c
            · exact .inl (by omega)
            · rw [if_neg h]
              exact (erow_drop HR5.out).congr fun i hi => by simp [List.getD_eq_getElem?_getD, List.getElem?_drop]
          have HA6 := Lib.hid hA6
          clear hA6
          generalize (if c5 = c then some (⟨bb, off, none⟩ : Addr) else some ⟨bb, off + c * 5, none⟩) = a6 at HA6 ⊢
          have hdl : (rest.drop c).length = rest.length - c := List.length_drop
          have HBI : Hid (∃ b' : BS, ix ++ (T1 ++ T2) = str b'.ix ∧ cn + 1 = b'.n ∧ BI w l size R wb (.slice a6 (rest.length - c) (c5 - c)) (rest.drop c) b' w9) := by
            refine ⟨addB b (rest.take c), ?_, ?_, ⟨⟨a6, c5 - c, by rw [hdl], by omega, by omega, by rw [hdl]; exact HA6.out⟩, ⟨k', by omega, HK2.out⟩, fun e he => HS.out.mem e (List.mem_of_mem_drop he), by omega, ?_, ?_, ?_, ?_, HB9.out, hwb⟩⟩
            · rw [HADD.out, HIX.out, ← HT1.out, ← HT2.out, str_append, str_append]
            · rw [HADD.out, HCB.out]
            · rw [HADD.out]
              simp only [List.length_append]
              have := HS.out.ns
              omega
            · rw [HADD.out]
              simp only [List.length_append]
              have := HS.out.nx
              have h9 := HIXL.out
              rw [List.length_append] at h9
              omega
            · rw [HADD.out]
              simp only
              have := HS.out.nn
              omega
            · rw [HADD.out]; exact HH9.out
          go_roundw
          case rel => exact ⟨rest.drop c, ix ++ (T1 ++ T2), cn + 1, by go_num, by go_num, hcn2, HBI.out, by show measL _ = _; rw [hdl]; rfl⟩
          case measure => simp [measL]; omega

theorem tbuild_any (a : Option Addr) (n cap : Nat) (l : List Ent) (hl : l.length = n) (hcap : n ≤ cap) (hm : cap ≤ 9223372036854775807) (hf : ∀ e ∈ l, Fits e) (size bits : Int)
    (w : World) (hrow : ERow w a n (fun i => l.getD i ent0)) :
    Calls Tryz.prog 19 #[.slice a n cap, .int .i64 size, .int .i64 bits] w fun e w' => e = retB (tabB l size bits) ∧ Below w.heap.size w w' := by
  by_cases h : size < 1 ∨ 4096 < size ∨ bits < 1 ∨ 16 < bits
  · exact tb_bad a n cap l size bits h w
  · obtain ⟨x, rfl⟩ := Int.eq_ofNat_of_zero_le (show 0 ≤ size by omega)
    obtain ⟨y, rfl⟩ := Int.eq_ofNat_of_zero_le (show 0 ≤ bits by omega)
    exact tb_main a n cap l hl hcap hm hf x y (by omega) (by omega) (by omega) (by omega) w hrow
end Go.Proofs.YtpihmjdljbienaaGreatDoor.Tw
