/- The walk of layer 6's lists: both lists behind the puts. -/
import Derived.Test.YtdhnkalkfipmhaaSkipK
import Derived.Test.YtdhnkalkfipmhaaSkipR
import Derived.Test.YtdhnkalkfipmhaaRows
namespace Go.Proofs.Ytdhnkalkfipmhaa.Ew
open Go.RowKit
open En B
set_option linter.unusedVariables false

/-- both lists hold the same entries, in order -/
def Both (w : World) (z : List Int) (w' : World) (lb rb : Nat) (L : List Ent) : Prop :=
  ∃ ns size, SK w' w.heap.size lb z ns size ∧ ns.map Nd.e = L ∧ RS w' w.heap.size rb z L size ∧ Sorted L ∧ L.length ≤ 100 ∧ 0 ≤ size ∧ size ≤ 1000000 ∧ Below w.heap.size w w'

theorem RS.keeps {w w' : World} {B rb : Nat} {z : List Int} {L : List Ent} {size : Int} {ts : List TypeId} (h : RS w B rb z L size) (k : Keeps ts w w') (h1 : 48 ∉ ts) (h2 : 55 ∉ ts) (h4 : 3 ∉ ts) : RS w' B rb z L size := by
  obtain ⟨ca, cc, la, lc, g1, g2, g3, g4⟩ := h
  exact ⟨ca, cc, la, lc, g1, k _ _ _ _ g2 h1, own_keeps g3 k h4, own_keeps g4 k h2⟩
theorem RS.blk {w : World} {B rb : Nat} {z : List Int} {L : List Ent} {size : Int} (h : RS w B rb z L size) : ∃ cs, w.heap[rb]? = some (.cells cs 48 (0, 0)) := by
  obtain ⟨ca, cc, la, lc, g1, g2, g3, g4⟩ := h
  exact ⟨_, g2⟩
theorem keeps_only {w w' : World} {rb : Nat} {t : TypeId} {cs : Array Value} {fr : Nat × Nat} (k : Only rb w w') (h : w.heap[rb]? = some (.cells cs t fr)) : Keeps [t] w w' := fun g cs' t' fr' hg ht =>
  k.blk hg (fun e => by
    subst e
    rw [h] at hg
    simp only [Option.some.injEq, Obj.cells.injEq] at hg
    simp at ht; exact ht hg.2.1.symm)
theorem scost_any (B lb : Nat) (z : List Int) (ns : List Nd) (size : Int) (hnn : ns.length ≤ 100000) (hz9 : z.length ≤ 9223372036854775807) (hzb : I64s z) (k : ByteArray) (q : Int) (g : Bool) (v : ByteArray) (u : Int) (hk1 : k.size ≤ 140737488351232) (hv1 : v.size ≤ 140737488351232) (W : World) (hsk : SK W B lb z ns size) :
    Calls Try.prog 38 #[.pointer (some ⟨lb, 0, none⟩), .agg #[.string k, .int .i64 q, .bool g, .string v, .int .i64 u]] W fun e w' => e = .returned (.int .i64 (costE z ns.length ⟨k, q, g, v, u⟩)) ∧ Below W.heap.size W w' := by
  obtain ⟨ha, ca, cc, hlb, hLB, hTW, hOW⟩ := hsk
  exact cost_any W lb z.length cc ha ns.length ca size z hLB rfl (by omega) hz9 hzb (coins_row hOW) k q g v u hk1 hv1
theorem rscost_any (B rb : Nat) (z : List Int) (L : List Ent) (size : Int) (hnn : L.length ≤ 100000) (hz9 : z.length ≤ 9223372036854775807) (hzb : I64s z) (k : ByteArray) (q : Int) (g : Bool) (v : ByteArray) (u : Int) (hk1 : k.size ≤ 140737488351232) (hv1 : v.size ≤ 140737488351232) (W : World) (hrs : RS W B rb z L size) :
    Calls Try.prog 39 #[.pointer (some ⟨rb, 0, none⟩), .agg #[.string k, .int .i64 q, .bool g, .string v, .int .i64 u]] W fun e w' => e = .returned (.int .i64 (costE z L.length ⟨k, q, g, v, u⟩)) ∧ Below W.heap.size W w' := by
  obtain ⟨ca, cc, la, lc, hrb, hRB, hOC, hOL⟩ := hrs
  exact rcost_any W rb z.length cc L.length lc ca la size z hRB rfl (by omega) hz9 hzb (coins_row hOC) k q g v u hk1 hv1

set_option maxHeartbeats 3200000 in
set_option maxRecDepth 100000 in
theorem lists6_any (a : Option Addr) (n cap : Nat) (z : List Int) (hz : z.length = n) (hn : n * 8 ≤ 140737488351232) (hzb : I64s z) (b : Option Addr) (m capb : Nat) (l : List Ent) (hl : l.length = m) (hmc : m ≤ capb) (hm : m * 56 ≤ 140737488351232) (hf : ∀ e ∈ l, Fits e) (w : World)
    (hr : Row w a n (fun i => .int .i64 (z.getD i 0))) (hrow : ERow w b m (fun i => l.getD i ent0)) :
    Calls Try.prog 17 #[.slice a n cap, .slice b m capb] w fun e w' => ∃ lb rb L, e = .returned (.tuple #[.pointer (some ⟨lb, 0, none⟩), .pointer (some ⟨rb, 0, none⟩), .bool true]) ∧ Both w z w' lb rb L := by
  have HNW := Lib.hid (new_any a n cap z hz hn w hr)
  have HRC := Lib.hid hr
  have HRE := Lib.hid hrow
  have HF := Lib.hid hf
  have HL := Lib.hid hl
  have HZ := Lib.hid hz
  clear hr hrow hf hl
  have HN := Lib.hid hn
  clear hz
  go_enter Try.func17, Try.ntmps17
  go_upto_region 1 with fail
  go_cut [7, 8] (fun s7 s8 wx => ∃ lb rb, s7 = .pointer (some ⟨lb, 0, none⟩) ∧ s8 = .pointer (some ⟨rb, 0, none⟩) ∧ Hid (SK wx w.heap.size lb z [] 0) ∧ Hid (RS wx w.heap.size rb z [] 0) ∧ Hid (Below w.heap.size w wx))
  case first =>
    by_cases h0 : n = 0
    · subst h0
      obtain rfl : z = [] := List.eq_nil_of_length_eq_zero HZ.out
      cases a with
      | none =>
        go_wp2_with fail
        refine HNW.out.mono ?_
        rintro e w1 ⟨lb, rfl, hs1, hb1⟩
        go_wp2_with fail
        go_meet
        exact ⟨lb, w1.heap.size, rfl, rfl, hs1.below (below_alloc (Below.refl _ _) _), ⟨none, 0, none, 0, hb1.size, heap_alloc_new _ _, World.ownsRow_nil _ _ _ _, World.ownsRow_nil _ _ _ _⟩, below_alloc hb1 _⟩
      | some a =>
        go_wp2_with fail
        refine HNW.out.mono ?_
        rintro e w1 ⟨lb, rfl, hs1, hb1⟩
        go_wp2_with fail
        go_meet
        exact ⟨lb, w1.heap.size, rfl, rfl, hs1.below (below_alloc (Below.refl _ _) _), ⟨none, 0, none, 0, hb1.size, heap_alloc_new _ _, World.ownsRow_nil _ _ _ _, World.ownsRow_nil _ _ _ _⟩, below_alloc hb1 _⟩
    · obtain ⟨bb, off, rfl, hbl, hc⟩ := HRC.out.at (by omega)
      obtain ⟨i0, hi, hz0, hz1, hz2⟩ := info_parts infoInt
      have HI := Lib.hid hi
      have HCC := Lib.hid hc
      clear hi hc
      go_wp2_with fail
      refine HNW.out.mono ?_
      rintro e w1 ⟨lb, rfl, hs1, hb1⟩
      have HS1 := Lib.hid hs1
      have HB1 := Lib.hid hb1
      have hnews : ∀ j u, (z.map (Value.int .i64))[j]? = some u → w1.cell? ((⟨bb, off, none⟩ : Addr).add j) = some u := fun j u hu => by
        rw [List.getElem?_map] at hu
        obtain ⟨x, hx, rfl⟩ := Option.map_eq_some_iff.1 hu
        have hj : j < z.length := (List.getElem?_eq_some_iff.1 hx).1
        have := HCC.out j (by rw [← HZ.out]; exact hj)
        rw [List.getD_eq_getElem?_getD, hx] at this
        have hadd : (⟨bb, off, none⟩ : Addr).add j = ⟨bb, off + j, none⟩ := by unfold Addr.add; split <;> simp_all
        rw [hadd]
        exact (hb1.cell (p := ⟨bb, off + j, Option.none⟩) hbl).trans this
      have HNE := Lib.hid hnews
      clear hs1 hb1 hnews
      have hzl : (z.map (Value.int .i64)).length = n * 1 := by rw [List.length_map, HZ.out, Nat.mul_one]
      have hz1c : ∀ u ∈ (z.map (Value.int .i64)), u.oneCell' = true := by intro u hu; simp at hu; obtain ⟨x, _, rfl⟩ := hu; rfl
      have hml : 0 + n ≤ maxLen := by have := HN.out; unfold maxLen; omega
      have hby : (0 + n) * 8 ≤ 140737488355328 := by have := HN.out; omega
      have hn0 : 0 < n := by omega
      go_wp2_with (at_builtin; refine wpList_append_lies w1 rfl _ _ 40 rfl w1.heap.size 3 i0 (.int .i64 0) 1 8 Try.underlying40 HI.out hz0 hz1 hz2 rfl (by decide) (.slice none 0 0) 0 [] rfl (World.ownsRow_nil _ _ _ _) ⟨bb, off, none⟩ n cap (z.map (Value.int .i64)) rfl hzl HNE.out hz1c hn0 hml hby (Nat.le_refl _) _ rfl ?_)
      intro g c1 w2 hq hgr _ hg
      try rw [List.nil_append] at hq
      try rw [Nat.zero_add] at hq
      try rw [Nat.zero_add] at hq
      try simp only [Nat.zero_add]
      have HQ := Lib.hid hq
      have HB2 := Lib.hid ((Below.refl w1.heap.size w1).grown hgr (Nat.le_refl _) (fun k hk => by simp [Value.ownBlock] at hk))
      clear hq hgr
      go_wp2_with fail
      go_meet
      have hz := HZ.out
      subst hz
      have hs2 := HS1.out.below HB2.out
      have hbb := chain HB1.out HB2.out
      exact ⟨lb, w2.heap.size, rfl, rfl, hs2.below (below_alloc (Below.refl _ _) _), ⟨some ⟨g, 0, none⟩, c1, none, 0, hbb.size, heap_alloc_new _ _, own_lower (HQ.out.alloc _) HB1.out.size, World.ownsRow_nil _ _ _ _⟩, below_alloc hbb _⟩
  case rest =>
  obtain ⟨lb, rb, rfl, rfl, HSK, HRS, HBL⟩ := hcut
  go_upto_region 2 with fail
  go_cut [22, 23, 24] (fun s22 s23 s24 wx => ∃ kk : Nat, s22 = .slice b kk capb ∧ s23 = .int .i64 kk ∧ s24 = .int .i64 0 ∧ kk ≤ 100 ∧ kk ≤ m ∧ wx = wc)
  case first =>
    go_wp2_with fail
    · go_meet
      exact ⟨100, rfl, rfl, rfl, by omega, by omega, rfl⟩
    · go_meet
      exact ⟨m, rfl, rfl, rfl, by omega, by omega, rfl⟩
  case rest =>
  obtain ⟨kk, rfl, rfl, rfl, hk100, hkm, hwc⟩ := hcut
  have h0s : Sorted ([] : List Ent) := fun i j _ h => by simp at h
  go_wp2_with fail
  go_loopw [24] (fun si wr => ∃ (i : Nat) (ns : List Nd) (size : Int), si = .int .i64 i ∧ i ≤ kk ∧ Hid (SK wr w.heap.size lb z ns size) ∧ Hid (RS wr w.heap.size rb z (ns.map Nd.e) size) ∧ Hid (Sorted (ns.map Nd.e)) ∧ ns.length ≤ i ∧ 0 ≤ size ∧ size ≤ i * 1000 ∧ Below w.heap.size w wr) (fun si _ => kk - (intOf si).toNat)
  case atStart => exact ⟨0, [], 0, rfl, by omega, by rw [hwc]; exact HSK.out, by rw [hwc]; exact HRS.out, h0s, by simp, by omega, by omega, by rw [hwc]; exact HBL.out⟩
  case round =>
    obtain ⟨i, ns, size, rfl, hi, hsk, hrs, hso, hnl, hs0, hs1, hbel⟩ := hrel
    by_cases hlt : i < kk
    · obtain ⟨ab, off, rfl, hab, hac⟩ := (HRE.out.below hbel).at (by omega)
      have hd := hac i (by omega)
      have hfx : Fits (l.getD i ent0) := by
        rw [List.getD_eq_getElem?_getD, List.getElem?_eq_getElem (by rw [HL.out]; omega)]
        exact HF.out _ (List.getElem_mem _)
      generalize l.getD i ent0 = x at hd hfx
      obtain ⟨k, q, g, v, u⟩ := x
      have hfk := hfx.key
      have hfv := hfx.val
      simp only at hd hfk hfv
      obtain ⟨d0, d1, d2, d3, d4⟩ := hd
      have i1 : (0 : Int) ≤ (i : Int) := by omega
      have i2 : (i : Int) < (kk : Int) := by omega
      have hbx := below_alloc (below_alloc (Below.refl wr.heap.size wr) (.cells #[.string k, .int .i64 q, .bool g, .string v, .int .i64 u] 51)) (.cells #[.string k, .int .i64 q, .bool g, .string v, .int .i64 u] 36)
      have hE10 : EBox ((wr.alloc (.cells #[.string k, .int .i64 q, .bool g, .string v, .int .i64 u] 51)).alloc (.cells #[.string k, .int .i64 q, .bool g, .string v, .int .i64 u] 36)) wr.heap.size 51 ⟨k, q, g, v, u⟩ := blk_alloc (heap_alloc_new _ _)
      have hE11 : EBox ((wr.alloc (.cells #[.string k, .int .i64 q, .bool g, .string v, .int .i64 u] 51)).alloc (.cells #[.string k, .int .i64 q, .bool g, .string v, .int .i64 u] 36)) (wr.heap.size + 1) 36 ⟨k, q, g, v, u⟩ := blk_new (by simp)
      clear hac
      go_wp2_with fail
      generalize hW : World.alloc _ _ = W0
      rw [hW] at hbx hE10 hE11
      generalize wr.heap.size + 1 = g11 at hE11 ⊢
      have HS := Lib.hid (hsk.out.below hbx)
      have HR := Lib.hid (hrs.out.below hbx)
      have HB := Lib.hid (chain hbel hbx)
      have hBW : w.heap.size ≤ W0.heap.size := HB.out.size
      generalize wr.heap.size = g10 at hE10 ⊢
      have HE := Lib.hid hE11
      have HF2 := Lib.hid hE10
      clear hW hbx hE10 hE11 d0 d1 d2 d3 d4 hsk hrs hbel hab wr
      have hz9 : z.length ≤ 9223372036854775807 := by rw [HZ.out]; have := HN.out; omega
      have HCO := Lib.hid (fun W h => scost_any w.heap.size lb z ns size (by omega) hz9 hzb k q g v u hfk hfv W h)
      have HRO := Lib.hid (fun W h => rscost_any w.heap.size rb z (ns.map Nd.e) size (by rw [List.length_map]; omega) hz9 hzb k q g v u hfk hfv W h)
      rw [List.length_map] at HRO
      have HPU := Lib.hid (fun W hB h => put_any W w.heap.size lb z ns size hB h hso.out (by omega) hz9 hzb (by omega) k q g v u)
      have HRP := Lib.hid (fun W hB h => rput_any W w.heap.size rb z (ns.map Nd.e) size hB h hso.out (by rw [List.length_map]; omega) hz9 hzb (by omega) k q g v u)
      have hcb : 0 ≤ costE z ns.length ⟨k, q, g, v, u⟩ := by have := coinH_bd z ns.length; unfold costE; simp only; omega
      have hcb2 := Lib.hid (fun (hg : (skE (ns.map Nd.e) ⟨k, q, g, v, u⟩).2 = 0) => (show costE z ns.length ⟨k, q, g, v, u⟩ ≤ 1000 by
        have hgd : goodE ⟨k, q, g, v, u⟩ = 0 := by
          by_cases h' : goodE ⟨k, q, g, v, u⟩ = 0
          · exact h'
          · unfold skE at hg; rw [if_pos h'] at hg; exact absurd hg h'
        have := goodE_sz6 hgd
        have := coinH_bd z ns.length
        unfold costE; simp only at *; omega))
      unfold PutR at HPU
      unfold RPutR at HRP
      rw [List.length_map] at HPU HRP
      have HSS := Lib.hid (skE_sorted (e := ⟨k, q, g, v, u⟩) hso.out)
      have HLN := Lib.hid (skE_len (ns.map Nd.e) ⟨k, q, g, v, u⟩)
      rw [List.length_map] at HLN
      generalize skE (ns.map Nd.e) ⟨k, q, g, v, u⟩ = sk at HPU HRP HSS HLN hcb2
      generalize costE z ns.length ⟨k, q, g, v, u⟩ = co at HCO HRO HPU HRP hcb hcb2
      obtain ⟨L2, er⟩ := sk
      simp only at HPU HRP HSS HLN hcb2
      go_region_held3 (fun w' => (w'.cell? ⟨g11, 0, none⟩ = some (.string k) ∧ w'.cell? ⟨g11, 0 + 1, none⟩ = some (.int .i64 q) ∧ w'.cell? ⟨g11, 0 + 2, none⟩ = some (.bool g) ∧ w'.cell? ⟨g11, 0 + 3, none⟩ = some (.string v) ∧ w'.cell? ⟨g11, 0 + 4, none⟩ = some (.int .i64 u)) ∧
          (w'.cell? ⟨g10, 0, none⟩ = some (.string k) ∧ w'.cell? ⟨g10, 0 + 1, none⟩ = some (.int .i64 q) ∧ w'.cell? ⟨g10, 0 + 2, none⟩ = some (.bool g) ∧ w'.cell? ⟨g10, 0 + 3, none⟩ = some (.string v) ∧ w'.cell? ⟨g10, 0 + 4, none⟩ = some (.int .i64 u)))
        (exact ⟨HE.out.cells, HF2.out.cells⟩)
        (first
          | (go_at_call 38; refine (HCO.out _ (HS.out.below (Below.refl _ _).drew)).mono ?_; rintro e w3 ⟨rfl, hb3⟩
             have HS := Lib.hid ((HS.out.below (Below.refl _ _).drew).below hb3)
             have HR := Lib.hid ((HR.out.below (Below.refl _ _).drew).below hb3)
             have HB := Lib.hid (chain HB.out.drew hb3)
             have HE := Lib.hid (EBox.below (w := W0.drew) HE.out hb3)
             have HF2 := Lib.hid (EBox.below (w := W0.drew) HF2.out hb3)
             have hBW3 : w.heap.size ≤ w3.heap.size := HB.out.size)
          | (go_at_call 39; refine (HRO.out _ HR.out).mono ?_; rintro e w4 ⟨rfl, hb4⟩
             have HS := Lib.hid (HS.out.below hb4)
             have HR := Lib.hid (HR.out.below hb4)
             have HB := Lib.hid (chain HB.out hb4)
             have HE := Lib.hid (EBox.below HE.out hb4)
             have HF2 := Lib.hid (EBox.below HF2.out hb4)
             have hBW4 : w.heap.size ≤ w4.heap.size := HB.out.size)
          | (go_at_call 40; refine (HPU.out _ hBW4 HS.out).mono ?_; rintro e w5 ⟨rfl, ⟨ns5, hns5, hs5⟩, hb5, hk5⟩
             have HS := Lib.hid hs5
             have HR := Lib.hid (HR.out.keeps hk5 (by decide) (by decide) (by decide))
             have HB := Lib.hid (HB.out.trans hb5)
             have HE := Lib.hid (EBox.keeps HE.out hk5 (by decide))
             have HF2 := Lib.hid (EBox.keeps HF2.out hk5 (by decide))
             have hBW5 : w.heap.size ≤ w5.heap.size := HB.out.size)
          | (go_at_call 41; refine (HRP.out _ hBW5 HR.out).mono ?_; rintro e w6 ⟨rfl, hr6, ho6, hb6⟩
             obtain ⟨rcs, hrcs⟩ := HR.out.blk
             have hk6 := keeps_only ho6 hrcs
             have HS := Lib.hid (SK.keeps HS.out hk6 (by decide) (by decide) (by decide) (by decide))
             have HR := Lib.hid hr6
             have HB := Lib.hid (HB.out.trans hb6)
             have HE := Lib.hid (EBox.keeps HE.out hk6 (by decide))
             have HF2 := Lib.hid (EBox.keeps HF2.out hk6 (by decide))))
      all_goals
        have hfin : Hid (SK w6 w.heap.size lb z ns5 (if er = 0 then size + co else size)) := HS.out
        have hfr : Hid (RS w6 w.heap.size rb z (ns5.map Nd.e) (if er = 0 then size + co else size)) := by rw [hns5]; exact HR.out
        have hfb := HB.out
        have hfs : Hid (Sorted (ns5.map Nd.e)) := by rw [hns5]; exact HSS.out
        have hfl : ns5.length ≤ i + 1 := by
          have h1 := congrArg List.length hns5
          rw [List.length_map] at h1
          have h2 := HLN.out
          omega
        have hfz : 0 ≤ (if er = 0 then size + co else size) ∧ (if er = 0 then size + co else size) ≤ ((i + 1 : Nat) : Int) * 1000 := by
          by_cases her : er = 0
          · rw [if_pos her]; have := hcb2.out her; omega
          · rw [if_neg her]; omega
        generalize (if er = 0 then size + co else size) = sz at hfin hfr hfz
        clear ho6 hb6 hb5 hk5 hk6 hns5 hrcs
        go_wp2_with fail
        go_roundw
        case rel => exact ⟨i + 1, ns5, sz, by go_num, by omega, hfin, hfr, hfs, hfl, hfz.1, hfz.2, hfb⟩
        case measure => simp [intOf]; omega
    · obtain rfl : i = kk := by omega
      go_wp2_with fail
      go_ret3
      exact ⟨lb, rb, ns.map Nd.e, rfl, ns, size, hsk.out, rfl, hrs.out, hso.out, by rw [List.length_map]; omega, hs0, by omega, hbel⟩
end Go.Proofs.Ytdhnkalkfipmhaa.Ew
