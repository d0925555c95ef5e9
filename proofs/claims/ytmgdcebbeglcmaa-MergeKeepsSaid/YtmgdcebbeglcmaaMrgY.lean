/- The walk of merge.Compact. -/
import Derived.Test.YtmgdcebbeglcmaaMrgM
namespace Go.Proofs.Ytmgdcebbeglcmaa.Ew
open Go.RowKit
open En B
set_option linter.unusedVariables false
attribute [local go_sem] Oper.semAt_some

/-- between two rounds of Compact -/
def CmpJ (w : World) (sa : Option Addr) (sn scap : Nat) (L : List Ent) (z : List Int) (now : Int) (bot : Bool) (p : Nat) (W : World) : Prop :=
  Cell1 W w.heap.size 43 (.slice sa sn scap) ∧ Cell1 W (w.heap.size + 1) 2 (.int .i64 now) ∧ Cell1 W (w.heap.size + 2) 4 (.bool bot) ∧
  (∃ pp m d, Cell1 W (w.heap.size + 3) 23 (.slice pp m d) ∧ W.ownsRow w.heap.size 37 5 (.slice pp m d) m (ecells (compT L z now bot p)) ∧ m = (compT L z now bot p).length) ∧ Below w.heap.size w W ∧ w.heap.size + 4 < W.heap.size
theorem cmpJ_bides (w : World) (sa : Option Addr) (sn scap : Nat) (L : List Ent) (z : List Int) (now : Int) (bot : Bool) (B : Nat) (hB : w.heap.size ≤ B) : Bides (w.heap.size + 4) B (CmpJ w sa sn scap L z now bot) where
  set := by
    rintro p W v v' ⟨h0, h1, h2, ⟨pp, m, d, h3, h4, h5⟩, h6, h7⟩ hc
    exact ⟨h0.far (p := ⟨w.heap.size + 4, 0, none⟩) (by show w.heap.size ≠ w.heap.size + 4; omega) _, h1.far (p := ⟨w.heap.size + 4, 0, none⟩) (by show w.heap.size + 1 ≠ w.heap.size + 4; omega) _, h2.far (p := ⟨w.heap.size + 4, 0, none⟩) (by show w.heap.size + 2 ≠ w.heap.size + 4; omega) _, ⟨pp, m, d, h3.far (p := ⟨w.heap.size + 4, 0, none⟩) (by show w.heap.size + 3 ≠ w.heap.size + 4; omega) _, own_farB h4 (p := ⟨w.heap.size + 4, 0, none⟩) (row_ne (g := w.heap.size + 4) hc h4 (by decide)) _, h5⟩, h6.setCell (p := ⟨w.heap.size + 4, 0, none⟩) (by show w.heap.size ≤ w.heap.size + 4; omega) _, by rw [size_set]; exact h7⟩
  drew := by
    rintro p W k ⟨h0, h1, h2, ⟨pp, m, d, h3, h4, h5⟩, h6, h7⟩
    exact ⟨h0, h1, h2, ⟨pp, m, d, h3, own_drewN h4 k, h5⟩, drewN h6, h7⟩
  alloc := by
    rintro p W o ⟨h0, h1, h2, ⟨pp, m, d, h3, h4, h5⟩, h6, h7⟩
    exact ⟨Cell1.alloc h0 o, Cell1.alloc h1 o, Cell1.alloc h2 o, ⟨pp, m, d, Cell1.alloc h3 o, h4.alloc o, h5⟩, h6.alloc h6.size o, by simp; omega⟩
  put := by
    rintro p W r o o' ⟨h0, h1, h2, ⟨pp, m, d, h3, h4, h5⟩, h6, h7⟩ hr ho hoc
    exact ⟨Cell1.put h0 ho hoc o', Cell1.put h1 ho hoc o', Cell1.put h2 ho hoc o', ⟨pp, m, d, Cell1.put h3 ho hoc o', ownsRow_putObj h4 o' ho hoc, h5⟩, below_put h6 h6.size (Nat.le_trans hB hr) o', by rw [World.putObj_size]; exact h7⟩

set_option maxHeartbeats 6400000 in
set_option maxRecDepth 100000 in
theorem comp_any (a : Option Addr) (n cap : Nat) (L : List Ent) (hl : L.length = n) (hnc : n ≤ cap) (hcap : cap ≤ 9223372036854775807) (hn : n * 56 ≤ 140737488351232) (hso : Sorted L) (w : World) (hr : ERow w a n (fun i => L.getD i ent0))
    (sa : Option Addr) (sn scap : Nat) (z : List Int) (hz : z.length = sn) (hsn : sn ≤ 140737488351232) (hzr : Row w sa sn (fun i => .int .i64 (z.getD i 0))) (now : Int) (bot : Bool) :
    Calls Try.prog 18 #[.slice a n cap, .slice sa sn scap, .int .i64 now, .bool bot] w (OwnR w.heap.size 37 (compE L z now bot) w) := by
  have HL := Lib.hid hl
  have HS := Lib.hid hso
  have HR := Lib.hid hr
  have HZ := Lib.hid hz
  have HZR := Lib.hid hzr
  clear hl hr hso hz hzr
  refine (callsIn_wide (n := 0)).1 (callsIn_of_wp_marks Try.func18 rfl trivial ?_ rfl)
  refine wpIn_wide.2 ?_
  simp only [Try.ntmps18, List.size_toArray, List.length_cons, List.length_nil, Nat.reduceAdd, Nat.reduceSub, Array.replicate_succ, Array.replicate_zero, List.push_toArray, List.append_toArray, List.nil_append, List.cons_append]
  go_wp2_with fail
  refine (keys_any a n cap _).mono ?_
  rintro e w1 ⟨rfl, rfl⟩
  go_wp2_with fail
  have hbW : Below w.heap.size w (((((w.alloc (.cells #[.slice sa sn scap] 43)).alloc (.cells #[.int .i64 now] 2)).alloc (.cells #[.bool bot] 4)).alloc (.cells #[.slice none 0 0] 23)).alloc (.cells #[.slice a n cap] 23)) :=
    below_alloc (below_alloc (below_alloc (below_alloc (below_alloc (Below.refl _ _) _) _) _) _) _
  have hsz : (((((w.alloc (.cells #[.slice sa sn scap] 43)).alloc (.cells #[.int .i64 now] 2)).alloc (.cells #[.bool bot] 4)).alloc (.cells #[.slice none 0 0] 23)).alloc (.cells #[.slice a n cap] 23)).heap.size = w.heap.size + 5 := by simp
  have c4 : Cell1 (((((w.alloc (.cells #[.slice sa sn scap] 43)).alloc (.cells #[.int .i64 now] 2)).alloc (.cells #[.bool bot] 4)).alloc (.cells #[.slice none 0 0] 23)).alloc (.cells #[.slice a n cap] 23)) w.heap.size 43 (.slice sa sn scap) := blk_alloc (blk_alloc (blk_alloc (blk_alloc (blk_new rfl))))
  have c5 : Cell1 (((((w.alloc (.cells #[.slice sa sn scap] 43)).alloc (.cells #[.int .i64 now] 2)).alloc (.cells #[.bool bot] 4)).alloc (.cells #[.slice none 0 0] 23)).alloc (.cells #[.slice a n cap] 23)) (w.heap.size + 1) 2 (.int .i64 now) := blk_alloc (blk_alloc (blk_alloc (blk_new (by simp))))
  have c6 : Cell1 (((((w.alloc (.cells #[.slice sa sn scap] 43)).alloc (.cells #[.int .i64 now] 2)).alloc (.cells #[.bool bot] 4)).alloc (.cells #[.slice none 0 0] 23)).alloc (.cells #[.slice a n cap] 23)) (w.heap.size + 2) 4 (.bool bot) := blk_alloc (blk_alloc (blk_new (by simp)))
  have c7 : Cell1 (((((w.alloc (.cells #[.slice sa sn scap] 43)).alloc (.cells #[.int .i64 now] 2)).alloc (.cells #[.bool bot] 4)).alloc (.cells #[.slice none 0 0] 23)).alloc (.cells #[.slice a n cap] 23)) (w.heap.size + 3) 23 (.slice none 0 0) := blk_alloc (blk_new (by simp))
  have c8 : Cell1 (((((w.alloc (.cells #[.slice sa sn scap] 43)).alloc (.cells #[.int .i64 now] 2)).alloc (.cells #[.bool bot] 4)).alloc (.cells #[.slice none 0 0] 23)).alloc (.cells #[.slice a n cap] 23)) (w.heap.size + 4) 23 (.slice a n cap) := blk_new (by simp)
  generalize ((((w.alloc (.cells #[.slice sa sn scap] 43)).alloc (.cells #[.int .i64 now] 2)).alloc (.cells #[.bool bot] 4)).alloc (.cells #[.slice none 0 0] 23)).alloc (.cells #[.slice a n cap] 23) = W0 at hbW hsz c4 c5 c6 c7 c8 ⊢
  refine range_keys (g := w.heap.size + 4) (n := n) (cap := cap) (a0 := a) (L := L) rfl HL.out hnc hcap (by omega) HS.out c8 (CmpJ w sa sn scap L z now bot) (cmpJ_bides w sa sn scap L z now bot _ (by omega)) (fun p W h => HR.out.below h.2.2.2.2.1)
    ⟨c4, c5, c6, ⟨none, 0, 0, c7, by rw [compT_0]; exact World.ownsRow_nil _ _ _ _, by rw [compT_0]; rfl⟩, hbW, by omega⟩
    (fun v => { tmps := #[.slice a n cap, .slice sa sn scap, .int .i64 now, .bool bot, undef, .pointer (some ⟨w.heap.size, 0, none⟩), .pointer (some ⟨w.heap.size + 1, 0, none⟩), .pointer (some ⟨w.heap.size + 1 + 1, 0, none⟩), .slice none 0 0, .pointer (some ⟨w.heap.size + 1 + 1 + 1, 0, none⟩), v, undef, undef, undef, undef, undef, undef, undef, .slice a n cap, .func (.func 32) #[] #[.pointer (some ⟨w.heap.size + 1 + 1 + 1 + 1, 0, none⟩)], v, undef, undef, undef, undef, undef, undef, undef, undef, undef, undef, undef, undef, undef, undef, undef, undef, undef, undef, undef, undef, undef, undef, undef, undef, undef, undef, undef, undef, undef, undef, undef, undef, undef, undef, undef, undef, undef, undef, undef, undef, undef, undef, undef, undef, undef, undef, undef, undef, undef, undef, undef, undef, undef, undef, undef, undef, undef, undef, undef, undef], defers := [] }) ?assign ?body ?done
  case assign =>
    intro l v W K hK
    gi_wp2
    exact hK
  case body =>
    clear c4 c5 c6 c7 c8 hbW hsz
    clear W0
    rintro l p q v W hJ hcut hgrp hrs ⟨vb, hvb⟩
    obtain ⟨h4, h5, h6, ⟨pp, m, d, h7, hown, hm⟩, hbel, hg3⟩ := hJ
    obtain ⟨a', k, c, rfl, hpk, hpc, her⟩ := hrs.row (by have := hgrp.le; rw [HL.out] at this; exact this) (HR.out.below hbel)
    have HH4 := Lib.hid h4
    have HH5 := Lib.hid h5
    have HH6 := Lib.hid h6
    have HH7 := Lib.hid h7
    have HOW := Lib.hid hown
    have HMM := Lib.hid hm
    have HER := Lib.hid her
    have HGR := Lib.hid hgrp
    have HPK := Lib.hid hpk
    have hqn : q ≤ n := by have := hgrp.le; rw [HL.out] at this; exact this
    have hkn : k ≤ n := by omega
    have hpq : p < q := hgrp.lt
    have hsW := hbel.size
    have HRST : Hid (True ∧ ∀ W', ERow W' a n (fun i => L.getD i ent0) → ERow W' a' k (fun j => L.getD (p + j) ent0)) := ⟨trivial, fun W' h => by
      obtain ⟨a2, k2, c2, he, h2, h3, h4⟩ := hrs.row hqn h
      cases he
      exact h4⟩
    clear hrs hgrp hown hm her h4 h5 h6 h7 hpk hpc hcut
    have hmm := @run_makeMap Try.prog
    obtain ⟨w1, hmu, hmap, hgr⟩ := (mapC_new W).store (by unfold maxLen; omega) 0 (by omega) 1 ⟨by omega, by omega⟩
    have hmu0 : (Instr.mapUpdate 69 (.map (some W.heap.size)) (.int .i64 0) (.int .i64 1)).run Try.prog (W.alloc (.map #[] 0)) = .ok () w1 := hmu
    clear hmu
    have hW1 : Below W.heap.size W w1 := ((Below.refl W.heap.size W).alloc (Nat.le_refl _) _).grown hgr (by simp) (fun k e => by cases e; exact Nat.le_refl _)
    have HRJ : Hid (RJ w W sa sn scap now bot vb W.heap.size 1 (fun j => if j = 0 then 1 else 0) (compT L z now bot p) pp m d w1) := by
      have hB := HH4.out.below hW1
      exact ⟨hB, HH5.out.below hW1, HH6.out.below hW1, HH7.out.below hW1, own_below HOW.out hW1, HMM.out, chain hbel hW1, Nat.lt_of_lt_of_le hg3 hW1.size, kept_below hg3 hW1, hvb.below hW1, hmap⟩
    have HTO := Lib.hid (told_0 L p q z)
    have f4 := HRJ.out.c4.cell
    clear hmap hgr hW1 HH4 HH5 HH6 HH7 HOW HMM hvb
    gi_wp2
    gi_loopw [25] (fun si wr => ∃ (i : Nat) (cn : Nat → Int), si = .int .i64 i ∧ i ≤ sn ∧ Hid (En.Told L p q z i cn) ∧ Hid (RJ w W sa sn scap now bot vb W.heap.size (i + 1) cn (compT L z now bot p) pp m d wr)) (fun si _ => sn - (intOf si).toNat)
    case atStart => exact ⟨0, _, rfl, by omega, HTO.out, HRJ.out⟩
    case round =>
      clear HRJ HTO f4 hmu0 hmm
      clear w1
      obtain ⟨i, cn, rfl, hi, hto, hrj⟩ := hrel
      by_cases hlt : i < sn
      · obtain ⟨sb, soff, rfl, hsb, hsc⟩ := HZR.out.at (by omega)
        have hs0 := hsc i hlt
        have HUP := Lib.hid (fun s W' h => upto_any a' k c (fun j => L.getD (p + j) ent0) (by omega) s W' h)
        have HTN := Lib.hid (fun hu => told_no HS.out HGR.out (k := i) (by rw [HZ.out]; exact hlt) hto.out hu)
        have HTU := Lib.hid (fun (r : Nat) hu => told_up HS.out HGR.out (k := i) (r := r) (by rw [HZ.out]; exact hlt) hto.out hu)
        generalize z.getD i 0 = s at hs0 HTN HTU
        have hs1 := (hrj.out.bel.cell (p := ⟨sb, soff + i, none⟩) hsb).trans hs0
        have i1 : (0 : Int) ≤ (i : Int) := by omega
        have i2 : (i : Int) < (sn : Int) := by omega
        have her2 := HR.out.below hrj.out.bel
        have hrow2 : ERow wr a' k (fun j => L.getD (p + j) ent0) := HRST.out.2 wr her2
        have HU2 := Lib.hid (HUP.out s wr hrow2)
        have HTO2 := hto
        clear hsc hsb hs0 her2 hrow2 HUP hto
        gi_wp2
        refine ⟨trivial, rfl, (CallsIn.inRound l (callsIn_wide.2 HU2.out)).mono ?_⟩
        rintro e w2 ⟨r, rfl, hu, hb2⟩
        have hui : UpIs L p q s r := by
          rcases hu with ⟨j, hj, hjk, h1, h2⟩ | ⟨hj, h1⟩
          · exact .inl ⟨j, hj, by have := HPK.out; omega, h1, h2⟩
          · exact .inr ⟨hj, fun k2 hk2 => h1 k2 (by have := HPK.out; omega)⟩
        have hrk : -1 ≤ r ∧ r < k := by
          rcases hu with ⟨j, hj, hjk, h1, h2⟩ | ⟨hj, h1⟩ <;> omega
        have HRJ2 := Lib.hid (hrj.out.below hb2)
        clear hu hb2 hrj HU2 hs1
        by_cases hr0 : r = -1
        · subst hr0
          have HT2 := Lib.hid (HTN.out hui)
          clear hui HTN HTU
          gi_wp2
          go_roundw
          case rel => exact ⟨i + 1, cn, by go_num, by omega, HT2.out, ⟨HRJ2.out.c4, HRJ2.out.c5, HRJ2.out.c6, HRJ2.out.c7, HRJ2.out.own, HRJ2.out.len, HRJ2.out.bel, HRJ2.out.siz, HRJ2.out.kept, HRJ2.out.box, HRJ2.out.map.mono (by omega)⟩⟩
          case measure => simp [intOf]; omega
        · obtain ⟨j, rfl⟩ : ∃ j : Nat, r = (j : Int) := ⟨r.toNat, by omega⟩
          have HT2 := Lib.hid (HTU.out j hui)
          have hcb := HTO2.out j (by have := HPK.out; omega)
          have hlk := HRJ2.out.map.look j (by omega)
          obtain ⟨w3, hmu, hmap3, hgr3⟩ := HRJ2.out.map.store (by unfold maxLen; omega) j (by omega) (cn j + 1) ⟨by omega, by omega⟩
          have hc1 : 0 ≤ cn j := hcb.1.1
          have hc2 : cn j ≤ 140737488351232 + 1 := by have := hcb.1.2; omega
          have HRJ3 := Lib.hid (HRJ2.out.upd hgr3 hmap3 (Nat.le_refl _) hsW)
          have HT3 : Hid (En.Told L p q z (i + 1) (fun j2 => if j2 = j then cn j + 1 else cn j2)) := HT2.out
          generalize (fun j2 => if j2 = j then cn j + 1 else cn j2) = cn2 at HRJ3 HT3
          generalize cn j = x at hlk hmu hc1 hc2
          clear hui HTN HTU hcb HT2 hmap3 hgr3 HTO2
          gi_wp2
          go_roundw
          case rel => exact ⟨i + 1, cn2, by go_num, by omega, HT3.out, HRJ3.out⟩
          case measure => simp [intOf]; omega
      · obtain rfl : i = sn := by omega
        have f7 := hrj.out.c7.cell
        have HKE := Lib.hid (fun j (hj : p + j < q) => told_keep HS.out HGR.out (z := z) (by rw [HZ.out]; exact hto.out) hj)
        have HTB := Lib.hid (fun j (hj : p + j < q) => (hto.out j hj).1)
        clear hto
        have HRJ := Lib.hid hrj.out
        have hcl := compT_len L z now bot p
        have hm0 : m ≤ p := by have := HRJ.out.len; omega
        have hpkn : p + k ≤ n := by have := HPK.out; omega
        have HML := Lib.hid HRJ.out.len
        clear hrj
        gi_wp2
        gi_loopw [43] (fun si wr => ∃ (j : Nat) (pp2 : Option Addr) (m2 d2 : Nat), si = .int .i64 j ∧ j ≤ k ∧ m2 ≤ m + j ∧ Hid (RJ w W sa i scap now bot vb W.heap.size (i + 1) cn (compT L z now bot p ++ segK L z p j) pp2 m2 d2 wr)) (fun si _ => k - (intOf si).toNat)
        case atStart => exact ⟨0, pp, m, d, rfl, by omega, by omega, by rw [segK_0, List.append_nil]; exact HRJ.out⟩
        case round =>
          clear HRJ f7
          obtain ⟨j, pp2, m2, d2, rfl, hj, hm2, hrj⟩ := hrel
          by_cases hlt2 : j < k
          · obtain ⟨ab, off, rfl, hab, hac⟩ := (HRST.out.2 wr (HR.out.below hrj.out.bel)).at (by omega)
            have hd := hac j (by omega)
            have HSE := Lib.hid (segK_succ L z p j (by rw [HL.out]; have := HPK.out; omega))
            have hke := HKE.out j (by have := HPK.out; omega)
            have htb := HTB.out j (by have := HPK.out; omega)
            generalize L.getD (p + j) ent0 = x at hd HSE hke
            obtain ⟨k0, q0, g0, v0, u0⟩ := x
            simp only at hd
            obtain ⟨d0, d1, d2', d3, d4⟩ := hd
            have hbx := below_alloc (Below.refl wr.heap.size wr) (.cells #[.string k0, .int .i64 q0, .bool g0, .string v0, .int .i64 u0] 37)
            have HRA := Lib.hid (hrj.out.below hbx)
            have hlk := HRA.out.map.look j (by omega)
            have i3 : (0 : Int) ≤ (j : Int) := by omega
            have i4 : (j : Int) < (k : Int) := by omega
            have HKK := Lib.hid hke
            have HBX := Lib.hid hbx
            have f9 := HRA.out.c7.cell
            have hgs := hrj.out.siz
            generalize cn j = x at hlk htb HKK
            clear hac hab hke hbx hrj
            by_cases hx0 : 0 < x
            · have hdx : decide (0 < x) = true := dt hx0
              have HS2 := Lib.hid (show segK L z p (j + 1) = segK L z p j ++ [⟨k0, q0, g0, v0, u0⟩] by rw [HSE.out, if_pos (HKK.out.1 hx0)])
              have HBL : Hid (Below wr.heap.size wr ((wr.alloc (.cells #[.string k0, .int .i64 q0, .bool g0, .string v0, .int .i64 u0] 37)).alloc (.cells #[.string k0, .int .i64 q0, .bool g0, .string v0, .int .i64 u0] 37))) := below_alloc HBX.out _
              have HRB := Lib.hid (HRA.out.below ((Below.refl _ _).alloc (Nat.le_refl _) (.cells #[.string k0, .int .i64 q0, .bool g0, .string v0, .int .i64 u0] 37)))
              have HAN : Hid (((wr.alloc (.cells #[.string k0, .int .i64 q0, .bool g0, .string v0, .int .i64 u0] 37)).alloc (.cells #[.string k0, .int .i64 q0, .bool g0, .string v0, .int .i64 u0] 37)).heap[wr.heap.size + 1]? = some (.cells #[.string k0, .int .i64 q0, .bool g0, .string v0, .int .i64 u0] 37 (0, 0))) := blk_new (by simp)
              gi_wp2_with (gi_at_builtin; refine wpListIn_pushG rfl _ _ 23 rfl Try.underlying23 infoAE rfl (by decide) rfl #[.string k0, .int .i64 q0, .bool g0, .string v0, .int .i64 u0] rfl ?c1 rfl HAN.out HRB.out.own ?c2 ?c3 ?c4 ?_)
              case c1 => simp [Value.oneCell']
              case c2 => exact HRB.out.bel.size
              case c3 => unfold maxLen; omega
              case c4 => omega
              intro a5 cap5 w5 hown5 hg5 hb5
              obtain ⟨hc5, hfin⟩ := HRB.out.push (e := ⟨k0, q0, g0, v0, u0⟩) hown5 hg5 hb5
              have s0 := hc5.cell
              have z0 := hc5.fz
              have HFIN : Hid (RJ w W sa i scap now bot vb W.heap.size (i + 1) cn (compT L z now bot p ++ segK L z p (j + 1)) a5 (m2 + 1) cap5 (w5.setCell ⟨w.heap.size + 3, 0, none⟩ (.slice a5 (m2 + 1) cap5))) := by rw [HS2.out, ← List.append_assoc]; exact hfin
              clear hfin hown5 hg5 hb5 hc5 hlk f9 d0 d1 d2' d3 d4
              gi_wp2
              go_roundw
              case rel => exact ⟨j + 1, a5, m2 + 1, cap5, by go_num, by omega, by omega, HFIN.out⟩
              case measure => simp [intOf]; omega
            · have hdx : decide (0 < x) = false := df hx0
              have HS2 := Lib.hid (show segK L z p (j + 1) = segK L z p j by rw [HSE.out, if_neg (fun h => hx0 (HKK.out.2 h)), List.append_nil])
              gi_wp2
              go_roundw
              case rel => exact ⟨j + 1, pp2, m2, d2, by go_num, by omega, by omega, by rw [HS2.out]; exact HRA.out⟩
              case measure => simp [intOf]; omega
          · obtain rfl : j = k := by omega
            have hqp : q - p = j := by have := HPK.out; omega
            have HSL := Lib.hid (show segK L z p j = segK L z p (q - p) by rw [hqp])
            clear hqp
            rw [HSL.out] at hrj
            have HRJ := Lib.hid hrj.out
            have hsl := segK_len L z p (q - p)
            have HCF := Lib.hid (compT_false (z := z) (now := now) HGR.out)
            have HCT := Lib.hid (fun m h1 h2 h3 => compT_true (m := m) HS.out (z := z) (now := now) HGR.out h1 h2 h3)
            have hqk : q - p ≤ j := by have := HPK.out; omega
            obtain ⟨S, hS⟩ : ∃ S, S = segK L z p (q - p) := ⟨_, rfl⟩
            have hml := HRJ.out.len
            rw [List.length_append] at hml
            rw [← hS] at HCF HCT HRJ hsl hml
            obtain ⟨BP, hBP⟩ : ∃ BP, BP = compT L z now bot p := ⟨_, rfl⟩
            rw [← hBP] at HRJ hml HML hcl
            have HBP := Lib.hid hBP
            have hm22 : m2 = m + S.length := by rw [HML.out]; exact hml
            have HM22 := Lib.hid hm22
            clear hrj hS hBP hml hm22 HSL HKE HTB
            gi_wp2
            gi_loopw [57] (fun _ wr => ∃ (t : Nat) (pp2 : Option Addr) (m2 d2 : Nat), t ≤ S.length ∧ Hid (m2 = m + t) ∧ Hid (∀ s, t ≤ s → s < S.length → aliveE (S.getD s ent0) now = false) ∧ Hid (bot = false → t = S.length) ∧ Hid (RJ w W sa i scap now bot vb W.heap.size (i + 1) cn (BP ++ S.take t) pp2 m2 d2 wr)) (fun _ wr => lenAt wr (w.heap.size + 3))
            case atStart => exact ⟨S.length, pp2, m2, d2, Nat.le_refl _, HM22.out, (fun s h1 h2 => by omega), (fun _ => rfl), by rw [List.take_length]; exact HRJ.out⟩
            case round =>
              clear HRJ HM22
              obtain ⟨t, pp3, m3, d3, ht, hm3, hdead, hbf, hrj⟩ := hrel
              have hexit : Hid (compT L z now bot q = BP ++ S.take t → ∀ A w', Below wr.heap.size wr w' → roundQ (w.heap.size + 4) q (CmpJ w sa i scap L z now bot) W .normal A w') := fun he A w' hb => by
                have h := hrj.out.below hb
                exact ⟨h.kept, h.c4, h.c5, h.c6, ⟨pp3, m3, d3, h.c7, by rw [he]; exact h.own, by rw [he]; exact h.len⟩, h.bel, h.siz⟩
              have hm3b : m3 ≤ m + S.length := by have := hm3.out; omega
              have r7 := fun d os => cell_regrown hrj.out.c7.cell d os
              have r5 := fun d os => cell_regrown hrj.out.c5.cell d os
              rcases Bool.eq_false_or_eq_true bot with hb | hb
              · have r6 := fun d os => cell_regrown (show wr.cell? ⟨w.heap.size + 2, 0, none⟩ = some (.bool true) from hb ▸ hrj.out.c6.cell) d os
                have HB := Lib.hid hb
                clear hb hbf
                by_cases ht0 : t = 0
                · have hmm3 : m3 = m := by have := hm3.out; omega
                  have HEX := Lib.hid (hexit.out (by rw [HB.out, HCT.out t ht (fun s h1 h2 => hdead.out s h1 h2) (.inl ht0), HBP.out, HB.out]))
                  have hd0 : ¬ m < m3 := by omega
                  have hd1 : decide (m < m3) = false := df hd0
                  clear hmm3 hd0 ht0 hexit
                  gi_wp2
                  refine wpIn_round_quiet (by kernel_rfl) (by kernel_rfl) (by kernel_rfl) (fun ⟨_, _, h⟩ => h) ?_
                  repeat (first | go_big_quiet_step (fail) | quiet_step (fail))
                  refine wpQuiet_nil ?_
                  rintro _ ⟨pr, rfl⟩
                  gi_wp2
                  exact HEX.out _ _ (below_regrown wr pr.d pr.os)
                · have hm1 : m < m3 := by have := hm3.out; omega
                  obtain ⟨eb, eo, rfl, heb, hec⟩ := (own_erow hrj.out.own).2.2.at (by omega)
                  have hd := hec (m3 - 1) (by omega)
                  have hlast : (BP ++ S.take t).getD (m3 - 1) ent0 = S.getD (t - 1) ent0 := by
                    have h1 := HML.out
                    have h2 := hm3.out
                    rw [List.getD_eq_getElem?_getD, List.getElem?_append_right (by omega), show m3 - 1 - BP.length = t - 1 from by omega, List.getElem?_take_of_lt (by omega), ← List.getD_eq_getElem?_getD]
                  have hpop : (BP ++ S.take t).take (m3 - 1) = BP ++ S.take (t - 1) := by
                    have h1 := HML.out
                    have h2 := hm3.out
                    rw [List.take_append, List.take_of_length_le (by omega), show m3 - 1 - BP.length = t - 1 from by omega, List.take_take, Nat.min_eq_left (by omega)]
                  rw [hlast] at hd
                  have HCT2 := Lib.hid (fun h => HCT.out t ht (fun s h1 h2 => hdead.out s h1 h2) (.inr h))
                  obtain ⟨x, hx⟩ : ∃ x, x = S.getD (t - 1) ent0 := ⟨_, rfl⟩
                  rw [← hx] at hd HCT2
                  have HX := Lib.hid hx
                  obtain ⟨k0, q0, g0, v0, u0⟩ := x
                  simp only at hd
                  obtain ⟨d0, d1, d2', d3', d4⟩ := hd
                  have s0 := fun d os => cell_regrown d0 d os
                  have s1 := fun d os => cell_regrown d1 d os
                  have s2 := fun d os => cell_regrown d2' d os
                  have s3 := fun d os => cell_regrown d3' d os
                  have s4 := fun d os => cell_regrown d4 d os
                  have HAL := Lib.hid (fun W' => alive_any k0 q0 g0 v0 u0 now W')
                  obtain ⟨al, hal⟩ : ∃ al, al = aliveE ⟨k0, q0, g0, v0, u0⟩ now := ⟨_, rfl⟩
                  rw [← hal] at HAL HCT2
                  have HALE := Lib.hid hal
                  have hd1 : decide (m < m3) = true := dt hm1
                  have m1 : (0 : Int) ≤ (m3 : Int) - 1 := by omega
                  have m2' : (m3 : Int) - 1 < (m3 : Int) := by omega
                  have m3' : (1 : Int) ≤ (m3 : Int) := by omega
                  have m4 : ((m3 : Int) - 1).toNat = m3 - 1 := by omega
                  have m5 : IntKind.i64.wrap ((m3 : Int) - 1) = (m3 : Int) - 1 := IntWalk.i64_in _ (by omega)
                  have HLA := Lib.hid hlast
                  have HPO := Lib.hid hpop
                  clear hlast hpop hx hal hec heb d0 d1 d2' d3' d4
                  cases al with
                  | true =>
                    have HEX := Lib.hid (hexit.out (by rw [HB.out, HCT2.out rfl, HBP.out, HB.out]))
                    clear HCT2 hexit
                    gi_wp2
                    refine wpIn_round_quiet (by kernel_rfl) (by kernel_rfl) (by kernel_rfl) (fun ⟨_, _, h⟩ => h) ?_
                    repeat (first | go_big_quiet_step (exact (HAL.out _).regrown_of) | quiet_step (exact (HAL.out _).regrown_of))
                    refine wpQuiet_nil ?_
                    rintro _ ⟨pr, rfl⟩
                    gi_wp2
                    exact HEX.out _ _ (below_regrown wr pr.d pr.os)
                  | false =>
                    clear HCT2 hexit
                    gi_wp2
                    refine wpIn_round_quiet (by kernel_rfl) (by kernel_rfl) (by kernel_rfl) (fun ⟨_, _, h⟩ => h) ?_
                    repeat (first | go_big_quiet_step (exact (HAL.out _).regrown_of) | quiet_step (exact (HAL.out _).regrown_of))
                    refine wpQuiet_nil ?_
                    rintro _ ⟨pr, rfl⟩
                    have HR6 := Lib.hid (hrj.out.below (below_regrown wr pr.d pr.os))
                    have hln := Lib.hid (lenAt_is hrj.out.c7)
                    generalize Sort.grow (redrawn wr pr.d) pr.os = w6 at HR6 ⊢
                    have l7 := HR6.out.c7.cell
                    have z7 := HR6.out.c7.fz
                    have HP6 := Lib.hid (HR6.out.pop (by omega))
                    rw [HPO.out] at HP6
                    have hdc : m3 ≤ d3 := by obtain ⟨_, _, hv, h2⟩ := own_form HR6.out.own; cases hv; exact h2
                    clear r5 r6 r7 s0 s1 s2 s3 s4 m5
                    gi_wp2
                    refine ⟨⟨t - 1, _, m3 - 1, d3, by omega, Lib.hid (by have := hm3.out; omega), (fun s h1 h2 => ?_), (fun h => by rw [HB.out] at h; cases h), HP6.out⟩, ?_⟩
                    · by_cases e : s = t - 1
                      · rw [e, ← HX.out]; exact HALE.out.symm
                      · exact hdead.out s (by omega) h2
                    · rw [hln.out]
                      have h9 := lenAt_is HP6.out.c7
                      show lenAt (w6.setCell ⟨w.heap.size + 3, 0, none⟩ (.slice (some ⟨eb, eo, none⟩) (m3 - 1) d3)) (w.heap.size + 3) < m3
                      rw [h9]
                      omega
              · have r6 := fun d os => cell_regrown (show wr.cell? ⟨w.heap.size + 2, 0, none⟩ = some (.bool false) from hb ▸ hrj.out.c6.cell) d os
                have hts := hbf.out hb
                have HEX := Lib.hid (hexit.out (by rw [hb, HCF.out, HBP.out, hb, hts, List.take_length]))
                clear hexit hts
                have HB := Lib.hid hb
                clear hb
                gi_wp2
                refine wpIn_round_quiet (by kernel_rfl) (by kernel_rfl) (by kernel_rfl) (fun ⟨_, _, h⟩ => h) ?_
                repeat (first | go_big_quiet_step (fail) | quiet_step (fail))
                refine wpQuiet_nil ?_
                rintro _ ⟨pr, rfl⟩
                gi_wp2
                exact HEX.out _ _ (below_regrown wr pr.d pr.os)
  case done =>
    rintro W ⟨h4, h5, h6, ⟨pp, m, d, h7, hown, hm⟩, hbel, hg3⟩ hD
    have l7 := h7.cell
    have he : compT L z now bot n = compE L z now bot := by rw [← HL.out]; exact compT_all L z now bot
    rw [he] at hown hm
    have HOW := Lib.hid hown
    have HMM := Lib.hid hm
    clear hown hm he
    go_wp2_with fail
    refine ⟨by simp, .inl ⟨_, _, rfl, run_takeDeferred hD, ?_⟩⟩
    have hm2 := HMM.out
    subst hm2
    exact ⟨_, results_tmp rfl _ _ _, pp, d, rfl, ownsRow_putObj HOW.out _ hD rfl, below_put hbel hbel.size hbW.size _⟩
end Go.Proofs.Ytmgdcebbeglcmaa.Ew
