/- The walk of the reference's Build. -/
import Derived.Test.YtajfalffpcamhaaTabN
import Derived.Test.YtajfalffpcamhaaTabU
import Derived.Test.YtajfalffpcamhaaBloomR
import Derived.Test.YtajfalffpcamhaaBlockE
namespace Go.Proofs.Ytajfalffpcamhaa.Tw
open Go.RowKit
open Tb Fp Vp B En
set_option linter.unusedVariables false

set_option maxHeartbeats 400000 in
set_option maxRecDepth 100000 in
theorem rtb_bad (a : Option Addr) (n cap : Nat) (l : List Ent) (size bits : Int) (h : size < 1 ∨ 4096 < size ∨ bits < 1 ∨ 16 < bits) (w : World) :
    Calls Try.prog 11 #[.slice a n cap, .int .i64 size, .int .i64 bits] w fun e w' => e = retB (tabB l size bits) ∧ Below w.heap.size w w' := by
  have hr : tabB l size bits = ([], 2) := by unfold tabB; rw [if_pos h]
  rw [hr]
  by_cases h1 : size < 1
  · have d1 : decide (size < 1) = true := dt h1
    go_enter Try.func11, Try.ntmps11
    go_wp2_with fail
    go_ret2
    exact ⟨rfl, Below.refl _ _⟩
  have d1 : decide (size < 1) = false := df h1
  by_cases h2 : 4096 < size
  · have d2 : decide (4096 < size) = true := dt h2
    go_enter Try.func11, Try.ntmps11
    go_wp2_with fail
    go_ret2
    exact ⟨rfl, Below.refl _ _⟩
  have d2 : decide (4096 < size) = false := df h2
  by_cases h3 : bits < 1
  · have d3 : decide (bits < 1) = true := dt h3
    go_enter Try.func11, Try.ntmps11
    go_wp2_with fail
    go_ret2
    exact ⟨rfl, Below.refl _ _⟩
  have d3 : decide (bits < 1) = false := df h3
  have d4 : decide (16 < bits) = true := dt (by omega)
  go_enter Try.func11, Try.ntmps11
  go_wp2_with fail
  go_ret2
  exact ⟨rfl, Below.refl _ _⟩

/-- between the blocks, at place p -/
structure RB (w : World) (l : List Ent) (size : Nat) (R : BS) (p : Nat) (b : BS) (wr : World) : Prop where
  go : ∃ k, (l.drop p).length ≤ k ∧ loopB size k (l.drop p) b = R
  ns : b.s.length ≤ p * 65543
  nx : b.ix.length ≤ p * 94
  nn : b.n ≤ p
  bel : Below w.heap.size w wr

theorem take_keys (l : List Ent) (j : Nat) (h : j < l.length) : keysC (l.take (j + 1)) = if j ≠ 0 ∧ (l.getD (j - 1) ent0).key = (l.getD j ent0).key then keysC (l.take j) else keysC (l.take j) ++ [(l.getD j ent0).key.data.toList] := by
  rw [take_snoc l j ent0 h, keysC_snoc]
  by_cases h0 : j = 0
  · subst h0; simp
  · obtain ⟨i, rfl⟩ : ∃ i, j = i + 1 := ⟨j - 1, by omega⟩
    rw [lastE_take l i (by omega), Nat.add_sub_cancel]
    have hne : l.take (i + 1) ≠ [] := fun hh => by have := congrArg List.length hh; rw [List.length_take, List.length_nil] at this; omega
    simp [hne]

set_option maxHeartbeats 3200000 in
set_option maxRecDepth 100000 in
theorem rtb_main (a : Option Addr) (n cap : Nat) (l : List Ent) (hl : l.length = n) (hcap : n ≤ cap) (hm : cap ≤ 9223372036854775807) (hf : ∀ e ∈ l, Fits e) (size bits : Nat) (h1 : 1 ≤ size) (h2 : size ≤ 4096) (h3 : 1 ≤ bits) (h4 : bits ≤ 16)
    (w : World) (hrow : ERow w a n (fun i => l.getD i ent0)) :
    Calls Try.prog 11 #[.slice a n cap, .int .i64 size, .int .i64 bits] w fun e w' => e = retB (tabB l size bits) ∧ Below w.heap.size w w' := by
  have d1 : decide ((size : Int) < 1) = false := df (by omega)
  have d2 : decide ((4096 : Int) < (size : Int)) = false := df (by omega)
  have d3 : decide ((bits : Int) < 1) = false := df (by omega)
  have d4 : decide ((16 : Int) < (bits : Int)) = false := df (by omega)
  have d1' : decide (size < 1) = false := df (by omega)
  have d2' : decide (4096 < size) = false := df (by omega)
  have d3' : decide (bits < 1) = false := df (by omega)
  have d4' : decide (16 < bits) = false := df (by omega)
  by_cases hn : 65536 < n
  · have hr : tabB l size bits = ([], 5) := by unfold tabB; rw [if_neg (by omega), if_pos (by rw [hl]; exact hn)]
    rw [hr]
    have d5 : decide (65536 < n) = true := dt hn
    clear hrow
    go_enter Try.func11, Try.ntmps11
    go_wp2_with fail
    go_ret2
    exact ⟨rfl, Below.refl _ _⟩
  have d5 : decide (65536 < n) = false := df hn
  have HORD := Lib.hid (Ew.rordered_any a n cap l hl hcap hm w hrow)
  by_cases ho : (orderedE l).2 = 0
  case neg =>
    have hr : tabB l size bits = ([], (orderedE l).2) := by unfold tabB; rw [if_neg (by omega), if_neg (by rw [hl]; exact hn), if_pos ho]
    rw [hr]
    generalize orderedE l = oe at HORD ho ⊢
    obtain ⟨oi, oe⟩ := oe
    simp only at HORD ho ⊢
    have d6 : (oe != 0) = true := nt ho
    clear hrow
    go_enter Try.func11, Try.ntmps11
    go_wp2_with fail
    refine HORD.out.mono ?_
    rintro e w1 ⟨rfl, hb⟩
    go_wp2_with fail
    go_ret2
    exact ⟨rfl, hb⟩
  obtain ⟨r, hr⟩ : ∃ r, r = tabB l size bits := ⟨_, rfl⟩
  rw [← hr]
  have hr2 : r = endB (loopB size n l ⟨[], [], 0⟩) (Mp.filt bits (keysC l)) := by
    rw [hr]; unfold tabB; rw [if_neg (by omega), if_neg (by rw [hl]; exact hn), if_neg (fun hh => hh ho), Int.toNat_natCast, Int.toNat_natCast, hl]
  have hgood := ordered_good ho
  have hk : ∀ e ∈ l, e.key.size ≤ 64 ∧ e.val.size ≤ 512 := fun e he => ⟨(goodE_0 (hgood e he).1).1, (goodE_0 (hgood e he).1).2.1⟩
  rw [show (orderedE l).2 = 0 from ho] at HORD
  generalize (orderedE l).1 = oi at HORD
  have HR := Lib.hid hr2
  have HK := Lib.hid hk
  have HF := Lib.hid hf
  have HROW := Lib.hid hrow
  have HL := Lib.hid hl
  clear hr hr2 hgood hk hf ho hrow hl
  go_enter Try.func11, Try.ntmps11
  go_wp2_with fail
  refine HORD.out.mono ?_
  rintro e w1 ⟨rfl, hb1⟩
  have HB1 := Lib.hid hb1
  clear hb1 HORD
  go_wp2_with fail
  go_loopw [10, 11] (fun so sj wr => ∃ (j m : Nat) (p : Option Addr) (c : Nat), sj = .int .i64 j ∧ j ≤ n ∧ so = .slice p m c ∧ m ≤ j ∧ Hid (wr.ownsRow w.heap.size 9 1 (.slice p m c) m ((keysC (l.take j)).map encStr)) ∧ Below w.heap.size w wr) (fun so sj _ => n - (intOf sj).toNat)
  case atStart => exact ⟨0, 0, none, 0, rfl, by omega, rfl, by omega, World.ownsRow_nil _ _ _ _, HB1.out⟩
  case round =>
    obtain ⟨j, m, p, c, rfl, hj, rfl, hmj, hO, hb⟩ := hrel
    by_cases hlt : j < n
    · obtain ⟨b, off, rfl, hlb, hlc⟩ := HROW.out.at (by omega)
      have hd := (hb.cell (p := ⟨b, off + j * 5, none⟩) hlb).trans (hlc j hlt).1
      have hst := take_keys l j (by rw [HL.out]; exact hlt)
      have i1 : (0 : Int) ≤ (j : Int) := by omega
      have i2 : (j : Int) < (n : Int) := by omega
      have HB3 := Lib.hid hb
      have hbs := hb.size
      by_cases h0 : j ≠ 0 ∧ (l.getD (j - 1) ent0).key = (l.getD j ent0).key
      · rw [if_pos h0] at hst
        obtain ⟨q, hq⟩ : ∃ q, j = q + 1 := ⟨j - 1, by omega⟩
        have hd2 := (hb.cell (p := ⟨b, off + q * 5, none⟩) hlb).trans (hlc q (by omega)).1
        have h9 : (l.getD q ent0).key = (l.getD j ent0).key := by have := h0.2; rwa [show j - 1 = q from by omega] at this
        generalize (l.getD q ent0).key = yk at hd2 h9
        generalize (l.getD j ent0).key = xk at hd h9 hst
        subst h9
        have z0 : ((j : Int) == 0) = false := ef (by omega)
        have e9 : IntKind.i64.wrap ((j : Int) - 1) = (q : Int) := by rw [IntWalk.i64_in _ (by omega)]; omega
        have q1 : (0 : Int) ≤ (q : Int) := by omega
        have q2 : (q : Int) < (n : Int) := by omega
        have hne : (yk.toList != yk.toList) = false := by simp
        have HO7 : Hid (wr.ownsRow w.heap.size 9 1 (.slice p m c) m ((keysC (l.take (j + 1))).map encStr)) := by
          show World.ownsRow _ _ _ _ _ _ _
          rw [hst]; exact hO.out
        clear hst hlc hb h0 hO hq
        go_wp2_with fail
        go_quiet (fail)
        go_wp2_with fail
        go_roundw
        case rel => exact ⟨j + 1, m, p, c, by go_num, by omega, rfl, by omega, own_drewN HO7.out _, drewN HB3.out⟩
        case measure => simp [intOf]; omega
      · rw [if_neg h0] at hst
        have HST := Lib.hid hst
        go_upto_region 12 with fail
        go_cut [79] (fun s79 wx => s79 = .bool true ∧ ∃ nq : Nat, wx = wr.drewN nq)
        case first =>
          by_cases h1 : j = 0
          · subst h1
            have z0 : (((0 : Nat) : Int) == 0) = true := rfl
            clear h0 hst hlc hb hO
            go_wp2_with fail
            go_quiet (fail)
            go_wp2_with fail
            all_goals go_meet
            all_goals exact ⟨rfl, _, rfl⟩
          · obtain ⟨q, hq⟩ : ∃ q, j = q + 1 := ⟨j - 1, by omega⟩
            have hd2 := (hb.cell (p := ⟨b, off + q * 5, none⟩) hlb).trans (hlc q (by omega)).1
            have h9 : (l.getD q ent0).key ≠ (l.getD j ent0).key := fun h => h0 ⟨h1, by rw [show j - 1 = q from by omega]; exact h⟩
            generalize (l.getD q ent0).key = yk at hd2 h9
            generalize (l.getD j ent0).key = xk at hd h9 hst
            have z0 : ((j : Int) == 0) = false := ef (by omega)
            have e9 : IntKind.i64.wrap ((j : Int) - 1) = (q : Int) := by rw [IntWalk.i64_in _ (by omega)]; omega
            have q1 : (0 : Int) ≤ (q : Int) := by omega
            have q2 : (q : Int) < (n : Int) := by omega
            have hne : (xk.toList == yk.toList) = false := beq_eq_false_iff_ne.2 fun e => h9 (Ew.toList_inj e).symm
            clear hst hlc hb h0 hO h9 h1 hq
            go_wp2_with fail
            go_quiet (fail)
            go_wp2_with fail
            all_goals go_meet
            all_goals exact ⟨rfl, _, rfl⟩
        case rest =>
        obtain ⟨rfl, nq, hwx⟩ := hcut
        have hd9 : wc.cell? ⟨b, off + j * 5, none⟩ = some (.string (l.getD j ent0).key) := by rw [hwx]; exact hd
        generalize (l.getD j ent0).key = xk at hd hd9 hst HST
        have HO3 : Hid (wc.ownsRow w.heap.size 9 1 (.slice p m c) m ((keysC (l.take j)).map encStr)) := by
          show World.ownsRow _ _ _ _ _ _ _
          rw [hwx]; exact own_drewN hO.out _
        have HB4 : Hid (Below w.heap.size w wc) := by rw [hwx]; exact drewN hb
        clear hst hlc hb hO h0 hwx hd HB3
        go_wp2_with (at_builtin; refine wpList_pushL rfl _ _ 72 rfl Try.underlying72 infoS9 rfl (by decide) rfl #[.string xk] rfl ?c1 rfl ?c0 HO3.out ?c2 ?c3 ?c4 ?_)
        case c0 => simp
        case c1 => simp [Value.oneCell']
        case c2 => exact HB4.out.size
        case c3 => unfold maxLen; omega
        case c4 => omega
        intro g7 cap7 w7 hO7 hg7 hb7 hn7
        have HO7 : Hid (w7.ownsRow w.heap.size 9 1 (.slice (some ⟨g7, 0, none⟩) (m + 1) cap7) (m + 1) ((keysC (l.take (j + 1))).map encStr)) := by
          show World.ownsRow _ _ _ _ _ _ _
          rw [HST.out, List.map_append]
          exact hO7
        have HB7 := Lib.hid (HB4.out.trans hb7)
        clear hO7 hg7 hb7 hn7
        go_wp2_with fail
        go_roundw
        case rel => exact ⟨j + 1, m + 1, _, _, by go_num, by omega, by go_num, by omega, HO7.out, HB7.out⟩
        case measure => simp [intOf]; omega
    · obtain rfl : j = n := by omega
      have hO2 := hO.out
      rw [show l.take j = l from by rw [← HL.out, List.take_length]] at hO2
      have HB2 := Lib.hid hb
      clear hO hb
      have hkl := keysC_len l
      have hks : ∀ s ∈ (keysC l).map str, s.size ≤ 2305843009213693952 := by
        intro s hs
        rw [keysC_is] at hs
        obtain ⟨z, hz, rfl⟩ := List.mem_map.1 hs
        have : z ∈ keysL l := by
          unfold Lib.compact Lib.compactUpTo at hz
          obtain ⟨i, hi, rfl⟩ := List.mem_map.1 hz
          have hi2 := List.mem_range.1 (List.mem_filter.1 hi).1
          rw [getElem!_pos (h := by simpa using hi2)]
          simp
        obtain ⟨e, he, rfl⟩ := List.mem_map.1 this
        have := (HK.out e he).1
        rw [str_size]; simp; omega
      have HKS := Lib.hid hks
      have hsb := strs_back (keysC l)
      generalize keysC l = ks at hO2 hkl HR HKS hsb
      obtain ⟨_, g1, g2, g3⟩ := own_strs hO2
      have hkn : ks.length = m := by simpa using hO2.1
      have HNEW := Lib.hid (Mw.rnew_ok bits p m c (ks.map str) h3 h4 (by simpa using hkn) g1 g2 (by rw [HL.out] at hkl; omega) HKS.out wr g3)
      rw [hsb] at HNEW
      have hfl : (Mp.filt bits ks).length ≤ 131074 := by
        unfold Mp.filt
        rw [List.length_cons, Mp.marks_len]
        have := Mp.byteN_le bits ks.length h4 (by rw [HL.out] at hkl; omega)
        omega
      obtain ⟨F, hF⟩ : ∃ F, str (Mp.filt bits ks) = F := ⟨_, rfl⟩
      rw [hF] at HNEW
      have hF2 : Mp.filt bits ks = F.data.toList := by rw [← hF]; rfl
      have HFF := Lib.hid hF2
      have hFs : F.size ≤ 131074 := by rw [← hF, str_size]; exact hfl
      clear hkl hks hsb HKS hF hF2 hfl hO2 g3 hkn
      go_wp2_with fail
      refine HNEW.out.mono ?_
      rintro e w3 ⟨rfl, hb3⟩
      have HB4 := Lib.hid (chain HB2.out hb3)
      clear hb3 HB2 HNEW
      obtain ⟨R, hRR⟩ : ∃ R, loopB size l.length l ⟨[], [], 0⟩ = R := ⟨_, rfl⟩
      have hlz := HL.out
      have HI : Hid (RB w l size R 0 ⟨[], [], 0⟩ w3) := ⟨⟨l.length, by simp, by rw [List.drop_zero]; exact hRR⟩, by simp, by simp, by simp, HB4.out⟩
      rw [show loopB size j l ⟨[], [], 0⟩ = R from by rw [← hRR, hlz]] at HR
      clear hRR hlz
      go_wp2_with fail
      go_loopw [14, 15, 16, 17] (fun ss sx sn sp wr => ∃ (p : Nat) (S ix : ByteArray) (cn : Nat), sp = .int .i64 p ∧ p ≤ j ∧ ss = .string S ∧ sx = .string ix ∧ sn = .int .i64 cn ∧ cn ≤ 65536 ∧ Hid (∃ b : BS, S = str b.s ∧ ix = str b.ix ∧ cn = b.n ∧ RB w l size R p b wr)) (fun ss sx sn sp _ => j - (intOf sp).toNat)
      case atStart => exact ⟨0, ⟨#[]⟩, ⟨#[]⟩, 0, rfl, by omega, rfl, rfl, rfl, by omega, ⟨⟨[], [], 0⟩, rfl, rfl, rfl, HI.out⟩⟩
      case round =>
        obtain ⟨p, S, ix, cn, rfl, hp, rfl, rfl, rfl, hcn, hS⟩ := hrel
        obtain ⟨b, hSS, hix, hcb, hS⟩ := hS.out
        by_cases hlt : p < j
        · have hrl : (l.drop p).length = j - p := by rw [List.length_drop, HL.out]
          have hrs : l.drop p ≠ [] := fun hh => by rw [hh] at hrl; simp at hrl; omega
          have hcp := cut_pos size (l.drop p) hrs
          have hcl := cut_le size (l.drop p)
          obtain ⟨k, hk1, hk2⟩ := hS.go
          obtain ⟨k', rfl⟩ : ∃ k', k = k' + 1 := ⟨k - 1, by omega⟩
          rw [loop_step _ _ _ _ hrs] at hk2
          obtain ⟨cc, hcc⟩ : ∃ cc, cutE size (l.drop p) = cc := ⟨_, rfl⟩
          rw [hcc] at hcp hcl hk2
          have hmm : ∀ e ∈ l.drop p, e ∈ l := fun e he => List.mem_of_mem_drop he
          have HRL := Lib.hid hrl
          have hgd : ∀ i, (l.drop p).getD i ent0 = l.getD (p + i) ent0 := fun i => by simp [List.getD_eq_getElem?_getD, List.getElem?_drop]
          have HGD := Lib.hid hgd
          obtain ⟨rest, hrd⟩ : ∃ rest, l.drop p = rest := ⟨_, rfl⟩
          rw [hrd] at hcc hcl hk1 hk2 hmm HRL HGD
          have HRD := Lib.hid hrd
          clear hrd
          have HCC : Hid (cutGo size (rest.drop 0) 0 0 = cc) := by show _ = _; rw [List.drop_zero]; exact hcc
          have HK2 := Lib.hid hk2
          have HMM := Lib.hid hmm
          have HS := Lib.hid hS
          have hsb := hS.bel
          have HSB := Lib.hid hsb
          have hrl2 := HRL.out
          have hcj : cc ≤ j - p := by omega
          have HSX : Hid (S = str b.s ∧ ix = str b.ix ∧ cn = b.n) := ⟨hSS, hix, hcb⟩
          have d7 : decide (p < j) = true := dt hlt
          clear hrl hrs hcc hk2 hmm hgd hS hSS hix hcb hsb hrl2
          obtain ⟨wo, rfl⟩ : ∃ wo : World, wo = wr := ⟨_, rfl⟩
          go_wp2_with fail
          go_loopw [18, 19] (fun se sh wx => ∃ i q h : Nat, se = .int .i64 q ∧ q = p + i ∧ i ≤ j - p ∧ i ≤ 2048 ∧ sh = .int .i64 h ∧ h ≤ i * 576 ∧ Hid (cutGo size (rest.drop i) i h = cc) ∧ Below wo.heap.size wo wx) (fun se sh _ => j - (intOf se).toNat)
          case atStart => exact ⟨0, p, 0, rfl, rfl, by omega, by omega, rfl, by omega, HCC.out, Below.refl _ _⟩
          case round =>
            obtain ⟨i, q, h, rfl, hq, hi, hi2, rfl, hh, hcg, hbx⟩ := hrel
            obtain ⟨cont, hcont⟩ : ∃ cont, decide (q < j ∧ (i = 0 ∨ (h < size ∧ i < 2048))) = cont := ⟨_, rfl⟩
            have hst : (cont = false → cc = i) ∧ (cont = true → q < j ∧ i < 2048 ∧ cutGo size (rest.drop (i + 1)) (i + 1) (h + ((rest.getD i ent0).key.size + (rest.getD i ent0).val.size)) = cc) := by
              have h9 := hcg.out
              have hrl := HRL.out
              by_cases hx : i < rest.length
              · rw [cut_step size rest i h hx] at h9
                refine ⟨fun hc => ?_, fun hc => ?_⟩
                · rw [hc] at hcont
                  have h8 := of_decide_eq_false hcont
                  rw [if_pos (by omega)] at h9
                  exact h9.symm
                · rw [hc] at hcont
                  have h8 := of_decide_eq_true hcont
                  rw [if_neg (by omega)] at h9
                  exact ⟨by omega, by omega, h9⟩
              · rw [cut_end size rest i h (by omega)] at h9
                refine ⟨fun _ => h9.symm, fun hc => ?_⟩
                rw [hc] at hcont
                have h8 := of_decide_eq_true hcont
                omega
            have HST := Lib.hid hst
            have HCO := Lib.hid hcont
            have HQ := Lib.hid hq
            clear hst hcont hcg hq
            go_upto_region 22 with fail
            go_cut [118] (fun s118 wy => s118 = .bool cont ∧ wy = wr)
            case first =>
              have hco := HCO.out
              have hq := HQ.out
              have e9 : IntKind.i64.wrap ((q : Int) - (p : Int)) = (i : Int) := by rw [IntWalk.i64_in _ (by omega)]; omega
              by_cases c1 : q < j
              case neg =>
                have f1 : decide (q < j) = false := df c1
                obtain rfl : cont = false := by rw [← hco]; exact df (by omega)
                clear hco hq c1
                go_wp2_with fail
                go_meet
                exact ⟨rfl, rfl⟩
              have f1 : decide (q < j) = true := dt c1
              by_cases c2 : i = 0
              · have f2 : ((q : Int) == (p : Int)) = true := et (by omega)
                obtain rfl : cont = true := by rw [← hco]; exact dt (by omega)
                clear hco hq c1 c2
                go_wp2_with fail
                go_meet
                exact ⟨rfl, rfl⟩
              have f2 : ((q : Int) == (p : Int)) = false := ef (by omega)
              by_cases c3 : h < size
              case neg =>
                have f3 : decide (h < size) = false := df c3
                obtain rfl : cont = false := by rw [← hco]; exact df (by omega)
                clear hco hq c1 c2 c3
                go_wp2_with fail
                go_meet
                exact ⟨rfl, rfl⟩
              have f3 : decide (h < size) = true := dt c3
              by_cases c4 : i < 2048
              · have f4 : decide ((i : Int) < 2048) = true := dt (by omega)
                obtain rfl : cont = true := by rw [← hco]; exact dt (by omega)
                clear hco hq c1 c2 c3 c4
                go_wp2_with fail
                go_meet
                exact ⟨rfl, rfl⟩
              · have f4 : decide ((i : Int) < 2048) = false := df (by omega)
                obtain rfl : cont = false := by rw [← hco]; exact df (by omega)
                clear hco hq c1 c2 c3 c4
                go_wp2_with fail
                go_meet
                exact ⟨rfl, rfl⟩
            case rest =>
            obtain ⟨rfl, hwc⟩ := hcut
            subst hwc
            cases cont with
            | true =>
              obtain ⟨g1, g2, g3⟩ := HST.out.2 rfl
              obtain ⟨bb, off, rfl, hlb, hlc⟩ := HROW.out.at (by omega)
              have hd := hlc q (by omega)
              have hee := HGD.out i
              rw [← HQ.out] at hee
              rw [hee] at g3
              have hsz := HK.out _ (mem_getD (show q < l.length by rw [HL.out]; exact g1))
              generalize l.getD q ent0 = x at hd g3 hsz
              obtain ⟨xk, xq, xg, xv, xu⟩ := x
              simp only at hd g3 hsz
              have hbb := HSB.out.trans (hbx.mono HSB.out.size)
              have x0 := (hbb.cell (p := ⟨bb, off + q * 5, none⟩) hlb).trans hd.1
              have x3 := (hbb.cell (p := ⟨bb, off + q * 5 + 3, none⟩) hlb).trans hd.2.2.2.1
              have i1 : (0 : Int) ≤ (q : Int) := by omega
              have i2 : (q : Int) < (j : Int) := by omega
              have e1 : IntKind.i64.wrap ((h : Int) + (xk.size : Int)) = (h : Int) + (xk.size : Int) := IntWalk.i64_in _ (by omega)
              have e2 : IntKind.i64.wrap ((h : Int) + (xk.size : Int) + (xv.size : Int)) = (h : Int) + (xk.size : Int) + (xv.size : Int) := IntWalk.i64_in _ (by omega)
              have hh2 : h + (xk.size + xv.size) ≤ (i + 1) * 576 := by omega
              have G3 := Lib.hid g3
              have HBX := Lib.hid hbx
              clear hd hlc hbb hbx hee hsz g3 HST HCO
              go_wp2_with fail
              go_quiet (fail)
              go_wp2_with fail
              go_roundw
              case rel => exact ⟨i + 1, q + 1, h + (xk.size + xv.size), by go_num, by have := HQ.out; omega, by have := HQ.out; omega, by omega, by simp only [Value.int.injEq, true_and]; omega, hh2, G3.out, drewN HBX.out⟩
              case measure => simp [intOf]; omega
            | false =>
              have HCI := Lib.hid (HST.out.1 rfl)
              obtain ⟨bb, off, rfl, hlb, hlc⟩ := HROW.out.at (by omega)
              have HBW := Lib.hid (HSB.out.trans (hbx.mono HSB.out.size))
              obtain ⟨d, hd⟩ : ∃ d, q = d + 1 := ⟨q - 1, by have := HQ.out; have := HCI.out; omega⟩
              have hdj : d < j := by have := HQ.out; have := HCI.out; omega
              have hkey := (hlc d hdj).1
              have hlast : l.getD d ent0 = lastE (rest.take cc) := by
                obtain ⟨u, hu⟩ : ∃ u, cc = u + 1 := ⟨cc - 1, by omega⟩
                rw [hu, lastE_take rest u (by omega), HGD.out, show p + u = d from by have := HQ.out; have := HCI.out; omega]
              have hksz := (HK.out _ (mem_getD (show d < l.length by rw [HL.out]; exact hdj))).1
              rw [hlast] at hkey hksz
              have hqp : q - p = cc := by have := HQ.out; have := HCI.out; omega
              have hrow6 : ERow w (some ⟨bb, off + p * 5, none⟩) cc (fun i => (rest.take cc).getD i ent0) :=
                ((erow_drop (c := p) HROW.out).take (m := cc) (by omega)).congr fun i hi => by
                  have := HGD.out i
                  rw [← this]
                  simp [List.getD_eq_getElem?_getD, hi]
              have hbl : (rest.take cc).length = cc := by rw [List.length_take]; omega
              have HBLD := Lib.hid (Ew.rbuild_any (some ⟨bb, off + p * 5, none⟩) cc (cap - p) (rest.take cc) 16 hbl (by omega) (by omega) (fun e he => HF.out e (HMM.out e (List.mem_of_mem_take he))) wc (hrow6.below HBW.out))
              have HADD : Hid (addB b (rest.take cc) = ⟨b.s ++ fr (buildE (rest.take cc) 16).1.data.toList, b.ix ++ (txt (lastE (rest.take cc)).key.data.toList ++ (bts b.s.length ++ bts (fr (buildE (rest.take cc) 16).1.data.toList).length)), b.n + 1⟩) := rfl
              have hixl := ixE_len (rest.take cc) b.s.length hksz (by have := HS.out.ns; omega)
              have hix2 : (ixE (rest.take cc) b.s.length) = txt (lastE (rest.take cc)).key.data.toList ++ (bts b.s.length ++ bts (fr (buildE (rest.take cc) 16).1.data.toList).length) := rfl
              rw [hix2] at hixl
              obtain ⟨bo, hbo⟩ : ∃ bo, buildE (rest.take cc) 16 = bo := ⟨_, rfl⟩
              rw [hbo] at HBLD HADD hixl
              obtain ⟨ky, hky⟩ : ∃ ky, (lastE (rest.take cc)).key = ky := ⟨_, rfl⟩
              rw [hky] at hkey hksz HADD hixl
              obtain ⟨body, be⟩ := bo
              simp only at HBLD HADD hixl
              have HFR := Lib.hid (fun W => rframe_any body W)
              have hfl2 := fr_len body.data.toList
              generalize fr body.data.toList = f at HFR HADD hixl hfl2
              obtain ⟨tf, htf⟩ : ∃ tf, str f = tf := ⟨_, rfl⟩
              have htfs : tf.size = f.length := by rw [← htf, str_size]
              rw [htf] at HFR
              obtain ⟨hS1, hS2, hS3⟩ := HSX.out
              have hSs : S.size = b.s.length := by rw [hS1, str_size]
              have hXs : ix.size = b.ix.length := by rw [hS2, str_size]
              have hns := HS.out.ns
              have hnx := HS.out.nx
              have hnn := HS.out.nn
              have hSs2 : S.size ≤ 4295458816 := by omega
              have HP1 := Lib.hid (fun W => Vw.rput_any (ky.size : Nat) (by omega) (by omega) W)
              have HP2 := Lib.hid (fun W => Vw.rput_any (S.size : Nat) (by omega) (by omega) W)
              have HP3 := Lib.hid (fun W => Vw.rput_any (tf.size : Nat) (by omega) (by omega) W)
              obtain ⟨E1, hE1⟩ : ∃ x, x = enc (ky.size : Int) := ⟨_, rfl⟩
              obtain ⟨E2, hE2⟩ : ∃ x, x = enc (S.size : Int) := ⟨_, rfl⟩
              obtain ⟨E3, hE3⟩ : ∃ x, x = enc (tf.size : Int) := ⟨_, rfl⟩
              have z1 : E1.size ≤ 10 := by rw [hE1, enc, str_size]; exact vb_len10 (zz_lt (by omega) (by omega))
              have z2 : E2.size ≤ 10 := by rw [hE2, enc, str_size]; exact vb_len10 (zz_lt (by omega) (by omega))
              have z3 : E3.size ≤ 10 := by rw [hE3, enc, str_size]; exact vb_len10 (zz_lt (by omega) (by omega))
              rw [← hE1] at HP1
              rw [← hE2] at HP2
              rw [← hE3] at HP3
              have hx0 : ix.size ≤ 6160384 := by omega
              have y1 : (ix ++ E1).size ≤ 7000000 := by rw [ByteArray.size_append]; omega
              have y2 : (ix ++ E1 ++ ky).size ≤ 7000000 := by rw [ByteArray.size_append, ByteArray.size_append]; omega
              have y3 : (ix ++ E1 ++ ky ++ E2).size ≤ 7000000 := by rw [ByteArray.size_append, ByteArray.size_append, ByteArray.size_append]; omega
              have htf2 : tf.size ≤ 65543 := by omega
              have e9 : IntKind.i64.wrap ((q : Int) - 1) = (d : Int) := by rw [IntWalk.i64_in _ (by omega)]; omega
              have i1 : (0 : Int) ≤ (p : Int) := by omega
              have i2 : (p : Int) ≤ (q : Int) := by have := HQ.out; omega
              have i3 : (q : Int) ≤ (cap : Int) := by have := HQ.out; omega
              have i4 : q ≤ cap := by omega
              have i5 : p ≤ q := by omega
              have i6 : (0 : Int) ≤ (d : Int) := by omega
              have i7 : (d : Int) < (j : Int) := by omega
              have HNEW : Hid (∃ b' : BS, S ++ tf = str b'.s ∧ ix ++ E1 ++ ky ++ E2 ++ E3 = str b'.ix ∧ cn + 1 = b'.n ∧ ∀ W, Below w.heap.size w W → RB w l size R q b' W) := by
                refine ⟨addB b (rest.take cc), ?_, ?_, ?_, fun W hW => ⟨⟨k', ?_, ?_⟩, ?_, ?_, ?_, hW⟩⟩
                · rw [HADD.out, hS1, ← htf, str_append]
                · rw [HADD.out, hS2, hE1, hE2, hE3, hSs, htfs, enc_bts, enc_bts, enc_bts]
                  unfold txt
                  simp only [← str_append, str_toList, ByteArray.append_assoc]
                  simp
                · rw [HADD.out, hS3]
                · have h8 : (l.drop q).length = j - q := by rw [List.length_drop, HL.out]
                  have := HRL.out
                  omega
                · have h8 : l.drop q = rest.drop cc := by rw [← HRD.out, List.drop_drop]; congr 1; omega
                  rw [h8]; exact HK2.out
                · rw [HADD.out]
                  simp only [List.length_append]
                  omega
                · rw [HADD.out]
                  simp only [List.length_append] at hixl ⊢
                  omega
                · rw [HADD.out]
                  simp only
                  omega
              have hcn2 : cn + 1 ≤ 65536 := by omega
              have hqj : q ≤ j := by omega
              have hpq : p < q := by omega
              have hkb := HBW.out
              have KEY := Lib.hid hkey
              clear hbx HCO HST hlc hd hlast hkey hrow6 hbl hixl hix2 hbo hky hfl2 htf htfs hS1 hS2 hS3 hSs hXs hns hnx hnn hE1 hE2 hE3 HADD HS HSX HRD HGD HMM hcl hcp hk1 HK2 HRL HCI hkb
              go_wp2_with fail
              refine HBLD.out.mono ?_
              rintro e w5 ⟨rfl, hb5⟩
              have HB5 := Lib.hid (chain HBW.out hb5)
              clear hb5 HBLD
              go_wp2_with fail
              refine (HFR.out _).mono ?_
              rintro e w6 ⟨rfl, hb6⟩
              have HB6 := Lib.hid (chain HB5.out hb6)
              have k6 := (HB6.out.cell (p := ⟨bb, off + d * 5, none⟩) hlb).trans KEY.out
              clear hb6 HB5 HFR
              go_wp2_with fail
              clear k6
              refine (HP1.out _).mono ?_
              rintro e w7 ⟨rfl, hb7⟩
              have HB7 := Lib.hid (chain HB6.out hb7)
              clear hb7 HB6 HP1
              go_wp2_with fail
              refine (HP2.out _).mono ?_
              rintro e w8 ⟨rfl, hb8⟩
              have HB8 := Lib.hid (chain HB7.out hb8)
              clear hb8 HB7 HP2
              go_wp2_with fail
              refine (HP3.out _).mono ?_
              rintro e w9 ⟨rfl, hb9⟩
              have HB9 := Lib.hid (chain HB8.out hb9)
              clear hb9 HB8 HP3
              go_wp2_with fail
              go_roundw
              case rel =>
                obtain ⟨b', n1, n2, n3, n4⟩ := HNEW.out
                exact ⟨q, S ++ tf, ix ++ E1 ++ ky ++ E2 ++ E3, cn + 1, rfl, hqj, rfl, rfl, by go_num, hcn2, b', n1, n2, n3, n4 _ HB9.out⟩
              case measure => simp [intOf]; omega
        · obtain rfl : p = j := by omega
          have hdl : l.drop p = [] := List.drop_of_length_le (by rw [HL.out]; exact Nat.le_refl _)
          obtain ⟨k, _, hk2⟩ := hS.go
          rw [hdl, loop_nil] at hk2
          have HRE := Lib.hid (show r = endB b F.data.toList by rw [HR.out, hk2, HFF.out])
          have hns := hS.ns
          have hnx := hS.nx
          have hSs : S.size = b.s.length := by rw [hSS, str_size]
          have hXs : ix.size = b.ix.length := by rw [hix, str_size]
          have hSs2 : S.size ≤ 4295458816 := by omega
          have hx0 : ix.size ≤ 6160384 := by omega
          have HPC := Lib.hid (fun W => Vw.rput_any (cn : Int) (by omega) (by omega) W)
          have hCs : (enc (cn : Int)).size ≤ 10 := by rw [enc, str_size]; exact vb_len10 (zz_lt (by omega) (by omega))
          have hCi : enc (cn : Int) ++ ix = str (bts b.n ++ b.ix) := by rw [enc_bts, hix, str_append, hcb]
          generalize enc (cn : Int) = C at HPC hCs hCi
          have hIL : (bts b.n ++ b.ix).length = C.size + ix.size := by rw [← str_size, ← hCi, ByteArray.size_append]
          have hFl : F.data.toList.length = F.size := by simp
          have HBW := Lib.hid hS.bel
          have s1 : ¬ (9223372036854775807 < C.size + ix.size) := by omega
          by_cases g1 : 65535 < C.size + ix.size
          · obtain rfl : r = ([], 5) := by rw [HRE.out]; unfold endB; rw [if_pos (.inl (by rw [hIL]; exact g1))]
            have d8 : decide ((65535 : Int) < (C.size : Int) + (ix.size : Int)) = true := dt (by omega)
            clear hix hcb hS hk2 hnx hns hCi hIL hFl hXs hSs g1 hSS hdl
            go_wp2_with fail
            refine (HPC.out _).mono ?_
            rintro e w5 ⟨rfl, hb5⟩
            have HB5 := Lib.hid (chain HBW.out hb5)
            clear hb5
            go_wp2_with fail
            go_ret2
            exact ⟨rfl, HB5.out⟩
          have d8 : decide ((65535 : Int) < (C.size : Int) + (ix.size : Int)) = false := df (by omega)
          by_cases g2 : 65535 < F.size
          · obtain rfl : r = ([], 5) := by rw [HRE.out]; unfold endB; rw [if_pos (.inr (by rw [hFl]; exact g2))]
            have d9 : decide (65535 < F.size) = true := dt g2
            have d9' : decide ((65535 : Int) < (F.size : Int)) = true := dt (by omega)
            clear hix hcb hS hk2 hnx hns hCi hIL hFl hXs hSs g1 g2 hSS hdl
            go_wp2_with fail
            refine (HPC.out _).mono ?_
            rintro e w5 ⟨rfl, hb5⟩
            have HB5 := Lib.hid (chain HBW.out hb5)
            clear hb5
            go_wp2_with fail
            go_ret2
            exact ⟨rfl, HB5.out⟩
          have d9 : decide (65535 < F.size) = false := df g2
          have d9' : decide ((65535 : Int) < (F.size : Int)) = false := df (by omega)
          have hend : r = (b.s ++ (fr (C ++ ix).data.toList ++ (fr F.data.toList ++ fr (eight S.size ++ eight (S.size + (fr (C ++ ix).data.toList).length)))), 0) := by
            rw [HRE.out]
            unfold endB
            rw [if_neg (by rw [hIL, hFl]; omega), hCi, hSs]
            rfl
          have HP1 := Lib.hid (fun W => rframe_any (C ++ ix) W)
          have hf1 := fr_len (C ++ ix).data.toList
          generalize fr (C ++ ix).data.toList = f1 at HP1 hf1 hend
          obtain ⟨t1, ht1⟩ : ∃ t1, str f1 = t1 := ⟨_, rfl⟩
          have hz1 : t1.size = f1.length := by rw [← ht1, str_size]
          rw [ht1] at HP1
          rw [← hz1] at hend
          obtain ⟨n2, hn2⟩ : ∃ n2, S.size + t1.size = n2 := ⟨_, rfl⟩
          rw [hn2] at hend
          have HP2 := Lib.hid (fun W => rframe_any F W)
          have hf2 := fr_len F.data.toList
          generalize fr F.data.toList = f2 at HP2 hf2 hend
          obtain ⟨t2, ht2⟩ : ∃ t2, str f2 = t2 := ⟨_, rfl⟩
          have hz2 : t2.size = f2.length := by rw [← ht2, str_size]
          rw [ht2] at HP2
          have HE1 := Lib.hid (fun W => reight_any S.size (by omega) W)
          have HE2 := Lib.hid (fun W => reight_any n2 (by omega) W)
          obtain ⟨E1, hE1⟩ : ∃ E1, str (eight S.size) = E1 := ⟨_, rfl⟩
          obtain ⟨E2, hE2⟩ : ∃ E2, str (eight n2) = E2 := ⟨_, rfl⟩
          rw [hE1] at HE1
          rw [hE2] at HE2
          have hE1s : E1.size = 8 := by rw [← hE1, str_size, eight_len]
          have hE2s : E2.size = 8 := by rw [← hE2, str_size, eight_len]
          have HP3 := Lib.hid (fun W => rframe_any (E1 ++ E2) W)
          have hEE : (E1 ++ E2).data.toList = eight S.size ++ eight n2 := by rw [← hE1, ← hE2, str_append]; rfl
          rw [hEE] at HP3
          have hf3 := fr_len (eight S.size ++ eight n2)
          generalize fr (eight S.size ++ eight n2) = f3 at HP3 hf3 hend
          obtain ⟨t3, ht3⟩ : ∃ t3, str f3 = t3 := ⟨_, rfl⟩
          have hz3 : t3.size = f3.length := by rw [← ht3, str_size]
          rw [ht3] at HP3
          have hlz1 : t1.size ≤ 65543 := by omega
          have hlz2 : t2.size ≤ 65543 := by omega
          have hlz3 : t3.size ≤ 65543 := by omega
          have HEND : Hid (retB r = .returned (.tuple #[.string (S ++ t1 ++ t2 ++ t3), .int .i64 0])) := by
            show _ = _
            rw [hend, retB]
            simp only
            rw [hSS, ← ht1, ← ht2, ← ht3, str_append, str_append, str_append]
            simp
          have q2 : IntKind.i64.wrap ((S.size : Int) + (t1.size : Int)) = (n2 : Int) := by rw [IntWalk.i64_in _ (by omega)]; omega
          have y1 : (S ++ t1).size ≤ 4611686018427387904 := by rw [ByteArray.size_append]; omega
          have y2 : (S ++ t1 ++ t2).size ≤ 4611686018427387904 := by rw [ByteArray.size_append, ByteArray.size_append]; omega
          have y3 : ¬ (9223372036854775807 < E1.size + E2.size) := by omega
          clear hix hcb hS hk2 hnx hns hCi hIL hFl hXs hSs g1 g2 hSS hdl hend ht1 ht2 ht3 hz1 hz2 hz3 hn2 hE1 hE2 hEE hf1 hf2 hf3 HRE
          go_wp2_with fail
          refine (HPC.out _).mono ?_
          rintro e w5 ⟨rfl, hb5⟩
          have HB5 := Lib.hid (chain HBW.out hb5)
          clear hb5 HBW
          go_wp2_with fail
          refine (HP1.out _).mono ?_
          rintro e w6 ⟨rfl, hb6⟩
          have HB6 := Lib.hid (chain HB5.out hb6)
          clear hb6 HB5
          go_wp2_with fail
          refine (HP2.out _).mono ?_
          rintro e w7 ⟨rfl, hb7⟩
          have HB7 := Lib.hid (chain HB6.out hb7)
          clear hb7 HB6
          go_wp2_with fail
          refine (HE1.out _).mono ?_
          rintro e w8 ⟨rfl, hb8⟩
          have HB8 := Lib.hid (chain HB7.out hb8)
          clear hb8 HB7
          go_wp2_with fail
          refine (HE2.out _).mono ?_
          rintro e w9 ⟨rfl, hb9⟩
          have HB9 := Lib.hid (chain HB8.out hb9)
          clear hb9 HB8
          go_wp2_with fail
          refine (HP3.out _).mono ?_
          rintro e w10 ⟨rfl, hb10⟩
          have HB10 := Lib.hid (chain HB9.out hb10)
          clear hb10 HB9
          go_wp2_with fail
          go_ret2
          exact ⟨HEND.out.symm, HB10.out⟩

theorem rtbuild_any (a : Option Addr) (n cap : Nat) (l : List Ent) (hl : l.length = n) (hcap : n ≤ cap) (hm : cap ≤ 9223372036854775807) (hf : ∀ e ∈ l, Fits e) (size bits : Int)
    (w : World) (hrow : ERow w a n (fun i => l.getD i ent0)) :
    Calls Try.prog 11 #[.slice a n cap, .int .i64 size, .int .i64 bits] w fun e w' => e = retB (tabB l size bits) ∧ Below w.heap.size w w' := by
  by_cases h : size < 1 ∨ 4096 < size ∨ bits < 1 ∨ 16 < bits
  · exact rtb_bad a n cap l size bits h w
  · obtain ⟨x, rfl⟩ := Int.eq_ofNat_of_zero_le (show 0 ≤ size by omega)
    obtain ⟨y, rfl⟩ := Int.eq_ofNat_of_zero_le (show 0 ≤ bits by omega)
    exact rtb_main a n cap l hl hcap hm hf x y (by omega) (by omega) (by omega) (by omega) w hrow
end Go.Proofs.Ytajfalffpcamhaa.Tw
