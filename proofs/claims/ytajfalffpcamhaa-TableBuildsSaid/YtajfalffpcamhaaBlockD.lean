/- The walk of the reference's Build. -/
import Derived.Test.YtajfalffpcamhaaBlockC
import Derived.Test.YtajfalffpcamhaaVarRef
namespace Go.Proofs.Ytajfalffpcamhaa.Ew
open Go.RowKit
open En B Vp Vw Bd
set_option linter.unusedVariables false

theorem ba_nil (s : ByteArray) : s ++ (⟨#[]⟩ : ByteArray) = s := ByteArray.append_empty

theorem rtext_any (s : ByteArray) (hs : s.size ≤ 65535) (w : World) :
    Calls Try.prog 69 #[.string s] w fun e w' => e = .returned (.string (enc (s.size : Int) ++ s)) ∧ Below w.heap.size w w' := by
  have h1 : (enc (s.size : Int)).size ≤ 10 := enc_len (by omega) (by omega)
  go_enter Try.func69, Try.ntmps69
  go_wp2_with fail
  refine (rput_any _ (by omega) (by omega) _).mono ?_
  rintro e w1 ⟨rfl, hb⟩
  go_wp2_with fail
  go_ret
  exact ⟨rfl, hb⟩

set_option maxHeartbeats 3200000 in
set_option maxRecDepth 100000 in
theorem rbuild_in (a : Option Addr) (n cap : Nat) (l : List Ent) (every : Nat) (hv : 1 ≤ every) (hv2 : every ≤ 64) (hl : l.length = n) (hn : n ≤ 4096) (hcap : n ≤ cap) (hm : cap ≤ 9223372036854775807)
    (hf : ∀ e ∈ l, Fits e) (hR : (orderedE l).2 = 0) (w : World) (hrow : ERow w a n (fun i => l.getD i ent0)) :
    Calls Try.prog 38 #[.slice a n cap, .int .i64 every] w fun e w' => e = .returned (.tuple #[.string (str (bytesK every l)), .int .i64 0]) ∧ Below w.heap.size w w' := by
  have HO := Lib.hid (rordered_any a n cap l hl hcap hm w hrow)
  obtain ⟨r1, hr1⟩ : ∃ r1, orderedE l = ((r1 : Nat), (0 : Int)) := ⟨(orderedE l).1, by rw [← hR]⟩
  rw [hr1] at HO
  have hgd := fun e he => ordered_good hR e he
  have hG : ∀ j, j < n → goodE (l.getD j ent0) = 0 ∧ (l.getD j ent0).til ≠ 9223372036854775807 ∧ Fits (l.getD j ent0) := by
    intro j hj
    have hmem : l.getD j ent0 ∈ l := by rw [List.getD_eq_getElem?_getD, List.getElem?_eq_getElem (by rw [hl]; exact hj)]; exact List.getElem_mem _
    exact ⟨(hgd _ hmem).1, (hgd _ hmem).2, hf _ hmem⟩
  have hLen : ∀ j, (entsB every 0 [] (l.take j)).length ≤ 700 * 4096 := by
    intro j
    have h9 := entsB_len every (l.take j) 0 [] (fun e he => ⟨(hgd e (List.mem_of_mem_take he)).1, (hgd e (List.mem_of_mem_take he)).2, hf e (List.mem_of_mem_take he)⟩)
    rw [List.length_take] at h9
    omega
  obtain ⟨res, hres⟩ : ∃ res, res = str (bytesK every l) := ⟨_, rfl⟩
  rw [← hres]
  have HRES := Lib.hid hres
  have HG := Lib.hid hG
  have HLEN := Lib.hid hLen
  have HL := Lib.hid hl
  have HR := Lib.hid hrow
  clear hl hf hrow hR hr1 hgd hG hLen hres
  have hxn : (enc (n : Int)).size ≤ 10 := enc_len (by omega) (by omega)
  go_enter Try.func38, Try.ntmps38
  go_wp2_with fail
  refine HO.out.mono ?_
  rintro e w1 ⟨rfl, hb1⟩
  go_wp2_with fail
  refine (rput_any _ (by omega) (by omega) _).mono ?_
  rintro e w2 ⟨rfl, hb2⟩
  have HR1 := Lib.hid ((HR.out.below hb1).below hb2)
  have hbz := chain hb1 hb2
  go_wp2_with fail
  go_loopw [8, 9] (fun s i wr => ∃ j : Nat, i = .int .i64 j ∧ j ≤ n ∧ s = .string (str (bts n ++ entsB every 0 [] (l.take j))) ∧ Below w2.heap.size w2 wr) (fun _ i _ => n - (intOf i).toNat)
  case atStart => exact ⟨0, rfl, by omega, by show _ = Value.string (str (bts n ++ [])); rw [List.append_nil]; rfl, Below.refl _ _⟩
  case round =>
    obtain ⟨j, rfl, hj, rfl, hbel⟩ := hrel
    by_cases hlt : j < n
    · have hrw := HR1.out.below hbel
      obtain ⟨ab, off, rfl, hab, hac⟩ := hrw.at (by omega)
      have hd := hac j hlt
      obtain ⟨hg1, hg2, hg3⟩ := HG.out j hlt
      have hts := entsB_take every l j (by rw [HL.out]; exact hlt)
      have hle := HLEN.out j
      have hnl := nOf_le every j (lastK l j) (l.getD j ent0)
      have hnd : nOf every j (lastK l j) (l.getD j ent0) = if j % every ≠ 0 then pref (lastK l j) (l.getD j ent0).key.data.toList else 0 := rfl
      have hlast : j % every ≠ 0 → ∃ m : Nat, j = m + 1 ∧ lastK l j = (l.getD m ent0).key.data.toList := by
        intro hne
        refine ⟨j - 1, ?_, ?_⟩
        · have : j ≠ 0 := fun h0 => hne (by rw [h0, Nat.zero_mod])
          omega
        · unfold lastK; rw [if_neg (fun h0 => hne (by rw [h0, Nat.zero_mod]))]
      generalize hx : l.getD j ent0 = x at hd hg1 hg2 hg3 hts hnl hnd
      generalize nOf every j (lastK l j) x = c at hts hnl hnd
      obtain ⟨k, q, g, v, u⟩ := x
      simp only at hd hnl hnd
      generalize hpre : bts (n : Int) ++ entsB every 0 [] (l.take j) = pre
      have hpl : (str pre).size ≤ 10 + 700 * 4096 := by
        have h9 := bts_len (n := (n : Int)) ⟨by omega, by omega⟩
        rw [str_size, ← hpre, List.length_append]; omega
      obtain ⟨k64, v512, k0, q1, u0, hgz⟩ := goodE_0 hg1
      simp only at k64 v512 k0 q1 u0
      have q2 := hg3.seq1
      have u2 := hg3.til1
      simp only at q2 u2 hg2
      have HTS := Lib.hid hts
      have HND := Lib.hid hnd
      have HPRE := Lib.hid hpre
      have HLAST := Lib.hid hlast
      have HD := Lib.hid hd
      have HAC := Lib.hid hac
      have i0 : (0 : Int) ≤ (j : Int) := by omega
      have i1 : (j : Int) < (n : Int) := by omega
      clear hac hts hlast hnd hpre hg1 hg3 hgz hle hx hd hrw
      have ej : (j : Int).tmod (every : Int) = ((j % every : Nat) : Int) := by
        rw [Int.tmod_eq_emod_of_nonneg (by omega)]; rfl
      have hjm : j % every < every := Nat.mod_lt _ (by omega)
      generalize j % every = jm at ej HND hjm HLAST
      go_upto_if 46 with fail
      go_cut [10] (fun s10 wx => s10 = .int .i64 c ∧ ∃ mq : Nat, wx = wr.drewN mq)
      case first =>
        by_cases hz : jm = 0
        · have hc : c = 0 := by rw [HND.out, if_neg (by simp [hz])]
          subst hz
          have HC := Lib.hid hc
          clear hc
          go_wp2_with fail
          all_goals go_meet
          exact ⟨by rw [HC.out]; rfl, 0, rfl⟩
        · obtain ⟨m, hjm1, hlk⟩ := HLAST.out hz
          have hd2 := HAC.out m (by omega)
          have hk1 := (goodE_0 (HG.out m (by omega)).1).1
          have hc : c = pref (lastK l j) k.data.toList := by rw [HND.out, if_pos hz]
          rw [hlk] at hc
          generalize l.getD m ent0 = y at hd2 hk1 hc
          obtain ⟨k1, q1', g1, v1, u1⟩ := y
          simp only at hd2 hk1 hc
          have m0 : (0 : Int) ≤ (m : Int) := by omega
          have m1 : (m : Int) < (n : Int) := by omega
          have iw : IntKind.i64.wrap ((j : Int) - 1) = (m : Int) := by rw [show (j : Int) - 1 = (m : Int) from by omega]; exact IntWalk.i64_in _ (by omega)
          have eb : 0 < jm := by omega
          have HC := Lib.hid hc
          have HGA := Lib.hid (get_bn k)
          have HGB := Lib.hid (get_bn k1)
          have HLA := Lib.hid (tl_len k)
          have HLB := Lib.hid (tl_len k1)
          obtain ⟨p0, _, _, _, _⟩ := HD.out
          obtain ⟨r0, _, _, _, _⟩ := hd2
          clear hc hz hlk hjm1
          go_wp2_with fail
          go_loopw [10] (fun s10 wx => ∃ i mq : Nat, s10 = .int .i64 i ∧ i ≤ k.size ∧ i ≤ k1.size ∧ wx = wr.drewN mq ∧ Hid (c = i + pref (k1.data.toList.drop i) (k.data.toList.drop i))) (fun s10 _ => k.size - (intOf s10).toNat)
          case atStart => exact ⟨0, 0, rfl, by omega, by omega, rfl, by show c = 0 + _; rw [HC.out, Nat.zero_add]; rfl⟩
          case round =>
            obtain ⟨i, mq, rfl, hia, hib, rfl, hp⟩ := hrel
            have z0 : (0 : Int) ≤ (i : Int) := by omega
            by_cases h1 : i < k.size
            case neg =>
              have e1 : decide (i < k.size) = false := df h1
              have hre : c = i := by rw [hp.out, pref_end _ _ _ (.inr (by rw [HLA.out]; omega))]; rfl
              have HRE := Lib.hid hre
              clear hre hp
              go_wp2_with fail
              go_quiet (fail)
              go_wp2_with fail
              all_goals go_meet
              exact ⟨by rw [HRE.out], _, World.drewN_drewN ..⟩
            case pos =>
            have e1 : decide (i < k.size) = true := dt h1
            by_cases h2 : i < k1.size
            case neg =>
              have e2 : decide (i < k1.size) = false := df h2
              have hre : c = i := by rw [hp.out, pref_end _ _ _ (.inl (by rw [HLB.out]; omega))]; rfl
              have HRE := Lib.hid hre
              clear hre hp
              go_wp2_with fail
              go_quiet (fail)
              go_wp2_with fail
              all_goals go_meet
              exact ⟨by rw [HRE.out], _, World.drewN_drewN ..⟩
            case pos =>
            have e2 : decide (i < k1.size) = true := dt h2
            have hps := pref_step k1.data.toList k.data.toList i (by rw [HLB.out]; exact h2) (by rw [HLA.out]; exact h1)
            have g1 := HGA.out i h1
            have g2 := HGB.out i h2
            have hbe : k1.data.toList.getD i 0 = k.data.toList.getD i 0 ↔ bn k1 i = bn k i := by rw [u8_eq, getD_bn, getD_bn]
            have l1 := bn_lt k i
            have l2 := bn_lt k1 i
            generalize bn k i = x at g1 hbe l1
            generalize bn k1 i = y at g2 hbe l2
            by_cases h3 : x = y
            · have e3 : ((x : Int) == (y : Int)) = true := et (by omega)
              have hre : c = (i + 1) + pref (k1.data.toList.drop (i + 1)) (k.data.toList.drop (i + 1)) := by rw [hp.out, hps, if_pos (hbe.2 h3.symm)]; omega
              have HRE := Lib.hid hre
              clear hre hp hps hbe h3
              go_wp2_with fail
              go_quiet (fail)
              go_wp2_with fail
              go_roundw
              case rel => exact ⟨i + 1, mq + _, by go_num, by omega, by omega, rfl, HRE.out⟩
              case measure => simp [intOf]; omega
            · have e3 : ((x : Int) == (y : Int)) = false := ef (by omega)
              have hre : c = i := by rw [hp.out, hps, if_neg (fun hh => h3 (hbe.1 hh).symm)]; rfl
              have HRE := Lib.hid hre
              clear hre hp hps hbe h3
              go_wp2_with fail
              go_quiet (fail)
              go_wp2_with fail
              all_goals go_meet
              exact ⟨by rw [HRE.out], _, World.drewN_drewN ..⟩
      case rest =>
      obtain ⟨rfl, mq, hwx⟩ := hcut
      have H0 : Hid ((wc.cell? ⟨ab, off + j * 5, none⟩ = some (.string k) ∧ wc.cell? ⟨ab, off + j * 5 + 1, none⟩ = some (.int .i64 q) ∧ wc.cell? ⟨ab, off + j * 5 + 2, none⟩ = some (.bool g) ∧ wc.cell? ⟨ab, off + j * 5 + 3, none⟩ = some (.string v) ∧ wc.cell? ⟨ab, off + j * 5 + 4, none⟩ = some (.int .i64 u)) ∧ ab < wc.heap.size) := by
        rw [hwx]; exact keep5 ⟨HD.out, hab⟩ (drewN (Below.refl _ _))
      have hb0 : Below w2.heap.size w2 wc := by rw [hwx]; exact drewN hbel
      have c1 : (0 : Int) ≤ (c : Int) := by omega
      have c2 : (c : Int) ≤ (k.size : Int) := by omega
      have hx3 : (k.extract c k.size).size ≤ 64 := by rw [ByteArray.size_extract]; omega
      obtain ⟨E1, hE1⟩ : ∃ x, x = enc (c : Int) := ⟨_, rfl⟩
      obtain ⟨E2, hE2⟩ : ∃ x, x = enc ((k.extract c k.size).size : Int) ++ k.extract c k.size := ⟨_, rfl⟩
      obtain ⟨E3, hE3⟩ : ∃ x, x = enc q := ⟨_, rfl⟩
      have z1 : E1.size ≤ 10 := by rw [hE1]; exact enc_len (by omega) (by omega)
      have z2 : E2.size ≤ 74 := by rw [hE2, ByteArray.size_append]; have := enc_len (n := ((k.extract c k.size).size : Int)) (by omega) (by omega); omega
      have z3 : E3.size ≤ 10 := by rw [hE3]; exact enc_len (by omega) (by omega)
      have P1 := Lib.hid (fun W => rput_any (c : Int) (by omega) (by omega) W)
      have P2 := Lib.hid (fun W => rtext_any (k.extract c k.size) (by omega) W)
      have P3 := Lib.hid (fun W => rput_any q (by omega) (by omega) W)
      rw [← hE1] at P1
      rw [← hE2] at P2
      rw [← hE3] at P3
      have HE1 := Lib.hid hE1
      have HE2 := Lib.hid hE2
      have HE3 := Lib.hid hE3
      clear hE1 hE2 hE3 hwx hbel hjm ej HD HAC HLAST HND hab
      go_wp2_with fail
      refine (P1.out _).mono ?_
      rintro e w3 ⟨rfl, hb3⟩
      have H3 := Lib.hid (keep5 H0.out hb3)
      obtain ⟨⟨y0, y1, y2, y3, y4⟩, yl⟩ := H3.out
      clear y1 y2 y3 y4
      go_wp2_with fail
      refine (P2.out _).mono ?_
      rintro e w4 ⟨rfl, hb4⟩
      have H4 := Lib.hid (keep5 H3.out hb4)
      clear y0 yl
      obtain ⟨⟨y0, y1, y2, y3, y4⟩, yl⟩ := H4.out
      clear y0 y2 y3 y4
      go_wp2_with fail
      refine (P3.out _).mono ?_
      rintro e w5 ⟨rfl, hb5⟩
      have H5 := Lib.hid (keep5 H4.out hb5)
      have hbz5 := chain (chain (chain hb0 hb3) hb4) hb5
      clear y1 yl
      obtain ⟨⟨y0, y1, y2, y3, y4⟩, yl⟩ := H5.out
      clear y0 y1 hb0 hb3 hb4 hb5 H0 H3 H4 P1 P2 P3
      have t1 : (str pre ++ E1).size ≤ 3000000 := by rw [ByteArray.size_append]; omega
      have t2 : (str pre ++ E1 ++ E2).size ≤ 3000000 := by rw [ByteArray.size_append, ByteArray.size_append]; omega
      have t3 : (str pre ++ E1 ++ E2 ++ E3).size ≤ 3000000 := by rw [ByteArray.size_append, ByteArray.size_append, ByteArray.size_append]; omega
      cases g with
      | true =>
        clear y3 y4
        obtain ⟨E4, hE4⟩ : ∃ x, x = enc 0 := ⟨_, rfl⟩
        have z4 : E4.size ≤ 10 := by rw [hE4]; exact enc_len (by omega) (by omega)
        have P4 := Lib.hid (fun W => rput_any 0 (by omega) (by omega) W)
        rw [← hE4] at P4
        have HE4 := Lib.hid hE4
        clear hE4
        go_wp2_with fail
        refine (P4.out _).mono ?_
        rintro e w6 ⟨rfl, hb6⟩
        have hbz6 := chain hbz5 hb6
        have t4 : (str pre ++ E1 ++ E2 ++ E3 ++ E4).size ≤ 3000000 := by rw [ByteArray.size_append, ByteArray.size_append, ByteArray.size_append, ByteArray.size_append]; omega
        clear y2 yl hbz5 hb6
        go_wp2_with fail
        go_roundw
        case rel =>
          refine ⟨j + 1, by go_num, by omega, ?_, hbz6⟩
          have hpp : bts (n : Int) ++ entsB every 0 [] (l.take (j + 1)) = pre ++ ((E1 ++ E2 ++ E3).data.toList ++ E4.data.toList) := by
            rw [HTS.out, ← List.append_assoc, HPRE.out, HE1.out, HE2.out, HE3.out, HE4.out, head_eq]
            congr 1
            simp only [entB, if_pos, List.append_assoc]; rfl
          rw [hpp]
          congr 1
          rw [← str_append, ← ba_list, str_toList]
          simp [ByteArray.append_assoc, ba_nil]
        case measure => simp [intOf]; omega
      | false =>
        have hu1 : IntKind.i64.wrap (u + 1) = u + 1 := IntWalk.i64_in _ (by omega)
        obtain ⟨E4, hE4⟩ : ∃ x, x = enc (u + 1) := ⟨_, rfl⟩
        obtain ⟨E5, hE5⟩ : ∃ x, x = enc (v.size : Int) ++ v := ⟨_, rfl⟩
        have z4 : E4.size ≤ 10 := by rw [hE4]; exact enc_len (by omega) (by omega)
        have z5 : E5.size ≤ 522 := by rw [hE5, ByteArray.size_append]; have := enc_len (n := (v.size : Int)) (by omega) (by omega); omega
        have P4 := Lib.hid (fun W => rput_any (u + 1) (by omega) (by omega) W)
        have P5 := Lib.hid (fun W => rtext_any v (by omega) W)
        rw [← hE4] at P4
        rw [← hE5] at P5
        have HE4 := Lib.hid hE4
        have HE5 := Lib.hid hE5
        clear hE4 hE5 hu1
        go_wp2_with fail
        refine (P5.out _).mono ?_
        rintro e w6 ⟨rfl, hb6⟩
        have hbz6 := chain hbz5 hb6
        clear y2 y3 y4 yl hbz5 hb6
        go_wp2_with fail
        refine (P4.out _).mono ?_
        rintro e w7 ⟨rfl, hb7⟩
        have hbz7 := chain hbz6 hb7
        have t4 : (str pre ++ E1 ++ E2 ++ E3 ++ E4).size ≤ 3000000 := by rw [ByteArray.size_append, ByteArray.size_append, ByteArray.size_append, ByteArray.size_append]; omega
        clear hbz6 hb7
        go_wp2_with fail
        go_roundw
        case rel =>
          refine ⟨j + 1, by go_num, by omega, ?_, hbz7⟩
          have hpp : bts (n : Int) ++ entsB every 0 [] (l.take (j + 1)) = pre ++ ((E1 ++ E2 ++ E3).data.toList ++ (E4 ++ E5).data.toList) := by
            rw [HTS.out, ← List.append_assoc, HPRE.out, HE1.out, HE2.out, HE3.out, HE4.out, HE5.out, head_eq, tail_eq]
            congr 1
            simp only [entB, List.append_assoc]; rfl
          rw [hpp]
          congr 1
          rw [← str_append, ← ba_list, str_toList]
          simp [ByteArray.append_assoc]
        case measure => simp [intOf]; omega
    · obtain rfl : j = n := by omega
      have h9 : res = str (bts (j : Int) ++ entsB every 0 [] (l.take j)) := by
        rw [HRES.out, List.take_of_length_le (by rw [HL.out]; exact Nat.le_refl _)]
        unfold bytesK
        rw [HL.out]
      have H9 := Lib.hid h9
      clear h9
      go_wp2_with fail
      go_ret2
      exact ⟨by rw [H9.out]; rfl, chain hbz hbel⟩
end Go.Proofs.Ytajfalffpcamhaa.Ew
