/- The walk of block.Build. -/
import Derived.Test.YtpihmjdljbienaaGreatDoorGe
import Derived.Test.YtpihmjdljbienaaGreatDoorGb
import Derived.Deep.DeepCutAuto
namespace Go.Proofs.YtpihmjdljbienaaGreatDoor.Ew
open Go.RowKit
open En B Vp Vw Bd
set_option linter.unusedVariables false

theorem tl_len (s : ByteArray) : s.data.toList.length = s.size := by simp
theorem drop_str (s : ByteArray) (c : Nat) : s.extract c s.size = str (s.data.toList.drop c) := by
  rw [extract_str, List.take_of_length_le (by rw [List.length_drop, tl_len]; exact Nat.le_refl _)]
theorem ba_list (x y : ByteArray) : (x ++ y).data.toList = x.data.toList ++ y.data.toList := by simp
theorem head_eq (k : ByteArray) (c : Nat) (q : Int) : (enc (c : Int) ++ (enc ((k.extract c k.size).size : Int) ++ k.extract c k.size) ++ enc q).data.toList = bts c ++ (txt (k.data.toList.drop c) ++ bts q) := by
  rw [drop_str, str_size, ba_list, ba_list, ba_list, enc_toList, enc_toList, enc_toList, toList_str]
  unfold txt
  simp only [List.append_assoc]
theorem tail_eq (v : ByteArray) (u : Int) : (enc (u + 1) ++ (enc (v.size : Int) ++ v)).data.toList = bts (u + 1) ++ txt v.data.toList := by
  rw [ba_list, ba_list, enc_toList, enc_toList]
  unfold txt
  rw [tl_len]
theorem lastK_succ (l : List Ent) (j : Nat) : lastK l (j + 1) = (l.getD j ent0).key.data.toList := by
  unfold lastK; rw [if_neg (by omega), Nat.add_sub_cancel]
theorem blk_bel {w w' : World} {g : Nat} {o : Obj} (h : w.heap[g]? = some o) (k : Below w.heap.size w w') : w'.heap[g]? = some o := (k.block g (lt_of_block h)).trans h
theorem cells2 {w : World} {g : Nat} {t : TypeId} {c0 c1 c2 c3 c4 : Value} (h : w.heap[g]? = some (.cells #[c0, c1, c2, c3, c4] t (0, 0))) :
    w.cell? ⟨g, 0, none⟩ = some c0 ∧ w.cell? ⟨g, 1, none⟩ = some c1 := ⟨(cells5 h).1, (cells5 h).2.1⟩
theorem cells34 {w : World} {g : Nat} {t : TypeId} {c0 c1 c2 c3 c4 : Value} (h : w.heap[g]? = some (.cells #[c0, c1, c2, c3, c4] t (0, 0))) :
    w.cell? ⟨g, 3, none⟩ = some c3 ∧ w.cell? ⟨g, 4, none⟩ = some c4 := ⟨(cells5 h).2.2.2.1, (cells5 h).2.2.2.2⟩
theorem keep2 {W W' : World} {b1 : Nat} {a0 a1 : Value} (h : (W.cell? ⟨b1, 0, none⟩ = some a0 ∧ W.cell? ⟨b1, 1, none⟩ = some a1) ∧ b1 < W.heap.size) (k : Below W.heap.size W W') :
    (W'.cell? ⟨b1, 0, none⟩ = some a0 ∧ W'.cell? ⟨b1, 1, none⟩ = some a1) ∧ b1 < W'.heap.size := by
  obtain ⟨⟨h0, h1⟩, l1⟩ := h
  have key : ∀ p : Addr, p.block < W.heap.size → W'.cell? p = W.cell? p := fun p hp => k.cell hp
  exact ⟨⟨(key _ l1).trans h0, (key _ l1).trans h1⟩, Nat.lt_of_lt_of_le l1 k.size⟩

set_option maxHeartbeats 3200000 in
set_option maxRecDepth 100000 in
theorem build_in (a : Option Addr) (n cap : Nat) (l : List Ent) (every : Nat) (hv : 1 ≤ every) (hv2 : every ≤ 64) (hl : l.length = n) (hn : n ≤ 4096) (hcap : n ≤ cap) (hm : cap ≤ 9223372036854775807)
    (hf : ∀ e ∈ l, Fits e) (hR : (orderedE l).2 = 0) (w : World) (hrow : ERow w a n (fun i => l.getD i ent0)) :
    Calls Tryz.prog 65 #[.slice a n cap, .int .i64 every] w fun e w' => e = .returned (.tuple #[.string (str (bytesK every l)), .int .i64 0]) ∧ Below w.heap.size w w' := by
  have HO := Lib.hid (ordered_any a n cap l hl hcap hm w hrow)
  obtain ⟨r1, hr1⟩ : ∃ r1, orderedE l = ((r1 : Nat), (0 : Int)) := ⟨(orderedE l).1, by rw [← hR]⟩
  rw [hr1] at HO
  have hgd := fun e he => ordered_good hR e he
  have hG : ∀ j, j < n → goodE (l.getD j ent0) = 0 ∧ (l.getD j ent0).til ≠ 9223372036854775807 ∧ Fits (l.getD j ent0) := by
    intro j hj
    have hmem : l.getD j ent0 ∈ l := by rw [List.getD_eq_getElem?_getD, List.getElem?_eq_getElem (by rw [hl]; exact hj)]; exact List.getElem_mem _
    exact ⟨(hgd _ hmem).1, (hgd _ hmem).2, hf _ hmem⟩
  have hLen : ∀ j, (entsB every 0 [] (l.take j)).length ≤ 700 * 4096 := by
    intro j
    have h9 := entsB_len every (l.take j) 0 [] (fun e he => ⟨(hgd e (List.mem_of_mem_take he)).1, (hgd e (List.mem_of_mem_take he)).2, hf e (List.mem_of_mem_take he)⟩)
    rw [List.length_take] at h9
    omega
  obtain ⟨res, hres⟩ : ∃ res, res = str (bytesK every l) := ⟨_, rfl⟩
  rw [← hres]
  have HRES := Lib.hid hres
  have HG := Lib.hid hG
  have HLEN := Lib.hid hLen
  have HL := Lib.hid hl
  have HR := Lib.hid hrow
  clear hl hf hrow hR hr1 hgd hG hLen hres
  have hxn : (enc (n : Int)).size ≤ 10 := enc_len (by omega) (by omega)
  go_enter Tryz.func65, Tryz.ntmps65
  go_wp2_with fail
  refine HO.out.mono ?_
  rintro e w1 ⟨rfl, hb1⟩
  have HFR := Lib.hid (fresh w1)
  go_wp2_with fail
  refine (Vw.put_any _ (by omega) (by omega) _).mono ?_
  rintro e w2 ⟨rfl, hb2⟩
  have HH2 := Lib.hid (HFR.out.below hb2)
  go_wp2_with fail
  refine (writeString_any w1.heap.size w1.heap.size [] _ _ HH2.out (by simp only [List.length_nil]; omega) (by have := hb2.size; simp at this; omega)).mono ?_
  rintro e w3 ⟨rfl, hh3, hb3⟩
  have hbz : Below w1.heap.size w1 w3 := ((Below.refl _ _).alloc (Nat.le_refl _) _).trans ((hb2.mono (by simp)).trans hb3)
  have HH3 := Lib.hid hh3
  clear hh3
  have HR1 := Lib.hid (HR.out.below hb1)
  go_wp2_with fail
  go_loopw [9, 38] (fun s i wr => ∃ j : Nat, i = .int .i64 j ∧ j ≤ n ∧ s = .string (str (lastK l j)) ∧ Hid (Holds w1.heap.size w1.heap.size (bts n ++ entsB every 0 [] (l.take j)) wr) ∧ Below w1.heap.size w1 wr) (fun _ i _ => n - (intOf i).toNat)
  case atStart => exact ⟨0, rfl, by omega, rfl, by show Holds _ _ (bts n ++ []) w3; rw [List.append_nil]; exact HH3.out, hbz⟩
  case round =>
    obtain ⟨j, rfl, hj, rfl, hh, hbel⟩ := hrel
    by_cases hlt : j < n
    · obtain ⟨ab, off, rfl, hab, hac⟩ := (HR1.out.below hbel).at (by omega)
      obtain ⟨h0, h1, h2, h3, h4⟩ := hac j hlt
      obtain ⟨hg1, hg2, hg3⟩ := HG.out j hlt
      have hts := entsB_take every l j (by rw [HL.out]; exact hlt)
      have hle := HLEN.out j
      have hlk := lastK_succ l j
      have hnl := nOf_le every j (lastK l j) (l.getD j ent0)
      have hnd : nOf every j (lastK l j) (l.getD j ent0) = if j % every ≠ 0 then pref (lastK l j) (l.getD j ent0).key.data.toList else 0 := rfl
      generalize l.getD j ent0 = x at h0 h1 h2 h3 h4 hg1 hg2 hg3 hts hlk hnl hnd
      generalize nOf every j (lastK l j) x = c at hts hnl hnd
      obtain ⟨k, q, g, v, u⟩ := x
      simp only at h0 h1 h2 h3 h4 hnl hlk hnd
      have hks : (lastK l j).length ≤ 64 := by
        unfold lastK
        split
        · simp
        · have := (goodE_0 (HG.out (j - 1) (by omega)).1).1
          rw [tl_len]; exact this
      generalize lastK l j = lk at hks hnd
      generalize hpre : bts (n : Int) ++ entsB every 0 [] (l.take j) = pre at hh
      have hpl : pre.length ≤ 10 + 700 * 4096 := by
        have h9 := bts_len (n := (n : Int)) ⟨by omega, by omega⟩
        rw [← hpre, List.length_append]; omega
      obtain ⟨k64, v512, k0, q1, u0, hgz⟩ := goodE_0 hg1
      simp only at k64 v512 k0 q1 u0
      have q2 := hg3.seq1
      have u2 := hg3.til1
      simp only at q2 u2 hg2
      have HTS := Lib.hid hts
      have HLK := Lib.hid hlk
      have HND := Lib.hid hnd
      have HPRE := Lib.hid hpre
      have HHH := hh
      clear hac hts hlk hnd hpre hg1 hg3 hgz hh hle
      have hbA : Below w1.heap.size w1 (wr.alloc (.cells #[.string k, .int .i64 q, .bool g, .string v, .int .i64 u] 45)) := hbel.alloc hbel.size _
      have ej : (j : Int).tmod (every : Int) = ((j % every : Nat) : Int) := by
        rw [Int.tmod_eq_emod_of_nonneg (by omega)]; rfl
      have hjm : j % every < every := Nat.mod_lt _ (by omega)
      generalize j % every = jm at ej HND hjm
      have hs1 : w1.heap.size < wr.heap.size := by have h5 := HHH.out; rcases h5 with h5 | h5 <;> obtain ⟨_, _, h6, _⟩ := h5 <;> exact lt_of_block h6
      have HEV := Lib.hid (fun W => shared_any (str lk) k (by rw [str_size]; omega) (by omega) W)
      go_upto_if 46 with fail
      go_cut [12] (fun s12 wx => s12 = .int .i64 c ∧ Hid (wx.heap[wr.heap.size]? = some (.cells #[.string k, .int .i64 q, .bool g, .string v, .int .i64 u] 45 (0, 0))) ∧ Hid (Holds w1.heap.size w1.heap.size pre wx) ∧ Below w1.heap.size w1 wx)
      case first =>
        have hEa : Hid ((wr.alloc (.cells #[.string k, .int .i64 q, .bool g, .string v, .int .i64 u] 45)).heap[wr.heap.size]? = some (.cells #[.string k, .int .i64 q, .bool g, .string v, .int .i64 u] 45 (0, 0))) := heap_alloc_new _ _
        have hHa : Hid (Holds w1.heap.size w1.heap.size pre (wr.alloc (.cells #[.string k, .int .i64 q, .bool g, .string v, .int .i64 u] 45))) := HHH.out.below ((Below.refl _ _).alloc (Nat.le_refl _) _)
        by_cases hz : jm = 0
        · have hc : c = 0 := by rw [HND.out, if_neg (by simp [hz])]
          subst hz
          have HC := Lib.hid hc
          clear hc
          go_wp2_with fail
          all_goals go_meet
          exact ⟨by rw [HC.out]; rfl, hEa, hHa, hbA⟩
        · have hc : c = pref lk k.data.toList := by rw [HND.out, if_pos hz]
          have HC := Lib.hid hc
          have eb : ((jm : Int) != 0) = true := nt (by omega)
          clear hc hz
          go_wp2_with fail
          refine (HEV.out _).mono ?_
          rintro e w5 ⟨rfl, qn, rfl⟩
          go_wp2_with fail
          all_goals go_meet
          exact ⟨by rw [HC.out]; rfl, hEa, hHa.out.below (drewN (Below.refl _ _)), drewN hbA⟩
      case rest =>
      obtain ⟨rfl, hE4, hH4, hb4⟩ := hcut
      clear HEV hjm ej
      have c1 : (0 : Int) ≤ (c : Int) := by omega
      have c2 : (c : Int) ≤ (k.size : Int) := by omega
      have hx3 : (k.extract c k.size).size ≤ 64 := by rw [ByteArray.size_extract]; omega
      obtain ⟨E1, hE1⟩ : ∃ x, x = enc (c : Int) := ⟨_, rfl⟩
      obtain ⟨E2, hE2⟩ : ∃ x, x = enc ((k.extract c k.size).size : Int) ++ k.extract c k.size := ⟨_, rfl⟩
      obtain ⟨E3, hE3⟩ : ∃ x, x = enc q := ⟨_, rfl⟩
      have z1 : E1.size ≤ 10 := by rw [hE1]; exact enc_len (by omega) (by omega)
      have z2 : E2.size ≤ 74 := by rw [hE2, ByteArray.size_append]; have := enc_len (n := ((k.extract c k.size).size : Int)) (by omega) (by omega); omega
      have z3 : E3.size ≤ 10 := by rw [hE3]; exact enc_len (by omega) (by omega)
      have P1 := Lib.hid (fun W => Vw.put_any (c : Int) (by omega) (by omega) W)
      have P2 := Lib.hid (fun W => putText_any (k.extract c k.size) (by omega) W)
      have P3 := Lib.hid (fun W => Vw.put_any q (by omega) (by omega) W)
      rw [← hE1] at P1
      rw [← hE2] at P2
      rw [← hE3] at P3
      have HE1 := Lib.hid hE1
      have HE2 := Lib.hid hE2
      have HE3 := Lib.hid hE3
      have s1 : ¬ (9223372036854775807 < E1.size + E2.size) := by omega
      have s2 : ¬ (9223372036854775807 < (E1 ++ E2).size + E3.size) := by rw [ByteArray.size_append]; omega
      have s3 : ¬ (9223372036854775807 < E1.size + E2.size + E3.size) := by omega
      clear hE1 hE2 hE3
      obtain ⟨y0, y1, y2, y3, y4⟩ := cells5 hE4.out
      go_wp2_with fail
      clear y0 y1 y2 y3 y4
      go_region_held3 (fun w' => w'.cell? ⟨wr.heap.size, 0, none⟩ = some (.string k) ∧ w'.cell? ⟨wr.heap.size, 1, none⟩ = some (.int .i64 q))
        ((refine cells2 (t := 45) (c2 := .bool g) (c3 := .string v) (c4 := .int .i64 u) ?_; repeat (first | with_reducible exact hE4.out | with_reducible refine blk_drew ?_ | with_reducible refine blk_bel ?_ hb5 | with_reducible refine blk_bel ?_ hb6 | with_reducible refine blk_bel ?_ hb7 | with_reducible refine keep_blk hk8 ?_ (by decide))))
        (first
          | (go_at_call 36; with_reducible refine (P1.out _).mono ?_; rintro e w5 ⟨rfl, hb5⟩)
          | (go_at_call 36; with_reducible refine (P3.out _).mono ?_; rintro e w7 ⟨rfl, hb7⟩)
          | (go_at_call 38; refine (P2.out _).mono ?_; rintro e w6 ⟨rfl, hb6⟩)
          | (go_at_call 35
             refine (writeString_keeps w1.heap.size w1.heap.size pre _ _ ?_ ?_ ?_).mono ?_
             · exact ((((hH4.out.below (drewN (n := 1) (Below.refl _ _))).below hb5).below hb6).below hb7)
             · simp only [ByteArray.size_append]; omega
             · exact Nat.le_trans (Nat.le_trans (Nat.le_trans hb4.size hb5.size) hb6.size) hb7.size
             rintro e w8 ⟨rfl, hh8, hb8, hk8⟩))
      all_goals
        have hE8 : w8.heap[wr.heap.size]? = some (.cells #[.string k, .int .i64 q, .bool g, .string v, .int .i64 u] 45 (0, 0)) := keep_blk hk8 (blk_bel (blk_bel (blk_bel (blk_drew hE4.out) hb5) hb6) hb7) (by decide)
        have hb8z : Below w1.heap.size w1 w8 := (chain (chain (chain hb4.drew hb5) hb6) hb7).trans hb8
        have hpl2 : (pre ++ (E1 ++ E2 ++ E3).data.toList).length ≤ 10 + 700 * 4096 + 94 := by
          rw [List.length_append, tl_len, ByteArray.size_append, ByteArray.size_append]; omega
        generalize hp2 : pre ++ (E1 ++ E2 ++ E3).data.toList = pre2 at hh8 hpl2
        have HP2 := Lib.hid hp2
        have HE8 := Lib.hid hE8
        have HH8 := Lib.hid hh8
        obtain ⟨y0, y1, y2, y3, y4⟩ := cells5 hE8
        clear y0 y1 y3 y4 hE8 hh8 hk8 hb8 hb7 hb6 hb5 hb4 hE4 hH4 hp2 P1 P2 P3
        cases g with
        | true =>
          have hz0 : (enc 0).size ≤ 10 := enc_len (by omega) (by omega)
          go_wp2_with fail
          refine (Vw.put_any 0 (by omega) (by omega) _).mono ?_
          rintro e w9 ⟨rfl, hb9⟩
          have HH9 := Lib.hid (HH8.out.below hb9)
          have hbz9 := chain hb8z hb9
          go_wp2_with fail
          refine (writeString_any w1.heap.size w1.heap.size _ _ _ HH9.out (by omega) hbz9.size).mono ?_
          rintro e w10 ⟨rfl, hh10, hb10⟩
          have HH10 := Lib.hid hh10
          have hbz10 := hbz9.trans hb10
          clear hh10
          go_wp2_with fail
          go_roundw
          case rel =>
            refine ⟨j + 1, by go_num, by omega, by rw [HLK.out]; rfl, ?_, hbz10⟩
            have hpp : bts (n : Int) ++ entsB every 0 [] (l.take (j + 1)) = pre2 ++ (enc 0).data.toList := by
              rw [HTS.out, ← List.append_assoc, HPRE.out, ← HP2.out, HE1.out, HE2.out, HE3.out, head_eq, List.append_assoc, List.append_assoc]
              congr 1
              simp only [entB, if_pos, List.append_assoc]; rfl
            show Holds _ _ _ _
            rw [hpp]; exact HH10.out
          case measure => simp [intOf]; omega
        | false =>
          have hu1 : IntKind.i64.wrap (u + 1) = u + 1 := IntWalk.i64_in _ (by omega)
          obtain ⟨E4, hE4⟩ : ∃ x, x = enc (u + 1) := ⟨_, rfl⟩
          obtain ⟨E5, hE5⟩ : ∃ x, x = enc (v.size : Int) ++ v := ⟨_, rfl⟩
          have z4 : E4.size ≤ 10 := by rw [hE4]; exact enc_len (by omega) (by omega)
          have z5 : E5.size ≤ 522 := by rw [hE5, ByteArray.size_append]; have := enc_len (n := (v.size : Int)) (by omega) (by omega); omega
          have P4 := Lib.hid (fun W => Vw.put_any (u + 1) (by omega) (by omega) W)
          have P5 := Lib.hid (fun W => putText_any v (by omega) W)
          rw [← hE4] at P4
          rw [← hE5] at P5
          have HE4 := Lib.hid hE4
          have HE5 := Lib.hid hE5
          have s4 : ¬ (9223372036854775807 < E4.size + E5.size) := by omega
          clear hE4 hE5
          go_wp2_with fail
          clear y2
          go_region_held3 (fun w' => w'.cell? ⟨wr.heap.size, 3, none⟩ = some (.string v) ∧ w'.cell? ⟨wr.heap.size, 4, none⟩ = some (.int .i64 u))
            ((refine cells34 (t := 45) (c0 := .string k) (c1 := .int .i64 q) (c2 := .bool false) ?_; repeat (first | with_reducible exact HE8.out | with_reducible refine blk_drew ?_ | with_reducible refine blk_bel ?_ hb9 | with_reducible refine blk_bel ?_ hb10 | with_reducible refine keep_blk hk11 ?_ (by decide))))
            (first
              | (go_at_call 36; with_reducible refine (P4.out _).mono ?_; rintro e w9 ⟨rfl, hb9⟩)
              | (go_at_call 38; refine (P5.out _).mono ?_; rintro e w10 ⟨rfl, hb10⟩)
              | (go_at_call 35
                 refine (writeString_keeps w1.heap.size w1.heap.size pre2 _ _ ?_ ?_ ?_).mono ?_
                 · exact (((HH8.out.below (drewN (n := 1) (Below.refl _ _))).below hb9).below hb10)
                 · simp only [ByteArray.size_append]; omega
                 · exact Nat.le_trans (Nat.le_trans hb8z.size hb9.size) hb10.size
                 rintro e w11 ⟨rfl, hh11, hb11, hk11⟩))
          all_goals
            have HH11 := Lib.hid hh11
            have hbz11 := (chain (chain hb8z.drew hb9) hb10).trans hb11
            clear hh11 hb11 hk11 hb9 hb10 hu1
            go_wp2_with fail
            go_roundw
            case rel =>
              refine ⟨j + 1, by go_num, by omega, by rw [HLK.out]; rfl, ?_, hbz11⟩
              have hpp : bts (n : Int) ++ entsB every 0 [] (l.take (j + 1)) = pre2 ++ (E4 ++ E5).data.toList := by
                rw [HTS.out, ← List.append_assoc, HPRE.out, ← HP2.out, HE1.out, HE2.out, HE3.out, HE4.out, HE5.out, head_eq, tail_eq, List.append_assoc, List.append_assoc]
                congr 1
                simp only [entB, List.append_assoc]; rfl
              show Holds _ _ _ _
              rw [hpp]; exact HH11.out
            case measure => simp [intOf]; omega
    · obtain rfl : j = n := by omega
      have h9 : res = str (bts (j : Int) ++ entsB every 0 [] (l.take j)) := by
        rw [HRES.out, List.take_of_length_le (by rw [HL.out]; exact Nat.le_refl _)]
        unfold bytesK
        rw [HL.out]
      have H9 := Lib.hid h9
      clear h9
      have HHH := hh
      clear hh
      go_wp2_with fail
      refine (string_any w1.heap.size w1.heap.size _ _ HHH.out hbel.size).mono ?_
      rintro e w3 ⟨rfl, hb3⟩
      have hbz3 := chain hb1 (hbel.trans hb3)
      go_wp2_with fail
      go_ret2
      exact ⟨by rw [H9.out]; rfl, hbz3⟩

set_option maxHeartbeats 800000 in
set_option maxRecDepth 100000 in
theorem build_bad (a : Option Addr) (n cap : Nat) (l : List Ent) (every : Int) (hl : l.length = n) (hcap : n ≤ cap) (hm : cap ≤ 9223372036854775807)
    (h : (every < 1 ∨ 64 < every) ∨ 4096 < n ∨ (orderedE l).2 ≠ 0) (w : World) (hrow : ERow w a n (fun i => l.getD i ent0)) :
    Calls Tryz.prog 65 #[.slice a n cap, .int .i64 every] w fun e w' => e = .returned (.tuple #[.string (buildE l every).1, .int .i64 (buildE l every).2]) ∧ Below w.heap.size w w' := by
  have HO := Lib.hid (ordered_any a n cap l hl hcap hm w hrow)
  obtain ⟨b, hb⟩ : ∃ b, b = buildE l every := ⟨_, rfl⟩
  rw [← hb]
  unfold buildE at hb
  rw [hl] at hb
  generalize orderedE l = r at HO h hb
  obtain ⟨r1, r2⟩ := r
  simp only at h hb
  clear hl hrow
  go_enter Tryz.func65, Tryz.ntmps65
  by_cases h1 : every < 1 ∨ 64 < every
  · rw [if_pos h1] at hb
    have HB := Lib.hid hb
    clear h hb
    rcases h1 with h1 | h1
    · go_wp2_with fail
      go_ret2
      exact ⟨by rw [HB.out]; rfl, Below.refl _ _⟩
    · go_wp2_with fail
      go_ret2
      exact ⟨by rw [HB.out]; rfl, Below.refl _ _⟩
  · rw [if_neg h1] at hb
    have k1 : 1 ≤ every := by omega
    have k2 : every ≤ 64 := by omega
    by_cases h2 : 4096 < n
    · rw [if_pos h2] at hb
      have HB := Lib.hid hb
      clear h hb h1
      go_wp2_with fail
      go_ret2
      exact ⟨by rw [HB.out]; rfl, Below.refl _ _⟩
    · rw [if_neg h2] at hb
      have h3 : r2 ≠ 0 := h.resolve_left h1 |>.resolve_left h2
      rw [if_pos h3] at hb
      have e3 : (r2 != 0) = true := nt h3
      have HB := Lib.hid hb
      clear h hb h1 h3
      go_wp2_with fail
      refine HO.out.mono ?_
      rintro e w1 ⟨rfl, hb1⟩
      go_wp2_with fail
      go_ret2
      exact ⟨by rw [HB.out]; rfl, hb1⟩

theorem build_any (a : Option Addr) (n cap : Nat) (l : List Ent) (every : Int) (hl : l.length = n) (hcap : n ≤ cap) (hm : cap ≤ 9223372036854775807)
    (hf : ∀ e ∈ l, Fits e) (w : World) (hrow : ERow w a n (fun i => l.getD i ent0)) :
    Calls Tryz.prog 65 #[.slice a n cap, .int .i64 every] w fun e w' => e = .returned (.tuple #[.string (buildE l every).1, .int .i64 (buildE l every).2]) ∧ Below w.heap.size w w' := by
  by_cases h : (every < 1 ∨ 64 < every) ∨ 4096 < n ∨ (orderedE l).2 ≠ 0
  · exact build_bad a n cap l every hl hcap hm h w hrow
  · have h1 : ¬ (every < 1 ∨ 64 < every) := fun hh => h (.inl hh)
    have h2 : ¬ 4096 < n := fun hh => h (.inr (.inl hh))
    have h3 : ¬ (orderedE l).2 ≠ 0 := fun hh => h (.inr (.inr hh))
    have hb : buildE l every = (str (bytesK every.toNat l), 0) := by
      unfold buildE
      rw [if_neg h1, if_neg (by rw [hl]; exact h2), if_neg h3]
    rw [hb]
    obtain ⟨v, hv⟩ : ∃ v : Nat, every = v := ⟨every.toNat, by omega⟩
    subst hv
    exact build_in a n cap l v (by omega) (by omega) hl (by omega) hcap hm hf (by omega) w hrow
end Go.Proofs.YtpihmjdljbienaaGreatDoor.Ew
