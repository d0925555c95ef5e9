/- The walk of the reference's Get of a batch. -/
import Derived.Test.YtdhnkalkfipmhaaBatchR
import Derived.Test.YtdhnkalkfipmhaaBatchM
import Derived.Test.YtdhnkalkfipmhaaLists
namespace Go.Proofs.Ytdhnkalkfipmhaa.Ew
open Go.RowKit
open En B Vp Vw
set_option linter.unusedVariables false

def GotR (w : World) (r : List Ent × Int) (e : Ending) (w' : World) : Prop :=
  ∃ a c, e = .returned (.tuple #[.slice a r.1.length c, .int .i64 r.2]) ∧ w'.ownsRow w.heap.size 55 5 (.slice a r.1.length c) r.1.length (ecells r.1) ∧ Below w.heap.size w w'

theorem cnt_form {s : ByteArray} {a : Int} (h : (getS s a).e = 0) (h2 : (getS s a).n < 0) : cntS s a = ⟨0, 0, 4⟩ := by unfold cntS; rw [if_pos ⟨h, h2⟩]
theorem cnt_same {s : ByteArray} {a : Int} (h : ¬ ((getS s a).e = 0 ∧ (getS s a).n < 0)) : cntS s a = getS s a := by unfold cntS; rw [if_neg h]
theorem item_next {s : ByteArray} {a : Int} (h : (itemS s a).e = 0) : ∃ k : Nat, (itemS s a).next = (k : Int) ∧ k ≤ s.size := by
  obtain ⟨x, y, e, rfl, rfl, _, _, _, hi⟩ := item_was h
  rw [hi]
  exact ⟨_, rfl, by rw [str_size]; simp⟩

set_option maxHeartbeats 400000 in
theorem rgetB_bad (s : ByteArray) (hs : s.size ≤ 4611686018427387904) (h : (cntS s 0).e ≠ 0) (w : World) :
    Calls Try.prog 28 #[.string s] w fun e w' => e = .returned (.tuple #[.slice none 0 0, .int .i64 (cntS s 0).e]) ∧ w = w' := by
  have HG := Lib.hid (fun W : World => rget_any s 0 hs W)
  by_cases h1 : (getS s 0).e = 0 ∧ (getS s 0).n < 0
  · rw [cnt_form h1.1 h1.2]
    generalize getS s 0 = g at HG h1
    obtain ⟨gn, gx, ge⟩ := g
    simp only [ret3] at HG h1
    obtain ⟨rfl, h2⟩ := h1
    clear h
    go_enter Try.func28, Try.ntmps28
    go_wp2_with fail
    refine (HG.out _).mono ?_
    rintro e w1 ⟨rfl, rfl⟩
    go_wp2_with fail
    go_ret2
    exact ⟨rfl, rfl⟩
  · rw [cnt_same h1] at h ⊢
    generalize getS s 0 = g at HG h
    obtain ⟨gn, gx, ge⟩ := g
    simp only [ret3] at HG h ⊢
    have e1 : (ge != 0) = true := nt h
    clear h1 h
    go_enter Try.func28, Try.ntmps28
    go_wp2_with fail
    refine (HG.out _).mono ?_
    rintro e w1 ⟨rfl, rfl⟩
    go_wp2_with fail
    go_ret2
    exact ⟨rfl, rfl⟩

set_option maxHeartbeats 400000 in
theorem rgetB_long (s : ByteArray) (hs : s.size ≤ 4611686018427387904) {n a : Int} (hc : getS s 0 = ⟨n, a, 0⟩) (hn : 64 < n) (w : World) :
    Calls Try.prog 28 #[.string s] w fun e w' => e = .returned (.tuple #[.slice none 0 0, .int .i64 5]) ∧ w = w' := by
  have HG := Lib.hid (fun W : World => rget_any s 0 hs W)
  rw [hc] at HG
  simp only [ret3] at HG
  clear hc
  go_enter Try.func28, Try.ntmps28
  go_wp2_with fail
  refine (HG.out _).mono ?_
  rintro e w1 ⟨rfl, rfl⟩
  go_wp2_with fail
  go_ret2
  exact ⟨rfl, rfl⟩

set_option maxHeartbeats 1600000 in
set_option maxRecDepth 100000 in
theorem rgetB_run (s : ByteArray) (hs : s.size ≤ 4611686018427387904) (m : Nat) (a0 : Int) (hc : getS s 0 = ⟨m, a0, 0⟩) (hm : m ≤ 64) (ha0 : ∃ k : Nat, a0 = (k : Int) ∧ k ≤ s.size) (w : World) :
    Calls Try.prog 28 #[.string s] w (GotR w (if (itemsS s m a0 []).e ≠ 0 then ([], (itemsS s m a0 []).e) else if (itemsS s m a0 []).next < s.size then ([], 4) else ((itemsS s m a0 []).l, 0))) := by
  obtain ⟨R, hR⟩ : ∃ R, R = itemsS s m a0 [] := ⟨_, rfl⟩
  rw [← hR]
  obtain ⟨X, hXX⟩ : ∃ X, X = (if R.e ≠ 0 then (([], R.e) : List Ent × Int) else if R.next < s.size then ([], 4) else (R.l, 0)) := ⟨_, rfl⟩
  rw [← hXX]
  have HXX := Lib.hid hXX
  have HR := Lib.hid hR
  have HA0 := Lib.hid ha0
  have HG := Lib.hid (fun W : World => rget_any s 0 hs W)
  rw [hc] at HG
  simp only [ret3] at HG
  clear hXX hc hR ha0
  go_enter Try.func28, Try.ntmps28
  go_wp2_with fail
  refine (HG.out _).mono ?_
  rintro e w1 ⟨rfl, rfl⟩
  go_wp2_with fail
  go_loopw [5, 7, 8] (fun at_ v i wr => ∃ (j : Nat) (a : Int) (acc : List Ent) (p : Option Addr) (d : Nat), i = .int .i64 j ∧ j ≤ m ∧ at_ = .int .i64 a ∧ v = .slice p j d ∧ Hid (∃ k : Nat, a = (k : Int) ∧ k ≤ s.size) ∧
    wr.ownsRow w.heap.size 55 5 (.slice p j d) j (ecells acc) ∧ Hid (itemsS s m a0 [] = itemsS s (m - j) a acc) ∧ Below w.heap.size w wr) (fun _ _ i _ => m - (intOf i).toNat)
  case atStart => exact ⟨0, a0, [], none, 0, rfl, by omega, rfl, rfl, HA0.out, World.ownsRow_nil _ _ _ _, rfl, Below.refl _ _⟩
  case round =>
    obtain ⟨j, a, acc, p, d, rfl, hj, rfl, rfl, hak, hown, hit, hbel⟩ := hrel
    by_cases hlt : j < m
    · obtain ⟨k, hk⟩ : ∃ k, m - j = k + 1 := ⟨m - j - 1, by omega⟩
      have hst := hit.out
      rw [hk] at hst
      obtain ⟨r, hr⟩ : ∃ r, r = itemS s a := ⟨_, rfl⟩
      simp only [itemsS] at hst
      rw [← hr] at hst
      have HST := Lib.hid hst
      have HK := Lib.hid hk
      have hnx := @item_next s a
      rw [← hr] at hnx
      have HNX := Lib.hid hnx
      unfold itemS at hr
      obtain ⟨t, ht⟩ : ∃ t, t = getT s a := ⟨_, rfl⟩
      rw [← ht] at hr
      obtain ⟨c, hcc⟩ : ∃ c, c = cntS s t.next := ⟨_, rfl⟩
      rw [← hcc] at hr
      obtain ⟨v, hv⟩ : ∃ v, v = getT s c.next := ⟨_, rfl⟩
      rw [← hv] at hr
      have HRR := Lib.hid hr
      have HO := Lib.hid hown
      have HT := Lib.hid (fun W : World => rgetText_any s a hs W)
      rw [← ht] at HT
      have HV := Lib.hid hv
      have hbel1 := fun C : Obj => hbel.alloc hbel.size C
      clear hst hk hnx hr hown hit hv
      -- a reason why there is no item
      have hbad : r.e ≠ 0 → X = ([], r.e) := by
        intro h
        rw [HXX.out, HR.out, HST.out, if_pos h]
        simp [h]
      have HBAD := Lib.hid hbad
      clear hbad
      by_cases h1 : t.e = 0
      case neg =>
        have hre : r.e = t.e := by rw [HRR.out, if_pos h1]
        have hX := HBAD.out (by rw [hre]; exact h1)
        rw [hre] at hX
        have HX := Lib.hid hX
        obtain ⟨tt, tn, te⟩ := t
        simp only [retT] at HT h1 hX HX
        have e1 : (te != 0) = true := nt h1
        clear h1 hre hX hcc ht
        go_wp2_with fail
        refine (HT.out _).mono ?_
        rintro e w1 ⟨rfl, rfl⟩
        go_wp2_with fail
        go_ret2
        rw [HX.out]
        exact ⟨none, 0, rfl, World.ownsRow_nil _ _ _ _, hbel1 _⟩
      case pos =>
      rw [if_neg (by simp [h1])] at HRR
      obtain ⟨key, tn, te⟩ := t
      simp only [retT] at HT h1 HRR hcc
      subst h1
      have HG2 := Lib.hid (fun W : World => rget_any s tn hs W)
      clear ht
      by_cases h2 : (getS s tn).e = 0 ∧ (getS s tn).n < 0
      · have hce := cnt_form h2.1 h2.2
        have hre : r.e = 4 := by rw [HRR.out, hcc, hce, if_pos (by decide)]
        have hX := HBAD.out (by rw [hre]; decide)
        rw [hre] at hX
        have HX := Lib.hid hX
        generalize getS s tn = g at HG2 h2
        obtain ⟨gn, gx, ge⟩ := g
        simp only [ret3] at HG2 h2
        obtain ⟨rfl, h3⟩ := h2
        clear hre hX hce hcc
        go_wp2_with fail
        refine (HT.out _).mono ?_
        rintro e w1 ⟨rfl, rfl⟩
        go_wp2_with fail
        refine (HG2.out _).mono ?_
        rintro e w1 ⟨rfl, rfl⟩
        go_wp2_with fail
        go_ret2
        rw [HX.out]
        exact ⟨none, 0, rfl, World.ownsRow_nil _ _ _ _, hbel1 _⟩
      have hce := cnt_same h2
      rw [hce] at hcc
      rw [← hcc] at HG2 h2
      clear hce
      by_cases h3 : c.e = 0
      case neg =>
        have hre : r.e = c.e := by rw [HRR.out, if_pos h3]
        have hX := HBAD.out (by rw [hre]; exact h3)
        rw [hre] at hX
        have HX := Lib.hid hX
        obtain ⟨gn, gx, ge⟩ := c
        simp only [ret3] at HG2 h3 hX HX
        have e1 : (ge != 0) = true := nt h3
        clear hre hX hcc h2 h3
        go_wp2_with fail
        refine (HT.out _).mono ?_
        rintro e w1 ⟨rfl, rfl⟩
        go_wp2_with fail
        refine (HG2.out _).mono ?_
        rintro e w1 ⟨rfl, rfl⟩
        go_wp2_with fail
        go_ret2
        rw [HX.out]
        exact ⟨none, 0, rfl, World.ownsRow_nil _ _ _ _, hbel1 _⟩
      case pos =>
      rw [if_neg (by simp [h3])] at HRR
      have hn0 : 0 ≤ c.n := by
        have : ¬ c.n < 0 := fun hh => h2 ⟨h3, hh⟩
        omega
      have hn9 : c.n ≤ 9223372036854775807 := by
        obtain ⟨x, y, n, _, _, hI, hg⟩ := num_was (s := s) (a := tn) (by rw [← hcc]; exact h3)
        rw [hcc, hg]; exact hI.2
      obtain ⟨cn, cx, ce⟩ := c
      simp only [ret3] at HG2 h3 hn0 hn9 HRR HV
      subst h3
      have HG3 := Lib.hid (fun W : World => rgetText_any s cx hs W)
      rw [← HV.out] at HG3
      have e2 : decide (cn < 0) = false := df (by omega)
      clear hcc h2
      by_cases h4 : cn = 0
      · subst h4
        rw [if_pos rfl] at HRR
        go_wp2_with fail
        refine (HT.out _).mono ?_
        rintro e w1 ⟨rfl, rfl⟩
        go_wp2_with fail
        refine (HG2.out _).mono ?_
        rintro e w1 ⟨rfl, rfl⟩
        go_wp2_with fail
        refine (rigood_any key 0 true ByteArray.empty 0 _).mono ?_
        rintro e w3 ⟨rfl, hb3⟩
        have hbA := chain (hbel1 _) hb3
        have HE3 := Lib.hid ((EBox.new wr 55 (⟨key, 0, true, ByteArray.empty, 0⟩ : Ent)).below hb3)
        have HO3 := Lib.hid (own_below (HO.out.alloc (.cells #[.string (⟨key, 0, true, ByteArray.empty, 0⟩ : Ent).key, .int .i64 (⟨key, 0, true, ByteArray.empty, 0⟩ : Ent).seq, .bool (⟨key, 0, true, ByteArray.empty, 0⟩ : Ent).gone, .string (⟨key, 0, true, ByteArray.empty, 0⟩ : Ent).val, .int .i64 (⟨key, 0, true, ByteArray.empty, 0⟩ : Ent).til] 55)) hb3)
        obtain ⟨k0, k1, k2, k3, k4⟩ := HE3.out.cells
        simp only at k0 k1 k2 k3 k4
        clear hb3 hbel1
        by_cases hgd : goodI (⟨key, 0, true, ByteArray.empty, 0⟩ : Ent) = 0
        case neg =>
          have hre : r.e = goodI (⟨key, 0, true, ByteArray.empty, 0⟩ : Ent) := by rw [HRR.out, itemX, if_neg hgd]
          have hX := HBAD.out (by rw [hre]; exact hgd)
          rw [hre] at hX
          have HX := Lib.hid hX
          have e9 : (goodI (⟨key, 0, true, ByteArray.empty, 0⟩ : Ent) != 0) = true := nt hgd
          clear hre hX hgd
          go_wp2_with fail
          go_ret2
          rw [HX.out]
          exact ⟨none, 0, rfl, World.ownsRow_nil _ _ _ _, hbA⟩
        case pos =>
          have hre : r = ⟨(⟨key, 0, true, ByteArray.empty, 0⟩ : Ent), cx, 0⟩ := by rw [HRR.out, itemX, if_pos hgd]
          have e9 : (goodI (⟨key, 0, true, ByteArray.empty, 0⟩ : Ent) != 0) = false := nf hgd
          have hst9 : itemsS s m a0 [] = itemsS s k cx (acc ++ [(⟨key, 0, true, ByteArray.empty, 0⟩ : Ent)]) := by rw [HST.out, hre, if_neg (by simp)]
          have hnx9 : ∃ k : Nat, cx = (k : Int) ∧ k ≤ s.size := by have := HNX.out (by rw [hre]); rw [hre] at this; exact this
          have H9 := Lib.hid hst9
          have N9 := Lib.hid hnx9
          clear hre hgd hst9 hnx9
          go_wp2_with (at_builtin; refine wpList_push2 rfl _ _ 24 rfl Try.underlying24 infoRef rfl (by decide) rfl _ rfl ?c1 rfl rfl HO3.out ?c2 ?c3 ?c4 ?_)
          case c1 => simp [Value.oneCell']
          case c2 => exact hbA.size
          case c3 => unfold maxLen; omega
          case c4 => omega
          intro a' cap' w5 hown5 _ hb5
          have hz : w5.ownsRow w.heap.size 55 5 (.slice a' (j + 1) cap') (j + 1) (ecells (acc ++ [(⟨key, 0, true, ByteArray.empty, 0⟩ : Ent)])) := by rw [ecells_snoc]; exact hown5
          have HZ := Lib.hid hz
          have hb6 := hbA.trans hb5
          clear hown5 hz
          go_wp2_with fail
          go_roundw
          case rel => exact ⟨j + 1, cx, acc ++ [(⟨key, 0, true, ByteArray.empty, 0⟩ : Ent)], a', cap', by go_num, by omega, rfl, rfl, N9.out, HZ.out, by show itemsS s m a0 [] = _; rw [H9.out, show m - (j + 1) = k from by have := HK.out; omega], hb6⟩
          case measure => simp [intOf]; omega
      · rw [if_neg h4] at HRR
        have e4 : (cn == 0) = false := ef h4
        by_cases h5 : v.e = 0
        case neg =>
          have hre : r.e = v.e := by rw [HRR.out, if_pos h5]
          have hX := HBAD.out (by rw [hre]; exact h5)
          rw [hre] at hX
          have HX := Lib.hid hX
          obtain ⟨vt, vn, ve⟩ := v
          simp only [retT] at HG3 h5 hX HX
          have e1 : (ve != 0) = true := nt h5
          clear hre hX h5
          go_wp2_with fail
          refine (HT.out _).mono ?_
          rintro e w1 ⟨rfl, rfl⟩
          go_wp2_with fail
          refine (HG2.out _).mono ?_
          rintro e w1 ⟨rfl, rfl⟩
          go_wp2_with fail
          refine (HG3.out _).mono ?_
          rintro e w1 ⟨rfl, rfl⟩
          go_wp2_with fail
          go_ret2
          rw [HX.out]
          exact ⟨none, 0, rfl, World.ownsRow_nil _ _ _ _, hbel1 _⟩
        case pos =>
        rw [if_neg (by simp [h5])] at HRR
        obtain ⟨vt, vn, ve⟩ := v
        simp only [retT] at HG3 h5 HRR
        subst h5
        go_wp2_with fail
        refine (HT.out _).mono ?_
        rintro e w1 ⟨rfl, rfl⟩
        go_wp2_with fail
        refine (HG2.out _).mono ?_
        rintro e w1 ⟨rfl, rfl⟩
        go_wp2_with fail
        refine (HG3.out _).mono ?_
        rintro e w1 ⟨rfl, rfl⟩
        go_wp2_with fail
        refine (rigood_any key 0 false vt (cn - 1) _).mono ?_
        rintro e w3 ⟨rfl, hb3⟩
        have hbA := chain (hbel1 _) hb3
        have HE3 := Lib.hid ((EBox.new wr 55 (⟨key, 0, false, vt, cn - 1⟩ : Ent)).below hb3)
        have HO3 := Lib.hid (own_below (HO.out.alloc (.cells #[.string (⟨key, 0, false, vt, cn - 1⟩ : Ent).key, .int .i64 (⟨key, 0, false, vt, cn - 1⟩ : Ent).seq, .bool (⟨key, 0, false, vt, cn - 1⟩ : Ent).gone, .string (⟨key, 0, false, vt, cn - 1⟩ : Ent).val, .int .i64 (⟨key, 0, false, vt, cn - 1⟩ : Ent).til] 55)) hb3)
        obtain ⟨k0, k1, k2, k3, k4⟩ := HE3.out.cells
        simp only at k0 k1 k2 k3 k4
        clear hb3 hbel1
        by_cases hgd : goodI (⟨key, 0, false, vt, cn - 1⟩ : Ent) = 0
        case neg =>
          have hre : r.e = goodI (⟨key, 0, false, vt, cn - 1⟩ : Ent) := by rw [HRR.out, itemX, if_neg hgd]
          have hX := HBAD.out (by rw [hre]; exact hgd)
          rw [hre] at hX
          have HX := Lib.hid hX
          have e9 : (goodI (⟨key, 0, false, vt, cn - 1⟩ : Ent) != 0) = true := nt hgd
          clear hre hX hgd
          go_wp2_with fail
          go_ret2
          rw [HX.out]
          exact ⟨none, 0, rfl, World.ownsRow_nil _ _ _ _, hbA⟩
        case pos =>
          have hre : r = ⟨(⟨key, 0, false, vt, cn - 1⟩ : Ent), vn, 0⟩ := by rw [HRR.out, itemX, if_pos hgd]
          have e9 : (goodI (⟨key, 0, false, vt, cn - 1⟩ : Ent) != 0) = false := nf hgd
          have hst9 : itemsS s m a0 [] = itemsS s k vn (acc ++ [(⟨key, 0, false, vt, cn - 1⟩ : Ent)]) := by rw [HST.out, hre, if_neg (by simp)]
          have hnx9 : ∃ k : Nat, vn = (k : Int) ∧ k ≤ s.size := by have := HNX.out (by rw [hre]); rw [hre] at this; exact this
          have H9 := Lib.hid hst9
          have N9 := Lib.hid hnx9
          clear hre hgd hst9 hnx9
          go_wp2_with (at_builtin; refine wpList_push2 rfl _ _ 24 rfl Try.underlying24 infoRef rfl (by decide) rfl _ rfl ?c1 rfl rfl HO3.out ?c2 ?c3 ?c4 ?_)
          case c1 => simp [Value.oneCell']
          case c2 => exact hbA.size
          case c3 => unfold maxLen; omega
          case c4 => omega
          intro a' cap' w5 hown5 _ hb5
          have hz : w5.ownsRow w.heap.size 55 5 (.slice a' (j + 1) cap') (j + 1) (ecells (acc ++ [(⟨key, 0, false, vt, cn - 1⟩ : Ent)])) := by rw [ecells_snoc]; exact hown5
          have HZ := Lib.hid hz
          have hb6 := hbA.trans hb5
          clear hown5 hz
          go_wp2_with fail
          go_roundw
          case rel => exact ⟨j + 1, vn, acc ++ [(⟨key, 0, false, vt, cn - 1⟩ : Ent)], a', cap', by go_num, by omega, rfl, rfl, N9.out, HZ.out, by show itemsS s m a0 [] = _; rw [H9.out, show m - (j + 1) = k from by have := HK.out; omega], hb6⟩
          case measure => simp [intOf]; omega
    · obtain rfl : j = m := by omega
      have hln := (own_erow hown).2.1
      have hR2 : R = ⟨acc, a, 0⟩ := by rw [HR.out, hit.out, Nat.sub_self]; rfl
      obtain ⟨ak, rfl, hak2⟩ := hak.out
      subst hln
      have HO := Lib.hid hown
      by_cases hls : ak < s.size
      · have hXe : X = ([], 4) := by rw [HXX.out, hR2]; simp [hls]
        subst hXe
        have hd : ((ak : Int) != (s.size : Int)) = true := nt (by omega)
        clear hR2 hown hit hak
        go_wp2_with fail
        go_ret2
        exact ⟨none, 0, rfl, World.ownsRow_nil _ _ _ _, hbel⟩
      · have hXe : X = (acc, 0) := by rw [HXX.out, hR2]; simp [hls]
        subst hXe
        have hd : ((ak : Int) != (s.size : Int)) = false := nf (by omega)
        clear hR2 hown hit hak
        go_wp2_with fail
        go_ret2
        exact ⟨p, d, rfl, HO.out, hbel⟩
theorem getE_len (s : ByteArray) : (getE s).1.length ≤ 64 := by
  by_cases h : (getE s).2 = 0
  · exact (put_get h).1
  · rw [getE_nil h]; simp
theorem rbget_any (s : ByteArray) (hs : s.size ≤ 4611686018427387904) (w : World) : Calls Try.prog 28 #[.string s] w (GotR w (getE s)) := by
  unfold getE
  by_cases h1 : (cntS s 0).e = 0
  · rw [if_neg (by simp [h1])]
    have hb := cntS_bd h1
    have hsame : cntS s 0 = getS s 0 := cnt_same (fun hh => by rw [cnt_form hh.1 hh.2] at h1; simp at h1)
    by_cases h2 : 64 < (cntS s 0).n
    · rw [if_pos h2]
      have hc : getS s 0 = ⟨(cntS s 0).n, (cntS s 0).next, 0⟩ := by
        rw [← hsame]
        generalize cntS s 0 = c at h1
        obtain ⟨cn, cx, ce⟩ := c
        simp only at h1
        subst h1
        rfl
      refine (rgetB_long s hs hc h2 w).mono ?_
      rintro e w' ⟨rfl, rfl⟩
      exact ⟨none, 0, rfl, World.ownsRow_nil _ _ _ _, Below.refl _ _⟩
    · rw [if_neg h2]
      obtain ⟨m, hm⟩ := Int.eq_ofNat_of_zero_le hb.1
      have hc : getS s 0 = ⟨(m : Int), (cntS s 0).next, 0⟩ := by
        rw [← hsame]
        generalize cntS s 0 = c at h1 hm
        obtain ⟨cn, cx, ce⟩ := c
        simp only at h1 hm
        subst h1 hm
        rfl
      have hk := num_next (s := s) (a := 0) (by rw [hc])
      rw [hc] at hk
      have := rgetB_run s hs m (cntS s 0).next hc (by omega) hk w
      rw [hm, Int.toNat_natCast]
      exact this
  · rw [if_pos h1]
    refine (rgetB_bad s hs h1 w).mono ?_
    rintro e w' ⟨rfl, rfl⟩
    exact ⟨none, 0, rfl, World.ownsRow_nil _ _ _ _, Below.refl _ _⟩
end Go.Proofs.Ytdhnkalkfipmhaa.Ew
