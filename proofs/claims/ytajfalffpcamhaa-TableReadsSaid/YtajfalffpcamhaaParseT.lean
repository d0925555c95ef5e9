/- The walk of the reference's Parse. -/
import Derived.Test.YtajfalffpcamhaaParseR
import Derived.Test.YtajfalffpcamhaaParseE
import Derived.Test.YtajfalffpcamhaaBlockN
import Derived.Test.YtajfalffpcamhaaGb
namespace Go.Proofs.Ytajfalffpcamhaa.Ew
open Go.RowKit
open En B Vp Vw
set_option linter.unusedVariables false

def GotR (w : World) (r : List Ent × Int) (e : Ending) (w' : World) : Prop :=
  ∃ a c, e = .returned (.tuple #[.slice a r.1.length c, .int .i64 r.2]) ∧ w'.ownsRow w.heap.size 56 5 (.slice a r.1.length c) r.1.length (ecells r.1) ∧ Below w.heap.size w w'

set_option maxHeartbeats 400000 in
theorem rparse_bad (s : ByteArray) (hs : s.size ≤ 4611686018427387904) (h : (cntB s 0 4096 5).e ≠ 0) (w : World) :
    Calls Try.prog 57 #[.string s] w fun e w' => e = .returned (.tuple #[.slice none 0 0, .int .i64 (cntB s 0 4096 5).e]) ∧ w = w' := by
  have HG := Lib.hid (fun W : World => rget_any s 0 hs W)
  by_cases h1 : (getS s 0).e = 0
  case neg =>
    rw [cntB_bad h1]
    generalize getS s 0 = g at HG h1
    obtain ⟨gn, gx, ge⟩ := g
    simp only [ret3] at HG h1 ⊢
    have e1 : (ge != 0) = true := nt h1
    clear h h1
    go_enter Try.func57, Try.ntmps57
    go_wp2_with fail
    refine (HG.out _).mono ?_
    rintro e w1 ⟨rfl, rfl⟩
    go_wp2_with fail
    go_ret2
    exact ⟨rfl, rfl⟩
  case pos =>
  by_cases h2 : (getS s 0).n < 0
  case pos =>
    rw [cntB_form h1 h2]
    generalize getS s 0 = g at HG h1 h2
    obtain ⟨gn, gx, ge⟩ := g
    simp only [ret3] at HG h1 h2 ⊢
    subst h1
    clear h
    go_enter Try.func57, Try.ntmps57
    go_wp2_with fail
    refine (HG.out _).mono ?_
    rintro e w1 ⟨rfl, rfl⟩
    go_wp2_with fail
    go_ret2
    exact ⟨rfl, rfl⟩
  case neg =>
  by_cases h3 : 4096 < (getS s 0).n
  case pos =>
    rw [cntB_most h1 h2 h3 (by decide)]
    generalize getS s 0 = g at HG h1 h2 h3
    obtain ⟨gn, gx, ge⟩ := g
    simp only [ret3] at HG h1 h2 h3 ⊢
    subst h1
    have e2 : decide (gn < 0) = false := df h2
    clear h
    go_enter Try.func57, Try.ntmps57
    go_wp2_with fail
    refine (HG.out _).mono ?_
    rintro e w1 ⟨rfl, rfl⟩
    go_wp2_with fail
    go_ret2
    exact ⟨rfl, rfl⟩
  case neg =>
    rw [cntB_same h1 h2 (fun hh => h3 hh.1)] at h
    exact absurd h1 h

set_option maxHeartbeats 1600000 in
set_option maxRecDepth 100000 in
theorem rparse_run (s : ByteArray) (hs : s.size ≤ 4611686018427387904) (m : Nat) (a0 : Int) (hc : getS s 0 = ⟨m, a0, 0⟩) (hm : m ≤ 4096) (w : World) :
    Calls Try.prog 57 #[.string s] w (GotR w (if (onesE s m a0 []).e ≠ 0 then ([], (onesE s m a0 []).e) else if (onesE s m a0 []).next < s.size then ([], 4) else ((onesE s m a0 []).l, 0))) := by
  obtain ⟨R, hR⟩ : ∃ R, R = onesE s m a0 [] := ⟨_, rfl⟩
  rw [← hR]
  obtain ⟨X, hXX⟩ : ∃ X, X = (if R.e ≠ 0 then (([], R.e) : List Ent × Int) else if R.next < s.size then ([], 4) else (R.l, 0)) := ⟨_, rfl⟩
  rw [← hXX]
  have HXX := Lib.hid hXX
  have HR := Lib.hid hR
  have HG := Lib.hid (fun W : World => rget_any s 0 hs W)
  rw [hc] at HG
  simp only [ret3] at HG
  clear hXX hc hR
  go_enter Try.func57, Try.ntmps57
  go_wp2_with fail
  refine (HG.out _).mono ?_
  rintro e w1 ⟨rfl, rfl⟩
  go_wp2_with fail
  go_loopw [5, 7, 8, 9] (fun at_ v sl i wr => ∃ (j : Nat) (a : Int) (acc : List Ent) (p : Option Addr) (d : Nat), i = .int .i64 j ∧ j ≤ m ∧ at_ = .int .i64 a ∧ v = .slice p j d ∧ sl = .string (lastE acc).key ∧ (lastE acc).key.size ≤ 64 ∧
    wr.ownsRow w.heap.size 56 5 (.slice p j d) j (ecells acc) ∧ Hid (onesE s m a0 [] = onesE s (m - j) a acc) ∧ Below w.heap.size w wr) (fun _ _ _ i _ => m - (intOf i).toNat)
  case atStart => exact ⟨0, a0, [], none, 0, rfl, by omega, rfl, rfl, rfl, by decide, World.ownsRow_nil _ _ _ _, rfl, Below.refl _ _⟩
  case round =>
    obtain ⟨j, a, acc, p, d, rfl, hj, rfl, rfl, rfl, hk64, hown, hit, hbel⟩ := hrel
    by_cases hlt : j < m
    · obtain ⟨k, hk⟩ : ∃ k, m - j = k + 1 := ⟨m - j - 1, by omega⟩
      have hst := hit.out
      rw [hk] at hst
      obtain ⟨r, hr⟩ : ∃ r, r = oneE s a (lastE acc).key := ⟨_, rfl⟩
      simp only [onesE] at hst
      rw [← hr] at hst
      have HST := Lib.hid hst
      have HK := Lib.hid hk
      have HO := Lib.hid hown
      have HII := Lib.hid (one_any s hs a (lastE acc).key (by omega) wr)
      rw [← hr] at HII
      unfold OneR at HII
      have hln := (own_erow HO.out).2.1
      have hcp := cap_own HO.out
      obtain ⟨⟨k1, q1, g1, v1, u1⟩, rx, re⟩ := r
      simp only [Ent.v] at HST HII
      have HN := Lib.hid (fun (W : World) hr => rnext_any p j d acc hln.symm hcp.1 hcp.2 k1 q1 g1 v1 u1 W hr)
      clear hst hk hr hown hit hln
      generalize (lastE acc).key = lk at HII
      go_wp2_with fail
      refine HII.out.mono ?_
      rintro e w2 ⟨rfl, hb2⟩
      have hO2 := own_below HO.out hb2
      have hB2 := chain hbel hb2
      clear hb2
      by_cases h1 : re = 0
      case neg =>
        have e1 : (re != 0) = true := nt h1
        have hR2 : R = ⟨[], 0, re⟩ := by rw [HR.out, HST.out, if_pos h1]
        have hXe := Lib.hid (show X = ([], re) by rw [HXX.out, hR2, if_pos h1])
        clear hR2 h1 hO2
        go_wp2_with fail
        go_ret2
        rw [hXe.out]
        exact ⟨none, 0, rfl, World.ownsRow_nil _ _ _ _, below_alloc hB2 _⟩
      case pos =>
      subst h1
      rw [if_neg (by simp)] at HST
      go_wp2_with fail
      have hlg := hB2.size
      have hng := own_new hO2 (Nat.le_refl _)
      generalize hW : World.alloc w2 _ = W3
      have hE0 : W3.heap[w2.heap.size]? = some (.cells #[.string k1, .int .i64 q1, .bool g1, .string v1, .int .i64 u1] 56 (0, 0)) := by rw [← hW]; exact blk_new rfl
      have hO3 : W3.ownsRow w.heap.size 56 5 (.slice p j d) j (ecells acc) := by rw [← hW]; exact hO2.alloc _
      have hB3 : Below w.heap.size w W3 := by rw [← hW]; exact below_alloc hB2 _
      generalize w2.heap.size = g at hlg hng hE0 ⊢
      clear hW hO2 hB2 w2
      refine (HN.out _ (own_erow hO3).2.2).mono ?_
      rintro e w4 ⟨rfl, hb4⟩
      have E4 := Lib.hid (show w4.heap[g]? = some (.cells #[.string k1, .int .i64 q1, .bool g1, .string v1, .int .i64 u1] 56 (0, 0)) from (hb4.block g (lt_of_block hE0)).trans hE0)
      have HO4 := Lib.hid (own_below hO3 hb4)
      have hB4 := chain hB3 hb4
      obtain ⟨c0, c1, c2, c3, c4⟩ := cells5 E4.out
      clear hE0 hO3 hB3 hb4 W3
      obtain ⟨z, hz⟩ : ∃ z, z = nextE acc ⟨k1, q1, g1, v1, u1⟩ := ⟨_, rfl⟩
      rw [← hz] at HST ⊢
      have HZ := Lib.hid hz
      clear hz
      by_cases h2 : z = 0
      case neg =>
        have e1 : (z != 0) = true := nt h2
        have hR2 : R = ⟨[], 0, z⟩ := by rw [HR.out, HST.out, if_pos h2]
        have hXe := Lib.hid (show X = ([], z) by rw [HXX.out, hR2, if_pos h2])
        clear hR2 h2
        go_wp2_with fail
        go_ret2
        rw [hXe.out]
        exact ⟨none, 0, rfl, World.ownsRow_nil _ _ _ _, hB4⟩
      case pos =>
      subst h2
      rw [if_neg (by simp)] at HST
      have hky : k1.size ≤ 64 := (goodE_sz (nextE_0 HZ.out.symm).1).1
      have hlg4 := lt_of_block E4.out
      go_wp2_with (at_builtin; refine wpList_push2 rfl _ _ 24 rfl Try.underlying24 infoRef rfl (by decide) rfl _ rfl ?c1 rfl rfl HO4.out ?c2 ?c3 ?c4 ?_)
      case c1 => simp [Value.oneCell']
      case c2 => exact hB4.size
      case c3 => unfold maxLen; omega
      case c4 => omega
      intro a' cap' w5 hown5 hgr hb5
      have hc5 := (cells5 (blk_grown hgr E4.out hng)).1
      have hz : w5.ownsRow w.heap.size 56 5 (.slice a' (j + 1) cap') (j + 1) (ecells (acc ++ [(⟨k1, q1, g1, v1, u1⟩ : Ent)])) := by rw [ecells_snoc]; exact hown5
      have HZ := Lib.hid hz
      have hb6 := hB4.trans hb5
      clear hown5 hz hgr
      go_wp2_with fail
      go_roundw
      case rel => exact ⟨j + 1, rx, acc ++ [⟨k1, q1, g1, v1, u1⟩], a', cap', by go_num, by omega, rfl, rfl, by rw [lastE_snoc], by rw [lastE_snoc]; exact hky, HZ.out, by show onesE s m a0 [] = _; rw [HST.out, show m - (j + 1) = k from by have := HK.out; omega], hb6⟩
      case measure => simp [intOf]; omega
    · obtain rfl : j = m := by omega
      have hln := (own_erow hown).2.1
      have hR2 : R = ⟨acc, a, 0⟩ := by rw [HR.out, hit.out, Nat.sub_self]; rfl
      subst hln
      have HO := Lib.hid hown
      by_cases hls : a < s.size
      · have hXe : X = ([], 4) := by rw [HXX.out, hR2]; simp [hls]
        subst hXe
        have hd : decide (a < (s.size : Int)) = true := dt hls
        clear hR2 hown hit
        go_wp2_with fail
        go_ret2
        exact ⟨none, 0, rfl, World.ownsRow_nil _ _ _ _, hbel⟩
      · have hXe : X = (acc, 0) := by rw [HXX.out, hR2]; simp [hls]
        subst hXe
        have hd : decide (a < (s.size : Int)) = false := df hls
        clear hR2 hown hit
        go_wp2_with fail
        go_ret2
        exact ⟨p, d, rfl, HO.out, hbel⟩
theorem rparse_any (s : ByteArray) (hs : s.size ≤ 4611686018427387904) (w : World) : Calls Try.prog 57 #[.string s] w (GotR w (parseE s)) := by
  unfold parseE
  by_cases h1 : (cntB s 0 4096 5).e = 0
  · rw [if_neg (by simp [h1])]
    have hb := cntB_bd h1
    obtain ⟨m, hm⟩ := Int.eq_ofNat_of_zero_le hb.1
    have h2 := hb.2.2 (by decide)
    have hsame : cntB s 0 4096 5 = getS s 0 := by
      by_cases g1 : (getS s 0).e = 0
      case neg => rw [cntB_bad g1] at h1; exact absurd h1 g1
      case pos =>
        by_cases g2 : (getS s 0).n < 0
        · rw [cntB_form g1 g2] at h1; simp at h1
        · by_cases g3 : 4096 < (getS s 0).n
          · rw [cntB_most g1 g2 g3 (by decide)] at h1; simp at h1
          · exact cntB_same g1 g2 (fun hh => g3 hh.1)
    have hc : getS s 0 = ⟨(m : Int), (cntB s 0 4096 5).next, 0⟩ := by
      rw [← hsame]
      generalize cntB s 0 4096 5 = c at h1 hm
      obtain ⟨cn, cx, ce⟩ := c
      simp only at h1 hm
      subst h1 hm
      rfl
    have := rparse_run s hs m (cntB s 0 4096 5).next hc (by omega) w
    rw [hm, Int.toNat_natCast]
    exact this
  · rw [if_pos h1]
    refine (rparse_bad s hs h1 w).mono ?_
    rintro e w' ⟨rfl, rfl⟩
    exact ⟨none, 0, rfl, World.ownsRow_nil _ _ _ _, Below.refl _ _⟩
end Go.Proofs.Ytajfalffpcamhaa.Ew
