/- The walks of bloom's Places and the reference's. -/
import Derived.Test.YtfeaacjacbljfaaFrameR
import Derived.Test.YtfeaacjacbljfaaBloomP
namespace Go.Proofs.Ytfeaacjacbljfaa.Mw
open Go.RowKit
open Mp Fp B Fw
set_option linter.unusedVariables false

theorem infoInt : (Try.prog.info? 3).map (fun i => (i.zero, i.size, i.bytes)) = some (some (.int .i64 0), 1, 8) := by kernel_rfl

/-- a list of numbers, in new memory -/
def GotP (w : World) (l : List Nat) (e : Ending) (w' : World) : Prop :=
  ∃ a cap, e = .returned (.slice a l.length cap) ∧ Row w' a l.length (fun i => .int .i64 ((l.getD i 0 : Nat) : Int)) ∧ (∀ p, a = some p → w.heap.size ≤ p.block) ∧ Below w.heap.size w w'

theorem own_fresh {w : World} {B n : Nat} {e : TypeId} {a : Option Addr} {m cap : Nat} {xs : List Value} (h : w.ownsRow B e 1 (.slice a m cap) n xs) : ∀ p, a = some p → B ≤ p.block := by
  intro p hp
  rcases h.2 with ⟨hv, h0⟩ | ⟨g, cap', cur, hv, hB, hg, hn, hm, hs, ht⟩
  · cases hv; cases hp
  · cases hv; cases hp; exact hB

theorem xkey (s : ByteArray) : ((⟨#[120]⟩ : ByteArray) ++ s).data.toList = 120 :: s.data.toList := by
  rw [show (⟨#[120]⟩ : ByteArray) = str [120] from rfl]
  conv => lhs; rw [← str_toList s]
  rw [str_append]; rfl

set_option maxHeartbeats 400000 in
theorem places_bad (s : ByteArray) (p z : Int) (h : p < 1 ∨ 8 < p ∨ z < 1 ∨ 16777216 < z) (w : World) :
    Calls Try.prog 23 #[.string s, .int .i64 p, .int .i64 z] w fun e w' => e = .returned (.slice none 0 0) ∧ w = w' := by
  have hc : (p < 1) ∨ (1 ≤ p ∧ 8 < p) ∨ (1 ≤ p ∧ p ≤ 8 ∧ z < 1) ∨ (1 ≤ p ∧ p ≤ 8 ∧ 1 ≤ z ∧ 16777216 < z) := by omega
  rcases hc with h1 | ⟨h1, h2⟩ | ⟨h1, h2, h3⟩ | ⟨h1, h2, h3, h4⟩
  · have t1 : decide (p < 1) = true := dt h1
    clear h
    go_enter Try.func23, Try.ntmps23
    go_wp2_with fail
    go_ret
    exact ⟨rfl, rfl⟩
  · have t1 : decide (p < 1) = false := df (by omega)
    have t2 : decide (8 < p) = true := dt h2
    clear h
    go_enter Try.func23, Try.ntmps23
    go_wp2_with fail
    go_ret
    exact ⟨rfl, rfl⟩
  · have t1 : decide (p < 1) = false := df (by omega)
    have t2 : decide (8 < p) = false := df (by omega)
    have t3 : decide (z < 1) = true := dt h3
    clear h
    go_enter Try.func23, Try.ntmps23
    go_wp2_with fail
    go_ret
    exact ⟨rfl, rfl⟩
  · have t1 : decide (p < 1) = false := df (by omega)
    have t2 : decide (8 < p) = false := df (by omega)
    have t3 : decide (z < 1) = false := df (by omega)
    have t4 : decide (16777216 < z) = true := dt h4
    clear h
    go_enter Try.func23, Try.ntmps23
    go_wp2_with fail
    go_ret
    exact ⟨rfl, rfl⟩

set_option maxHeartbeats 800000 in
set_option maxRecDepth 100000 in
theorem places_ok (s : ByteArray) (n z : Nat) (h1 : 1 ≤ n) (h2 : n ≤ 8) (h3 : 1 ≤ z) (h4 : z ≤ 16777216) (hs : s.size ≤ 2305843009213693952) (w : World) :
    Calls Try.prog 23 #[.string s, .int .i64 n, .int .i64 z] w (GotP w (plsN s.data.toList n z)) := by
  have hA := sum_any s (by omega)
  have hB := sum_any (⟨#[120]⟩ ++ s) (by rw [ByteArray.size_append]; have : (⟨#[120]⟩ : ByteArray).size = 1 := rfl; omega)
  rw [xkey] at hB
  have la := sum_lt s.data.toList
  have lb := sum_lt (120 :: s.data.toList)
  have hpl : plsN s.data.toList n z = (List.range n).map fun i => (sum s.data.toList + i * sum (120 :: s.data.toList)) % z := rfl
  rw [hpl]
  generalize sum s.data.toList = a at hA la hpl ⊢
  generalize sum (120 :: s.data.toList) = b at hB lb hpl ⊢
  have HA := Lib.hid hA
  have HB := Lib.hid hB
  clear hA hB hpl
  have t1 : decide (n < 1) = false := df (by omega)
  have t2 : decide (8 < n) = false := df (by omega)
  have t3 : decide (z < 1) = false := df (by omega)
  have t4 : decide (16777216 < z) = false := df (by omega)
  go_enter Try.func23, Try.ntmps23
  go_wp2_with fail
  refine (HA.out _).mono ?_
  rintro e w1 ⟨rfl, rfl⟩
  go_wp2_with fail
  refine (HB.out _).mono ?_
  rintro e w1 ⟨rfl, rfl⟩
  go_wp2_with fail
  go_loopw [9, 34] (fun v x wr => ∃ k : Nat, x = .int .u64 k ∧ k ≤ n ∧ wr.ownsRow w.heap.size 3 1 v k ((List.range k).map fun i => Value.int .i64 (((a + i * b) % z : Nat) : Int)) ∧ Below w.heap.size w wr) (fun _ x _ => n - (intOf x).toNat)
  case atStart => exact ⟨0, rfl, by omega, World.ownsRow_nil _ _ _ _, Below.refl _ _⟩
  case round =>
    obtain ⟨k, rfl, hk, hown, hbel⟩ := hrel
    by_cases hlt : k < n
    · obtain ⟨kb, hkb⟩ : ∃ kb, kb = k * b := ⟨_, rfl⟩
      have hkl : kb ≤ 8 * 4294967295 := by rw [hkb]; exact Nat.mul_le_mul (by omega) (by omega)
      have hmul : (k : Int) * (b : Int) = (kb : Int) := by rw [hkb, Int.natCast_mul]
      obtain ⟨r, hr⟩ : ∃ r, r = (a + kb) % z := ⟨_, rfl⟩
      have hv : ((a : Int) + (kb : Int)) % (z : Int) = (r : Int) := by rw [hr, ← Int.natCast_add, Int.natCast_emod]
      have hml : r < z := hr ▸ Nat.mod_lt _ (by omega)
      rw [hkb] at hr
      have HKB := Lib.hid hr
      clear hkb hr
      go_wp2_with (at_builtin; refine wpList_push rfl _ _ 41 rfl Try.underlying41 infoInt rfl (by decide) rfl _ rfl ?c1 rfl hown ?c2 ?c3 ?c4 ?_)
      case c1 => rfl
      case c2 => exact hbel.size
      case c3 => unfold maxLen; omega
      case c4 => omega
      intro a' cap w2 hown2 _ hb2
      have hb3 := hbel.trans hb2
      go_wp2_with fail
      go_roundw
      case rel => exact ⟨k + 1, by go_num, by omega, by rw [List.range_succ, List.map_append, List.map_cons, List.map_nil, ← HKB.out]; exact hown2, hb3⟩
      case measure => simp [intOf]; omega
    · have hkn : k = n := by omega
      subst hkn
      obtain ⟨oa, oc, rfl, _⟩ := own_form hown
      go_wp2_with fail
      go_ret
      refine ⟨oa, oc, by simp only [List.length_map, List.length_range]; rfl, ?_, own_fresh hown, hbel⟩
      have hr := (own_row hown).2
      simp only [List.length_map, List.length_range]
      refine hr.congr fun i hi => ?_
      simp [List.getD_eq_getElem?_getD, List.getElem?_range hi]

theorem places_any (s : ByteArray) (p z : Int) (hs : s.size ≤ 2305843009213693952) (w : World) :
    Calls Try.prog 23 #[.string s, .int .i64 p, .int .i64 z] w (GotP w (pls s.data.toList p z)) := by
  by_cases h : p < 1 ∨ 8 < p ∨ z < 1 ∨ 16777216 < z
  · refine (places_bad s p z h w).mono ?_
    rintro e w' ⟨rfl, rfl⟩
    rw [pls_bad h]
    exact ⟨none, 0, rfl, .inl rfl, (fun p hp => by cases hp), Below.refl _ _⟩
  · obtain ⟨n, rfl⟩ := Int.eq_ofNat_of_zero_le (show 0 ≤ p by omega)
    obtain ⟨m, rfl⟩ := Int.eq_ofNat_of_zero_le (show 0 ≤ z by omega)
    rw [pls_ok (by omega) (by omega) (by omega) (by omega)]
    exact places_ok s n m (by omega) (by omega) (by omega) (by omega) hs w

set_option maxHeartbeats 400000 in
theorem rplaces_bad (s : ByteArray) (p z : Int) (h : p < 1 ∨ 8 < p ∨ z < 1 ∨ 16777216 < z) (w : World) :
    Calls Try.prog 24 #[.string s, .int .i64 p, .int .i64 z] w fun e w' => e = .returned (.slice none 0 0) ∧ w = w' := by
  have hc : (p < 1) ∨ (1 ≤ p ∧ 8 < p) ∨ (1 ≤ p ∧ p ≤ 8 ∧ z < 1) ∨ (1 ≤ p ∧ p ≤ 8 ∧ 1 ≤ z ∧ 16777216 < z) := by omega
  rcases hc with h1 | ⟨h1, h2⟩ | ⟨h1, h2, h3⟩ | ⟨h1, h2, h3, h4⟩
  · have t1 : decide (p < 1) = true := dt h1
    clear h
    go_enter Try.func24, Try.ntmps24
    go_wp2_with fail
    go_ret
    exact ⟨rfl, rfl⟩
  · have t1 : decide (p < 1) = false := df (by omega)
    have t2 : decide (8 < p) = true := dt h2
    clear h
    go_enter Try.func24, Try.ntmps24
    go_wp2_with fail
    go_ret
    exact ⟨rfl, rfl⟩
  · have t1 : decide (p < 1) = false := df (by omega)
    have t2 : decide (8 < p) = false := df (by omega)
    have t3 : decide (z < 1) = true := dt h3
    clear h
    go_enter Try.func24, Try.ntmps24
    go_wp2_with fail
    go_ret
    exact ⟨rfl, rfl⟩
  · have t1 : decide (p < 1) = false := df (by omega)
    have t2 : decide (8 < p) = false := df (by omega)
    have t3 : decide (z < 1) = false := df (by omega)
    have t4 : decide (16777216 < z) = true := dt h4
    clear h
    go_enter Try.func24, Try.ntmps24
    go_wp2_with fail
    go_ret
    exact ⟨rfl, rfl⟩

set_option maxHeartbeats 800000 in
set_option maxRecDepth 100000 in
theorem rplaces_ok (s : ByteArray) (n z : Nat) (h1 : 1 ≤ n) (h2 : n ≤ 8) (h3 : 1 ≤ z) (h4 : z ≤ 16777216) (hs : s.size ≤ 2305843009213693952) (w : World) :
    Calls Try.prog 24 #[.string s, .int .i64 n, .int .i64 z] w (GotP w (plsN s.data.toList n z)) := by
  have hA := rsum_any s (by omega)
  have hB := rsum_any (⟨#[120]⟩ ++ s) (by rw [ByteArray.size_append]; have : (⟨#[120]⟩ : ByteArray).size = 1 := rfl; omega)
  rw [xkey] at hB
  have la := sum_lt s.data.toList
  have lb := sum_lt (120 :: s.data.toList)
  have hpl : plsN s.data.toList n z = (List.range n).map fun i => (sum s.data.toList + i * sum (120 :: s.data.toList)) % z := rfl
  rw [hpl]
  generalize sum s.data.toList = a at hA la hpl ⊢
  generalize sum (120 :: s.data.toList) = b at hB lb hpl ⊢
  have HA := Lib.hid hA
  have HB := Lib.hid hB
  clear hA hB hpl
  have t1 : decide (n < 1) = false := df (by omega)
  have t2 : decide (8 < n) = false := df (by omega)
  have t3 : decide (z < 1) = false := df (by omega)
  have t4 : decide (16777216 < z) = false := df (by omega)
  go_enter Try.func24, Try.ntmps24
  go_wp2_with fail
  refine (HA.out _).mono ?_
  rintro e w1 ⟨rfl, rfl⟩
  go_wp2_with fail
  refine (HB.out _).mono ?_
  rintro e w1 ⟨rfl, rfl⟩
  go_wp2_with fail
  go_loopw [9, 10, 11] (fun v y x wr => ∃ k u : Nat, x = .int .i64 k ∧ k ≤ n ∧ y = .int .i64 u ∧ Hid (u = a + k * b) ∧ u ≤ 9 * 4294967295 ∧ wr.ownsRow w.heap.size 3 1 v k ((List.range k).map fun i => Value.int .i64 (((a + i * b) % z : Nat) : Int)) ∧ Below w.heap.size w wr) (fun _ _ x _ => n - (intOf x).toNat)
  case atStart => exact ⟨0, a, rfl, by omega, rfl, by show a = a + 0 * b; omega, by omega, World.ownsRow_nil _ _ _ _, Below.refl _ _⟩
  case round =>
    obtain ⟨k, u, rfl, hk, rfl, hu, hul, hown, hbel⟩ := hrel
    by_cases hlt : k < n
    · have hkl : k * b ≤ 7 * 4294967295 := Nat.mul_le_mul (by omega) (by omega)
      have hu2 : u ≤ 8 * 4294967295 := by rw [hu.out]; omega
      obtain ⟨r, hr⟩ : ∃ r, r = u % z := ⟨_, rfl⟩
      have hv : (u : Int) % (z : Int) = (r : Int) := by rw [hr, Int.natCast_emod]
      have hml : r < z := hr ▸ Nat.mod_lt _ (by omega)
      rw [hu.out] at hr
      have HKB := Lib.hid hr
      clear hkl hr
      go_wp2_with (at_builtin; refine wpList_push rfl _ _ 41 rfl Try.underlying41 infoInt rfl (by decide) rfl _ rfl ?c1 rfl hown ?c2 ?c3 ?c4 ?_)
      case c1 => rfl
      case c2 => exact hbel.size
      case c3 => unfold maxLen; omega
      case c4 => omega
      intro a' cap w2 hown2 _ hb2
      have hb3 := hbel.trans hb2
      go_wp2_with fail
      go_roundw
      case rel => exact ⟨k + 1, u + b, by go_num, by omega, by go_num, by show u + b = a + (k + 1) * b; rw [hu.out, Nat.add_mul]; omega, by omega, by rw [List.range_succ, List.map_append, List.map_cons, List.map_nil, ← HKB.out]; exact hown2, hb3⟩
      case measure => simp [intOf]; omega
    · have hkn : k = n := by omega
      subst hkn
      obtain ⟨oa, oc, rfl, _⟩ := own_form hown
      go_wp2_with fail
      go_ret
      refine ⟨oa, oc, by simp only [List.length_map, List.length_range]; rfl, ?_, own_fresh hown, hbel⟩
      have hr := (own_row hown).2
      simp only [List.length_map, List.length_range]
      refine hr.congr fun i hi => ?_
      simp [List.getD_eq_getElem?_getD, List.getElem?_range hi]

theorem rplaces_any (s : ByteArray) (p z : Int) (hs : s.size ≤ 2305843009213693952) (w : World) :
    Calls Try.prog 24 #[.string s, .int .i64 p, .int .i64 z] w (GotP w (pls s.data.toList p z)) := by
  by_cases h : p < 1 ∨ 8 < p ∨ z < 1 ∨ 16777216 < z
  · refine (rplaces_bad s p z h w).mono ?_
    rintro e w' ⟨rfl, rfl⟩
    rw [pls_bad h]
    exact ⟨none, 0, rfl, .inl rfl, (fun p hp => by cases hp), Below.refl _ _⟩
  · obtain ⟨n, rfl⟩ := Int.eq_ofNat_of_zero_le (show 0 ≤ p by omega)
    obtain ⟨m, rfl⟩ := Int.eq_ofNat_of_zero_le (show 0 ≤ z by omega)
    rw [pls_ok (by omega) (by omega) (by omega) (by omega)]
    exact rplaces_ok s n m (by omega) (by omega) (by omega) (by omega) hs w

end Go.Proofs.Ytfeaacjacbljfaa.Mw
