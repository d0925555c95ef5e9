/- The walks of layer 13's ordered, same, alike. -/
import Derived.Test.YtmgdcebbeglcmaaMrgRM
import Derived.Test.YtmgdcebbeglcmaaPush
namespace Go.Proofs.Ytmgdcebbeglcmaa.Ew
open Go.RowKit
open En B
set_option linter.unusedVariables false

theorem row_ne {w : World} {g : Nat} {cs : Array Value} {t e : TypeId} {fr : Nat × Nat} {B n size : Nat} {v : Value} {xs : List Value} (hg : w.heap[g]? = some (.cells cs t fr)) (h : w.ownsRow B e size v n xs) (hne : t ≠ e) : v.ownBlock ≠ some g := by
  rcases h.2 with ⟨rfl, _⟩ | ⟨g', cap, cur, rfl, _, hb, _⟩
  · simp [Value.ownBlock]
  · intro hh
    simp only [Value.ownBlock, Option.some.injEq] at hh
    subst hh
    rw [hg] at hb
    simp only [Option.some.injEq, Obj.cells.injEq] at hb
    exact hne hb.2.1
theorem Cell1.alloc {w : World} {g : Nat} {t : TypeId} {v : Value} (h : Cell1 w g t v) (o : Obj) : Cell1 (w.alloc o) g t v := blk_alloc h
theorem own_farB {w : World} {B n size : Nat} {e : TypeId} {v : Value} {xs : List Value} (h : w.ownsRow B e size v n xs) {p : Addr} (hp : v.ownBlock ≠ some p.block) (u : Value) : (w.setCell p u).ownsRow B e size v n xs := by
  refine ⟨h.1, ?_⟩
  rcases h.2 with hv | ⟨g', cap', cur, hv, hB, hb, hr⟩
  · exact .inl hv
  · refine .inr ⟨g', cap', cur, hv, hB, ?_, hr⟩
    rw [hv] at hp
    exact (Below.heap_setCell w p u g' (fun e => hp (by rw [← e]; rfl))).trans hb

/-- two slices of entries of the call's own, the same entries, are handed back -/
def Pair (B : Nat) (R : List Ent) (w : World) (e : Ending) (w' : World) : Prop := ∃ p d p2 d2, e = .returned (.tuple #[.slice p R.length d, .slice p2 R.length d2]) ∧
  w'.ownsRow B 37 5 (.slice p R.length d) R.length (ecells R) ∧ w'.ownsRow B 39 5 (.slice p2 R.length d2) R.length (ecells R) ∧ Below B w w'

set_option maxHeartbeats 3200000 in
set_option maxRecDepth 100000 in
theorem ordered_any (a : Option Addr) (n cap : Nat) (L : List Ent) (hl : L.length = n) (hnc : n ≤ cap) (hn : n * 56 ≤ 140737488351232) (w : World) (hr : ERow w a n (fun i => L.getD i ent0)) :
    Calls Try.prog 9 #[.slice a n cap] w (Pair w.heap.size (mpAll [] (L.take 100)) w) := by
  have HL := Lib.hid hl
  have HR := Lib.hid hr
  clear hl hr
  go_enter Try.func9, Try.ntmps9
  go_upto_region 2 with fail
  go_cut [15, 16, 17] (fun s15 s16 s17 wx => ∃ kk : Nat, s15 = .slice a kk cap ∧ s16 = .int .i64 kk ∧ s17 = .int .i64 0 ∧ kk ≤ 100 ∧ kk ≤ n ∧ Hid (L.take 100 = L.take kk) ∧ wx = w.alloc (.cells #[.slice none 0 0] 32))
  case first =>
    go_wp2_with fail
    · go_meet
      exact ⟨100, rfl, rfl, rfl, by omega, by omega, Lib.hid rfl, rfl⟩
    · go_meet
      exact ⟨n, rfl, rfl, rfl, by omega, by omega, Lib.hid (show L.take 100 = L.take n by rw [List.take_of_length_le (by rw [HL.out]; omega), List.take_of_length_le (by rw [HL.out]; omega)]), rfl⟩
  case rest =>
  obtain ⟨kk, rfl, rfl, rfl, hk100, hkn, htk, rfl⟩ := hcut
  have hc1 : Cell1 (w.alloc (.cells #[.slice none 0 0] 32)) w.heap.size 32 (.slice none 0 0) := heap_alloc_new _ _
  have hb1 := below_alloc (Below.refl w.heap.size w) (.cells #[.slice none 0 0] 32)
  generalize w.alloc (.cells #[.slice none 0 0] 32) = w1 at *
  go_wp2_with fail
  go_loopw [17] (fun si wr => ∃ (j : Nat) (p : Option Addr) (d : Nat), si = .int .i64 j ∧ j ≤ kk ∧ Hid (Cell1 wr w.heap.size 32 (.slice p j d)) ∧ Hid (wr.ownsRow w.heap.size 39 5 (.slice p j d) j (ecells (L.take j))) ∧ Below w.heap.size w wr) (fun si _ => kk - (intOf si).toNat)
  case atStart => exact ⟨0, none, 0, rfl, by omega, hc1, World.ownsRow_nil _ _ _ _, hb1⟩
  case round =>
    clear hc1 hb1
    clear w1
    obtain ⟨j, p, d, rfl, hj, hc1, hown, hbel⟩ := hrel
    have l0 := hc1.out.cell
    by_cases hlt : j < kk
    · obtain ⟨ab, off, rfl, hab, hac⟩ := (HR.out.below hbel).at (by omega)
      have hd := hac j (by omega)
      have HTK := Lib.hid (take_snoc L j ent0 (by rw [HL.out]; omega))
      generalize L.getD j ent0 = x at hd HTK
      obtain ⟨k0, q0, g0, v0, u0⟩ := x
      simp only at hd
      obtain ⟨d0, d1, d2, d3, d4⟩ := hd
      have i1 : (0 : Int) ≤ (j : Int) := by omega
      have i2 : (j : Int) < (kk : Int) := by omega
      have hbx := below_alloc (Below.refl wr.heap.size wr) (.cells #[.string k0, .int .i64 q0, .bool g0, .string v0, .int .i64 u0] 54)
      have hoa := Lib.hid (hown.out.alloc (.cells #[.string k0, .int .i64 q0, .bool g0, .string v0, .int .i64 u0] 54))
      have hca := Lib.hid (Cell1.alloc hc1.out (.cells #[.string k0, .int .i64 q0, .bool g0, .string v0, .int .i64 u0] 54))
      have hba := Lib.hid (chain hbel hbx)
      have hsz := hba.out.size
      have l1 := hca.out.cell
      have hne := lt_of_block hc1.out
      clear hac hab hbx l0
      go_wp2_with (at_builtin; refine wpList_push2 rfl _ _ 24 rfl Try.underlying24 infoR06 rfl (by decide) rfl _ rfl ?c1 rfl ?c0 hoa.out ?c2 ?c3 ?c4 ?_)
      case c0 => simp
      case c1 => simp [Value.oneCell']
      case c2 => exact hsz
      case c3 => unfold maxLen; omega
      case c4 => omega
      intro a5 cap5 w5 hown5 hg5 hb5
      have HW5 : Hid (w5.ownsRow w.heap.size 39 5 (.slice a5 (j + 1) cap5) (j + 1) (ecells (L.take (j + 1)))) := by rw [HTK.out, ecells_snoc]; exact hown5
      have hb6 := Lib.hid (hba.out.trans hb5)
      have hc5 : Cell1 w5 w.heap.size 32 (.slice p j d) := blk_grown hg5 hca.out (row_ne hca.out hoa.out (by decide))
      have HC5 := Lib.hid hc5
      have f0 := hc5.fz
      have s0 := hc5.cell
      clear hown5 hb5 hg5 hown hbel hc1 l1 d0 d1 d2 d3 d4 hc5 hca hoa
      go_wp2_with fail
      go_roundw
      case rel => exact ⟨j + 1, a5, cap5, by go_num, by omega, HC5.out.set _, own_farB HW5.out (p := ⟨w.heap.size, 0, none⟩) (row_ne (g := w.heap.size) HC5.out HW5.out (by decide)) _, hb6.out.setCell (p := ⟨w.heap.size, 0, none⟩) (Nat.le_refl _) _⟩
      case measure => simp [intOf]; omega
    · obtain rfl : j = kk := by omega
      have hR : ∃ R, R = mpAll [] (L.take 100) := ⟨_, rfl⟩
      obtain ⟨R, hR⟩ := hR
      have HRR := Lib.hid hR
      have hRl : R.length ≤ 100 := by
        have := mpAll_len (L.take 100) []
        rw [← hR, List.length_take] at this
        simp at this; omega
      have HOW := hown.out
      have HEJ := Lib.hid (own_erow HOW).2.2
      have hRm := Lib.hid (fun W (h : LsRow W (some ⟨wr.heap.size, 0, none⟩) 1 (fun _ => (p, j, d)) [L.take j]) => rmerge_any (some ⟨wr.heap.size, 0, none⟩) 1 1 (fun _ => (p, j, d)) [L.take j] W h (by omega) (by simp only [List.flatten_cons, List.flatten_nil, List.append_nil, List.length_take]; omega))
      have hfj : mpAll [] [L.take j].flatten = R := by rw [hR, htk.out]; simp
      rw [hfj] at hRm
      have hls : LsRow (wr.alloc (.cells #[.slice p j d] 32)) (some ⟨wr.heap.size, 0, none⟩) 1 (fun _ => (p, j, d)) [L.take j] := by
        refine ⟨rfl, .inr ⟨wr.heap.size, 0, rfl, by simp, fun i hi => ?_⟩, fun i hi => ?_⟩
        · obtain rfl : i = 0 := by omega
          exact World.cell?_alloc_at _ _ _ _ rfl
        · obtain rfl : i = 0 := by omega
          refine ⟨by simp only [List.getD_cons_zero, List.length_take, HL.out]; omega, ?_, ?_⟩
          · obtain ⟨_, _, hv, h2⟩ := own_form HOW; cases hv; exact h2
          · simp only [List.getD_cons_zero]
            exact HEJ.out.below ((Below.refl _ _).alloc (Nat.le_refl _) _)
      have hbx := chain hbel ((Below.refl wr.heap.size wr).alloc (Nat.le_refl _) (.cells #[.slice p j d] 32))
      have HBX := Lib.hid hbx
      have HLS := Lib.hid hls
      clear hR hfj hls hbx HOW
      go_wp2_with fail
      refine (hRm.out _ HLS.out).mono ?_
      rintro e w2 ⟨p2, d2, rfl, hown2, hb2⟩
      have hbz := Lib.hid (chain HBX.out hb2)
      have HO2 := Lib.hid (own_lower hown2 HBX.out.size)
      have HER2 := Lib.hid (own_erow hown2).2.2
      have hpost := Lib.hid (show mpAll [] (L.take 100) = R from HRR.out.symm)
      obtain ⟨m, hm⟩ : ∃ m, m = R.length := ⟨_, rfl⟩
      have HM := Lib.hid hm
      rw [← hm] at HO2 HER2 hRl ⊢
      clear hown2 hb2 hm hbel hown hc1 HEJ HLS HBX l0 hRm HRR
      go_wp2_with fail
      go_loopw [8, 33] (fun so si wt => ∃ (t : Nat) (p3 : Option Addr) (d3 : Nat), si = .int .i64 t ∧ t ≤ m ∧ so = .slice p3 t d3 ∧ Hid (wt.ownsRow w2.heap.size 37 5 (.slice p3 t d3) t (ecells (R.take t))) ∧ Below w2.heap.size w2 wt) (fun _ si _ => m - (intOf si).toNat)
      case atStart => exact ⟨0, none, 0, rfl, by omega, rfl, World.ownsRow_nil _ _ _ _, Below.refl _ _⟩
      case round =>
        obtain ⟨t, p3, d3, rfl, ht, rfl, hown, hbel⟩ := hrel
        by_cases hlt : t < m
        · obtain ⟨ab, off, rfl, hab, hac⟩ := (HER2.out.below hbel).at (by omega)
          have hd := hac t (by omega)
          have HTK := Lib.hid (take_snoc R t ent0 (by rw [← HM.out]; omega))
          generalize R.getD t ent0 = x at hd HTK
          obtain ⟨k0, q0, g0, v0, u0⟩ := x
          simp only at hd
          obtain ⟨d0, d1, d2, d3', d4⟩ := hd
          have i1 : (0 : Int) ≤ (t : Int) := by omega
          have i2 : (t : Int) < (m : Int) := by omega
          have hoa := Lib.hid (hown.out.alloc (.cells #[.string k0, .int .i64 q0, .bool g0, .string v0, .int .i64 u0] 39))
          have hba := Lib.hid (chain hbel (below_alloc (Below.refl wr.heap.size wr) (.cells #[.string k0, .int .i64 q0, .bool g0, .string v0, .int .i64 u0] 39)))
          have hsz := hba.out.size
          clear hac hab
          go_wp2_with (at_builtin; refine wpList_push2 rfl _ _ 23 rfl Try.underlying23 infoAE rfl (by decide) rfl _ rfl ?c1 rfl ?c0 hoa.out ?c2 ?c3 ?c4 ?_)
          case c0 => simp
          case c1 => simp [Value.oneCell']
          case c2 => exact hsz
          case c3 => unfold maxLen; omega
          case c4 => omega
          intro a5 cap5 w5 hown5 _ hb5
          have HW5 : Hid (w5.ownsRow w2.heap.size 37 5 (.slice a5 (t + 1) cap5) (t + 1) (ecells (R.take (t + 1)))) := by rw [HTK.out, ecells_snoc]; exact hown5
          have hb6 := hba.out.trans hb5
          clear hown5 hb5 hown hbel d0 d1 d2 d3' d4 hoa
          go_wp2_with fail
          go_roundw
          case rel => exact ⟨t + 1, a5, cap5, by go_num, by omega, rfl, HW5, hb6⟩
          case measure => simp [intOf]; omega
        · obtain rfl : t = m := by omega
          go_wp2_with fail
          go_ret2
          rw [hpost.out]
          have ho := own_lower hown.out hbz.out.size
          have ho2 := own_below HO2.out hbel
          rw [HM.out, List.take_length] at ho
          rw [HM.out] at ho2
          exact ⟨p3, d3, p2, d2, by rw [HM.out]; rfl, ho, ho2, chain hbz.out hbel⟩
end Go.Proofs.Ytmgdcebbeglcmaa.Ew
