/- The walks of a table's Which, Block, May, Spans. -/
import Derived.Test.YtpihmjdljbienaaGreatDoorTabW
namespace Go.Proofs.YtpihmjdljbienaaGreatDoor.Tw
open Go.RowKit
open Tb Fp Fw Vp Vw B En
set_option linter.unusedVariables false

set_option maxHeartbeats 800000 in
set_option maxRecDepth 100000 in
theorem bsS_any (a : Option Addr) (n cap : Nat) (l : List Sp) (hl : l.length = n) (hn : n ≤ 65535) (key : ByteArray) (hs : SS l) (w : World) (hrow : SRow w a l) :
    Calls Tryz.prog 127 #[.slice a n cap, .string key, .func (.func 128) #[] #[]] w fun e w' => ∃ b : Bool, e = .returned (.tuple #[.int .i64 (whichB key l : Nat), .bool b]) ∧ Below w.heap.size w w' := by
  have HS := Lib.hid hs
  have HL := Lib.hid hl
  have HROW := Lib.hid hrow
  obtain ⟨p, hp⟩ : ∃ p, p = whichB key l := ⟨_, rfl⟩
  rw [← hp]
  have HP := Lib.hid hp
  clear hs hl hrow hp
  go_enter Tryz.func127, Tryz.ntmps127
  go_wp2_with fail
  go_loopw [9, 10] (fun si sj wr => ∃ (i j : Nat), si = .int .i64 i ∧ sj = .int .i64 j ∧ i ≤ j ∧ j ≤ n ∧ Hid (∀ m, m < i → cmpK (l.getD m sp0).last key < 0) ∧ Hid (∀ m, j ≤ m → m < n → 0 ≤ cmpK (l.getD m sp0).last key) ∧ Below w.heap.size w wr) (fun si sj _ => (intOf sj).toNat - (intOf si).toNat)
  case atStart => exact ⟨0, n, rfl, rfl, by omega, by omega, fun m hm => by omega, fun m h1 h2 => by omega, Below.refl _ _⟩
  case round =>
    obtain ⟨i, j, rfl, rfl, hij, hjn, hlo, hhi, hbel⟩ := hrel
    by_cases hlt : i < j
    · obtain ⟨ab, off, rfl, hab, hac⟩ := HROW.out.at (by rw [HL.out]; omega)
      obtain ⟨h, hh⟩ : ∃ h : Nat, ((i : Int) + (j : Int)) / 2 = (h : Int) := ⟨(i + j) / 2, by omega⟩
      have hd := hac h (by rw [HL.out]; omega)
      obtain ⟨x, hx⟩ : ∃ x, x = l.getD h sp0 := ⟨_, rfl⟩
      rw [← hx] at hd
      obtain ⟨l1, a1, n1⟩ := x
      simp only at hd
      have HLE := Lib.hid (fun W : World => ordS_any l1 a1 n1 key W)
      have HX : Hid (l1 = (l.getD h sp0).last) := by show l1 = _; rw [← hx]
      have HH := Lib.hid hh
      have hi1 : i ≤ h := by omega
      have hi2 : h < j := by omega
      have i1 : (0 : Int) ≤ (h : Int) := by omega
      have i2 : (h : Int) < (n : Int) := by omega
      have i3 : h < n := by omega
      have c0 : wr.cell? ⟨ab, off + h * 3, none⟩ = some (.string l1) := (hbel.cell hab).trans hd.1
      have c1 : wr.cell? ⟨ab, off + h * 3 + 1, none⟩ = some (.int .i64 a1) := (hbel.cell hab).trans hd.2.1
      have c2 : wr.cell? ⟨ab, off + h * 3 + 2, none⟩ = some (.int .i64 n1) := (hbel.cell hab).trans hd.2.2
      have HB := Lib.hid hbel
      clear hd hac hx hbel
      by_cases hc : cmpK l1 key < 0
      · have hd1 : decide (cmpK l1 key < 0) = true := dt hc
        have HC := Lib.hid hc
        clear hc
        generalize hce : cmpK l1 key = c at hd1 HLE
        have HCE := Lib.hid hce
        clear hce
        go_wp2_with fail
        refine (HLE.out _).mono ?_
        rintro e w3 ⟨rfl, hb3⟩
        have HB3 := Lib.hid (HB.out.trans (hb3.mono HB.out.size))
        clear hb3
        go_wp2_with fail
        go_roundw
        case rel => exact ⟨h + 1, j, by go_num, rfl, by omega, by omega, fun m hm => ss_upto HS.out HX.out HC.out (by rw [HL.out]; omega) (by omega), hhi.out, HB3.out⟩
        case measure => simp [intOf]; omega
      · have hd1 : decide (cmpK l1 key < 0) = false := df hc
        have HC := Lib.hid (Int.not_lt.1 hc)
        clear hc
        generalize hce : cmpK l1 key = c at hd1 HLE
        have HCE := Lib.hid hce
        clear hce
        go_wp2_with fail
        refine (HLE.out _).mono ?_
        rintro e w3 ⟨rfl, hb3⟩
        have HB3 := Lib.hid (HB.out.trans (hb3.mono HB.out.size))
        clear hb3
        go_wp2_with fail
        go_roundw
        case rel => exact ⟨i, h, rfl, rfl, by omega, by omega, hlo.out, fun m h1 h2 => Int.not_lt.1 (ss_from HS.out HX.out (Int.not_lt.2 HC.out) (by rw [HL.out]; omega) h1), HB3.out⟩
        case measure => simp [intOf]; omega
    · obtain rfl : i = j := by omega
      have hpi : True := trivial
      have hw := which_is key l i (by rw [HL.out]; omega) hlo.out (by rw [HL.out]; exact fun m h1 h2 => Int.not_lt.2 (hhi.out m h1 h2))
      obtain rfl : p = i := by rw [HP.out, hw]
      clear hw
      have HB := Lib.hid hbel
      clear hbel
      by_cases hin : p < n
      · obtain ⟨ab, off, rfl, hab, hac⟩ := HROW.out.at (by rw [HL.out]; omega)
        have hd := hac p (by rw [HL.out]; omega)
        generalize l.getD p sp0 = x at hd
        obtain ⟨l1, a1, n1⟩ := x
        simp only at hd
        have HLE := Lib.hid (fun W : World => ordS_any l1 a1 n1 key W)
        generalize cmpK l1 key = c at HLE
        have i1 : (0 : Int) ≤ (p : Int) := by omega
        have i2 : (p : Int) < (n : Int) := by omega
        have c0 : wr.cell? ⟨ab, off + p * 3, none⟩ = some (.string l1) := (HB.out.cell hab).trans hd.1
        have c1 : wr.cell? ⟨ab, off + p * 3 + 1, none⟩ = some (.int .i64 a1) := (HB.out.cell hab).trans hd.2.1
        have c2 : wr.cell? ⟨ab, off + p * 3 + 2, none⟩ = some (.int .i64 n1) := (HB.out.cell hab).trans hd.2.2
        clear hd hac
        go_wp2_with fail
        refine (HLE.out _).mono ?_
        rintro e w3 ⟨rfl, hb3⟩
        have HB3 := Lib.hid (HB.out.trans (hb3.mono HB.out.size))
        clear hb3
        go_wp2_with fail
        go_ret2
        exact ⟨_, rfl, HB3.out⟩
      · obtain rfl : p = n := by omega
        go_wp2_with fail
        go_ret2
        exact ⟨_, rfl, HB.out⟩

/-- a table's cells -/
theorem TBox.cells {w : World} {tb : Nat} {g : Src} {s f : ByteArray} {sp : List Sp} (h : TBox w tb g s sp f) : ∃ a c, (w.cell? ⟨tb, 0, none⟩ = some (.func (.func g.f) #[] g.caps) ∧ w.cell? ⟨tb, 1, none⟩ = some (.slice a sp.length c) ∧ w.cell? ⟨tb, 2, none⟩ = some (.string f)) ∧ SRow w a sp ∧ sp.length ≤ c ∧ c ≤ 9223372036854775807 ∧ Adr a := by
  obtain ⟨a, c, h1, h2⟩ := h.ex
  exact ⟨a, c, ⟨cell_of_row w tb 0 _ _ _ h1, cell_of_row w tb 1 _ _ _ h1, cell_of_row w tb 2 _ _ _ h1⟩, h2⟩

set_option maxHeartbeats 400000 in
theorem which_any (tb : Nat) (g : Src) (s f : ByteArray) (sp : List Sp) (hss : SS sp) (hl : sp.length ≤ 65535) (key : ByteArray) (w : World) (h : TBox w tb g s sp f) :
    Calls Tryz.prog 81 #[.pointer (some ⟨tb, 0, none⟩), .string key] w fun e w' => e = .returned (.int .i64 (whichB key sp : Nat)) ∧ Below w.heap.size w w' := by
  obtain ⟨a, c, ⟨c0, c1, c2⟩, hr, _⟩ := h.cells
  have HB := Lib.hid (bsS_any a sp.length c sp rfl hl key hss w hr)
  clear hss hr h
  generalize whichB key sp = p at HB ⊢
  go_enter Tryz.func81, Tryz.ntmps81
  go_wp2_with fail
  refine HB.out.mono ?_
  rintro e w1 ⟨b, rfl, hb⟩
  go_wp2_with fail
  go_ret
  exact ⟨rfl, hb⟩

theorem which_nil (key : ByteArray) (w : World) :
    Calls Tryz.prog 81 #[.pointer none, .string key] w fun e w' => e = .returned (.int .i64 0) ∧ w = w' := by
  go_enter Tryz.func81, Tryz.ntmps81
  go_wp2_with fail
  go_ret
  exact ⟨rfl, rfl⟩

theorem keepB {W W' : World} {tb ab o : Nat} {v0 v1 v2 v3 : Value} (h : (W.cell? ⟨tb, 0, none⟩ = some v0 ∧ W.cell? ⟨tb, 1, none⟩ = some v1) ∧ (W.cell? ⟨ab, o + 1, none⟩ = some v2 ∧ W.cell? ⟨ab, o + 2, none⟩ = some v3) ∧ tb < W.heap.size ∧ ab < W.heap.size) (k : Below W.heap.size W W') :
    (W'.cell? ⟨tb, 0, none⟩ = some v0 ∧ W'.cell? ⟨tb, 1, none⟩ = some v1) ∧ (W'.cell? ⟨ab, o + 1, none⟩ = some v2 ∧ W'.cell? ⟨ab, o + 2, none⟩ = some v3) ∧ tb < W'.heap.size ∧ ab < W'.heap.size := by
  obtain ⟨⟨h0, h1⟩, ⟨h2, h3⟩, h4, h5⟩ := h
  exact ⟨⟨(k.cell (p := ⟨tb, 0, none⟩) h4).trans h0, (k.cell (p := ⟨tb, 1, none⟩) h4).trans h1⟩, ⟨(k.cell (p := ⟨ab, o + 1, none⟩) h5).trans h2, (k.cell (p := ⟨ab, o + 2, none⟩) h5).trans h3⟩, Nat.lt_of_lt_of_le h4 k.size, Nat.lt_of_lt_of_le h5 k.size⟩
/-- a block's bytes, or an error -/
def blockB (s : ByteArray) (sp : List Sp) (i : Int) : ST := if i < 0 ∨ (sp.length : Int) ≤ i then ⟨str [], 2⟩ else bodyB s (sp.getD i.toNat sp0).at_ (sp.getD i.toNat sp0).n

set_option maxHeartbeats 800000 in
set_option maxRecDepth 100000 in
theorem block_any (tb : Nat) (g : Src) (s f : ByteArray) (hs : s.size ≤ 4611686018427387904) (sp : List Sp) (i : Int) (w : World) (h : TBox w tb g s sp f) :
    Calls Tryz.prog 82 #[.pointer (some ⟨tb, 0, none⟩), .int .i64 i] w fun e w' => e = retS (blockB s sp i) ∧ Below w.heap.size w w' := by
  obtain ⟨a, c, ⟨c0, c1, c2⟩, hr, _⟩ := h.cells
  unfold blockB
  by_cases h1 : i < 0
  · rw [if_pos (.inl h1)]
    have d1 : decide (i < 0) = true := dt h1
    go_enter Tryz.func82, Tryz.ntmps82
    go_wp2_with fail
    go_ret2
    exact ⟨rfl, Below.refl _ _⟩
  by_cases h2 : (sp.length : Int) ≤ i
  · rw [if_pos (.inr h2)]
    have d1 : decide (i < 0) = false := df h1
    have d2 : decide ((sp.length : Int) ≤ i) = true := dt h2
    go_enter Tryz.func82, Tryz.ntmps82
    go_wp2_with fail
    go_ret2
    exact ⟨rfl, Below.refl _ _⟩
  rw [if_neg (by omega)]
  obtain ⟨k, rfl⟩ := Int.eq_ofNat_of_zero_le (show 0 ≤ i by omega)
  simp only [Int.toNat_natCast]
  have hk : k < sp.length := by omega
  obtain ⟨ab, off, rfl, hab, hac⟩ := hr.at (by omega)
  have hd := hac k hk
  generalize sp.getD k sp0 = x at hd ⊢
  obtain ⟨l1, a1, n1⟩ := x
  simp only at hd ⊢
  have HG := Lib.hid h.src
  have HBD := Lib.hid (fun W hc => body_any g s hs a1 n1 W hc)
  generalize bodyB s a1 n1 = r at HBD ⊢
  obtain ⟨rt, re⟩ := r
  simp only [retS] at HBD
  have d1 : decide ((k : Int) < 0) = false := df h1
  have d2 : decide (sp.length ≤ k) = false := df (by omega)
  have i1 : (0 : Int) ≤ (k : Int) := by omega
  have i2 : (k : Int) < (sp.length : Int) := by omega
  have q1 := hd.2.1
  have q2 := hd.2.2
  have H0 : Hid ((w.cell? ⟨tb, 0, none⟩ = some (.func (.func g.f) #[] g.caps) ∧ w.cell? ⟨tb, 1, none⟩ = some (.slice (some ⟨ab, off, none⟩) sp.length c)) ∧ (w.cell? ⟨ab, off + k * 3 + 1, none⟩ = some (.int .i64 a1) ∧ w.cell? ⟨ab, off + k * 3 + 2, none⟩ = some (.int .i64 n1)) ∧ tb < w.heap.size ∧ ab < w.heap.size) := ⟨⟨c0, c1⟩, ⟨q1, q2⟩, h.lt, hab⟩
  clear h hr hac hd h1 h2 q1 q2
  go_enter Tryz.func82, Tryz.ntmps82
  go_wp2_with fail
  go_region_held3 (fun w' => (w'.cell? ⟨tb, 0, none⟩ = some (.func (.func g.f) #[] g.caps) ∧ w'.cell? ⟨tb, 1, none⟩ = some (.slice (some ⟨ab, off, none⟩) sp.length c)) ∧ (w'.cell? ⟨ab, off + k * 3 + 1, none⟩ = some (.int .i64 a1) ∧ w'.cell? ⟨ab, off + k * 3 + 2, none⟩ = some (.int .i64 n1)) ∧ tb < w'.heap.size ∧ ab < w'.heap.size)
    (first | exact H0.out | exact keepB (W := w.drew) H0.out hb3)
    (first | (go_at_call 123; refine (HBD.out w.drew (g.below HG.out (Below.refl w.heap.size w).drew)).mono ?_; rintro e w3 ⟨rfl, hb3⟩))
  all_goals
    have hz : Below w.heap.size w w3 := (Below.refl w.heap.size w).drew.trans hb3
    clear hb3
    go_wp2_with fail
    go_ret2
    exact ⟨rfl, hz⟩
theorem block_nil (i : Int) (w : World) :
    Calls Tryz.prog 82 #[.pointer none, .int .i64 i] w fun e w' => e = .returned (.tuple #[.string ⟨#[]⟩, .int .i64 1]) ∧ w = w' := by
  go_enter Tryz.func82, Tryz.ntmps82
  go_wp2_with fail
  go_ret2
  exact ⟨rfl, rfl⟩

/-! Spans -/
noncomputable def spanI : TypeInfo := (Tryz.prog.info? 152).get (by kernel_rfl)
theorem srow_cells {w : World} {b off : Nat} {l : List Sp} (h : SRow w (some ⟨b, off, none⟩) l) (j : Nat) (u : Value) (hu : (scells l)[j]? = some u) : w.cell? ⟨b, off + j, none⟩ = some u := by
  have hj : j < (scells l).length := by
    by_cases hh : j < (scells l).length
    · exact hh
    · rw [List.getElem?_eq_none (by omega)] at hu; cases hu
  rw [scells_len] at hj
  obtain ⟨b', off', hb, _, hc⟩ := h.at (by omega)
  simp only [Option.some.injEq, Addr.mk.injEq, and_true] at hb
  obtain ⟨rfl, rfl⟩ := hb
  obtain ⟨h0, h1, h2⟩ := hc (j / 3) (by omega)
  have hs := scells_at l (j / 3) (j % 3) (by omega) (by omega)
  rw [show j / 3 * 3 + j % 3 = j from by omega, hu] at hs
  have h3 : j % 3 = 0 ∨ j % 3 = 1 ∨ j % 3 = 2 := by omega
  rcases h3 with h3 | h3 | h3
  · rw [h3] at hs
    rw [show off + j = off + j / 3 * 3 from by omega, h0]; exact hs.symm
  · rw [h3] at hs
    rw [show off + j = off + j / 3 * 3 + 1 from by omega, h1]; exact hs.symm
  · rw [h3] at hs
    rw [show off + j = off + j / 3 * 3 + 2 from by omega, h2]; exact hs.symm
theorem scells_one (l : List Sp) : ∀ u ∈ scells l, u.oneCell' = true := by
  intro u hu
  simp only [scells, List.mem_flatMap, Sp.cells] at hu
  obtain ⟨x, _, hx⟩ := hu
  simp only [List.mem_cons, List.not_mem_nil, or_false] at hx
  rcases hx with rfl | rfl | rfl <;> rfl

end Go.Proofs.YtpihmjdljbienaaGreatDoor.Tw
