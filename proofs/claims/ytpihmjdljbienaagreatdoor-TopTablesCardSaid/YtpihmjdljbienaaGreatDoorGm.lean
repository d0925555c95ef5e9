/- Several texts in one: TopI, TopP, TopS, TopQ, TopV, TopW. -/
import Derived.Test.YtpihmjdljbienaaGreatDoorGl
import Derived.Test.YtpihmjdljbienaaGreatDoorGood
import Derived.Test.YtpihmjdljbienaaGreatDoorGb
import Derived.Test.YtpihmjdljbienaaGreatDoorTabU
import Derived.Test.YtpihmjdljbienaaGreatDoorBatchW
import Derived.Test.YtpihmjdljbienaaGreatDoorMrgW
import Derived.Test.YtpihmjdljbienaaGreatDoorSkipG
import Derived.Test.YtpihmjdljbienaaGreatDoorSkipW
import Derived.Test.YtpihmjdljbienaaGreatDoorGa
import Derived.Test.YtpihmjdljbienaaGreatDoorBatchE
import Derived.Deep.CutBlock
/- The walk of the law's items. -/
namespace Go.Proofs.YtpihmjdljbienaaGreatDoor.Dw
open Go.RowKit
open B En Ew
set_option linter.unusedVariables false

/-- an entry with the number 1 -/
def oneE (e : Ent) : Ent := { e with seq := 1 }
def okE (e : Ent) : Bool := decide (goodE (oneE e) = 0) && decide (e.til < 4611686018427387904)
/-- those that a batch may have -/
def itemsE (l : List Ent) : List Ent := (l.filter okE).map oneE
theorem itemsE_snoc (l : List Ent) (e : Ent) : itemsE (l ++ [e]) = if okE e = true then itemsE l ++ [oneE e] else itemsE l := by
  unfold itemsE
  rw [List.filter_append]
  by_cases h : okE e = true <;> simp [h]
theorem itemsE_len (l : List Ent) : (itemsE l).length ≤ l.length := by
  unfold itemsE; rw [List.length_map]; exact List.length_filter_le _ _
set_option maxHeartbeats 1600000 in
set_option maxRecDepth 100000 in
theorem items_any (a : Option Addr) (n cap : Nat) (L : List Ent) (hl : L.length = n) (hnc : n ≤ cap) (hn : n * 56 ≤ 140737488351232) (most : Nat) (hm : most ≤ 1000) (w : World) (hr : ERow w a n (fun i => L.getD i ent0)) :
    Calls Tryz.prog 9 #[.slice a n cap, .int .i64 most] w fun e w' => ∃ p d, e = .returned (.slice p (itemsE (L.take most)).length d) ∧
      w'.ownsRow w.heap.size 45 5 (.slice p (itemsE (L.take most)).length d) (itemsE (L.take most)).length (ecells (itemsE (L.take most))) ∧ Below w.heap.size w w' := by
  have HL := Lib.hid hl
  have HR := Lib.hid hr
  obtain ⟨kk, hkk⟩ : ∃ kk : Nat, min n most = kk := ⟨_, rfl⟩
  have hmin : min (n : Int) (most : Int) = (kk : Int) := by omega
  have hk1 : kk ≤ n := by omega
  have hk2 : kk ≤ cap := by omega
  have HK : Hid (L.take most = L.take kk) := by
    by_cases h : n ≤ most
    · rw [List.take_of_length_le (by omega), List.take_of_length_le (by omega)]; exact Lib.hid rfl
    · rw [show kk = most from by omega]; exact Lib.hid rfl
  clear hl hr
  go_enter Tryz.func9, Tryz.ntmps9
  go_wp2_with fail
  go_loopw [5, 16] (fun v i wr => ∃ j : Nat, i = .int .i64 j ∧ j ≤ kk ∧ wr.ownsRow w.heap.size 45 5 v (itemsE (L.take j)).length (ecells (itemsE (L.take j))) ∧ Below w.heap.size w wr) (fun _ i _ => kk - (intOf i).toNat)
  case atStart => exact ⟨0, rfl, by omega, World.ownsRow_nil _ _ _ _, Below.refl _ _⟩
  case round =>
    obtain ⟨j, rfl, hj, ho, hbel⟩ := hrel
    obtain ⟨p1, d1, rfl, _⟩ := own_form ho
    by_cases hlt : j < kk
    · obtain ⟨ab, off, rfl, hab, hac⟩ := (HR.out.below hbel).at (by omega)
      obtain ⟨h0, h1, h2, h3, h4⟩ := hac j (by omega)
      have hts := take_snoc L j ent0 (by rw [HL.out]; omega)
      generalize L.getD j ent0 = x at h0 h1 h2 h3 h4 hts
      have HTS := Lib.hid ((congrArg itemsE hts).trans (itemsE_snoc _ _))
      have HLE : Hid ((itemsE (L.take j)).length ≤ j) := Nat.le_trans (itemsE_len _) (by rw [List.length_take]; omega)
      have HO := Lib.hid ho
      obtain ⟨k, q, g, v, u⟩ := x
      simp only at h0 h1 h2 h3 h4
      have i1 : (0 : Int) ≤ (j : Int) := by omega
      have i2 : (j : Int) < (kk : Int) := by omega
      clear hac hts ho
      go_upto_region 7 with fail
      generalize hW : (wr.alloc (.cells #[.string k, .int .i64 q, .bool g, .string v, .int .i64 u] 78)).alloc (.cells #[.string k, .int .i64 1, .bool g, .string v, .int .i64 u] 45) = W7
      have hE7 : W7.heap[wr.heap.size + 1]? = some (.cells #[.string k, .int .i64 1, .bool g, .string v, .int .i64 u] 45 (0, 0)) := by rw [← hW]; exact blk_new (by simp)
      have hB7 : Below w.heap.size w W7 := by rw [← hW]; exact (hbel.alloc hbel.size _).alloc (by simp; have := hbel.size; omega) _
      have hO7 : W7.ownsRow w.heap.size 45 5 (.slice p1 (itemsE (L.take j)).length d1) (itemsE (L.take j)).length (ecells (itemsE (L.take j))) := by rw [← hW]; exact (HO.out.alloc _).alloc _
      have HGD := Lib.hid (Ew.good_any k 1 g v u W7)
      obtain ⟨c0, c1, c2, c3, c4⟩ := cells5 hE7
      have HE7 := Lib.hid hE7
      have HB7 := Lib.hid hB7
      have HO7 := Lib.hid hO7
      have hok : okE ⟨k, q, g, v, u⟩ = (decide (goodE ⟨k, 1, g, v, u⟩ = 0) && decide (u < 4611686018427387904)) := rfl
      generalize hrr : goodE ⟨k, 1, g, v, u⟩ = r at HGD hok
      have HOK := Lib.hid hok
      have hone : oneE ⟨k, q, g, v, u⟩ = ⟨k, 1, g, v, u⟩ := rfl
      rw [hone] at HTS
      generalize hacc : itemsE (L.take j) = acc at HTS HO7 HLE
      clear hW hE7 hB7 hO7 hok HO h0 h1 h2 h3 h4 hrr hone hbel
      go_wp2_with fail
      refine HGD.out.mono ?_
      rintro e w8 ⟨rfl, hb8⟩
      obtain ⟨f0, f1, f2, f3, f4⟩ := cells5 ((hb8.block _ (lt_of_block HE7.out)).trans HE7.out)
      have hsz8 := hb8.size
      have HB8 : Hid (Below w.heap.size w w8) := chain HB7.out hb8
      have HO8 : Hid (w8.ownsRow w.heap.size 45 5 (.slice p1 acc.length d1) acc.length (ecells acc)) := own_below HO7.out hb8
      clear hb8 c0 c1 c2 c3 c4
      by_cases hr0 : r = 0
      · subst hr0
        by_cases hu : u < 4611686018427387904
        · have hok2 : okE ⟨k, q, g, v, u⟩ = true := by rw [HOK.out]; simp [hu]
          have HT2 := HTS.out
          rw [hok2, if_pos rfl] at HT2
          have du : decide (u < 4611686018427387904) = true := decide_eq_true hu
          have HT3 := Lib.hid HT2
          clear HT2 HTS HOK hok2
          go_wp2_with (at_builtin; refine wpList_push rfl _ _ 33 rfl Tryz.underlying33 infoApi rfl (by decide) rfl #[.string k, .int .i64 1, .bool g, .string v, .int .i64 u] rfl ?c1 rfl HO8.out ?c2 ?c3 ?c4 ?_)
          case c1 => simp [Value.oneCell']
          case c2 => exact HB8.out.size
          case c3 => have := HLE.out; unfold maxLen; omega
          case c4 => have := HLE.out; omega
          intro a' cap' w9 hown9 _ hb9
          have HB9 := Lib.hid (HB8.out.trans hb9)
          have HO9 := Lib.hid hown9
          clear hown9 hb9
          go_wp2_with fail
          go_roundw
          case rel =>
            refine ⟨j + 1, by go_num, by omega, ?_, HB9.out⟩
            rw [HT3.out, List.length_append, ecells_snoc]
            exact HO9.out
          case measure => simp [intOf]; omega
        · have hok2 : okE ⟨k, q, g, v, u⟩ = false := by rw [HOK.out]; simp [hu]
          have HT2 := HTS.out
          rw [hok2, if_neg (by simp)] at HT2
          have du : decide (u < 4611686018427387904) = false := decide_eq_false hu
          have HT3 := Lib.hid HT2
          clear HT2 HTS HOK hok2
          go_wp2_with fail
          go_roundw
          case rel =>
            refine ⟨j + 1, by go_num, by omega, ?_, HB8.out⟩
            rw [HT3.out]
            exact HO8.out
          case measure => simp [intOf]; omega
      · have hok2 : okE ⟨k, q, g, v, u⟩ = false := by rw [HOK.out]; simp [hr0]
        have HT2 := HTS.out
        rw [hok2, if_neg (by simp)] at HT2
        have dr : (r == 0) = false := by simp [hr0]
        have HT3 := Lib.hid HT2
        clear HT2 HTS HOK hok2
        go_wp2_with fail
        go_roundw
        case rel =>
          refine ⟨j + 1, by go_num, by omega, ?_, HB8.out⟩
          rw [HT3.out]
          exact HO8.out
        case measure => simp [intOf]; omega
    · obtain rfl : j = kk := by omega
      rw [← HK.out] at ho
      have HO := Lib.hid ho
      clear ho
      go_wp2_with fail
      go_ret
      rw [← HK.out]
      exact ⟨p1, d1, rfl, HO.out, hbel⟩
end Go.Proofs.YtpihmjdljbienaaGreatDoor.Dw

/- Plain facts on the law's stirs: no program in sight. -/
namespace Go.Proofs.YtpihmjdljbienaaGreatDoor.Dw
open B En
set_option linter.unusedVariables false

def eA : Ent := ⟨⟨#[97]⟩, 0, false, ⟨#[120]⟩, 0⟩
def eB : Ent := ⟨⟨#[97]⟩, 1, false, ⟨#[]⟩, 0⟩
def eC : Ent := ⟨⟨#[97]⟩, 0, false, ⟨#[]⟩, 0⟩
set_option maxRecDepth 100000 in
theorem putA_err : (putE [eA]).2 = 0 := by decide +kernel
set_option maxRecDepth 100000 in
theorem putA_size : (putE [eA]).1.size = 6 := by decide +kernel
set_option maxRecDepth 100000 in
theorem tabB_err : (Tb.tabB [eB] 9 9).2 = 0 := by decide +kernel
set_option maxRecDepth 100000 in
theorem tabB_size : 24 < (Tb.tabB [eB] 9 9).1.length := by decide +kernel
set_option maxRecDepth 100000 in
theorem mpC_len : (mpAll [] [[eC]].flatten).length = 1 := by decide +kernel
end Go.Proofs.YtpihmjdljbienaaGreatDoor.Dw

/- The walk of the law's stirs. -/
namespace Go.Proofs.YtpihmjdljbienaaGreatDoor.Dw
open Go.RowKit
open B En
set_option linter.unusedVariables false

theorem fitsA : ∀ e ∈ [eA], Fits e := fun e h => by
  simp at h; subst h; exact ⟨by decide, by decide, by decide, by decide, by decide, by decide⟩
theorem fitsB : ∀ e ∈ [eB], Fits e := fun e h => by
  simp at h; subst h; exact ⟨by decide, by decide, by decide, by decide, by decide, by decide⟩
theorem box_row {w : World} {g : Nat} {t : TypeId} {e : Ent} (h : EBox w g t e) : ERow w (some ⟨g, 0, none⟩) 1 (fun i => [e].getD i ent0) := by
  obtain ⟨c0, c1, c2, c3, c4⟩ := h.cells
  refine .inr ⟨g, 0, rfl, lt_of_block h, fun i hi => ?_⟩
  obtain rfl : i = 0 := by omega
  exact ⟨c0, c1, c2, c3, c4⟩
set_option maxHeartbeats 1600000 in
set_option maxRecDepth 100000 in
theorem stirs_any (w : World) : Calls Tryz.prog 6 #[] w fun e w' => e = .returned (.bool true) ∧ Below w.heap.size w w' := by
  have HP : Hid (∀ W g, EBox W g 45 eA → Calls Tryz.prog 10 #[.slice (some ⟨g, 0, none⟩) 1 1] W (Bw.GotS W (putE [eA]))) := fun W g h => Bw.bput_any (some ⟨g, 0, none⟩) 1 1 [eA] rfl fitsA W (box_row h)
  have HT : Hid (∀ W g, EBox W g 45 eB → Calls Tryz.prog 19 #[.slice (some ⟨g, 0, none⟩) 1 1, .int .i64 9, .int .i64 9] W fun e w' => e = Tw.retB (Tb.tabB [eB] 9 9) ∧ Below W.heap.size W w') := fun W g h => Tw.tbuild_any (some ⟨g, 0, none⟩) 1 1 [eB] rfl (Nat.le_refl _) (by decide) fitsB 9 9 W (box_row h)
  have e1 := putA_err
  have e2 := putA_size
  have e3 := tabB_err
  have e4 := tabB_size
  have hnf : ∀ (f : Fn) (a c : Array Value) (W : World), (binOp .neq 51 (.func f a c) .nilFunc).run Tryz.prog W = .ok (.bool true) W := by intro f a c W; rfl
  go_enter Tryz.func6, Tryz.ntmps6
  go_wp2_with fail
  refine (HP.out _ w.heap.size (heap_alloc_new _ _)).mono ?_
  rintro e w1 ⟨rfl, hb1⟩
  rw [e1]
  have HB1 : Hid (Below w.heap.size w w1) := chain (below_alloc (Below.refl _ _) _) hb1
  have HS6 := Lib.hid e2
  clear hb1 HP e1 e2
  generalize (putE [eA]).1 = s0 at HS6 ⊢
  have HN := Lib.hid (new_any 1000 (by decide) w1)
  go_wp2_with fail
  refine HN.out.mono ?_
  rintro e w2 ⟨db, rfl, hd2, hb2⟩
  have HD2 := Lib.hid hd2
  have HB2 : Hid (Below w.heap.size w w2) := chain HB1.out hb2
  have HW12 := Lib.hid hb2.size
  clear hd2 hb2 HN
  go_wp2_with fail
  refine (HT.out _ w2.heap.size (heap_alloc_new _ _)).mono ?_
  rintro e w3 ⟨rfl, hb3⟩
  simp only [Tw.retB]
  rw [e3]
  have HD3 := Lib.hid (HD2.out.below (chain (below_alloc (Below.refl _ _) _) hb3))
  have HB3 : Hid (Below w.heap.size w w3) := chain HB2.out (chain (below_alloc (Below.refl _ _) _) hb3)
  have HW13 : Hid (w1.heap.size ≤ w3.heap.size) := Nat.le_trans HW12.out (chain (below_alloc (Below.refl _ _) _) hb3).size
  have i24 : (24 : Int) < ((str (Tb.tabB [eB] 9 9).1).size : Int) := by rw [str_size]; omega
  generalize str (Tb.tabB [eB] 9 9).1 = tb at i24 ⊢
  clear hb3 HT e3 e4
  go_wp2_with fail
  have HSN : Hid (Calls Tryz.prog 15 #[.slice (some ⟨w3.heap.size, 0, none⟩) 1 1] (w3.alloc (.cells #[.int .i64 1] 3)) fun e w' => ∃ lb, e = .returned (.pointer (some ⟨lb, 0, none⟩)) ∧ Sw.SK w' (w3.heap.size + 1) lb [1] [] 0 ∧ Below (w3.heap.size + 1) (w3.alloc (.cells #[.int .i64 1] 3)) w') := by
    have h := Sw.new_any (some ⟨w3.heap.size, 0, none⟩) 1 1 [1] rfl (by decide) (w3.alloc (.cells #[.int .i64 1] 3)) (.inr ⟨w3.heap.size, 0, rfl, by simp, fun i hi => by
      obtain rfl : i = 0 := by omega
      exact World.cell?_alloc_at _ _ _ _ rfl⟩)
    rw [show (w3.alloc (.cells #[.int .i64 1] 3)).heap.size = w3.heap.size + 1 from Array.size_push ..] at h
    exact h
  have HB3a : Hid (Below w.heap.size w (w3.alloc (.cells #[.int .i64 1] 3))) := chain HB3.out (below_alloc (Below.refl _ _) _)
  have HD3a := Lib.hid (HD3.out.below (below_alloc (Below.refl _ _) (.cells #[.int .i64 1] 3)))
  have hs3 : (w3.alloc (.cells #[.int .i64 1] 3)).heap.size = w3.heap.size + 1 := Array.size_push ..
  generalize w3.alloc (.cells #[.int .i64 1] 3) = W3 at HSN HB3a HD3a hs3 ⊢
  refine HSN.out.mono ?_
  rintro e w4 ⟨lb, rfl, hsk, hb4⟩
  have HSK := Lib.hid hsk
  have HB4 := Lib.hid (hs3 ▸ hb4 : Below W3.heap.size W3 w4)
  clear hsk hb4 HSN
  have HFR := Lib.hid (Sw.from_any w4 lb ⟨#[]⟩)
  go_wp2_with fail
  refine HFR.out.mono ?_
  rintro e w5 ⟨⟨fa, fb, rfl⟩, hb5⟩
  have HSK5 := Lib.hid (HSK.out.below hb5)
  have HB5 := Lib.hid (chain HB4.out hb5)
  have HPT := Lib.hid (Sw.put_any w5 (w3.heap.size + 1) lb [1] [] 0 (by have := HB5.out.size; omega) HSK5.out (by simp [Sorted]) (by decide) (by decide) (by intro x hx; simp at hx; omega) (by decide) ⟨#[97]⟩ 1 false ⟨#[]⟩ 0)
  have hz2 : (skE (List.map Nd.e []) ⟨⟨#[97]⟩, 1, false, ⟨#[]⟩, 0⟩).2 = 0 := by rfl
  have hz1 : (skE (List.map Nd.e []) ⟨⟨#[97]⟩, 1, false, ⟨#[]⟩, 0⟩).1.length = 1 := by rfl
  clear hb5 HFR
  go_wp2_with fail
  refine HPT.out.mono ?_
  rintro e w6 ⟨rfl, ⟨ns', hns, hsk6⟩, hb6, hk6⟩
  have hnl : ns'.length = 1 := by rw [← hz1, ← hns, List.length_map]
  rw [hz2]
  have HLN := Lib.hid (Sw.len_any w6 (w3.heap.size + 1) lb [1] ns' _ hsk6)
  rw [hnl] at HLN
  have HB6 : Hid (Below W3.heap.size W3 w6) := HB5.out.trans (hs3 ▸ hb6)
  have HD6 := Lib.hid (HD3a.out.below HB6.out)
  have HW6 : Hid (w1.heap.size ≤ w6.heap.size) := Nat.le_trans HW13.out (Nat.le_trans (by omega) HB6.out.size)
  have HBB6 : Hid (Below w.heap.size w w6) := chain HB3a.out HB6.out
  have HWC := Lib.hid (wcreate_any w1.heap.size db 1000 w6 HD6.out HW6.out)
  clear hsk6 hb6 hk6 hns hnl hz1 hz2 HPT
  go_wp2_with fail
  refine HLN.out.mono ?_
  rintro e w7 ⟨rfl, hw7⟩
  subst hw7
  go_wp2_with fail
  refine HWC.out.mono ?_
  rintro e w8 ⟨rfl, ⟨fb', h1⟩, hb8, hk8⟩
  have HW8 : Hid (w1.heap.size ≤ w8.heap.size) := Nat.le_trans HW6.out hb8.size
  have HBB8 : Hid (Below w.heap.size w w8) := HBB6.out.trans (hb8.mono HB1.out.size)
  have HWA := Lib.hid (wappend_any w1.heap.size db fb' 1000 [] 0 0 [] s0 w8 h1 HW8.out (by have := HS6.out; omega) (by have := HS6.out; simp; omega) (by have := HS6.out; simp; omega) (by decide) (by decide) (by decide) (by decide) (by decide) (by simp))
  clear h1 hb8 hk8 HWC
  go_wp2_with fail
  refine HWA.out.mono ?_
  rintro e w9 ⟨r, rfl, h9, hb9, hk9⟩
  obtain rfl : r = 0 := by
    rcases h9 with h | ⟨_, h | h, _⟩
    · exact h.1
    · exact absurd h (by decide)
    · exact absurd h (by decide)
  have HBB9 : Hid (Below w.heap.size w w9) := HBB8.out.trans (hb9.mono HB1.out.size)
  clear h9 hb9 hk9 HWA
  go_wp2_with fail
  have hE0 : EBox (w9.alloc (.cells #[.string ⟨#[97]⟩, .int .i64 0, .bool false, .string ⟨#[]⟩, .int .i64 0] 45)) w9.heap.size 45 eC := heap_alloc_new _ _
  have hE1 := hE0.below (below_alloc (Below.refl _ _) (.cells #[.slice (some ⟨w9.heap.size, 0, none⟩) 1 1] 33))
  have HMG := Lib.hid (Mg.merge_any (some ⟨w9.heap.size + 1, 0, none⟩) 1 1 (fun _ => (some ⟨w9.heap.size, 0, none⟩, 1, 1)) [[eC]] (w := (w9.alloc (.cells #[.string ⟨#[97]⟩, .int .i64 0, .bool false, .string ⟨#[]⟩, .int .i64 0] 45)).alloc (.cells #[.slice (some ⟨w9.heap.size, 0, none⟩) 1 1] 33))
    ⟨rfl, .inr ⟨w9.heap.size + 1, 0, rfl, by simp, fun i hi => by obtain rfl : i = 0 := by omega
                                                                  exact World.cell?_alloc_at _ _ _ _ (by simp)⟩, fun i hi => by obtain rfl : i = 0 := by omega
                                                                                                                                exact ⟨rfl, Nat.le_refl _, box_row hE1⟩⟩ (by decide) (by decide) (fun j hj => by
        simp at hj; subst hj; simp [Sorted]; intro i j h1 h2; omega))
  have hbf := (HBB9.out.alloc HBB9.out.size (.cells #[.string ⟨#[97]⟩, .int .i64 0, .bool false, .string ⟨#[]⟩, .int .i64 0] 45)).alloc (by simp; have := HBB9.out.size; omega) (.cells #[.slice (some ⟨w9.heap.size, 0, none⟩) 1 1] 33)
  have HBF := Lib.hid hbf
  clear hE0 hE1 hbf
  refine HMG.out.mono ?_
  rintro e w10 ⟨p, d, rfl, _, hb10⟩
  rw [mpC_len]
  have HB10 := Lib.hid (HBF.out.trans (hb10.mono HBF.out.size))
  clear hb10
  go_wp2_with fail
  go_ret
  exact ⟨rfl, HB10.out⟩
end Go.Proofs.YtpihmjdljbienaaGreatDoor.Dw

/- Plain facts on the bodies of a log: no program in sight. -/
namespace Go.Proofs.YtpihmjdljbienaaGreatDoor.Dw
open B En Vp
set_option linter.unusedVariables false

theorem itemsE_mem {l : List Ent} {e : Ent} (h : e ∈ itemsE l) : goodE e = 0 ∧ e.til < 4611686018427387904 := by
  unfold itemsE at h
  rw [List.mem_map] at h
  obtain ⟨x, hx, rfl⟩ := h
  have h2 := (List.mem_filter.1 hx).2
  unfold okE at h2
  simp only [Bool.and_eq_true, decide_eq_true_eq] at h2
  exact h2
theorem itemsE_seq {l : List Ent} {e : Ent} (h : e ∈ itemsE l) : e.seq = 1 := by
  unfold itemsE at h
  rw [List.mem_map] at h
  obtain ⟨x, hx, rfl⟩ := h
  rfl
theorem itemsE_good {l : List Ent} {e : Ent} (h : e ∈ itemsE l) : goodI e = 0 ∧ Fits e := by
  obtain ⟨h1, h2⟩ := itemsE_mem h
  have hs := itemsE_seq h
  have h3 := goodE_0 h1
  have e1 : ({ e with seq := 1 } : Ent) = e := by cases e; simp only at hs; subst hs; rfl
  refine ⟨?_, by omega, by omega, by omega, by omega, by omega, by omega⟩
  unfold goodI
  rw [e1, if_neg (by simp [h1]), if_neg (by omega)]
theorem bads_items {l : List Ent} (h : ∀ e ∈ l, goodI e = 0) : bads l = 0 := by
  induction l with
  | nil => rfl
  | cons e t ih =>
    unfold bads
    rw [if_neg (by simp [h e (by simp)])]
    exact ih fun x hx => h x (by simp [hx])
/-- the bytes of a batch -/
def bodyE (x : List Ent) : List UInt8 := bytesB (itemsE (x.take 20))
theorem items20 (x : List Ent) : (itemsE (x.take 20)).length ≤ 20 := Nat.le_trans (itemsE_len _) (by rw [List.length_take]; omega)
theorem body_put (x : List Ent) : putE (itemsE (x.take 20)) = (str (bodyE x), 0) := by
  have h20 := items20 x
  unfold putE bodyE bytesB
  rw [if_neg (by omega), bads_items fun e he => (itemsE_good he).1]
  rfl
theorem body_get (x : List Ent) : getE (str (bodyE x)) = ((itemsE (x.take 20)).map z0, 0) := by
  have h := get_put (l := itemsE (x.take 20)) (by have := items20 x; omega) (fun e he => itemsE_good he) []
  rw [List.append_nil, if_pos rfl] at h
  exact h
theorem body_size (x : List Ent) : (bodyE x).length ≤ 14010 := by
  have h20 := items20 x
  have h1 := itemsB_len (itemsE (x.take 20)) (fun e he => itemsE_good he)
  have h2 := enc_len (n := ((itemsE (x.take 20)).length : Int)) (by omega) (by omega)
  rw [enc_bts, str_size] at h2
  unfold bodyE bytesB
  rw [List.length_append]
  omega
theorem frames_le (ls : List (List Ent)) : (Fp.frames (ls.map bodyE)).length ≤ 14018 * ls.length := by
  induction ls with
  | nil => simp [Fp.frames]
  | cons x t ih =>
    have h1 := body_size x
    have h2 := Fp.frm_len (bodyE x)
    simp only [Fp.frames, List.map_cons, List.flatMap_cons, List.length_append, List.length_cons] at ih ⊢
    omega
end Go.Proofs.YtpihmjdljbienaaGreatDoor.Dw

/- The law's list of lists in memory; a disk that stays while other rows grow. -/
namespace Go.Proofs.YtpihmjdljbienaaGreatDoor.Dw
open Go.RowKit
open B En
set_option linter.unusedVariables false

theorem own_base {w : World} {B B' n size : Nat} {e : TypeId} {v : Value} {xs : List Value} (h : w.ownsRow B' e size v n xs) (hb : B ≤ B') : w.ownsRow B e size v n xs := by
  refine ⟨h.1, ?_⟩
  rcases h.2 with h | ⟨g, c, cur, hv, hg, hr⟩
  · exact .inl h
  · exact .inr ⟨g, c, cur, hv, Nat.le_trans hb hg, hr⟩
/-- a disk stays where its blocks stay -/
theorem D1.move {B db fb room lasts left : Nat} {nm : ByteArray} {data : List UInt8} {cn : Int} {cb : List Int} {off own : Bool} {w w' : World} (h : D1 B db fb nm room data lasts left cn cb off own w)
    (hc : ∀ (g : Nat) (cs : Array Value) (t : TypeId) (fr : Nat × Nat), w.heap[g]? = some (.cells cs t fr) → t = 71 ∨ t = 135 ∨ t = 5 ∨ t = 129 ∨ t = 3 → w'.heap[g]? = w.heap[g]?)
    (hm : ∀ (b : Nat) (l : List (ByteArray × Nat)), MapN w b l → w'.heap[b]? = w.heap[b]?) : D1 B db fb nm room data lasts left cn cb off own w' := by
  obtain ⟨fa, fc, mb, lb, ca, cc, a, c, hd, ho, hm1, hl, hf, hrd, hown, hac, hc9, hrw⟩ := h.ex
  refine ⟨⟨fa, fc, mb, lb, ca, cc, a, c, hd.blk (hc db _ _ _ hd (by simp)), own_same ho (fun g cs fr _ hbk => hc g _ _ _ hbk (by simp)), hm1.blk (hm mb _ hm1), hl.blk (hm lb _ hl), (hc fb _ _ _ hf (by simp)).trans hf, ?_,
    fun h => own_same (hown h) (fun g cs fr _ hbk => hc g _ _ _ hbk (by simp)), hac, hc9, hrw.blk fun g cs fr hbk => hc g _ _ _ hbk (by simp)⟩, h.db_, h.fb_, h.le⟩
  rcases hrd with h | ⟨g, rest, fr, h1, h2⟩
  · exact .inl h
  · exact .inr ⟨g, rest, fr, h1, (hc g _ _ _ h2 (by simp)).trans h2⟩
theorem D1.grown {B db fb room lasts left : Nat} {nm : ByteArray} {data : List UInt8} {cn : Int} {cb : List Int} {off own : Bool} {w w' : World} (h : D1 B db fb nm room data lasts left cn cb off own w)
    {B' n : Nat} {v : Value} {xs : List Value} (k : w.ownsRow B' 33 1 v n xs) (hg : w.grownBy w' v.ownBlock) : D1 B db fb nm room data lasts left cn cb off own w' := by
  refine h.move (fun g cs t fr hgb ht => ?_) (fun b l hb => hg.block b hb.lt (fun e => (hb.neOwn k) e.symm))
  refine hg.block g (lt_of_block hgb) fun e' => ?_
  rcases k.2 with ⟨hv, _⟩ | ⟨g', c', cur, hv, _, hbk, _⟩
  · rw [hv] at e'; cases e'
  · rw [hv] at e'; cases e'
    rw [hgb] at hbk; cases hbk
    revert ht; decide
/-- lists of the law's own, each in a row of its own -/
def AllR (w : World) (B : Nat) (v : Value) (xs : List (List Ent)) : Prop :=
  ∃ sl : List Value, w.ownsRow B 33 1 v xs.length sl ∧ ∀ i, i < xs.length → ∃ p d, sl[i]? = some (.slice p (xs.getD i []).length d) ∧ w.ownsRow B 45 5 (.slice p (xs.getD i []).length d) (xs.getD i []).length (ecells (xs.getD i []))
theorem AllR.nil (w : World) (B : Nat) : AllR w B (.slice none 0 0) [] := ⟨[], World.ownsRow_nil _ _ _ _, fun i hi => by simp at hi⟩
theorem AllR.keeps {w w' : World} {B : Nat} {v : Value} {xs : List (List Ent)} {ts : List TypeId} (h : AllR w B v xs) (k : Keeps ts w w') (h1 : 33 ∉ ts) (h2 : 45 ∉ ts) : AllR w' B v xs := by
  obtain ⟨sl, ho, hi⟩ := h
  exact ⟨sl, own_keeps ho k h1, fun i hl => by
    obtain ⟨p, d, a, b⟩ := hi i hl
    exact ⟨p, d, a, own_keeps b k h2⟩⟩
theorem AllR.below {w w' : World} {B : Nat} {v : Value} {xs : List (List Ent)} (h : AllR w B v xs) (k : Below w.heap.size w w') : AllR w' B v xs := by
  obtain ⟨sl, ho, hi⟩ := h
  exact ⟨sl, own_below ho k, fun i hl => by
    obtain ⟨p, d, a, b⟩ := hi i hl
    exact ⟨p, d, a, own_below b k⟩⟩
theorem infoSl : (Tryz.prog.info? 33).map (fun i => (i.zero, i.size, i.bytes)) = some (some (.slice none 0 0), 1, 24) := by kernel_rfl
/-- the bodies of the first lists -/
def datOf (ls : List (List Ent)) : List UInt8 := Fp.frames (ls.map bodyE)
theorem datOf_snoc (ls : List (List Ent)) (x : List Ent) : datOf (ls ++ [x]) = datOf ls ++ Fp.frm (bodyE x) := by
  unfold datOf; rw [List.map_append, Fp.frames_append]; simp [Fp.frames]
def itm (x : List Ent) : List Ent := itemsE (x.take 20)
end Go.Proofs.YtpihmjdljbienaaGreatDoor.Dw

/- The walk of the law TopRecords. -/
namespace Go.Proofs.YtpihmjdljbienaaGreatDoor.Dw
open Go.RowKit
open B En
set_option linter.unusedVariables false

theorem cell_lt {w : World} {g i : Nat} {v : Value} (h : w.cell? ⟨g, i, none⟩ = some v) : g < w.heap.size := by
  by_cases hh : g < w.heap.size
  · exact hh
  · exfalso
    have hn : w.heap[g]? = none := Array.getElem?_eq_none (by omega)
    simp [World.cell?, hn] at h
/-- behind the first loop: t lists are told, m lists are noted, the bytes are a start of theirs -/
def Wrote (B db fb : Nat) (ls : List (List Ent)) (s8 s9 : Value) (t m : Nat) (w0 wx : World) : Prop :=
  s9 = .int .i64 t ∧ t ≤ m ∧ m ≤ t + 1 ∧ m ≤ ls.length ∧ m ≤ 15 ∧ (∃ p d, s8 = .slice p m d) ∧ AllR wx B s8 ((ls.take m).map itm) ∧ Below B w0 wx ∧
    ∃ L left cn cb off own, (datOf (ls.take t)).length ≤ L ∧ L ≤ (datOf (ls.take m)).length ∧ D1 B db fb nm1 1099511627776 ((datOf (ls.take m)).take L) L left cn cb off own wx

set_option maxHeartbeats 3200000 in
set_option maxRecDepth 100000 in
theorem records_any (la : Option Addr) (ln lcap : Nat) (sl : Nat → Option Addr × Nat × Nat) (ls : List (List Ent)) (w : World) (hrow : Mg.LsRow w la ln sl ls) (hnc : ln ≤ lcap) (hsl : ∀ i, (sl i).2.1 * 56 ≤ 140737488351232) (c0 c1 : Int) (h00 : -9223372036854775808 ≤ c0) (h01 : c0 ≤ 9223372036854775807) (h10 : -9223372036854775808 ≤ c1) (h11 : c1 ≤ 9223372036854775807)
    (ba : Option Addr) (bn bc : Nat) (bz : List Int) (hbl : bz.length = bn) (hbn : bn * 8 ≤ 140737488351232) (hbz : ∀ x ∈ bz, -9223372036854775808 ≤ x ∧ x ≤ 9223372036854775807) (hbr : Row w ba bn (fun i => .int .i64 (bz.getD i 0))) (hbw : ∀ b o, ba = some ⟨b, o, none⟩ → 0 < bn → b < w.heap.size) :
    Calls Tryz.prog 3 #[.slice la ln lcap, .agg #[.int .i64 c0, .int .i64 c1], .slice ba bn bc] w fun e w' => e = .returned (.bool true) ∧ Below w.heap.size w w' := by
  have HR := Lib.hid hrow
  have HBR := Lib.hid hbr
  have HBZ := Lib.hid hbz
  have HSLB := Lib.hid hsl
  have HN := Lib.hid (fun W => new_any 1099511627776 (by decide) W)
  have HS := Lib.hid stirs_any
  obtain ⟨kk, hkk⟩ : ∃ kk : Nat, min ln 15 = kk := ⟨_, rfl⟩
  have hmin : min (ln : Int) (15 : Int) = (kk : Int) := by omega
  have hk1 : kk ≤ ln := by omega
  have hk2 : kk ≤ lcap := by omega
  have hk15 : kk ≤ 15 := by omega
  clear hrow hbr hbz hsl
  have hsz0 : (w.alloc (.cells #[.int .i64 c0, .int .i64 c1] 23)).heap.size = w.heap.size + 1 := Array.size_push ..
  have hK0 : (w.alloc (.cells #[.int .i64 c0, .int .i64 c1] 23)).heap[w.heap.size]? = some (.cells #[.int .i64 c0, .int .i64 c1] 23 (0, 0)) := heap_alloc_new _ _
  have hal := below_alloc (Below.refl w.heap.size w) (.cells #[.int .i64 c0, .int .i64 c1] 23)
  generalize hW0 : w.alloc (.cells #[.int .i64 c0, .int .i64 c1] 23) = W0 at hsz0 hK0 hal
  have HW0 := Lib.hid hW0
  have HK0 := Lib.hid hK0
  have HAL := Lib.hid hal
  have HSZ0 := Lib.hid hsz0
  clear hW0 hK0 hal hsz0
  go_enter Tryz.func3, Tryz.ntmps3
  go_wp2_with fail
  rw [HW0.out]
  refine (HN.out _).mono ?_
  rintro e w1 ⟨db, rfl, hd1, hb1⟩
  have HD1 := Lib.hid hd1
  have HB1 := Lib.hid hb1
  clear hd1 hb1 HN
  go_wp2_with fail
  refine (HS.out _).mono ?_
  rintro e w2 ⟨rfl, hb2⟩
  have HB2 : Hid (Below W0.heap.size W0 w2) := chain HB1.out hb2
  have HWC := Lib.hid (wcreate_any W0.heap.size db 1099511627776 w2 (HD1.out.below hb2) HB2.out.size)
  clear hb2 HS HB1 HD1
  go_wp2_with fail
  refine HWC.out.mono ?_
  rintro e w3 ⟨rfl, ⟨fb, h3⟩, hb3, _⟩
  have HB3 : Hid (Below W0.heap.size W0 w3) := HB2.out.trans hb3
  have hk3 := (HB3.out.block w.heap.size (lt_of_block HK0.out)).trans HK0.out
  have k0 := cell_of_row w3 w.heap.size 0 _ _ _ hk3
  have k1 := cell_of_row w3 w.heap.size 1 _ _ _ hk3
  simp at k0 k1
  have HCU := Lib.hid (cut_any W0.heap.size db fb nm1 1099511627776 [] 0 false true w3 h3 HB3.out.size c0 c1 h00 h01 ba bn bc bz hbl hbn (HBR.out.below (HAL.out.trans (HB3.out.mono HAL.out.size))))
  clear h3 hb3 HWC HB2 hk3
  go_wp2_with fail
  refine HCU.out.mono ?_
  rintro e w4 ⟨rfl, h4, hb4, _⟩
  have HB4 : Hid (Below W0.heap.size W0 w4) := HB3.out.trans hb4
  have HD4 := Lib.hid h4
  clear h4 hb4 HCU HB3 k0 k1
  go_upto_block 0 with fail
  have HLN : Hid (ls.length = ln) := HR.out.1
  go_cut [8, 9] (fun s8 s9 wx => ∃ t m, Wrote W0.heap.size db fb ls s8 s9 t m W0 wx)
  case first =>
    go_wp2_with fail
    go_loopw [8, 9, 46] (fun v x i wr => ∃ j : Nat, i = .int .i64 j ∧ x = .int .i64 j ∧ j ≤ kk ∧ Hid (AllR wr W0.heap.size v ((ls.take j).map itm)) ∧ Hid (Below W0.heap.size W0 wr) ∧
      ∃ left, Hid (left ≤ 9223372036854775807) ∧ Hid (D1 W0.heap.size db fb nm1 1099511627776 (datOf (ls.take j)) (datOf (ls.take j)).length left c1 bz false true wr)) (fun _ _ i _ => kk - (intOf i).toNat)
    case atStart => exact ⟨0, rfl, rfl, by omega, AllR.nil _ _, HB4.out, _, (by show (max 1 c0).toNat ≤ _; omega), HD4.out⟩
    case round =>
      obtain ⟨j, rfl, rfl, hj, hall, hbel, left, hleft, hD⟩ := hrel
      by_cases hlt : j < kk
      · obtain ⟨ab, off, rfl, hab, hac⟩ := (HR.out.2.1.below (HAL.out.trans (hbel.out.mono HAL.out.size))).at (by omega)
        have hc0 := hac j (by omega)
        obtain ⟨hxl, hxc, hxr⟩ := HR.out.2.2 j (by omega)
        have HXR := Lib.hid (hxr.below (HAL.out.trans (hbel.out.mono HAL.out.size)))
        have hxb := HSLB.out j
        have HTS := Lib.hid (take_snoc ls j [] (by rw [HLN.out]; omega))
        generalize ls.getD j [] = x at hxl HXR HTS
        generalize sl j = t at hc0 hxl hxc HXR hxb
        obtain ⟨xa, xn, xc⟩ := t
        simp only at hc0 hxl hxc HXR hxb
        have HIT := Lib.hid (items_any xa xn xc x hxl hxc hxb 20 (by decide) wr HXR.out)
        have i1 : (0 : Int) ≤ (j : Int) := by omega
        have i2 : (j : Int) < (kk : Int) := by omega
        clear hac hxr
        go_wp2_with fail
        refine HIT.out.mono ?_
        rintro e w5 ⟨p, d, rfl, ho5, hb5⟩
        have hE5 := (own_erow ho5).2.2
        have HBP := Lib.hid (Bw.bput_any p (itm x).length d (itm x) rfl (fun e he => (itemsE_good he).2) w5 hE5)
        have hbp : putE (itm x) = (str (bodyE x), 0) := body_put x
        rw [hbp] at HBP
        have HO5 := Lib.hid ho5
        have HB5 := Lib.hid hb5
        have hB5 : Below W0.heap.size W0 w5 := hbel.out.trans (hb5.mono hbel.out.size)
        have hD5 := hD.out.below hb5
        obtain ⟨sls, hoA, hiA⟩ := hall.out.below hb5
        have hlA : ((ls.take j).map itm).length = j := by rw [List.length_map, List.length_take]; have := HLN.out; omega
        rw [hlA] at hoA hiA
        obtain ⟨p1, d1, rfl, _⟩ := own_form hoA
        have HOA := Lib.hid hoA
        have HIA := Lib.hid hiA
        have HB5W := Lib.hid hB5
        have HD5 := Lib.hid hD5
        clear ho5 hb5 hE5 hbp HIT hc0 hB5 hD5 hoA hiA hlA hall
        rw [show itemsE (List.take 20 x) = itm x from rfl]
        go_wp2_with fail
        refine HBP.out.mono ?_
        rintro e w6 ⟨rfl, hb6⟩
        have hB6 : Below W0.heap.size W0 w6 := HB5W.out.trans (hb6.mono HB5W.out.size)
        have hD6 := HD5.out.below hb6
        have hO6 := own_below HOA.out hb6
        have hX6 : w6.ownsRow W0.heap.size 45 5 (.slice p (itm x).length d) (itm x).length (ecells (itm x)) := own_base (own_below HO5.out hb6) hbel.out.size
        have hI6 : ∀ i, i < j → ∃ p d, sls[i]? = some (.slice p (((ls.take j).map itm).getD i []).length d) ∧ w6.ownsRow W0.heap.size 45 5 (.slice p (((ls.take j).map itm).getD i []).length d) (((ls.take j).map itm).getD i []).length (ecells (((ls.take j).map itm).getD i [])) := fun i hi => by
          obtain ⟨p, d, a, b⟩ := HIA.out i hi
          exact ⟨p, d, a, own_below b hb6⟩
        have HB6 := Lib.hid hB6
        have HD6 := Lib.hid hD6
        have HO6 := Lib.hid hO6
        have HX6 := Lib.hid hX6
        have HI6 := Lib.hid hI6
        clear hb6 hB6 hD6 hO6 hX6 hI6 HBP HOA HIA HO5 HB5 HB5W HD5
        go_wp2_with (at_builtin; refine wpList_push rfl _ _ 31 rfl Tryz.underlying31 infoSl rfl (by decide) rfl #[.slice p (itm x).length d] rfl ?c1 rfl HO6.out ?c2 ?c3 ?c4 ?_)
        case c1 => simp [Value.oneCell']
        case c2 => exact HB6.out.size
        case c3 => unfold maxLen; omega
        case c4 => omega
        intro a' cap' w7 hown7 hgr7 hb7
        have hD7 := HD6.out.grown HO6.out hgr7
        have hk7 : Keeps [33] w6 w7 := Keeps.grown (ts := [33]) HO6.out (by simp) hgr7
        have hB7 := HB6.out.trans hb7
        have hlj : (ls.take j).length = j := by rw [List.length_take]; have := HLN.out; omega
        have hlm : ((ls.take (j + 1)).map itm).length = j + 1 := by rw [List.length_map, List.length_take]; have := HLN.out; omega
        have hA7 : AllR w7 W0.heap.size (.slice a' (j + 1) cap') ((ls.take (j + 1)).map itm) := by
          refine ⟨sls ++ [.slice p (itm x).length d], ?_, fun i hi => ?_⟩
          · rw [hlm]; exact hown7
          · rw [hlm] at hi
            have hsl : sls.length = j := by simpa using HO6.out.1
            by_cases hij : i < j
            · obtain ⟨p0, d0, e0, o0⟩ := HI6.out i hij
              have hg : ((ls.take (j + 1)).map itm).getD i [] = ((ls.take j).map itm).getD i [] := by
                rw [HTS.out, List.map_append, List.getD_eq_getElem?_getD, List.getD_eq_getElem?_getD, List.getElem?_append_left (by rw [List.length_map, hlj]; exact hij)]
              rw [hg]
              exact ⟨p0, d0, by rw [List.getElem?_append_left (by omega)]; exact e0, own_keeps o0 hk7 (by decide)⟩
            · obtain rfl : i = j := by omega
              have hg : ((ls.take (i + 1)).map itm).getD i [] = itm x := by
                rw [HTS.out, List.map_append, List.getD_eq_getElem?_getD, List.getElem?_append_right (by rw [List.length_map, hlj]; exact Nat.le_refl _), List.length_map, hlj, Nat.sub_self]; rfl
              rw [hg]
              exact ⟨p, d, by rw [List.getElem?_append_right (by omega), hsl, Nat.sub_self]; rfl, own_keeps HX6.out hk7 (by decide)⟩
        have hdl := frames_le (ls.take j)
        have hbs := body_size x
        have hst : (str (bodyE x)).data.toList = bodyE x := by simp [str]
        have hsz : (str (bodyE x)).size = (bodyE x).length := str_size _
        have hfl : (datOf (ls.take j)).length = (Fp.frames ((ls.take j).map bodyE)).length := rfl
        have hsn : datOf (ls.take (j + 1)) = datOf (ls.take j) ++ Fp.frm (bodyE x) := by rw [HTS.out]; exact datOf_snoc _ _
        have HWA := Lib.hid (wappend_any W0.heap.size db fb 1099511627776 (datOf (ls.take j)) left c1 bz (str (bodyE x)) w7 hD7 hB7.size (by omega) (by omega) (by omega) (by omega) hleft.out h10 h11 (by omega) HBZ.out)
        rw [hst] at HWA
        have HSN := Lib.hid hsn
        have HA7 := Lib.hid hA7
        have HB7 := Lib.hid hB7
        clear hown7 hgr7 hb7 hD7 hk7 hB7 hlj hlm hA7 hdl hbs hst hsz hfl hsn HD6 HO6 HX6 HI6 HTS HXR hD
        go_wp2_with fail
        refine HWA.out.mono ?_
        rintro e w8 ⟨r, rfl, h8, hb8, hk8⟩
        have HA8 : Hid (AllR w8 W0.heap.size (.slice a' (j + 1) cap') ((ls.take (j + 1)).map itm)) := HA7.out.keeps hk8 (by decide) (by decide)
        have HB8 : Hid (Below W0.heap.size W0 w8) := HB7.out.trans hb8
        clear hb8 hk8 HWA
        rw [← HSN.out] at h8
        rcases h8 with ⟨rfl, _, _, h8⟩ | ⟨rfl, _, L, hL1, hL2, h8⟩
        · have HD8 := Lib.hid h8
          clear h8
          go_wp2_with fail
          go_roundw
          case rel => exact ⟨j + 1, by go_num, by go_num, by omega, HA8.out, HB8.out, _, (by have := hleft.out; show less (less left) ≤ _; unfold less; omega), HD8.out⟩
          case measure => simp [intOf]; omega
        · have HL1 := Lib.hid hL1
          have HL2 := Lib.hid hL2
          have HD8 := Lib.hid h8
          clear h8 hL1 hL2
          go_wp2_with fail
          go_meet
          refine ⟨j, j + 1, rfl, by omega, by omega, by have := HLN.out; omega, by omega, ⟨_, _, rfl⟩, HA8.out, HB8.out, L, 0, 0, [], true, false, HL1.out, HL2.out, HD8.out⟩
      · obtain rfl : j = kk := by omega
        have hlA : ((ls.take j).map itm).length = j := by rw [List.length_map, List.length_take]; have := HLN.out; omega
        obtain ⟨slsx, hox, _⟩ := hall.out
        obtain ⟨p1, d1, rfl, _⟩ := own_form hox
        clear hox
        have HD8 : Hid (D1 W0.heap.size db fb nm1 1099511627776 ((datOf (ls.take j)).take (datOf (ls.take j)).length) (datOf (ls.take j)).length left c1 bz false true wr) := by rw [List.take_length]; exact hD.out
        go_wp2_with fail
        go_meet
        exact ⟨j, j, rfl, by omega, by omega, by have := HLN.out; omega, by omega, ⟨p1, d1, by rw [hlA]⟩, hall.out, hbel.out, _, left, c1, bz, false, true, Nat.le_refl _, Nat.le_refl _, HD8.out⟩
  case rest =>
  obtain ⟨t, m, rfl, htm, hmt, hml, hm5, ⟨p8, d8, rfl⟩, hall, hbel, L, left, cn, cb, off, own, hL1, hL2, hD⟩ := hcut
  have hkc := (hbel.block w.heap.size (lt_of_block HK0.out)).trans HK0.out
  have k1 := cell_of_row wc w.heap.size 1 _ _ _ hkc
  simp at k1
  have hm15 : (datOf (ls.take m)).length ≤ 14018 * m := by
    have h1 := frames_le (ls.take m)
    have h2 : (ls.take m).length ≤ m := by rw [List.length_take]; omega
    have h3 : (datOf (ls.take m)).length = (Fp.frames ((ls.take m).map bodyE)).length := rfl
    omega
  have hlL : ((datOf (ls.take m)).take L).length = L := by rw [List.length_take]; omega
  have HCR := Lib.hid (crash_any W0.heap.size db fb nm1 1099511627776 ((datOf (ls.take m)).take L) L left cn cb off own wc hD hbel.size (by omega) c1 h10 h11 ba bn bc bz hbl (by omega) HBZ.out
    (HBR.out.below (HAL.out.trans (hbel.mono HAL.out.size))) (fun b o h1 h2 => by
      have h3 := hbw b o h1 h2
      have h4 := hD.db_
      have h5 := hD.fb_
      have h6 := HAL.out.size
      exact ⟨by omega, by omega⟩))
  have HALL := Lib.hid hall
  have HBEL := Lib.hid hbel
  have HL1 := Lib.hid hL1
  have HL2 := Lib.hid hL2
  have HLL := Lib.hid hlL
  have HM15 := Lib.hid hm15
  clear hall hbel hD hkc hm15 hlL hL1 hL2 HD4 HB4
  go_wp2_with fail
  refine HCR.out.mono ?_
  rintro e w2 ⟨rfl, ⟨keep, hk, hD2⟩, hb2, hks2⟩
  rw [HLL.out] at hk
  obtain rfl : keep = 0 := by omega
  have HA2 : Hid (AllR w2 W0.heap.size (.slice p8 m d8) ((ls.take m).map itm)) := HALL.out.keeps hks2 (by decide) (by decide)
  have HB2 : Hid (Below W0.heap.size W0 w2) := HBEL.out.trans hb2
  have e0 : ((datOf (ls.take m)).take L).take (L + 0) = (Fp.frames ((ls.take m).map bodyE)).take L := by rw [Nat.add_zero, List.take_take, Nat.min_self]; rfl
  rw [e0] at hD2
  have hcutF := Fp.allF_cut ((ls.take m).map bodyE) L (fun b hb => by
    rw [List.mem_map] at hb
    obtain ⟨x, _, rfl⟩ := hb
    have := body_size x; omega) HL2.out
  have hq1 : t ≤ Fp.wholeN ((ls.take m).map bodyE) L := by
    rcases Nat.eq_zero_or_pos t with h0 | h0
    · omega
    · have h1 := (Fp.end_iff ((ls.take m).map bodyE) L (t - 1) (by rw [List.length_map, List.length_take]; omega)).1 (by
        unfold Fp.endN
        rw [← List.map_take, List.take_take, show min (t - 1 + 1) m = t from by omega]
        exact HL1.out)
      omega
  have hq2 := Fp.wholeN_le ((ls.take m).map bodyE) L
  rw [List.length_map, List.length_take, Nat.min_eq_left hml] at hq2
  generalize Fp.wholeN ((ls.take m).map bodyE) L = q at hcutF hq1 hq2
  have HRD := Lib.hid (wread_any W0.heap.size db fb 1099511627776 _ _ _ _ _ _ w2 hD2 (by rw [List.length_take]; have := HL2.out; have := HM15.out; omega) _ _ _ hcutF (by split <;> simp))
  have hbl2 : ((((ls.take m).map bodyE).take q).map str).length = q := by rw [List.length_map, List.length_take, List.length_map, List.length_take]; omega
  rw [hbl2] at HRD
  clear hb2 hks2 hD2 hk HCR HALL HBEL e0 hcutF hbl2 k1
  go_wp2_with fail
  refine HRD.out.mono ?_
  rintro e w3 ⟨ra, rcap, rfl, hr3, hb3⟩
  have HR3 := Lib.hid hr3
  have HA3 : Hid (AllR w3 W0.heap.size (.slice p8 m d8) ((ls.take m).map itm)) := HA2.out.below hb3
  have HB3 : Hid (Below W0.heap.size W0 w3) := HB2.out.trans (hb3.mono HB2.out.size)
  clear hr3 hb3 HRD HA2 HB2
  have hcell : ∀ W, AllR W W0.heap.size (.slice p8 m d8) ((ls.take m).map itm) → ∀ i, i < m → ∃ g p d, p8 = some ⟨g, 0, none⟩ ∧ W.cell? ⟨g, i, none⟩ = some (.slice p (itm (ls.getD i [])).length d) ∧ W.ownsRow W0.heap.size 45 5 (.slice p (itm (ls.getD i [])).length d) (itm (ls.getD i [])).length (ecells (itm (ls.getD i []))) := by
    intro W hW i hi
    obtain ⟨slx, ho, hI⟩ := hW
    have hlm : ((ls.take m).map itm).length = m := by rw [List.length_map, List.length_take]; omega
    rw [hlm] at ho hI
    obtain ⟨p, d, e1, o1⟩ := hI i hi
    have hg : ((ls.take m).map itm).getD i [] = itm (ls.getD i []) := by
      rw [List.getD_eq_getElem?_getD, List.getElem?_map, List.getElem?_take, if_pos hi, List.getD_eq_getElem?_getD, List.getElem?_eq_getElem (by omega)]; rfl
    rw [hg] at e1 o1
    rcases ho.2 with ⟨hv, h0⟩ | ⟨g, cap', cur, hv, _⟩
    · omega
    · cases hv
      have h := ho.cells (g := g) rfl i _ e1
      rw [Addr.add_lit, Nat.zero_add] at h
      exact ⟨g, p, d, rfl, h, o1⟩
  have HCELL := Lib.hid hcell
  have HML : Hid (m ≤ ls.length) := hml
  generalize ((if (Fp.frames (List.take q (List.map bodyE (List.take m ls)))).length = L then (10 : Int) else 3) == 3) = bl3
  have d1 : decide ((q : Int) < (t : Int)) = false := decide_eq_false (by omega)
  have d2 : decide ((m : Int) < (q : Int)) = false := decide_eq_false (by omega)
  have d3 : ¬ (q : Int) < (t : Int) := by omega
  have d4 : ¬ (m : Int) < (q : Int) := by omega
  have HBG := Lib.hid (fun i => Bw.bget_any (str (bodyE (ls.getD i []))) (by rw [str_size]; have := body_size (ls.getD i []); omega))
  have HSTR : Hid (∀ i, i < q → ((((ls.take m).map bodyE).take q).map str).getD i ByteArray.empty = str (bodyE (ls.getD i []))) := fun i hi => by
    rw [List.getD_eq_getElem?_getD, List.getElem?_map, List.getElem?_take, if_pos hi, List.getElem?_map, List.getElem?_take, if_pos (by omega), List.getD_eq_getElem?_getD, List.getElem?_eq_getElem (by omega)]; rfl
  clear hcell HL1 HL2 HLL HM15 hq1
  go_wp2_with fail
  go_loopw [101] (fun si wr => ∃ i : Nat, si = .int .i64 i ∧ i ≤ q ∧ Below w3.heap.size w3 wr) (fun si _ => q - (intOf si).toNat)
  case atStart => exact ⟨0, rfl, by omega, Below.refl _ _⟩
  case round =>
    obtain ⟨i, rfl, hi, hbr3⟩ := hrel
    by_cases hlt : i < q
    · obtain ⟨rb, ro, rfl, hrb, hrc⟩ := (HR3.out.below hbr3).at (by omega)
      have hs0 := hrc i hlt
      rw [HSTR.out i hlt] at hs0
      have HG1 := Lib.hid (HBG.out i wr)
      rw [body_get] at HG1
      have HCi : Hid (∀ W, AllR W W0.heap.size (.slice p8 m d8) ((ls.take m).map itm) → ∃ g p d, p8 = some ⟨g, 0, none⟩ ∧ W.cell? ⟨g, i, none⟩ = some (.slice p (itm (ls.getD i [])).length d) ∧ W.ownsRow W0.heap.size 45 5 (.slice p (itm (ls.getD i [])).length d) (itm (ls.getD i [])).length (ecells (itm (ls.getD i [])))) := fun W hW => HCELL.out W hW i (by omega)
      have hL20 := items20 (ls.getD i [])
      change (itm (ls.getD i [])).length ≤ 20 at hL20
      change Hid (Calls Tryz.prog _ _ _ (Bw.GotD wr ((itm (ls.getD i [])).map z0, 0))) at HG1
      generalize ls.getD i [] = x at hs0 HG1 HCi hL20
      generalize itm x = l at HG1 HCi hL20
      have HA4 := Lib.hid (HA3.out.below hbr3)
      have i1 : (0 : Int) ≤ (i : Int) := by omega
      have i2 : (i : Int) < (q : Int) := by omega
      have i3 : (i : Int) < (m : Int) := by omega
      have HB4 := Lib.hid hbr3
      clear hrc
      go_wp2_with fail
      refine HG1.out.mono ?_
      rintro e w5 ⟨ga, gc, rfl, ho5, hb5⟩
      simp only [List.length_map] at ho5 ⊢
      have HA5 := Lib.hid (HA4.out.below hb5)
      obtain ⟨g, p, d, rfl, hc5, hp5⟩ := HCi.out w5 HA5.out
      have HO5 := Lib.hid ho5
      have HP5 := Lib.hid hp5
      have hgs : g < w5.heap.size := cell_lt hc5
      have HC5 := Lib.hid hc5
      have HB5 := Lib.hid (chain HB4.out hb5)
      have nn : ((l.length : Int) != (l.length : Int)) = false := by simp
      clear ho5 hp5 hb5 HG1 hs0 HCi HCELL
      go_wp2_with fail
      go_loopw [125] (fun sk wr => ∃ k : Nat, sk = .int .i64 k ∧ k ≤ l.length ∧ Below w5.heap.size w5 wr) (fun sk _ => l.length - (intOf sk).toNat)
      case atStart => exact ⟨0, rfl, by omega, Below.refl _ _⟩
      case round =>
        obtain ⟨k, rfl, hk, hbk⟩ := hrel
        by_cases hlk : k < l.length
        · have hcA := (hbk.cell (p := ⟨g, i, none⟩) hgs).trans HC5.out
          obtain ⟨eb, eo, rfl, heb, hec⟩ := (own_erow (own_below HP5.out hbk)).2.2.at (by omega)
          obtain ⟨gb, go, rfl, hgb, hgc⟩ := (own_erow (own_below HO5.out hbk)).2.2.at (by omega)
          obtain ⟨h0, h1, h2, h3, h4⟩ := hec k hlk
          obtain ⟨b0, b1, b2, b3, b4⟩ := hgc k hlk
          have hz : (l.map z0).getD k ent0 = z0 (l.getD k ent0) := by
            rw [List.getD_eq_getElem?_getD, List.getElem?_map, List.getD_eq_getElem?_getD, List.getElem?_eq_getElem hlk]; rfl
          rw [hz] at b0 b1 b2 b3 b4
          generalize l.getD k ent0 = ex at h0 h1 h2 h3 h4 b0 b1 b2 b3 b4
          obtain ⟨ky, qq, gg, vv, uu⟩ := ex
          simp only [z0] at h0 h1 h2 h3 h4 b0 b1 b2 b3 b4
          have hne : ∀ W, (binOp .neq 45 (.agg #[.string ky, .int .i64 0, .bool gg, .string vv, .int .i64 uu]) (.agg #[.string ky, .int .i64 0, .bool gg, .string vv, .int .i64 uu])).run Tryz.prog W = .ok (.bool false) W := fun W => by
            rw [Ew.neq_api, Ew.eqE_refl]; rfl
          have j1 : (0 : Int) ≤ (k : Int) := by omega
          have j2 : (k : Int) < (l.length : Int) := by omega
          have HB0 := Lib.hid (And.intro b0 (And.intro b1 (And.intro b2 (And.intro b3 b4))))
          clear hz hec hgc b0 b1 b2 b3 b4
          go_upto_region 36 with fail
          have hnx := heap_alloc_new wr (.cells #[.string ky, .int .i64 0, .bool gg, .string vv, .int .i64 uu] 45)
          have hbz := below_alloc (Below.refl wr.heap.size wr) (.cells #[.string ky, .int .i64 0, .bool gg, .string vv, .int .i64 uu] 45)
          obtain ⟨b0, b1, b2, b3, b4⟩ := HB0.out
          have H10 : Hid ((((wr.alloc (.cells #[.string ky, .int .i64 0, .bool gg, .string vv, .int .i64 uu] 45)).cell? ⟨gb, go + k * 5, none⟩ = some (.string ky) ∧ (wr.alloc (.cells #[.string ky, .int .i64 0, .bool gg, .string vv, .int .i64 uu] 45)).cell? ⟨gb, go + k * 5 + 1, none⟩ = some (.int .i64 0) ∧ (wr.alloc (.cells #[.string ky, .int .i64 0, .bool gg, .string vv, .int .i64 uu] 45)).cell? ⟨gb, go + k * 5 + 2, none⟩ = some (.bool gg) ∧ (wr.alloc (.cells #[.string ky, .int .i64 0, .bool gg, .string vv, .int .i64 uu] 45)).cell? ⟨gb, go + k * 5 + 3, none⟩ = some (.string vv) ∧ (wr.alloc (.cells #[.string ky, .int .i64 0, .bool gg, .string vv, .int .i64 uu] 45)).cell? ⟨gb, go + k * 5 + 4, none⟩ = some (.int .i64 uu)) ∧
              ((wr.alloc (.cells #[.string ky, .int .i64 0, .bool gg, .string vv, .int .i64 uu] 45)).cell? ⟨wr.heap.size, 0, none⟩ = some (.string ky) ∧ (wr.alloc (.cells #[.string ky, .int .i64 0, .bool gg, .string vv, .int .i64 uu] 45)).cell? ⟨wr.heap.size, 1, none⟩ = some (.int .i64 0) ∧ (wr.alloc (.cells #[.string ky, .int .i64 0, .bool gg, .string vv, .int .i64 uu] 45)).cell? ⟨wr.heap.size, 2, none⟩ = some (.bool gg) ∧ (wr.alloc (.cells #[.string ky, .int .i64 0, .bool gg, .string vv, .int .i64 uu] 45)).cell? ⟨wr.heap.size, 3, none⟩ = some (.string vv) ∧ (wr.alloc (.cells #[.string ky, .int .i64 0, .bool gg, .string vv, .int .i64 uu] 45)).cell? ⟨wr.heap.size, 4, none⟩ = some (.int .i64 uu)))) :=
            ⟨⟨(hbz.cell (p := ⟨gb, go + k * 5, none⟩) hgb).trans b0, (hbz.cell (p := ⟨gb, go + k * 5 + 1, none⟩) hgb).trans b1, (hbz.cell (p := ⟨gb, go + k * 5 + 2, none⟩) hgb).trans b2, (hbz.cell (p := ⟨gb, go + k * 5 + 3, none⟩) hgb).trans b3, (hbz.cell (p := ⟨gb, go + k * 5 + 4, none⟩) hgb).trans b4⟩, cells5 hnx⟩
          have HBZ6 := Lib.hid (hbk.trans (hbz.mono hbk.size))
          generalize hbn0 : wr.heap.size = bw at H10 ⊢
          generalize wr.alloc (.cells #[.string ky, .int .i64 0, .bool gg, .string vv, .int .i64 uu] 45) = W6 at H10 HBZ6 ⊢
          clear b0 b1 b2 b3 b4 hnx hbz h0 h1 h2 h3 h4 hcA hbk HB0 hbn0
          go_region_held3 (fun w' => (w'.cell? ⟨gb, go + k * 5, none⟩ = some (.string ky) ∧ w'.cell? ⟨gb, go + k * 5 + 1, none⟩ = some (.int .i64 0) ∧ w'.cell? ⟨gb, go + k * 5 + 2, none⟩ = some (.bool gg) ∧ w'.cell? ⟨gb, go + k * 5 + 3, none⟩ = some (.string vv) ∧ w'.cell? ⟨gb, go + k * 5 + 4, none⟩ = some (.int .i64 uu)) ∧
              (w'.cell? ⟨bw, 0, none⟩ = some (.string ky) ∧ w'.cell? ⟨bw, 1, none⟩ = some (.int .i64 0) ∧ w'.cell? ⟨bw, 2, none⟩ = some (.bool gg) ∧ w'.cell? ⟨bw, 3, none⟩ = some (.string vv) ∧ w'.cell? ⟨bw, 4, none⟩ = some (.int .i64 uu)))
            (first | exact H10.out) (first | fail)
          all_goals
            go_wp2_with fail
            go_roundw
            case rel => exact ⟨k + 1, by go_num, by omega, HBZ6.out.drew⟩
            case measure => simp [intOf]; omega
        · obtain rfl : k = l.length := by omega
          go_wp2_with fail
          go_roundw
          case rel => exact ⟨i + 1, by go_num, by omega, HB5.out.trans (hbk.mono HB5.out.size)⟩
          case measure => simp [intOf]; omega
    · obtain rfl : i = q := by omega
      go_wp2_with fail
      go_ret
      have := HB3.out.size
      exact ⟨rfl, HAL.out.trans (HB3.out.mono HAL.out.size |>.trans (hbr3.mono (by have := HAL.out.size; omega)))⟩
end Go.Proofs.YtpihmjdljbienaaGreatDoor.Dw
