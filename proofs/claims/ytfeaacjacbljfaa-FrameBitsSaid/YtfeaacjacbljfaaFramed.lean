/- The walk of the laws' own function 'framed'. -/
import Derived.Test.YtfeaacjacbljfaaFrameA
namespace Go.Proofs.Ytfeaacjacbljfaa.Fw
open Go.RowKit
open Fp B
set_option linter.unusedVariables false

theorem infoInt : (Try.prog.info? 3).map (fun i => (i.zero, i.size, i.bytes)) = some (some (.int .i64 0), 1, 8) := by kernel_rfl

def Framed (w : World) (bs : List (List UInt8)) (e : Ending) (w' : World) : Prop :=
  ∃ ea ec oa oc, e = .returned (.tuple #[.string (str (frames bs)), .slice ea bs.length ec, .slice oa bs.length oc]) ∧ Row w' ea bs.length (fun i => .int .i64 (endN bs i)) ∧
    Row w' oa bs.length (fun i => .string (str (bs.getD i []))) ∧ Below w.heap.size w w'

set_option maxHeartbeats 800000 in
set_option maxRecDepth 100000 in
theorem framed_any (a : Option Addr) (n cap : Nat) (ss : List ByteArray) (hz : ss.length = n) (hn : n ≤ cap) (hm : cap ≤ 9223372036854775807) (hsz : ∀ s ∈ ss, s.size ≤ 9223372036854775807) (w : World)
    (hrow : Row w a n (fun i => .string (ss.getD i ByteArray.empty))) :
    Calls Try.prog 30 #[.slice a n cap] w (Framed w (cutB ss)) := by
  have hcl := cutB_len ss
  have hce := cutB_le ss
  have hcg := cutB_get ss
  rw [hz] at hcl hcg
  have HR := Lib.hid hrow
  have HSZ := Lib.hid hsz
  have HZ := Lib.hid hz
  have HCG := Lib.hid hcg
  have HCE := Lib.hid hce
  have HCL := Lib.hid hcl
  generalize cutB ss = bs at HCL HCG HCE ⊢
  clear hrow hsz hcg hce hcl hz
  by_cases h20 : n ≤ 20
  · have hML : bs.length = n := by rw [HCL.out]; omega
    have HML := Lib.hid hML
    have hfl : ∀ k, (frames (bs.take k)).length ≤ 40160 := fun k => by
      have h1 := frames_len (bs.take k) (fun b hb => HCE.out b (List.mem_of_mem_take hb))
      have h2 : (bs.take k).length ≤ bs.length := by rw [List.length_take]; omega
      omega
    have HFL := Lib.hid hfl
    clear hML hfl
    go_enter Try.func30, Try.ntmps30
    go_wp2_with fail
    go_loopw [5, 6, 7, 18] (fun x ev ov i wr => ∃ k : Nat, i = .int .i64 k ∧ k ≤ n ∧ x = .string (str (frames (bs.take k))) ∧ wr.ownsRow w.heap.size 3 1 ev k ((List.range k).map fun j => Value.int .i64 (endN bs j)) ∧
      wr.ownsRow w.heap.size 9 1 ov k ((bs.take k).map fun b => Value.string (str b)) ∧ Below w.heap.size w wr) (fun _ _ _ i _ => n - (intOf i).toNat)
    case atStart => exact ⟨0, rfl, by omega, rfl, World.ownsRow_nil _ _ _ _, World.ownsRow_nil _ _ _ _, Below.refl _ _⟩
    case round =>
      obtain ⟨k, rfl, hk, rfl, hoe, hoo, hbel⟩ := hrel
      by_cases hlt : k < n
      · obtain ⟨b, off, rfl, hbw, hc⟩ := HR.out.at (by omega)
        have hck : wr.cell? ⟨b, off + k, none⟩ = some (.string (ss.getD k ByteArray.empty)) := (hbel.cell (p := ⟨b, off + k, none⟩) hbw).trans (hc k (by omega))
        have hkb : k < bs.length := by have := HML.out; omega
        have hget := HCG.out k (by omega)
        have hsl : (ss.getD k ByteArray.empty).size ≤ 9223372036854775807 := HSZ.out _ (by
          have hl : k < ss.length := by have := HZ.out; omega
          rw [List.getD_eq_getElem?_getD, List.getElem?_eq_getElem hl]; simp)
        have hbl : (bs.getD k []).length ≤ 2000 := HCE.out _ (by rw [List.getD_eq_getElem?_getD, List.getElem?_eq_getElem hkb]; simp)
        have hft := frames_take bs k hkb
        have hen : endN bs k = (frames (bs.take k)).length + (8 + (bs.getD k []).length) := by unfold endN; rw [hft, List.length_append, frm_len]
        have hl40 := HFL.out k
        have htk : (bs.take (k + 1)).map (fun b => Value.string (str b)) = (bs.take k).map (fun b => Value.string (str b)) ++ [.string (str (bs.getD k []))] := by
          rw [List.take_succ_eq_append_getElem hkb]; simp only [List.map_append, List.map_cons, List.map_nil, List.getD_eq_getElem?_getD, List.getElem?_eq_getElem hkb, Option.getD_some]
        have HTK := Lib.hid htk
        have HFT := Lib.hid hft
        have HEN := Lib.hid hen
        obtain ⟨sk, hsk⟩ : ∃ sk, sk = ss.getD k ByteArray.empty := ⟨_, rfl⟩
        rw [← hsk] at hck hsl hget
        obtain ⟨bk, hbk⟩ : ∃ bk, bk = bs.getD k [] := ⟨_, rfl⟩
        rw [← hbk] at hget hbl
        have HBK := Lib.hid hbk
        have hput := put_ok (str bk) (by rw [str_size]; omega)
        rw [toList_str] at hput
        have HP := Lib.hid hput
        have hfz : (str (frm bk)).size = 8 + bk.length := by rw [str_size, frm_len]
        have hsz0 : (str (frames (bs.take k))).size ≤ 40160 := by rw [str_size]; exact hl40
        have hsz1 : ((str (frames (bs.take k)) ++ str (frm bk)).size : Int) = (endN bs k : Nat) := by rw [ByteArray.size_append, str_size, hfz, HEN.out, ← HBK.out]
        have HS1 := Lib.hid hsz1
        have hes : endN bs k ≤ 50000 := by rw [HEN.out, ← HBK.out]; omega
        have hee : (endN bs k : Int) = ((str (frames (bs.take k))).size : Int) + (8 + (bk.length : Int)) := by rw [HEN.out, ← HBK.out, str_size]; omega
        have HEE := Lib.hid hee
        have h2000 : (sk.size ≤ 2000 ∧ sk.extract 0 sk.size = str bk) ∨ (2000 < sk.size ∧ sk.extract 0 2000 = str bk) := by
          by_cases h : sk.size ≤ 2000
          · refine .inl ⟨h, ?_⟩
            rw [extract0, hget]
            congr 1
            rw [List.take_of_length_le (by simp), List.take_of_length_le (by simpa using h)]
          · exact .inr ⟨by omega, by rw [extract0, hget]⟩
        clear hc htk hft hen hsk hbk hput hget hsz1 hee
        rcases h2000 with ⟨h2, hx⟩ | ⟨h2, hx⟩
        all_goals
          go_wp2_with fail
          refine (HP.out _).mono ?_
          rintro e w1 ⟨rfl, hb1⟩
          go_wp2_with (at_builtin; refine wpList_push rfl _ _ 41 rfl Try.underlying41 infoInt rfl (by decide) rfl _ rfl ?c1 rfl (own_below hoe hb1) ?c2 ?c3 ?c4 ?_)
          case c1 => rfl
          case c2 => have := hbel.size; have := hb1.size; omega
          case c3 => unfold maxLen; omega
          case c4 => omega
          intro a' cap' w2 hoe2 hg2 hb2
          have hoo2 := own_other (own_below hoo hb1) (own_below hoe hb1) (by decide) hg2
          have hb4 := (hbel.trans (hb1.mono hbel.size)).trans hb2
          clear hoe hoo hg2 hb1 hb2
          go_wp2_with (at_builtin; refine wpList_push rfl _ _ 35 rfl Try.underlying35 infoStr rfl (by decide) rfl _ rfl ?d1 rfl hoo2 ?d2 ?d3 ?d4 ?_)
          case d1 => rfl
          case d2 => exact hb4.size
          case d3 => unfold maxLen; omega
          case d4 => omega
          intro a2 cap2 w3 hoo3 hg3 hb3
          have hoe3 := own_other hoe2 hoo2 (by decide) hg3
          have hb5 := hb4.trans hb3
          clear hoe2 hoo2 hg3 hb3 hb4
          go_wp2_with fail
          go_roundw
          case rel =>
            refine ⟨k + 1, by go_num, by omega, by rw [HFT.out, ← HBK.out, str_append], ?_, ?_, hb5⟩
            · rw [List.range_succ, List.map_append, List.map_cons, List.map_nil, HEE.out]; exact hoe3
            · rw [HTK.out, ← HBK.out, List.map_take]; exact hoo3
          case measure => simp [intOf]; omega
      · obtain ⟨ea, ec, rfl, _⟩ := own_form hoe
        obtain ⟨oa, oc, rfl, _⟩ := own_form hoo
        have hkm : k = bs.length := by rw [HML.out]; omega
        have HKM := Lib.hid hkm
        have hfull : bs.take k = bs := List.take_of_length_le (by rw [hkm]; exact Nat.le_refl _)
        have HFU := Lib.hid hfull
        clear hkm hfull
        go_wp2_with fail
        go_ret3
        have hre := (own_row hoe).2.congr (g := fun i => Value.int .i64 (endN bs i)) (fun i hi => by simp [List.getD_eq_getElem?_getD, List.getElem?_range hi])
        have hro := (own_row hoo).2.congr (g := fun i => Value.string (str (bs.getD i []))) (fun i hi => by
          have hib : i < bs.length := by rw [← HKM.out]; exact hi
          rw [HFU.out]
          simp only [List.getD_eq_getElem?_getD, List.getElem?_map, List.getElem?_eq_getElem hib, Option.map_some, Option.getD_some])
        rw [HKM.out] at hre hro
        refine ⟨ea, ec, oa, oc, ?_, hre, hro, hbel⟩
        rw [← HKM.out]
        show Ending.returned (.tuple #[.string (str (frames (bs.take k))), .slice ea k ec, .slice oa k oc]) = _
        rw [HFU.out]
  · have hML : bs.length = 20 := by rw [HCL.out]; omega
    have HML := Lib.hid hML
    have hfl : ∀ k, (frames (bs.take k)).length ≤ 40160 := fun k => by
      have h1 := frames_len (bs.take k) (fun b hb => HCE.out b (List.mem_of_mem_take hb))
      have h2 : (bs.take k).length ≤ bs.length := by rw [List.length_take]; omega
      omega
    have HFL := Lib.hid hfl
    clear hML hfl
    go_enter Try.func30, Try.ntmps30
    go_wp2_with fail
    go_loopw [5, 6, 7, 18] (fun x ev ov i wr => ∃ k : Nat, i = .int .i64 k ∧ k ≤ 20 ∧ x = .string (str (frames (bs.take k))) ∧ wr.ownsRow w.heap.size 3 1 ev k ((List.range k).map fun j => Value.int .i64 (endN bs j)) ∧
      wr.ownsRow w.heap.size 9 1 ov k ((bs.take k).map fun b => Value.string (str b)) ∧ Below w.heap.size w wr) (fun _ _ _ i _ => 20 - (intOf i).toNat)
    case atStart => exact ⟨0, rfl, by omega, rfl, World.ownsRow_nil _ _ _ _, World.ownsRow_nil _ _ _ _, Below.refl _ _⟩
    case round =>
      obtain ⟨k, rfl, hk, rfl, hoe, hoo, hbel⟩ := hrel
      by_cases hlt : k < 20
      · obtain ⟨b, off, rfl, hbw, hc⟩ := HR.out.at (by omega)
        have hck : wr.cell? ⟨b, off + k, none⟩ = some (.string (ss.getD k ByteArray.empty)) := (hbel.cell (p := ⟨b, off + k, none⟩) hbw).trans (hc k (by omega))
        have hkb : k < bs.length := by have := HML.out; omega
        have hget := HCG.out k (by omega)
        have hsl : (ss.getD k ByteArray.empty).size ≤ 9223372036854775807 := HSZ.out _ (by
          have hl : k < ss.length := by have := HZ.out; omega
          rw [List.getD_eq_getElem?_getD, List.getElem?_eq_getElem hl]; simp)
        have hbl : (bs.getD k []).length ≤ 2000 := HCE.out _ (by rw [List.getD_eq_getElem?_getD, List.getElem?_eq_getElem hkb]; simp)
        have hft := frames_take bs k hkb
        have hen : endN bs k = (frames (bs.take k)).length + (8 + (bs.getD k []).length) := by unfold endN; rw [hft, List.length_append, frm_len]
        have hl40 := HFL.out k
        have htk : (bs.take (k + 1)).map (fun b => Value.string (str b)) = (bs.take k).map (fun b => Value.string (str b)) ++ [.string (str (bs.getD k []))] := by
          rw [List.take_succ_eq_append_getElem hkb]; simp only [List.map_append, List.map_cons, List.map_nil, List.getD_eq_getElem?_getD, List.getElem?_eq_getElem hkb, Option.getD_some]
        have HTK := Lib.hid htk
        have HFT := Lib.hid hft
        have HEN := Lib.hid hen
        obtain ⟨sk, hsk⟩ : ∃ sk, sk = ss.getD k ByteArray.empty := ⟨_, rfl⟩
        rw [← hsk] at hck hsl hget
        obtain ⟨bk, hbk⟩ : ∃ bk, bk = bs.getD k [] := ⟨_, rfl⟩
        rw [← hbk] at hget hbl
        have HBK := Lib.hid hbk
        have hput := put_ok (str bk) (by rw [str_size]; omega)
        rw [toList_str] at hput
        have HP := Lib.hid hput
        have hfz : (str (frm bk)).size = 8 + bk.length := by rw [str_size, frm_len]
        have hsz0 : (str (frames (bs.take k))).size ≤ 40160 := by rw [str_size]; exact hl40
        have hsz1 : ((str (frames (bs.take k)) ++ str (frm bk)).size : Int) = (endN bs k : Nat) := by rw [ByteArray.size_append, str_size, hfz, HEN.out, ← HBK.out]
        have HS1 := Lib.hid hsz1
        have hes : endN bs k ≤ 50000 := by rw [HEN.out, ← HBK.out]; omega
        have hee : (endN bs k : Int) = ((str (frames (bs.take k))).size : Int) + (8 + (bk.length : Int)) := by rw [HEN.out, ← HBK.out, str_size]; omega
        have HEE := Lib.hid hee
        have h2000 : (sk.size ≤ 2000 ∧ sk.extract 0 sk.size = str bk) ∨ (2000 < sk.size ∧ sk.extract 0 2000 = str bk) := by
          by_cases h : sk.size ≤ 2000
          · refine .inl ⟨h, ?_⟩
            rw [extract0, hget]
            congr 1
            rw [List.take_of_length_le (by simp), List.take_of_length_le (by simpa using h)]
          · exact .inr ⟨by omega, by rw [extract0, hget]⟩
        clear hc htk hft hen hsk hbk hput hget hsz1 hee
        rcases h2000 with ⟨h2, hx⟩ | ⟨h2, hx⟩
        all_goals
          go_wp2_with fail
          refine (HP.out _).mono ?_
          rintro e w1 ⟨rfl, hb1⟩
          go_wp2_with (at_builtin; refine wpList_push rfl _ _ 41 rfl Try.underlying41 infoInt rfl (by decide) rfl _ rfl ?c1 rfl (own_below hoe hb1) ?c2 ?c3 ?c4 ?_)
          case c1 => rfl
          case c2 => have := hbel.size; have := hb1.size; omega
          case c3 => unfold maxLen; omega
          case c4 => omega
          intro a' cap' w2 hoe2 hg2 hb2
          have hoo2 := own_other (own_below hoo hb1) (own_below hoe hb1) (by decide) hg2
          have hb4 := (hbel.trans (hb1.mono hbel.size)).trans hb2
          clear hoe hoo hg2 hb1 hb2
          go_wp2_with (at_builtin; refine wpList_push rfl _ _ 35 rfl Try.underlying35 infoStr rfl (by decide) rfl _ rfl ?d1 rfl hoo2 ?d2 ?d3 ?d4 ?_)
          case d1 => rfl
          case d2 => exact hb4.size
          case d3 => unfold maxLen; omega
          case d4 => omega
          intro a2 cap2 w3 hoo3 hg3 hb3
          have hoe3 := own_other hoe2 hoo2 (by decide) hg3
          have hb5 := hb4.trans hb3
          clear hoe2 hoo2 hg3 hb3 hb4
          go_wp2_with fail
          go_roundw
          case rel =>
            refine ⟨k + 1, by go_num, by omega, by rw [HFT.out, ← HBK.out, str_append], ?_, ?_, hb5⟩
            · rw [List.range_succ, List.map_append, List.map_cons, List.map_nil, HEE.out]; exact hoe3
            · rw [HTK.out, ← HBK.out, List.map_take]; exact hoo3
          case measure => simp [intOf]; omega
      · obtain ⟨ea, ec, rfl, _⟩ := own_form hoe
        obtain ⟨oa, oc, rfl, _⟩ := own_form hoo
        have hkm : k = bs.length := by rw [HML.out]; omega
        have HKM := Lib.hid hkm
        have hfull : bs.take k = bs := List.take_of_length_le (by rw [hkm]; exact Nat.le_refl _)
        have HFU := Lib.hid hfull
        clear hkm hfull
        go_wp2_with fail
        go_ret3
        have hre := (own_row hoe).2.congr (g := fun i => Value.int .i64 (endN bs i)) (fun i hi => by simp [List.getD_eq_getElem?_getD, List.getElem?_range hi])
        have hro := (own_row hoo).2.congr (g := fun i => Value.string (str (bs.getD i []))) (fun i hi => by
          have hib : i < bs.length := by rw [← HKM.out]; exact hi
          rw [HFU.out]
          simp only [List.getD_eq_getElem?_getD, List.getElem?_map, List.getElem?_eq_getElem hib, Option.map_some, Option.getD_some])
        rw [HKM.out] at hre hro
        refine ⟨ea, ec, oa, oc, ?_, hre, hro, hbel⟩
        rw [← HKM.out]
        show Ending.returned (.tuple #[.string (str (frames (bs.take k))), .slice ea k ec, .slice oa k oc]) = _
        rw [HFU.out]
end Go.Proofs.Ytfeaacjacbljfaa.Fw
