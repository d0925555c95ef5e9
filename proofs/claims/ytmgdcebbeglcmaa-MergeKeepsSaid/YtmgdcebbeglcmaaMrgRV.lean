/- The walk of the reference's Visible. -/
import Derived.Test.YtmgdcebbeglcmaaMrgR
import Derived.Test.YtmgdcebbeglcmaaSetE
namespace Go.Proofs.Ytmgdcebbeglcmaa.Ew
open Go.RowKit
open En B
set_option linter.unusedVariables false

theorem own_lower {w : World} {B B' n size : Nat} {e : TypeId} {v : Value} {xs : List Value} (h : w.ownsRow B e size v n xs) (hb : B' ≤ B) : w.ownsRow B' e size v n xs := by
  refine ⟨h.1, ?_⟩
  rcases h.2 with hv | ⟨g, cap, cur, hv, hB, hr⟩
  · exact .inl hv
  · exact .inr ⟨g, cap, cur, hv, Nat.le_trans hb hB, hr⟩
/-- a slice of entries of the call's own is handed back -/
def OwnR (B : Nat) (T : TypeId) (R : List Ent) (w : World) (e : Ending) (w' : World) : Prop := ∃ p d, e = .returned (.slice p R.length d) ∧ w'.ownsRow B T 5 (.slice p R.length d) R.length (ecells R) ∧ Below B w w'

theorem visT_succ (L : List Ent) (s now : Int) (i : Nat) (h : i < L.length) : visT L s now (i + 1) = visT L s now i ++ (if (topB L s (L.getD i ent0) && aliveE (L.getD i ent0) now) = true then [L.getD i ent0] else []) := filter_take_succ _ L i h
theorem visT_len (L : List Ent) (s now : Int) (i : Nat) : (visT L s now i).length ≤ i := Nat.le_trans (List.length_filter_le _ _) (by rw [List.length_take]; omega)

set_option maxHeartbeats 1600000 in
set_option maxRecDepth 100000 in
theorem rvis_any (a : Option Addr) (n cap : Nat) (L : List Ent) (hl : L.length = n) (hn : n * 56 ≤ 140737488351232) (hso : Sorted L) (w : World) (hr : ERow w a n (fun i => L.getD i ent0)) (s now : Int) :
    Calls Try.prog 17 #[.slice a n cap, .int .i64 s, .int .i64 now] w (OwnR w.heap.size 39 (visE L s now) w) := by
  have HL := Lib.hid hl
  have HS := Lib.hid hso
  have HR := Lib.hid hr
  clear hl hr hso
  go_enter Try.func17, Try.ntmps17
  go_wp2_with fail
  go_loopw [7, 8] (fun so si wr => ∃ (i : Nat) (m : Nat) (p : Option Addr) (d : Nat), si = .int .i64 i ∧ i ≤ n ∧ m ≤ i ∧ so = .slice p m d ∧ Hid (wr.ownsRow w.heap.size 39 5 (.slice p m d) m (ecells (visT L s now i))) ∧ Hid (m = (visT L s now i).length) ∧ Below w.heap.size w wr) (fun _ si _ => n - (intOf si).toNat)
  case atStart => exact ⟨0, 0, none, 0, rfl, by omega, by omega, rfl, World.ownsRow_nil _ _ _ _, rfl, Below.refl _ _⟩
  case round =>
    obtain ⟨i, m, p, d, rfl, hi, hmi, rfl, hown, hm, hbel⟩ := hrel
    by_cases hlt : i < n
    · obtain ⟨b, off, rfl, hb, hc⟩ := (HR.out.below hbel).at (by omega)
      have hd := hc i hlt
      have hvs := Lib.hid (visT_succ L s now i (by rw [HL.out]; exact hlt))
      have hft := Lib.hid (fun r => first_top (s := s) (r := r) HS.out (i := i) (by rw [HL.out]; exact hlt))
      have hfc := Lib.hid (fun W h key => rfirst_any (some ⟨b, off, none⟩) n cap L HL.out (by omega) W h key s)
      have hrw := Lib.hid (HR.out.below hbel)
      generalize L.getD i ent0 = x at hd hvs hft
      obtain ⟨k1, q1, g1, v1, u1⟩ := x
      simp only at hd hft
      obtain ⟨d0, d1, d2, d3, d4⟩ := hd
      have i1 : (0 : Int) ≤ (i : Int) := by omega
      have i2 : (i : Int) < (n : Int) := by omega
      have HB := Lib.hid hb
      clear hc hb
      go_wp2_with fail
      refine (hfc.out wr hrw.out k1).mono ?_
      rintro e w1 ⟨r, rfl, hfi, hr1, hr2, rfl⟩
      have hal := Lib.hid (fun W => ralive_any k1 q1 g1 v1 u1 now W)
      have hto := Lib.hid (hft.out r hfi)
      generalize topB L s ⟨k1, q1, g1, v1, u1⟩ = tb at hto hvs
      generalize aliveE ⟨k1, q1, g1, v1, u1⟩ now = al at hal hvs
      clear hfi
      go_wp2_with fail
      refine (hal.out _).mono ?_
      rintro e w2 ⟨rfl, hb2⟩
      have hbz := chain hbel hb2
      have hown2 := Lib.hid (own_below hown.out hb2)
      have c0 := (hb2.cell (p := ⟨b, off + i * 5, none⟩) HB.out).trans d0
      have c1 := (hb2.cell (p := ⟨b, off + i * 5 + 1, none⟩) HB.out).trans d1
      have c2 := (hb2.cell (p := ⟨b, off + i * 5 + 2, none⟩) HB.out).trans d2
      have c3 := (hb2.cell (p := ⟨b, off + i * 5 + 3, none⟩) HB.out).trans d3
      have c4 := (hb2.cell (p := ⟨b, off + i * 5 + 4, none⟩) HB.out).trans d4
      clear hb2 hown d0 d1 d2 d3 d4
      by_cases hri : r = (i : Int)
      · have er : (r == (i : Int)) = true := et hri
        have htb := hto.out.1 hri
        have HRI := Lib.hid hri
        clear hri
        cases al with
        | true =>
          have HV := Lib.hid (show visT L s now (i + 1) = visT L s now i ++ [⟨k1, q1, g1, v1, u1⟩] by rw [hvs.out, htb]; rfl)
          clear htb
          go_wp2_with (at_builtin; refine wpList_push2 rfl _ _ 24 rfl Try.underlying24 infoR06 rfl (by decide) rfl _ rfl ?c1 rfl rfl hown2.out ?c2 ?c3 ?c4 ?_)
          case c1 => simp [Value.oneCell']
          case c2 => exact hbz.size
          case c3 => unfold maxLen; omega
          case c4 => omega
          intro a' cap' w5 hown5 _ hb5
          have HZ : Hid (w5.ownsRow w.heap.size 39 5 (.slice a' (m + 1) cap') (m + 1) (ecells (visT L s now (i + 1)))) := by rw [HV.out, ecells_snoc]; exact hown5
          have hb6 := hbz.trans hb5
          have hm2 : Hid (m + 1 = (visT L s now (i + 1)).length) := by rw [HV.out, List.length_append, ← hm.out]; rfl
          clear hown5 hb5
          go_wp2_with fail
          go_roundw
          case rel => exact ⟨i + 1, m + 1, a', cap', by go_num, by omega, by omega, rfl, HZ, hm2, hb6⟩
          case measure => simp [intOf]; omega
        | false =>
          have HV := Lib.hid (show visT L s now (i + 1) = visT L s now i by rw [hvs.out, htb]; exact List.append_nil _)
          clear htb
          go_wp2_with fail
          go_roundw
          case rel => exact ⟨i + 1, m, p, d, by go_num, by omega, by omega, rfl, by rw [HV.out]; exact hown2, by rw [HV.out]; exact hm, hbz⟩
          case measure => simp [intOf]; omega
      · have er : (r == (i : Int)) = false := ef hri
        have htb : tb = false := by
          cases tb with
          | false => rfl
          | true => exact absurd (hto.out.2 rfl) hri
        have HV := Lib.hid (show visT L s now (i + 1) = visT L s now i by rw [hvs.out, htb]; exact List.append_nil _)
        clear htb hri
        go_wp2_with fail
        go_roundw
        case rel => exact ⟨i + 1, m, p, d, by go_num, by omega, by omega, rfl, by rw [HV.out]; exact hown2, by rw [HV.out]; exact hm, hbz⟩
        case measure => simp [intOf]; omega
    · obtain rfl : i = n := by omega
      go_wp2_with fail
      go_ret
      have he : visT L s now i = visE L s now := by rw [← HL.out]; exact visT_all L s now
      have hm2 := hm.out
      have ho := hown.out
      rw [he] at hm2 ho
      subst hm2
      exact ⟨p, d, rfl, ho, hbel⟩
end Go.Proofs.Ytmgdcebbeglcmaa.Ew
