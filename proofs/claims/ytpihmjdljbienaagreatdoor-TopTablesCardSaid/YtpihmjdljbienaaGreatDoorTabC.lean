/- The walks of what the writer needs: cut, eight. -/
import Derived.Test.YtpihmjdljbienaaGreatDoorGa
import Derived.Test.YtpihmjdljbienaaGreatDoorGd
import Derived.Test.YtpihmjdljbienaaGreatDoorVarint
import Derived.Test.YtpihmjdljbienaaGreatDoorBlockC
namespace Go.Proofs.YtpihmjdljbienaaGreatDoor.Tw
open Go.RowKit
open Tb Fp Fw Vp Vw B En
set_option linter.unusedVariables false

theorem mem_getL {l : List Ent} {j : Nat} (hj : j < l.length) : l.getD j ent0 ∈ l := by
  rw [List.getD_eq_getElem?_getD, List.getElem?_eq_getElem hj]; exact List.getElem_mem hj

set_option maxHeartbeats 800000 in
set_option maxRecDepth 100000 in
theorem cut_any (a : Option Addr) (n cap : Nat) (l : List Ent) (hl : l.length = n) (hn : n ≤ 65536) (size : Nat) (hk : ∀ e ∈ l, e.key.size ≤ 64 ∧ e.val.size ≤ 512) (w : World) (hrow : ERow w a n (fun i => l.getD i ent0)) :
    Calls Tryz.prog 64 #[.slice a n cap, .int .i64 size] w fun e w' => e = .returned (.int .i64 (cutE size l : Nat)) ∧ Below w.heap.size w w' := by
  obtain ⟨r, hr⟩ : ∃ r, cutE size l = r := ⟨_, rfl⟩
  rw [hr]
  have HL := Lib.hid hl
  have HK := Lib.hid hk
  have HROW := Lib.hid hrow
  have HR := Lib.hid hr
  clear hl hk hrow hr
  go_enter Tryz.func64, Tryz.ntmps64
  go_wp2_with fail
  go_loopw [5, 10] (fun sh si wr => ∃ j h : Nat, si = .int .i64 j ∧ sh = .int .i64 h ∧ j ≤ n ∧ h ≤ j * 576 ∧ Hid (cutGo size (l.drop j) j h = r) ∧ Below w.heap.size w wr) (fun sh si _ => n - (intOf si).toNat)
  case atStart => exact ⟨0, 0, rfl, rfl, by omega, by omega, HR.out, Below.refl _ _⟩
  case round =>
    obtain ⟨j, h, rfl, rfl, hj, hh, hc, hb⟩ := hrel
    by_cases hlt : j < n
    · have hst := hc.out
      rw [cut_step size l j h (by rw [HL.out]; exact hlt)] at hst
      obtain ⟨b, off, rfl, hlb, hlc⟩ := HROW.out.at (by omega)
      have hd := hlc j hlt
      have hsz := HK.out _ (mem_getL (show j < l.length from by rw [HL.out]; exact hlt))
      generalize l.getD j ent0 = x at hd hsz hst
      obtain ⟨xk, xq, xg, xv, xu⟩ := x
      simp only at hd hsz hst
      have hlb2 : ∀ p : Addr, p.block < w.heap.size → wr.cell? p = w.cell? p := fun p hp => hb.cell hp
      have d0 := (hlb2 _ hlb).trans hd.1
      have d1 := (hlb2 _ hlb).trans hd.2.1
      have d2 := (hlb2 _ hlb).trans hd.2.2.1
      have d3 := (hlb2 _ hlb).trans hd.2.2.2.1
      have d4 := (hlb2 _ hlb).trans hd.2.2.2.2
      have i1 : (0 : Int) ≤ (j : Int) := by omega
      have i2 : (j : Int) < (n : Int) := by omega
      have HB := Lib.hid (below_alloc hb (.cells #[.string xk, .int .i64 xq, .bool xg, .string xv, .int .i64 xu] 45))
      have e1 : IntKind.i64.wrap ((xk.size : Int) + (xv.size : Int)) = (xk.size : Int) + (xv.size : Int) := IntWalk.i64_in _ (by omega)
      have e2 : IntKind.i64.wrap ((h : Int) + ((xk.size : Int) + (xv.size : Int))) = (h : Int) + ((xk.size : Int) + (xv.size : Int)) := IntWalk.i64_in _ (by omega)
      have hh2 : h + (xk.size + xv.size) ≤ (j + 1) * 576 := by omega
      clear hlb2 hd hlc hb hc hsz
      by_cases c1 : j = 2048
      · rw [if_pos (.inl c1)] at hst
        have f1 : ((j : Int) == 2048) = true := et (by omega)
        subst hst
        clear c1
        go_wp2_with fail
        go_ret
        exact ⟨rfl, HB.out⟩
      have f1 : ((j : Int) == 2048) = false := ef (by omega)
      by_cases c2 : 0 < j
      · have f2 : decide (0 < j) = true := dt c2
        by_cases c3 : size ≤ h
        · rw [if_pos (.inr ⟨c2, c3⟩)] at hst
          have f3 : decide (size ≤ h) = true := dt c3
          subst hst
          clear c1 c2 c3
          go_wp2_with fail
          go_ret
          exact ⟨rfl, HB.out⟩
        · rw [if_neg (by omega)] at hst
          have HST := Lib.hid hst
          have f3 : decide (size ≤ h) = false := df c3
          clear c1 c2 c3 hst
          go_wp2_with fail
          go_roundw
          case rel => exact ⟨j + 1, h + (xk.size + xv.size), by go_num, by go_num, by omega, hh2, HST.out, HB.out⟩
          case measure => simp [intOf]; omega
      · rw [if_neg (by omega)] at hst
        have HST := Lib.hid hst
        have f2 : decide (0 < j) = false := df c2
        clear c1 c2 hst
        go_wp2_with fail
        go_roundw
        case rel => exact ⟨j + 1, h + (xk.size + xv.size), by go_num, by go_num, by omega, hh2, HST.out, HB.out⟩
        case measure => simp [intOf]; omega
    · obtain rfl : j = n := by omega
      have hst := hc.out
      rw [cut_end size l j h (by rw [HL.out]; exact Nat.le_refl _)] at hst
      subst hst
      go_wp2_with fail
      go_ret
      exact ⟨rfl, hb⟩

theorem eight_cells (n : Nat) (hn : n < 9223372036854775808) :
    (#[.int .u8 ((n : Int) / 72057594037927936), .int .u8 ((n : Int) / 281474976710656 % 256), .int .u8 ((n : Int) / 1099511627776 % 256), .int .u8 ((n : Int) / 4294967296 % 256), .int .u8 ((n : Int) / 16777216 % 256), .int .u8 ((n : Int) / 65536 % 256), .int .u8 ((n : Int) / 256 % 256), .int .u8 ((n : Int) % 256)] : Array Value) = ((eight n).map bv).toArray := by
  have e : eight n = [UInt8.ofNat (n / 72057594037927936 % 256), UInt8.ofNat (n / 281474976710656 % 256), UInt8.ofNat (n / 1099511627776 % 256), UInt8.ofNat (n / 4294967296 % 256), UInt8.ofNat (n / 16777216 % 256), UInt8.ofNat (n / 65536 % 256), UInt8.ofNat (n / 256 % 256), UInt8.ofNat (n / 1 % 256)] := rfl
  rw [e]
  simp only [List.map_cons, List.map_nil]
  rw [bv_ofNat (by omega), bv_ofNat (by omega), bv_ofNat (by omega), bv_ofNat (by omega), bv_ofNat (by omega), bv_ofNat (by omega), bv_ofNat (by omega), bv_ofNat (by omega)]
  rw [show ((n / 72057594037927936 % 256 : Nat) : Int) = (n : Int) / 72057594037927936 from by omega, show ((n / 281474976710656 % 256 : Nat) : Int) = (n : Int) / 281474976710656 % 256 from by omega, show ((n / 1099511627776 % 256 : Nat) : Int) = (n : Int) / 1099511627776 % 256 from by omega,
    show ((n / 4294967296 % 256 : Nat) : Int) = (n : Int) / 4294967296 % 256 from by omega, show ((n / 16777216 % 256 : Nat) : Int) = (n : Int) / 16777216 % 256 from by omega, show ((n / 65536 % 256 : Nat) : Int) = (n : Int) / 65536 % 256 from by omega, show ((n / 256 % 256 : Nat) : Int) = (n : Int) / 256 % 256 from by omega, show ((n / 1 % 256 : Nat) : Int) = (n : Int) % 256 from by omega]
theorem conv8 (e : List UInt8) (he : e.length = 8) (W : World) (t : TypeId) (cap : Nat) : (convert 80 9 (.slice (some ⟨W.heap.size, 0, none⟩) 8 cap)).run Tryz.prog (W.alloc (.cells (e.map bv).toArray t)) = .ok (.string (str e)) (W.alloc (.cells (e.map bv).toArray t)) :=
  conv_row (P := Tryz.prog) (dst := 9) Tryz.underlying80 Tryz.underlying5 Tryz.underlying9 (bs := e) (rest := []) (by rw [List.append_nil]; exact heap_alloc_new W _) he.symm
theorem eight_conv (n : Nat) (hn : n < 9223372036854775808) (W : World) (t : TypeId) (cap : Nat) :
    (convert 80 9 (.slice (some ⟨W.heap.size, 0, none⟩) 8 cap)).run Tryz.prog (W.alloc (.cells #[.int .u8 ((n : Int) / 72057594037927936), .int .u8 ((n : Int) / 281474976710656 % 256), .int .u8 ((n : Int) / 1099511627776 % 256), .int .u8 ((n : Int) / 4294967296 % 256), .int .u8 ((n : Int) / 16777216 % 256), .int .u8 ((n : Int) / 65536 % 256), .int .u8 ((n : Int) / 256 % 256), .int .u8 ((n : Int) % 256)] t)) =
    .ok (.string (str (eight n))) (W.alloc (.cells #[.int .u8 ((n : Int) / 72057594037927936), .int .u8 ((n : Int) / 281474976710656 % 256), .int .u8 ((n : Int) / 1099511627776 % 256), .int .u8 ((n : Int) / 4294967296 % 256), .int .u8 ((n : Int) / 16777216 % 256), .int .u8 ((n : Int) / 65536 % 256), .int .u8 ((n : Int) / 256 % 256), .int .u8 ((n : Int) % 256)] t)) := by
  rw [eight_cells n hn]
  exact conv8 (eight n) (eight_len n) W t cap

set_option maxHeartbeats 800000 in
set_option maxRecDepth 100000 in
theorem eight_any (n : Nat) (hn : n < 9223372036854775808) (w : World) :
    Calls Tryz.prog 68 #[.int .u64 n] w fun e w' => e = .returned (.string (str (eight n))) ∧ Below w.heap.size w w' := by
  have hcv := eight_conv n hn w 174 8
  go_enter Tryz.func68, Tryz.ntmps68
  go_wp2_with fail
  refine wp_loop_rounds 9 ?_
  repeat (rw [rounds_succ]; go_wp2_with fail)
  go_ret
  exact ⟨rfl, (Below.refl _ _).alloc (Nat.le_refl _) _⟩
end Go.Proofs.YtpihmjdljbienaaGreatDoor.Tw
