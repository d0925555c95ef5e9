/- The walks of height and of Cost, and of the reference's Cost. -/
import Derived.Test.YtdhnkalkfipmhaaSkipT
import Derived.Test.YtdhnkalkfipmhaaRows
import Derived.Deep.RegionHeld3
namespace Go.Proofs.Ytdhnkalkfipmhaa.Ew
open Go.RowKit
open En B
set_option linter.unusedVariables false

def coin (c : Int) : Int := if c < 0 then -(c + 1) else c
/-- the height of the next tower -/
def coinH (z : List Int) (k : Nat) : Int := if z.length = 0 then 1 else 1 + coin (z.getD (k % z.length) 0) % 8
def costE (z : List Int) (k : Nat) (e : Ent) : Int := 40 + 8 * coinH z k + e.key.size + e.val.size
def I64s (z : List Int) : Prop := ∀ x ∈ z, -9223372036854775808 ≤ x ∧ x ≤ 9223372036854775807
theorem coinH_bd (z : List Int) (k : Nat) : 1 ≤ coinH z k ∧ coinH z k ≤ 8 := by
  unfold coinH; split <;> omega

set_option maxHeartbeats 800000 in
set_option maxRecDepth 100000 in
theorem height_any (w : World) (lb cn cc ha k : Nat) (ca : Option Addr) (size : Int) (z : List Int) (hl : LB w lb ca cn cc ha k size) (hz : z.length = cn) (hk : k ≤ 1000000) (hn : cn ≤ 9223372036854775807) (hb : I64s z) (hr : Row w ca cn (fun i => .int .i64 (z.getD i 0))) :
    Calls Try.prog 51 #[.pointer (some ⟨lb, 0, none⟩)] w fun e w' => e = .returned (.int .i64 (coinH z k)) ∧ ∃ n, w' = w.drewN n := by
  obtain ⟨l0, _, l7, _⟩ := hl.cells
  obtain ⟨r, hrr⟩ : ∃ r, r = coinH z k := ⟨_, rfl⟩
  rw [← hrr]
  unfold coinH at hrr
  by_cases h0 : cn = 0
  · rw [if_pos (by omega)] at hrr
    subst hrr h0
    go_enter Try.func51, Try.ntmps51
    go_wp2_with fail
    go_ret
    exact ⟨rfl, 0, rfl⟩
  · rw [if_neg (by omega)] at hrr
    obtain ⟨b, off, rfl, hbl, hc⟩ := hr.at (by omega)
    rw [hz] at hrr
    have hjl : k % cn < cn := Nat.mod_lt _ (by omega)
    have hj := hc (k % cn) hjl
    obtain ⟨j, hjj⟩ : ∃ j, j = k % cn := ⟨_, rfl⟩
    have hmod : (k : Int) % (cn : Int) = (j : Int) := by rw [hjj]; omega
    rw [← hjj] at hj hrr hjl
    have hx : -9223372036854775808 ≤ z.getD j 0 ∧ z.getD j 0 ≤ 9223372036854775807 := by
      rw [List.getD_eq_getElem?_getD, List.getElem?_eq_getElem (by omega)]
      exact hb _ (List.getElem_mem _)
    generalize z.getD j 0 = c at hj hrr hx
    have HR := Lib.hid hrr
    have d1 : (0 : Int) ≤ (j : Int) := by omega
    have d2 : (j : Int) < (cn : Int) := by omega
    have e0 : ((cn : Int) == 0) = false := ef (by omega)
    have hcn1 : 1 ≤ cn := by omega
    clear hrr hjj hc hb hr hz l0
    have l0 := hl.cells.1
    unfold coin at HR
    by_cases hc0 : c < 0
    · rw [if_pos hc0] at HR
      obtain ⟨x, hx9⟩ : ∃ x : Nat, -(c + 1) = (x : Int) := ⟨(-(c + 1)).toNat, by omega⟩
      have hx8 : (x : Int) ≤ 9223372036854775807 := by omega
      rw [hx9] at HR
      go_enter Try.func51, Try.ntmps51
      go_wp2_with fail
      go_quiet (fail)
      go_wp2_with fail
      go_ret
      rw [HR.out]
      exact ⟨rfl, _, rfl⟩
    · rw [if_neg hc0] at HR
      go_enter Try.func51, Try.ntmps51
      go_wp2_with fail
      go_quiet (fail)
      go_wp2_with fail
      go_ret
      rw [HR.out]
      exact ⟨rfl, _, rfl⟩

set_option maxHeartbeats 800000 in
set_option maxRecDepth 100000 in
theorem cost_any (w : World) (lb cn cc ha c : Nat) (ca : Option Addr) (size : Int) (z : List Int) (hl : LB w lb ca cn cc ha c size) (hz : z.length = cn) (hk : c ≤ 1000000) (hn : cn ≤ 9223372036854775807) (hb : I64s z) (hr : Row w ca cn (fun i => .int .i64 (z.getD i 0)))
    (k : ByteArray) (q : Int) (g : Bool) (v : ByteArray) (u : Int) (hk1 : k.size ≤ 140737488351232) (hv1 : v.size ≤ 140737488351232) :
    Calls Try.prog 38 #[.pointer (some ⟨lb, 0, none⟩), .agg #[.string k, .int .i64 q, .bool g, .string v, .int .i64 u]] w fun e w' => e = .returned (.int .i64 (costE z c ⟨k, q, g, v, u⟩)) ∧ Below w.heap.size w w' := by
  have hB0 := below_alloc (Below.refl w.heap.size w) (.cells #[.string k, .int .i64 q, .bool g, .string v, .int .i64 u] 36)
  have hE0 : EBox (w.alloc (.cells #[.string k, .int .i64 q, .bool g, .string v, .int .i64 u] 36)) w.heap.size 36 ⟨k, q, g, v, u⟩ := heap_alloc_new _ _
  have HH := Lib.hid (fun n => height_any (World.drewN (w.alloc (.cells #[.string k, .int .i64 q, .bool g, .string v, .int .i64 u] 36)) n) lb cn cc ha c ca size z (hl.below (drewN hB0)) hz hk hn hb (hr.below (drewN hB0)))
  obtain ⟨r, hrr⟩ : ∃ r, r = costE z c ⟨k, q, g, v, u⟩ := ⟨_, rfl⟩
  rw [← hrr]
  have hbd := coinH_bd z c
  unfold costE at hrr
  generalize coinH z c = h at HH hrr hbd
  have HR := Lib.hid hrr
  clear hrr hr hb hz hl
  go_enter Try.func38, Try.ntmps38
  go_wp2_with fail
  generalize hW : World.alloc _ _ = W0
  rw [hW] at HH hE0 hB0
  clear hW
  have H0 : Hid (W0.cell? ⟨w.heap.size, 0, none⟩ = some (.string k) ∧ W0.cell? ⟨w.heap.size, 3, none⟩ = some (.string v)) := ⟨hE0.cells.1, hE0.cells.2.2.2.1⟩
  clear hE0
  have hw1 : IntKind.i64.wrap (8 * h) = 8 * h := IntWalk.i64_in _ (by omega)
  have hw2 : IntKind.i64.wrap (40 + 8 * h) = 40 + 8 * h := IntWalk.i64_in _ (by omega)
  have hw3 : IntKind.i64.wrap (40 + 8 * h + k.size) = 40 + 8 * h + k.size := IntWalk.i64_in _ (by omega)
  have hw4 : IntKind.i64.wrap (40 + 8 * h + k.size + v.size) = 40 + 8 * h + k.size + v.size := IntWalk.i64_in _ (by omega)
  go_region_held3 (fun w' => w'.cell? ⟨w.heap.size, 0, none⟩ = some (.string k) ∧ w'.cell? ⟨w.heap.size, 3, none⟩ = some (.string v))
    (first | exact H0.out)
    (first | (go_at_call 51; refine (HH.out 1).mono ?_; rintro e w3 ⟨rfl, nd, rfl⟩))
  all_goals
    go_wp2_with fail
    go_ret
    rw [HR.out]
    exact ⟨rfl, drewN hB0⟩
end Go.Proofs.Ytdhnkalkfipmhaa.Ew
