/- The walks of layer 13's same, alike (of equal lists); of merge.Alive, upTo. -/
import Derived.Test.YtmgdcebbeglcmaaMrgO
namespace Go.Proofs.Ytmgdcebbeglcmaa.Ew
open Go.RowKit
open En B
set_option linter.unusedVariables false

theorem nq_api (k : ByteArray) (q : Int) (g : Bool) (v : ByteArray) (u : Int) (W : World) :
    (binOp .neq 37 (.agg #[.string k, .int .i64 q, .bool g, .string v, .int .i64 u]) (.agg #[.string k, .int .i64 q, .bool g, .string v, .int .i64 u])).run Try.prog W = .ok (.bool false) W := by rw [neq_api, eqE_refl]; rfl
theorem nq_ref (k : ByteArray) (q : Int) (g : Bool) (v : ByteArray) (u : Int) (W : World) :
    (binOp .neq 39 (.agg #[.string k, .int .i64 q, .bool g, .string v, .int .i64 u]) (.agg #[.string k, .int .i64 q, .bool g, .string v, .int .i64 u])).run Try.prog W = .ok (.bool false) W := by rw [neq_ref, eqE_refl]; rfl

set_option maxHeartbeats 800000 in
set_option maxRecDepth 100000 in
theorem same_yes (a : Option Addr) (n cap : Nat) (b : Option Addr) (capb : Nat) (L : List Ent) (hl : L.length = n) (hn : n ≤ 9223372036854775806) (w : World) (hr : ERow w a n (fun i => L.getD i ent0)) (hs : ERow w b n (fun i => L.getD i ent0)) :
    Calls Try.prog 11 #[.slice a n cap, .slice b n capb] w fun e w' => e = .returned (.bool true) ∧ Below w.heap.size w w' := by
  have HR := Lib.hid hr
  have HS := Lib.hid hs
  clear hl hr hs
  go_enter Try.func11, Try.ntmps11
  go_wp2_with fail
  go_loopw [13] (fun si wr => ∃ i : Nat, si = .int .i64 i ∧ i ≤ n ∧ ∃ nd, wr = w.drewN nd) (fun si _ => n - (intOf si).toNat)
  case atStart => exact ⟨0, rfl, by omega, 0, rfl⟩
  case round =>
    obtain ⟨i, rfl, hi, nd, rfl⟩ := hrel
    by_cases hlt : i < n
    · obtain ⟨ab, off, rfl, hab, hac⟩ := HR.out.at (by omega)
      obtain ⟨bb, boff, rfl, hbb, hbc⟩ := HS.out.at (by omega)
      have hd := hac i hlt
      have he := hbc i hlt
      generalize L.getD i ent0 = x at hd he
      obtain ⟨k0, q0, g0, v0, u0⟩ := x
      simp only at hd he
      obtain ⟨d0, d1, d2, d3, d4⟩ := hd
      obtain ⟨e0, e1, e2, e3, e4⟩ := he
      have i1 : (0 : Int) ≤ (i : Int) := by omega
      have i2 : (i : Int) < (n : Int) := by omega
      have hq := nq_ref k0 q0 g0 v0 u0
      clear hac hbc
      go_wp2_with fail
      go_quiet (fail)
      go_wp2_with fail
      go_roundw
      case rel => exact ⟨i + 1, by go_num, by omega, _, rfl⟩
      case measure => simp [intOf]; omega
    · obtain rfl : i = n := by omega
      go_wp2_with fail
      go_ret
      exact ⟨rfl, drewN (Below.refl _ _)⟩

set_option maxHeartbeats 800000 in
set_option maxRecDepth 100000 in
theorem alike_yes (a : Option Addr) (n cap : Nat) (b : Option Addr) (capb : Nat) (L : List Ent) (hl : L.length = n) (hn : n ≤ 9223372036854775806) (w : World) (hr : ERow w a n (fun i => L.getD i ent0)) (hs : ERow w b n (fun i => L.getD i ent0)) :
    Calls Try.prog 20 #[.slice a n cap, .slice b n capb] w fun e w' => e = .returned (.bool true) ∧ Below w.heap.size w w' := by
  have HR := Lib.hid hr
  have HS := Lib.hid hs
  clear hl hr hs
  go_enter Try.func20, Try.ntmps20
  go_wp2_with fail
  go_loopw [13] (fun si wr => ∃ i : Nat, si = .int .i64 i ∧ i ≤ n ∧ ∃ nd, wr = w.drewN nd) (fun si _ => n - (intOf si).toNat)
  case atStart => exact ⟨0, rfl, by omega, 0, rfl⟩
  case round =>
    obtain ⟨i, rfl, hi, nd, rfl⟩ := hrel
    by_cases hlt : i < n
    · obtain ⟨ab, off, rfl, hab, hac⟩ := HR.out.at (by omega)
      obtain ⟨bb, boff, rfl, hbb, hbc⟩ := HS.out.at (by omega)
      have hd := hac i hlt
      have he := hbc i hlt
      generalize L.getD i ent0 = x at hd he
      obtain ⟨k0, q0, g0, v0, u0⟩ := x
      simp only at hd he
      obtain ⟨d0, d1, d2, d3, d4⟩ := hd
      obtain ⟨e0, e1, e2, e3, e4⟩ := he
      have i1 : (0 : Int) ≤ (i : Int) := by omega
      have i2 : (i : Int) < (n : Int) := by omega
      have hq := nq_api k0 q0 g0 v0 u0
      clear hac hbc
      go_wp2_with fail
      go_quiet (fail)
      go_wp2_with fail
      go_roundw
      case rel => exact ⟨i + 1, by go_num, by omega, _, rfl⟩
      case measure => simp [intOf]; omega
    · obtain rfl : i = n := by omega
      go_wp2_with fail
      go_ret
      exact ⟨rfl, drewN (Below.refl _ _)⟩

theorem alive_any (k : ByteArray) (q : Int) (g : Bool) (v : ByteArray) (u now : Int) (w : World) :
    Calls Try.prog 14 #[.agg #[.string k, .int .i64 q, .bool g, .string v, .int .i64 u], .int .i64 now] w fun e w' => e = .returned (.bool (aliveE ⟨k, q, g, v, u⟩ now)) ∧ Below w.heap.size w w' := by
  have hz := below_alloc (Below.refl w.heap.size w) (.cells #[.string k, .int .i64 q, .bool g, .string v, .int .i64 u] 37)
  cases g with
  | true =>
    have hl : aliveE ⟨k, q, true, v, u⟩ now = false := rfl
    rw [hl]
    go_enter Try.func14, Try.ntmps14
    go_wp2_with fail
    go_ret
    exact ⟨rfl, hz⟩
  | false =>
    by_cases h0 : u = 0
    · have hl : aliveE ⟨k, q, false, v, u⟩ now = true := by simp [aliveE, h0]
      rw [hl]
      clear hl
      subst h0
      go_enter Try.func14, Try.ntmps14
      go_wp2_with fail
      go_ret
      exact ⟨rfl, hz⟩
    · have e0 : (u == 0) = false := ef h0
      by_cases h1 : now ≤ u
      · have hl : aliveE ⟨k, q, false, v, u⟩ now = true := by simp [aliveE, h1]
        rw [hl]
        clear hl h0
        go_enter Try.func14, Try.ntmps14
        go_wp2_with fail
        go_ret
        exact ⟨rfl, hz⟩
      · have hl : aliveE ⟨k, q, false, v, u⟩ now = false := by simp [aliveE, h0, h1]
        rw [hl]
        have h2 : decide (now ≤ u) = false := df h1
        clear hl h0 h1
        go_enter Try.func14, Try.ntmps14
        go_wp2_with fail
        go_ret
        exact ⟨rfl, hz⟩

/-- the first of n entries up to a number -/
def UpN (f : Nat → Ent) (n : Nat) (s r : Int) : Prop :=
  (∃ i : Nat, r = (i : Int) ∧ i < n ∧ (f i).seq ≤ s ∧ ∀ k, k < i → s < (f k).seq) ∨ (r = -1 ∧ ∀ k, k < n → s < (f k).seq)
def UpR (f : Nat → Ent) (n : Nat) (s : Int) (w : World) (e : Ending) (w' : World) : Prop := ∃ r : Int, e = .returned (.int .i64 r) ∧ UpN f n s r ∧ Below w.heap.size w w'

theorem upto1_any (g0 : Nat) (k : ByteArray) (q : Int) (g : Bool) (v : ByteArray) (u s : Int) (w : World) (hc : w.cell? ⟨g0, 0, none⟩ = some (.int .i64 s)) (hg : g0 < w.heap.size) :
    Calls Try.prog 34 #[.agg #[.string k, .int .i64 q, .bool g, .string v, .int .i64 u], .pointer (some ⟨g0, 0, none⟩)] w fun e w' => e = .returned (.bool (decide (q ≤ s))) ∧ Below w.heap.size w w' := by
  have hz := below_alloc (Below.refl w.heap.size w) (.cells #[.string k, .int .i64 q, .bool g, .string v, .int .i64 u] 37)
  go_enter Try.func34, Try.ntmps34
  go_wp2_with fail
  go_ret
  exact ⟨rfl, hz⟩

set_option maxHeartbeats 800000 in
set_option maxRecDepth 100000 in
theorem index_any (g0 : Nat) (s : Int) (a : Option Addr) (n cap : Nat) (f : Nat → Ent) (hn : n ≤ 9223372036854775806) (w : World) (hr : ERow w a n f) (hc : w.cell? ⟨g0, 0, none⟩ = some (.int .i64 s)) (hg : g0 < w.heap.size) :
    Calls Try.prog 33 #[.slice a n cap, .func (.func 34) #[] #[.pointer (some ⟨g0, 0, none⟩)]] w (UpR f n s w) := by
  have HR := Lib.hid hr
  have HC := Lib.hid hc
  clear hr hc
  go_enter Try.func33, Try.ntmps33
  go_wp2_with fail
  go_loopw [8] (fun si wr => ∃ i : Nat, si = .int .i64 i ∧ i ≤ n ∧ Hid (∀ k, k < i → s < (f k).seq) ∧ Below w.heap.size w wr) (fun si _ => n - (intOf si).toNat)
  case atStart => exact ⟨0, rfl, by omega, (fun k h => by omega), Below.refl _ _⟩
  case round =>
    obtain ⟨i, rfl, hi, hno, hbel⟩ := hrel
    by_cases hlt : i < n
    · obtain ⟨ab, off, rfl, hab, hac⟩ := (HR.out.below hbel).at (by omega)
      have hd := hac i hlt
      obtain ⟨x, hx⟩ : ∃ x, x = f i := ⟨_, rfl⟩
      rw [← hx] at hd
      have HX := Lib.hid hx
      obtain ⟨k0, q0, g0', v0, u0⟩ := x
      simp only at hd
      obtain ⟨d0, d1, d2, d3, d4⟩ := hd
      have i1 : (0 : Int) ≤ (i : Int) := by omega
      have i2 : (i : Int) < (n : Int) := by omega
      have hgs := hbel.size
      have HU := Lib.hid (upto1_any g0 k0 q0 g0' v0 u0 s wr ((hbel.cell (p := ⟨g0, 0, none⟩) hg).trans HC.out) (by omega))
      clear hac hx
      by_cases hq : q0 ≤ s
      · have hqd : decide (q0 ≤ s) = true := dt hq
        have HQ := Lib.hid hq
        rw [hqd] at HU
        clear hq hqd
        go_wp2_with fail
        refine HU.out.mono ?_
        rintro e w2 ⟨rfl, hb2⟩
        have hz := chain hbel hb2
        clear hb2
        go_wp2_with fail
        go_ret
        exact ⟨i, rfl, .inl ⟨i, rfl, hlt, by rw [← HX.out]; exact HQ.out, hno.out⟩, hz⟩
      · have hqd : decide (q0 ≤ s) = false := df hq
        have hno2 : Hid (∀ k, k < i + 1 → s < (f k).seq) := fun k hk => by
          by_cases e : k = i
          · subst e; rw [← HX.out]; show s < q0; omega
          · exact hno.out k (by omega)
        rw [hqd] at HU
        clear hq hqd
        go_wp2_with fail
        refine HU.out.mono ?_
        rintro e w2 ⟨rfl, hb2⟩
        have hz := chain hbel hb2
        clear hb2
        go_wp2_with fail
        go_roundw
        case rel => exact ⟨i + 1, by go_num, by omega, hno2, hz⟩
        case measure => simp [intOf]; omega
    · obtain rfl : i = n := by omega
      go_wp2_with fail
      go_ret
      exact ⟨-1, rfl, .inr ⟨rfl, hno.out⟩, hbel⟩
theorem upto_any (a : Option Addr) (n cap : Nat) (f : Nat → Ent) (hn : n ≤ 9223372036854775806) (s : Int) (w : World) (hr : ERow w a n f) :
    Calls Try.prog 27 #[.slice a n cap, .int .i64 s] w (UpR f n s w) := by
  have hb0 := below_alloc (Below.refl w.heap.size w) (.cells #[.int .i64 s] 2)
  have HI := Lib.hid (index_any w.heap.size s a n cap f hn (w.alloc (.cells #[.int .i64 s] 2)) (hr.below ((Below.refl _ _).alloc (Nat.le_refl _) _)) (World.cell?_alloc_at _ _ _ _ rfl) (by simp))
  clear hr
  go_enter Try.func27, Try.ntmps27
  go_wp2_with fail
  refine HI.out.mono ?_
  rintro e w2 ⟨r, rfl, hu, hb2⟩
  have HU := Lib.hid hu
  have hz := chain hb0 hb2
  clear hu hb2
  go_wp2_with fail
  go_ret
  exact ⟨r, rfl, HU.out, hz⟩
end Go.Proofs.Ytmgdcebbeglcmaa.Ew
