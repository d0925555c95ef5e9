/- The walks of layer 13's reference: Alive, first, Visible. -/
import Derived.Test.YtmgdcebbeglcmaaMrgC
import Derived.Test.YtmgdcebbeglcmaaCmpW
import Derived.Test.YtmgdcebbeglcmaaEqE
import Derived.BigQuiet
namespace Go.Proofs.Ytmgdcebbeglcmaa.Ew
open Go.RowKit
open En B
set_option linter.unusedVariables false

theorem infoR06 : (Try.prog.info? 39).map (fun i => (i.zero, i.size, i.bytes)) = some (some (.agg #[.string ⟨#[]⟩, .int .i64 0, .bool false, .string ⟨#[]⟩, .int .i64 0]), 5, 56) := by kernel_rfl
theorem infoAE : (Try.prog.info? 37).map (fun i => (i.zero, i.size, i.bytes)) = some (some (.agg #[.string ⟨#[]⟩, .int .i64 0, .bool false, .string ⟨#[]⟩, .int .i64 0]), 5, 56) := by kernel_rfl

theorem ralive_any (k : ByteArray) (q : Int) (g : Bool) (v : ByteArray) (u now : Int) (w : World) :
    Calls Try.prog 15 #[.agg #[.string k, .int .i64 q, .bool g, .string v, .int .i64 u], .int .i64 now] w fun e w' => e = .returned (.bool (aliveE ⟨k, q, g, v, u⟩ now)) ∧ Below w.heap.size w w' := by
  have hz := below_alloc (Below.refl w.heap.size w) (.cells #[.string k, .int .i64 q, .bool g, .string v, .int .i64 u] 39)
  cases g with
  | true =>
    have hl : aliveE ⟨k, q, true, v, u⟩ now = false := rfl
    rw [hl]
    go_enter Try.func15, Try.ntmps15
    go_wp2_with fail
    go_ret
    exact ⟨rfl, hz⟩
  | false =>
    by_cases h0 : u = 0
    · have hl : aliveE ⟨k, q, false, v, u⟩ now = true := by simp [aliveE, h0]
      rw [hl]
      clear hl
      subst h0
      go_enter Try.func15, Try.ntmps15
      go_wp2_with fail
      go_ret
      exact ⟨rfl, hz⟩
    · have e0 : (u == 0) = false := ef h0
      by_cases h1 : now ≤ u
      · have hl : aliveE ⟨k, q, false, v, u⟩ now = true := by simp [aliveE, h1]
        rw [hl]
        clear hl h0
        go_enter Try.func15, Try.ntmps15
        go_wp2_with fail
        go_ret
        exact ⟨rfl, hz⟩
      · have hl : aliveE ⟨k, q, false, v, u⟩ now = false := by simp [aliveE, h0, h1]
        rw [hl]
        have h2 : decide (now ≤ u) = false := df h1
        clear hl h0 h1
        go_enter Try.func15, Try.ntmps15
        go_wp2_with fail
        go_ret
        exact ⟨rfl, hz⟩

def FirstR (L : List Ent) (key : ByteArray) (s : Int) (w : World) (e : Ending) (w' : World) : Prop := ∃ r : Int, e = .returned (.int .i64 r) ∧ FirstIs L key s r ∧ -1 ≤ r ∧ r ≤ 9223372036854775807 ∧ w = w'

set_option maxHeartbeats 800000 in
set_option maxRecDepth 100000 in
theorem rfirst_any (a : Option Addr) (n cap : Nat) (L : List Ent) (hl : L.length = n) (hn : n ≤ 9223372036854775806) (w : World) (hr : ERow w a n (fun i => L.getD i ent0)) (key : ByteArray) (s : Int) :
    Calls Try.prog 28 #[.slice a n cap, .string key, .int .i64 s] w (FirstR L key s w) := by
  have HL := Lib.hid hl
  clear hl
  have HR := Lib.hid hr
  clear hr
  go_enter Try.func28, Try.ntmps28
  go_wp2_with fail
  go_loop [7] (fun si => ∃ i : Nat, si = .int .i64 i ∧ i ≤ n ∧ Hid (∀ k, k < i → isK key s (L.getD k ent0) = false)) (fun si => n - (intOf si).toNat)
  case atStart => exact ⟨0, rfl, by omega, (fun k h => by omega)⟩
  case round =>
    obtain ⟨i, rfl, hi, hno⟩ := hrel
    by_cases hlt : i < n
    · obtain ⟨b, off, rfl, hb, hc⟩ := HR.out.at (by omega)
      have hd := hc i hlt
      obtain ⟨x, hx⟩ : ∃ x, x = L.getD i ent0 := ⟨_, rfl⟩
      rw [← hx] at hd
      have HX := Lib.hid hx
      obtain ⟨k1, q1, g1, v1, u1⟩ := x
      simp only at hd
      obtain ⟨d0, d1, d2, d3, d4⟩ := hd
      have i1 : (0 : Int) ≤ (i : Int) := by omega
      have i2 : (i : Int) < (n : Int) := by omega
      clear hc hx
      by_cases hk : k1 = key
      · have ek : (k1.toList == key.toList) = true := by rw [hk]; exact beq_self_eq_true _
        have HK := Lib.hid hk
        clear hk
        by_cases hs : q1 ≤ s
        · have hs2 : decide (q1 ≤ s) = true := dt hs
          go_wp2_with fail
          go_ret
          exact ⟨i, rfl, .inl ⟨i, rfl, by rw [HL.out]; exact hlt, by rw [← HX.out]; exact isK_iff.2 ⟨HK.out, hs⟩, hno.out⟩, by omega, by omega, rfl⟩
        · have hs2 : decide (q1 ≤ s) = false := df hs
          have hno2 : Hid (∀ k, k < i + 1 → isK key s (L.getD k ent0) = false) := fun k hk => by
            by_cases e : k = i
            · subst e; rw [← HX.out, Bool.eq_false_iff]; intro h; exact hs (isK_iff.1 h).2
            · exact hno.out k (by omega)
          go_wp2_with fail
          go_round
          case rel => exact ⟨i + 1, by go_num, by omega, hno2⟩
          case measure => simp [intOf]; omega
      · have ek : (k1.toList == key.toList) = false := beq_eq_false_iff_ne.2 fun e => hk (toList_inj e)
        have hno2 : Hid (∀ j, j < i + 1 → isK key s (L.getD j ent0) = false) := fun j hj => by
          by_cases e : j = i
          · subst e; rw [← HX.out, Bool.eq_false_iff]; intro h; exact hk (isK_iff.1 h).1
          · exact hno.out j (by omega)
        clear hk
        go_wp2_with fail
        go_round
        case rel => exact ⟨i + 1, by go_num, by omega, hno2⟩
        case measure => simp [intOf]; omega
    · obtain rfl : i = n := by omega
      go_wp2_with fail
      go_ret
      exact ⟨-1, rfl, .inr ⟨rfl, fun k hk => hno.out k (by rw [← HL.out]; exact hk)⟩, by omega, by omega, rfl⟩

/-- that place -/
def firstI (L : List Ent) (key : ByteArray) (s : Int) : Int := if L.findIdx (isK key s) < L.length then (L.findIdx (isK key s) : Int) else -1
theorem firstI_is (L : List Ent) (key : ByteArray) (s : Int) : FirstIs L key s (firstI L key s) := by
  unfold firstI
  by_cases h : L.findIdx (isK key s) < L.length
  · rw [if_pos h]
    refine .inl ⟨_, rfl, h, ?_, fun k hk => ?_⟩
    · rw [List.getD_eq_getElem?_getD, List.getElem?_eq_getElem h]; exact List.findIdx_getElem (w := h)
    · rw [List.getD_eq_getElem?_getD, List.getElem?_eq_getElem (by omega)]
      have := List.not_of_lt_findIdx hk
      simpa using this
  · rw [if_neg h]
    refine .inr ⟨rfl, fun k hk => ?_⟩
    have hf : L.findIdx (isK key s) = L.length := by have := List.findIdx_le_length (xs := L) (p := isK key s); omega
    rw [List.getD_eq_getElem?_getD, List.getElem?_eq_getElem hk]
    have := List.not_of_lt_findIdx (p := isK key s) (xs := L) (i := k) (by omega)
    simpa using this
theorem first_one {L : List Ent} {key : ByteArray} {s r r' : Int} (h : FirstIs L key s r) (h' : FirstIs L key s r') : r = r' := by
  rcases h with ⟨i, rfl, hi, hm, hb⟩ | ⟨rfl, hn⟩
  · rcases h' with ⟨j, rfl, hj, hm', hb'⟩ | ⟨rfl, hn'⟩
    · by_cases h1 : i < j
      · have := hb' i h1; rw [hm] at this; cases this
      · by_cases h2 : j < i
        · have := hb j h2; rw [hm'] at this; cases this
        · omega
    · have := hn' i hi; rw [hm] at this; cases this
  · rcases h' with ⟨j, rfl, hj, hm', hb'⟩ | ⟨rfl, hn'⟩
    · have := hn j hj; rw [hm'] at this; cases this
    · rfl
theorem rfirst2_any (a : Option Addr) (n cap : Nat) (L : List Ent) (hl : L.length = n) (hn : n ≤ 9223372036854775806) (w : World) (hr : ERow w a n (fun i => L.getD i ent0)) (key : ByteArray) (s : Int) :
    Calls Try.prog 28 #[.slice a n cap, .string key, .int .i64 s] w fun e w' => e = .returned (.int .i64 (firstI L key s)) ∧ w = w' :=
  (rfirst_any a n cap L hl hn w hr key s).mono fun e w' ⟨r, he, hf, _, _, hw⟩ => ⟨by rw [he, first_one hf (firstI_is L key s)], hw⟩
end Go.Proofs.Ytmgdcebbeglcmaa.Ew
