/- Several texts in one: MrgR, MrgRV, MrgRC, MrgRM, MrgO, MrgS, MrgN. -/
import Derived.Test.YtpihmjdljbienaaGreatDoorGp
import Derived.Test.YtpihmjdljbienaaGreatDoorCmpW
import Derived.Test.YtpihmjdljbienaaGreatDoorGb
import Derived.BigQuiet
import Derived.Deep.DeepCutAuto
import Derived.Deep.QuietTactic
import Derived.Deep.RegionHeld3
import Derived.Deep.OwnRows
import Derived.Deep.RegionLaw
import Derived.Deep.AppendLies
/- The walks of layer 13's reference: Alive, first, Visible. -/
namespace Go.Proofs.YtpihmjdljbienaaGreatDoor.Mg
open Ew
open Go.RowKit
open En B
set_option linter.unusedVariables false

theorem infoAE : (Tryz.prog.info? 45).map (fun i => (i.zero, i.size, i.bytes)) = some (some (.agg #[.string ⟨#[]⟩, .int .i64 0, .bool false, .string ⟨#[]⟩, .int .i64 0]), 5, 56) := by kernel_rfl

def FirstR (L : List Ent) (key : ByteArray) (s : Int) (w : World) (e : Ending) (w' : World) : Prop := ∃ r : Int, e = .returned (.int .i64 r) ∧ FirstIs L key s r ∧ -1 ≤ r ∧ r ≤ 9223372036854775807 ∧ w = w'

/-- that place -/
def firstI (L : List Ent) (key : ByteArray) (s : Int) : Int := if L.findIdx (isK key s) < L.length then (L.findIdx (isK key s) : Int) else -1
theorem firstI_is (L : List Ent) (key : ByteArray) (s : Int) : FirstIs L key s (firstI L key s) := by
  unfold firstI
  by_cases h : L.findIdx (isK key s) < L.length
  · rw [if_pos h]
    refine .inl ⟨_, rfl, h, ?_, fun k hk => ?_⟩
    · rw [List.getD_eq_getElem?_getD, List.getElem?_eq_getElem h]; exact List.findIdx_getElem (w := h)
    · rw [List.getD_eq_getElem?_getD, List.getElem?_eq_getElem (by omega)]
      have := List.not_of_lt_findIdx hk
      simpa using this
  · rw [if_neg h]
    refine .inr ⟨rfl, fun k hk => ?_⟩
    have hf : L.findIdx (isK key s) = L.length := by have := List.findIdx_le_length (xs := L) (p := isK key s); omega
    rw [List.getD_eq_getElem?_getD, List.getElem?_eq_getElem hk]
    have := List.not_of_lt_findIdx (p := isK key s) (xs := L) (i := k) (by omega)
    simpa using this
theorem first_one {L : List Ent} {key : ByteArray} {s r r' : Int} (h : FirstIs L key s r) (h' : FirstIs L key s r') : r = r' := by
  rcases h with ⟨i, rfl, hi, hm, hb⟩ | ⟨rfl, hn⟩
  · rcases h' with ⟨j, rfl, hj, hm', hb'⟩ | ⟨rfl, hn'⟩
    · by_cases h1 : i < j
      · have := hb' i h1; rw [hm] at this; cases this
      · by_cases h2 : j < i
        · have := hb j h2; rw [hm'] at this; cases this
        · omega
    · have := hn' i hi; rw [hm] at this; cases this
  · rcases h' with ⟨j, rfl, hj, hm', hb'⟩ | ⟨rfl, hn'⟩
    · have := hn j hj; rw [hm'] at this; cases this
    · rfl
end Go.Proofs.YtpihmjdljbienaaGreatDoor.Mg

/- The walk of the reference's Visible. -/
namespace Go.Proofs.YtpihmjdljbienaaGreatDoor.Mg
open Ew
open Go.RowKit
open En B
set_option linter.unusedVariables false

theorem own_lower {w : World} {B B' n size : Nat} {e : TypeId} {v : Value} {xs : List Value} (h : w.ownsRow B e size v n xs) (hb : B' ≤ B) : w.ownsRow B' e size v n xs := by
  refine ⟨h.1, ?_⟩
  rcases h.2 with hv | ⟨g, cap, cur, hv, hB, hr⟩
  · exact .inl hv
  · exact .inr ⟨g, cap, cur, hv, Nat.le_trans hb hB, hr⟩
/-- a slice of entries of the call's own is handed back -/
def OwnR (B : Nat) (T : TypeId) (R : List Ent) (w : World) (e : Ending) (w' : World) : Prop := ∃ p d, e = .returned (.slice p R.length d) ∧ w'.ownsRow B T 5 (.slice p R.length d) R.length (ecells R) ∧ Below B w w'

theorem visT_succ (L : List Ent) (s now : Int) (i : Nat) (h : i < L.length) : visT L s now (i + 1) = visT L s now i ++ (if (topB L s (L.getD i ent0) && aliveE (L.getD i ent0) now) = true then [L.getD i ent0] else []) := filter_take_succ _ L i h
theorem visT_len (L : List Ent) (s now : Int) (i : Nat) : (visT L s now i).length ≤ i := Nat.le_trans (List.length_filter_le _ _) (by rw [List.length_take]; omega)

end Go.Proofs.YtpihmjdljbienaaGreatDoor.Mg

/- The walk of the reference's Compact. -/
namespace Go.Proofs.YtpihmjdljbienaaGreatDoor.Mg
open Ew
open Go.RowKit
open En B
set_option linter.unusedVariables false

theorem filterT_succ (P : Ent → Bool) (K : List Ent) (i : Nat) (h : i < K.length) : (K.take (i + 1)).filter P = (K.take i).filter P ++ (if P (K.getD i ent0) = true then [K.getD i ent0] else []) := filter_take_succ P K i h
theorem filterT_len (P : Ent → Bool) (K : List Ent) (i : Nat) : ((K.take i).filter P).length ≤ i := Nat.le_trans (List.length_filter_le _ _) (by rw [List.length_take]; omega)

theorem firstI_bd (L : List Ent) (key : ByteArray) (s : Int) : -1 ≤ firstI L key s := by unfold firstI; split <;> omega
end Go.Proofs.YtpihmjdljbienaaGreatDoor.Mg

/- The walk of the reference's Merge. -/
namespace Go.Proofs.YtpihmjdljbienaaGreatDoor.Mg
open Ew
open Go.RowKit
open En B
set_option linter.unusedVariables false

/-- a slice of slices of entries (or of boxes of one such), wherever they lie -/
def LsRow (w : World) (la : Option Addr) (ln : Nat) (sl : Nat → Option Addr × Nat × Nat) (ls : List (List Ent)) : Prop :=
  ls.length = ln ∧ Row w la ln (fun i => .slice (sl i).1 (sl i).2.1 (sl i).2.2) ∧ ∀ i, i < ln → (ls.getD i []).length = (sl i).2.1 ∧ (sl i).2.1 ≤ (sl i).2.2 ∧ ERow w (sl i).1 (sl i).2.1 (fun j => (ls.getD i []).getD j ent0)
theorem LsRow.below {w w' : World} {la : Option Addr} {ln : Nat} {sl : Nat → Option Addr × Nat × Nat} {ls : List (List Ent)} (h : LsRow w la ln sl ls) (k : Below w.heap.size w w') : LsRow w' la ln sl ls :=
  ⟨h.1, h.2.1.below k, fun i hi => ⟨(h.2.2 i hi).1, (h.2.2 i hi).2.1, (h.2.2 i hi).2.2.below k⟩⟩
theorem take_flat (ls : List (List Ent)) (i : Nat) (h : i < ls.length) : (ls.take (i + 1)).flatten = (ls.take i).flatten ++ ls.getD i [] := by
  rw [take_snoc ls i [] h, List.flatten_append]; simp
theorem flat_le (ls : List (List Ent)) (i : Nat) (h : i < ls.length) : (ls.take i).flatten.length + (ls.getD i []).length ≤ ls.flatten.length := by
  have h1 : ls.flatten = (ls.take (i + 1)).flatten ++ (ls.drop (i + 1)).flatten := by rw [← List.flatten_append, List.take_append_drop]
  rw [h1, List.length_append, take_flat ls i h, List.length_append]; omega
theorem there_take (R : List Ent) (e : Ent) (j : Nat) (h : j < R.length) : (R.take (j + 1)).any (fun x => sameK x e) = ((R.take j).any (fun x => sameK x e) || sameK (R.getD j ent0) e) := by
  rw [take_snoc R j ent0 h, List.any_append]; simp
theorem keep10 {W W' : World} {b1 b2 o1 o2 : Nat} {a0 a1 a2 a3 a4 c0 c1 c2 c3 c4 : Value}
    (h : (W.cell? ⟨b1, o1, none⟩ = some a0 ∧ W.cell? ⟨b1, o1 + 1, none⟩ = some a1 ∧ W.cell? ⟨b1, o1 + 2, none⟩ = some a2 ∧ W.cell? ⟨b1, o1 + 3, none⟩ = some a3 ∧ W.cell? ⟨b1, o1 + 4, none⟩ = some a4) ∧
      (W.cell? ⟨b2, o2, none⟩ = some c0 ∧ W.cell? ⟨b2, o2 + 1, none⟩ = some c1 ∧ W.cell? ⟨b2, o2 + 2, none⟩ = some c2 ∧ W.cell? ⟨b2, o2 + 3, none⟩ = some c3 ∧ W.cell? ⟨b2, o2 + 4, none⟩ = some c4) ∧ b1 < W.heap.size ∧ b2 < W.heap.size)
    (k : Below W.heap.size W W') :
    ((W'.cell? ⟨b1, o1, none⟩ = some a0 ∧ W'.cell? ⟨b1, o1 + 1, none⟩ = some a1 ∧ W'.cell? ⟨b1, o1 + 2, none⟩ = some a2 ∧ W'.cell? ⟨b1, o1 + 3, none⟩ = some a3 ∧ W'.cell? ⟨b1, o1 + 4, none⟩ = some a4) ∧
      (W'.cell? ⟨b2, o2, none⟩ = some c0 ∧ W'.cell? ⟨b2, o2 + 1, none⟩ = some c1 ∧ W'.cell? ⟨b2, o2 + 2, none⟩ = some c2 ∧ W'.cell? ⟨b2, o2 + 3, none⟩ = some c3 ∧ W'.cell? ⟨b2, o2 + 4, none⟩ = some c4) ∧ b1 < W'.heap.size ∧ b2 < W'.heap.size) := by
  obtain ⟨⟨h0, h1, h2, h3, h4⟩, ⟨g0, g1, g2, g3, g4⟩, hb1, hb2⟩ := h
  exact ⟨⟨(k.cell (p := ⟨b1, o1, Option.none⟩) hb1).trans h0, (k.cell (p := ⟨b1, o1 + 1, Option.none⟩) hb1).trans h1, (k.cell (p := ⟨b1, o1 + 2, Option.none⟩) hb1).trans h2, (k.cell (p := ⟨b1, o1 + 3, Option.none⟩) hb1).trans h3, (k.cell (p := ⟨b1, o1 + 4, Option.none⟩) hb1).trans h4⟩,
    ⟨(k.cell (p := ⟨b2, o2, Option.none⟩) hb2).trans g0, (k.cell (p := ⟨b2, o2 + 1, Option.none⟩) hb2).trans g1, (k.cell (p := ⟨b2, o2 + 2, Option.none⟩) hb2).trans g2, (k.cell (p := ⟨b2, o2 + 3, Option.none⟩) hb2).trans g3, (k.cell (p := ⟨b2, o2 + 4, Option.none⟩) hb2).trans g4⟩,
    Nat.lt_of_lt_of_le hb1 k.size, Nat.lt_of_lt_of_le hb2 k.size⟩

end Go.Proofs.YtpihmjdljbienaaGreatDoor.Mg

/- The walks of layer 13's ordered, same, alike. -/
namespace Go.Proofs.YtpihmjdljbienaaGreatDoor.Mg
open Ew
open Go.RowKit
open En B
set_option linter.unusedVariables false

theorem row_ne {w : World} {g : Nat} {cs : Array Value} {t e : TypeId} {fr : Nat × Nat} {B n size : Nat} {v : Value} {xs : List Value} (hg : w.heap[g]? = some (.cells cs t fr)) (h : w.ownsRow B e size v n xs) (hne : t ≠ e) : v.ownBlock ≠ some g := by
  rcases h.2 with ⟨rfl, _⟩ | ⟨g', cap, cur, rfl, _, hb, _⟩
  · simp [Value.ownBlock]
  · intro hh
    simp only [Value.ownBlock, Option.some.injEq] at hh
    subst hh
    rw [hg] at hb
    simp only [Option.some.injEq, Obj.cells.injEq] at hb
    exact hne hb.2.1
theorem Cell1.alloc {w : World} {g : Nat} {t : TypeId} {v : Value} (h : Cell1 w g t v) (o : Obj) : Cell1 (w.alloc o) g t v := blk_alloc h
theorem own_farB {w : World} {B n size : Nat} {e : TypeId} {v : Value} {xs : List Value} (h : w.ownsRow B e size v n xs) {p : Addr} (hp : v.ownBlock ≠ some p.block) (u : Value) : (w.setCell p u).ownsRow B e size v n xs := by
  refine ⟨h.1, ?_⟩
  rcases h.2 with hv | ⟨g', cap', cur, hv, hB, hb, hr⟩
  · exact .inl hv
  · refine .inr ⟨g', cap', cur, hv, hB, ?_, hr⟩
    rw [hv] at hp
    exact (Below.heap_setCell w p u g' (fun e => hp (by rw [← e]; rfl))).trans hb

theorem own_inp {w : World} {B : Nat} {T : TypeId} {p : Option Addr} {d : Nat} {R : List Ent} (h : w.ownsRow B T 5 (.slice p R.length d) R.length (ecells R)) : R.length ≤ d ∧ d ≤ 9223372036854775807 ∧ ERow w p R.length (fun i => R.getD i ent0) := by
  have h3 := (own_erow h).2.2
  obtain ⟨m, hm⟩ : ∃ m, m = R.length := ⟨_, rfl⟩
  rw [← hm] at h h3 ⊢
  clear hm
  rcases h.2 with ⟨hv, h0⟩ | ⟨g, cap, cur, hv, _, _, hn, hm, _⟩
  · cases hv; exact ⟨by omega, by omega, h3⟩
  · cases hv; exact ⟨hn, by simpa [maxLen] using hm, h3⟩
end Go.Proofs.YtpihmjdljbienaaGreatDoor.Mg

/- The walks of layer 13's same, alike (of equal lists); of merge.Alive, upTo. -/
namespace Go.Proofs.YtpihmjdljbienaaGreatDoor.Mg
open Ew
open Go.RowKit
open En B
set_option linter.unusedVariables false

theorem nq_api (k : ByteArray) (q : Int) (g : Bool) (v : ByteArray) (u : Int) (W : World) :
    (binOp .neq 45 (.agg #[.string k, .int .i64 q, .bool g, .string v, .int .i64 u]) (.agg #[.string k, .int .i64 q, .bool g, .string v, .int .i64 u])).run Tryz.prog W = .ok (.bool false) W := by rw [neq_api, eqE_refl]; rfl
theorem alive_any (k : ByteArray) (q : Int) (g : Bool) (v : ByteArray) (u now : Int) (w : World) :
    Calls Tryz.prog 87 #[.agg #[.string k, .int .i64 q, .bool g, .string v, .int .i64 u], .int .i64 now] w fun e w' => e = .returned (.bool (aliveE ⟨k, q, g, v, u⟩ now)) ∧ Below w.heap.size w w' := by
  have hz := below_alloc (Below.refl w.heap.size w) (.cells #[.string k, .int .i64 q, .bool g, .string v, .int .i64 u] 45)
  cases g with
  | true =>
    have hl : aliveE ⟨k, q, true, v, u⟩ now = false := rfl
    rw [hl]
    go_enter Tryz.func87, Tryz.ntmps87
    go_wp2_with fail
    go_ret
    exact ⟨rfl, hz⟩
  | false =>
    by_cases h0 : u = 0
    · have hl : aliveE ⟨k, q, false, v, u⟩ now = true := by simp [aliveE, h0]
      rw [hl]
      clear hl
      subst h0
      go_enter Tryz.func87, Tryz.ntmps87
      go_wp2_with fail
      go_ret
      exact ⟨rfl, hz⟩
    · have e0 : (u == 0) = false := ef h0
      by_cases h1 : now ≤ u
      · have hl : aliveE ⟨k, q, false, v, u⟩ now = true := by simp [aliveE, h1]
        rw [hl]
        clear hl h0
        go_enter Tryz.func87, Tryz.ntmps87
        go_wp2_with fail
        go_ret
        exact ⟨rfl, hz⟩
      · have hl : aliveE ⟨k, q, false, v, u⟩ now = false := by simp [aliveE, h0, h1]
        rw [hl]
        have h2 : decide (now ≤ u) = false := df h1
        clear hl h0 h1
        go_enter Tryz.func87, Tryz.ntmps87
        go_wp2_with fail
        go_ret
        exact ⟨rfl, hz⟩

/-- the first of n entries up to a number -/
def UpN (f : Nat → Ent) (n : Nat) (s r : Int) : Prop :=
  (∃ i : Nat, r = (i : Int) ∧ i < n ∧ (f i).seq ≤ s ∧ ∀ k, k < i → s < (f k).seq) ∨ (r = -1 ∧ ∀ k, k < n → s < (f k).seq)
def UpR (f : Nat → Ent) (n : Nat) (s : Int) (w : World) (e : Ending) (w' : World) : Prop := ∃ r : Int, e = .returned (.int .i64 r) ∧ UpN f n s r ∧ Below w.heap.size w w'

theorem upto1_any (g0 : Nat) (k : ByteArray) (q : Int) (g : Bool) (v : ByteArray) (u s : Int) (w : World) (hc : w.cell? ⟨g0, 0, none⟩ = some (.int .i64 s)) (hg : g0 < w.heap.size) :
    Calls Tryz.prog 135 #[.agg #[.string k, .int .i64 q, .bool g, .string v, .int .i64 u], .pointer (some ⟨g0, 0, none⟩)] w fun e w' => e = .returned (.bool (decide (q ≤ s))) ∧ Below w.heap.size w w' := by
  have hz := below_alloc (Below.refl w.heap.size w) (.cells #[.string k, .int .i64 q, .bool g, .string v, .int .i64 u] 45)
  go_enter Tryz.func135, Tryz.ntmps135
  go_wp2_with fail
  go_ret
  exact ⟨rfl, hz⟩

set_option maxHeartbeats 800000 in
set_option maxRecDepth 100000 in
theorem index_any (g0 : Nat) (s : Int) (a : Option Addr) (n cap : Nat) (f : Nat → Ent) (hn : n ≤ 9223372036854775806) (w : World) (hr : ERow w a n f) (hc : w.cell? ⟨g0, 0, none⟩ = some (.int .i64 s)) (hg : g0 < w.heap.size) :
    Calls Tryz.prog 134 #[.slice a n cap, .func (.func 135) #[] #[.pointer (some ⟨g0, 0, none⟩)]] w (UpR f n s w) := by
  have HR := Lib.hid hr
  have HC := Lib.hid hc
  clear hr hc
  go_enter Tryz.func134, Tryz.ntmps134
  go_wp2_with fail
  go_loopw [8] (fun si wr => ∃ i : Nat, si = .int .i64 i ∧ i ≤ n ∧ Hid (∀ k, k < i → s < (f k).seq) ∧ Below w.heap.size w wr) (fun si _ => n - (intOf si).toNat)
  case atStart => exact ⟨0, rfl, by omega, (fun k h => by omega), Below.refl _ _⟩
  case round =>
    obtain ⟨i, rfl, hi, hno, hbel⟩ := hrel
    by_cases hlt : i < n
    · obtain ⟨ab, off, rfl, hab, hac⟩ := (HR.out.below hbel).at (by omega)
      have hd := hac i hlt
      obtain ⟨x, hx⟩ : ∃ x, x = f i := ⟨_, rfl⟩
      rw [← hx] at hd
      have HX := Lib.hid hx
      obtain ⟨k0, q0, g0', v0, u0⟩ := x
      simp only at hd
      obtain ⟨d0, d1, d2, d3, d4⟩ := hd
      have i1 : (0 : Int) ≤ (i : Int) := by omega
      have i2 : (i : Int) < (n : Int) := by omega
      have hgs := hbel.size
      have HU := Lib.hid (upto1_any g0 k0 q0 g0' v0 u0 s wr ((hbel.cell (p := ⟨g0, 0, none⟩) hg).trans HC.out) (by omega))
      clear hac hx
      by_cases hq : q0 ≤ s
      · have hqd : decide (q0 ≤ s) = true := dt hq
        have HQ := Lib.hid hq
        rw [hqd] at HU
        clear hq hqd
        go_wp2_with fail
        refine HU.out.mono ?_
        rintro e w2 ⟨rfl, hb2⟩
        have hz := chain hbel hb2
        clear hb2
        go_wp2_with fail
        go_ret
        exact ⟨i, rfl, .inl ⟨i, rfl, hlt, by rw [← HX.out]; exact HQ.out, hno.out⟩, hz⟩
      · have hqd : decide (q0 ≤ s) = false := df hq
        have hno2 : Hid (∀ k, k < i + 1 → s < (f k).seq) := fun k hk => by
          by_cases e : k = i
          · subst e; rw [← HX.out]; show s < q0; omega
          · exact hno.out k (by omega)
        rw [hqd] at HU
        clear hq hqd
        go_wp2_with fail
        refine HU.out.mono ?_
        rintro e w2 ⟨rfl, hb2⟩
        have hz := chain hbel hb2
        clear hb2
        go_wp2_with fail
        go_roundw
        case rel => exact ⟨i + 1, by go_num, by omega, hno2, hz⟩
        case measure => simp [intOf]; omega
    · obtain rfl : i = n := by omega
      go_wp2_with fail
      go_ret
      exact ⟨-1, rfl, .inr ⟨rfl, hno.out⟩, hbel⟩
theorem upto_any (a : Option Addr) (n cap : Nat) (f : Nat → Ent) (hn : n ≤ 9223372036854775806) (s : Int) (w : World) (hr : ERow w a n f) :
    Calls Tryz.prog 86 #[.slice a n cap, .int .i64 s] w (UpR f n s w) := by
  have hb0 := below_alloc (Below.refl w.heap.size w) (.cells #[.int .i64 s] 2)
  have HI := Lib.hid (index_any w.heap.size s a n cap f hn (w.alloc (.cells #[.int .i64 s] 2)) (hr.below ((Below.refl _ _).alloc (Nat.le_refl _) _)) (World.cell?_alloc_at _ _ _ _ rfl) (by simp))
  clear hr
  go_enter Tryz.func86, Tryz.ntmps86
  go_wp2_with fail
  refine HI.out.mono ?_
  rintro e w2 ⟨r, rfl, hu, hb2⟩
  have HU := Lib.hid hu
  have hz := chain hb0 hb2
  clear hu hb2
  go_wp2_with fail
  go_ret
  exact ⟨r, rfl, HU.out, hz⟩
end Go.Proofs.YtpihmjdljbienaaGreatDoor.Mg

/- Entries dealt out to four lists. -/
namespace Go.Proofs.YtpihmjdljbienaaGreatDoor.En
open B
set_option linter.unusedVariables false

theorem sameK_refl (x : Ent) : sameK x x = true := by simp [sameK]
theorem mpE_has {L : List Ent} {e x : Ent} (h : (∃ y ∈ L, sameK y x = true) ∨ x = e) : ∃ y ∈ mpE L e, sameK y x = true := by
  rcases h with ⟨y, hy, hs⟩ | rfl
  · exact ⟨y, mem_mpE.2 (.inl hy), hs⟩
  · cases ht : thereE L x with
    | true =>
      unfold thereE at ht
      rw [List.any_eq_true] at ht
      obtain ⟨y, hy, hs⟩ := ht
      exact ⟨y, mem_mpE.2 (.inl hy), hs⟩
    | false => exact ⟨x, mem_mpE.2 (.inr ⟨rfl, ht⟩), sameK_refl x⟩
theorem mpAll_has : ∀ (es L : List Ent) {x : Ent}, (∃ y ∈ L, sameK y x = true) ∨ x ∈ es → ∃ y ∈ mpAll L es, sameK y x = true
  | [], L, x, h => by
    rcases h with h | h
    · exact h
    · cases h
  | e :: t, L, x, h => by
    rw [mpAll_cons]
    refine mpAll_has t (mpE L e) ?_
    rcases h with h | h
    · exact .inl (mpE_has (.inl h))
    · rcases List.mem_cons.1 h with rfl | h
      · exact .inl (mpE_has (.inr rfl))
      · exact .inr h
theorem sorted_same {R : List Ent} (hs : Sorted R) {x y : Ent} (hx : x ∈ R) (hy : y ∈ R) (h : sameK x y = true) : x = y := by
  obtain ⟨i, hi, rfl⟩ := mem_getD hx
  obtain ⟨j, hj, rfl⟩ := mem_getD hy
  rcases Nat.lt_trichotomy i j with hij | rfl | hij
  · have := hs i j hij hj
    rw [lessE_same h] at this; cases this
  · rfl
  · have := hs j i hij hi
    rw [lessE_same (by rw [sameK_comm]; exact h)] at this; cases this
/-- a list in order, whatever order it is put in -/
theorem mpAll_mem {R X : List Ent} (hs : Sorted R) (h : ∀ x, x ∈ X ↔ x ∈ R) : mpAll [] X = R := by
  have h1 : ∀ x ∈ mpAll [] X, x ∈ R := mpAll_fits (fun x => x ∈ R) X (fun x hx => by cases hx) (fun x hx => (h x).1 hx)
  refine sorted_ext _ _ (mpAll_sorted X sorted_nil) hs fun x => ⟨h1 x, fun hx => ?_⟩
  obtain ⟨y, hy, hsm⟩ := mpAll_has X [] (.inr ((h x).2 hx))
  rwa [sorted_same hs (h1 y hy) hx hsm] at hy

/-- the first i entries, dealt out -/
structure Dealt (R : List Ent) (i : Nat) (Ls : List (List Ent)) : Prop where
  len : Ls.length = 4
  so : ∀ j, j < 4 → Sorted (Ls.getD j [])
  sub : ∀ j, j < 4 → ∀ x ∈ Ls.getD j [], x ∈ R.take i
  cov : ∀ x ∈ R.take i, ∃ j, j < 4 ∧ x ∈ Ls.getD j []
  tot : Ls.flatten.length = i
theorem nil4 (j : Nat) : ([[], [], [], []] : List (List Ent)).getD j [] = [] := by
  match j with
  | 0 => rfl
  | 1 => rfl
  | 2 => rfl
  | 3 => rfl
  | j + 4 => rfl
theorem dealt_0 (R : List Ent) : Dealt R 0 [[], [], [], []] :=
  ⟨rfl, fun j _ => by rw [nil4]; exact sorted_nil, fun j _ x hx => (by rw [nil4] at hx; cases hx), fun x hx => (by simp at hx), rfl⟩
theorem sorted_snoc {L : List Ent} {e : Ent} (h : Sorted L) (hl : ∀ x ∈ L, lessE x e = true) : Sorted (L ++ [e]) := fun i j hij hj => by
  rw [List.length_append] at hj
  simp only [List.length_cons, List.length_nil] at hj
  by_cases hj' : j < L.length
  · rw [List.getD_eq_getElem?_getD, List.getD_eq_getElem?_getD, List.getElem?_append_left (by omega), List.getElem?_append_left hj', ← List.getD_eq_getElem?_getD, ← List.getD_eq_getElem?_getD]
    exact h i j hij hj'
  · obtain rfl : j = L.length := by omega
    rw [List.getD_eq_getElem?_getD, List.getD_eq_getElem?_getD, List.getElem?_append_left (by omega), List.getElem?_append_right (Nat.le_refl _), Nat.sub_self, ← List.getD_eq_getElem?_getD]
    exact hl _ (getD_mem hij)
theorem Dealt.step {R : List Ent} {i k : Nat} {Ls : List (List Ent)} (d : Dealt R i Ls) (hs : Sorted R) (hi : i < R.length) (hk : k < 4) : Dealt R (i + 1) (Ls.set k (Ls.getD k [] ++ [R.getD i ent0])) := by
  have hkl : k < Ls.length := by rw [d.len]; exact hk
  have ht : R.take (i + 1) = R.take i ++ [R.getD i ent0] := take_snoc R i ent0 hi
  have g : ∀ j, j < 4 → (Ls.set k (Ls.getD k [] ++ [R.getD i ent0])).getD j [] = if k = j then Ls.getD k [] ++ [R.getD i ent0] else Ls.getD j [] := fun j hj => getDL_set Ls k j _ (by rw [d.len]; exact hj)
  have hlow : ∀ x ∈ R.take i, lessE x (R.getD i ent0) = true := fun x hx => by
    obtain ⟨j, hj, rfl⟩ := mem_getD hx
    rw [List.length_take] at hj
    have e : (R.take i).getD j ent0 = R.getD j ent0 := by rw [List.getD_eq_getElem?_getD, List.getElem?_take, if_pos (by omega), ← List.getD_eq_getElem?_getD]
    rw [e]
    exact hs j i (by omega) hi
  refine ⟨by rw [List.length_set]; exact d.len, fun j hj => ?_, fun j hj x hx => ?_, fun x hx => ?_, ?_⟩
  · rw [g j hj]
    split
    · exact sorted_snoc (d.so k hk) fun x hx => hlow x (d.sub k hk x hx)
    · exact d.so j hj
  · rw [g j hj] at hx
    rw [ht]
    by_cases e : k = j
    · rw [if_pos e] at hx
      rcases List.mem_append.1 hx with hx | hx
      · exact List.mem_append_left _ (d.sub k hk x hx)
      · exact List.mem_append_right _ hx
    · rw [if_neg e] at hx; exact List.mem_append_left _ (d.sub j hj x hx)
  · rw [ht] at hx
    rcases List.mem_append.1 hx with hx | hx
    · obtain ⟨j, hj, hxj⟩ := d.cov x hx
      refine ⟨j, hj, ?_⟩
      rw [g j hj]
      split
      · rename_i e; subst e; exact List.mem_append_left _ hxj
      · exact hxj
    · exact ⟨k, hk, by rw [g k hk, if_pos rfl]; exact List.mem_append_right _ hx⟩
  · have h1 := d.tot
    rw [flat_at hkl] at h1
    rw [flat_set hkl]
    simp only [List.length_append, List.length_cons, List.length_nil] at h1 ⊢
    omega
theorem Dealt.done {R : List Ent} {i : Nat} {Ls : List (List Ent)} (d : Dealt R i Ls) (hs : Sorted R) (hi : i = R.length) : mpAll [] Ls.flatten = R := by
  refine mpAll_mem hs fun x => ?_
  have h1 := d.sub
  have h2 := d.cov
  rw [hi, List.take_length] at h1 h2
  constructor
  · intro hx
    obtain ⟨j, hj, hxj⟩ := mem_flat hx
    exact h1 j (by rw [← d.len]; exact hj) x hxj
  · intro hx
    obtain ⟨j, hj, hxj⟩ := h2 x hx
    rw [flat_at (j := j) (by rw [d.len]; exact hj)]
    exact List.mem_append_right _ (List.mem_append_left _ hxj)
end Go.Proofs.YtpihmjdljbienaaGreatDoor.En
namespace Go.Proofs.YtpihmjdljbienaaGreatDoor.Mg
open Ew
open Go.RowKit
open En B
set_option linter.unusedVariables false

def sv (s : Option Addr × Nat × Nat) : Value := .slice s.1 s.2.1 s.2.2
def upd (sl : Nat → Option Addr × Nat × Nat) (k : Nat) (s : Option Addr × Nat × Nat) (j : Nat) : Option Addr × Nat × Nat := if j = k then s else sl j
/-- four lists in memory, each in a row of its own -/
structure Four (B gl : Nat) (sl : Nat → Option Addr × Nat × Nat) (Ls : List (List Ent)) (W : World) : Prop where
  blk : W.heap[gl]? = some (.cells #[sv (sl 0), sv (sl 1), sv (sl 2), sv (sl 3)] 33 (0, 0))
  own : ∀ j, j < 4 → W.ownsRow B 45 5 (sv (sl j)) (sl j).2.1 (ecells (Ls.getD j []))
  dis : ∀ j k, j < 4 → k < 4 → j ≠ k → (sv (sl j)).ownBlock = none ∨ (sv (sl j)).ownBlock ≠ (sv (sl k)).ownBlock
theorem Four.below {B gl : Nat} {sl : Nat → Option Addr × Nat × Nat} {Ls : List (List Ent)} {W W' : World} (f : Four B gl sl Ls W) (k : Below W.heap.size W W') : Four B gl sl Ls W' :=
  ⟨(k.block gl (lt_of_block f.blk)).trans f.blk, fun j hj => own_below (f.own j hj) k, f.dis⟩
theorem Four.cell {B gl : Nat} {sl : Nat → Option Addr × Nat × Nat} {Ls : List (List Ent)} {W : World} (f : Four B gl sl Ls W) (k : Nat) (hk : k < 4) : W.cell? ⟨gl, k, none⟩ = some (sv (sl k)) := by
  have hc := fun j => cell_of_row W gl j _ _ _ f.blk
  obtain rfl | rfl | rfl | rfl : k = 0 ∨ k = 1 ∨ k = 2 ∨ k = 3 := by omega
  · exact hc 0
  · exact hc 1
  · exact hc 2
  · exact hc 3
theorem Four.fz {B gl : Nat} {sl : Nat → Option Addr × Nat × Nat} {Ls : List (List Ent)} {W : World} (f : Four B gl sl Ls W) (k : Nat) : W.frozen? ⟨gl, k, none⟩ = false := by
  have h := f.blk
  simp [World.frozen?, h]
theorem Four.put {B gl g cap : Nat} {sl : Nat → Option Addr × Nat × Nat} {Ls : List (List Ent)} {W W5 : World} {k : Nat} {e : Ent} (f : Four B gl sl Ls W) (hLs : Ls.length = 4) (hk : k < 4)
    (ho : W5.ownsRow B 45 5 (.slice (some ⟨g, 0, none⟩) ((sl k).2.1 + 1) cap) ((sl k).2.1 + 1) (ecells (Ls.getD k []) ++ e.cells)) (hg : W.grownBy W5 (sv (sl k)).ownBlock) (hn : (sv (sl k)).ownBlock = some g ∨ g = W.heap.size) :
    W5.heap[gl]? = some (.cells #[sv (sl 0), sv (sl 1), sv (sl 2), sv (sl 3)] 33 (0, 0)) ∧
    Four B gl (upd sl k (some ⟨g, 0, none⟩, (sl k).2.1 + 1, cap)) (Ls.set k (Ls.getD k [] ++ [e])) (W5.setCell ⟨gl, k, none⟩ (.slice (some ⟨g, 0, none⟩) ((sl k).2.1 + 1) cap)) := by
  have hb : W5.heap[gl]? = some (.cells #[sv (sl 0), sv (sl 1), sv (sl 2), sv (sl 3)] 33 (0, 0)) := blk_grown hg f.blk (row_ne f.blk (f.own k hk) (by decide))
  have hgl : ∀ {v : Value} {n : Nat} {xs : List Value}, W5.ownsRow B 45 5 v n xs → v.ownBlock ≠ some gl := fun h => row_ne hb h (by decide)
  refine ⟨hb, ?_, fun j hj => ?_, fun i j hi hj hij => ?_⟩
  · rw [heap_setCell_same W5 gl k _ _ _ hb]
    obtain rfl | rfl | rfl | rfl : k = 0 ∨ k = 1 ∨ k = 2 ∨ k = 3 := by omega
    · rfl
    · rfl
    · rfl
    · rfl
  · rw [getDL_set Ls k j _ (by omega)]
    unfold upd
    by_cases e1 : j = k
    · subst e1
      rw [if_pos rfl, if_pos rfl, ecells_snoc]
      exact own_farB ho (p := ⟨gl, j, none⟩) (hgl ho) _
    · rw [if_neg e1, if_neg (fun e' => e1 e'.symm)]
      have := (f.own j hj).kept hg (f.dis j k hj hk e1)
      exact own_farB this (p := ⟨gl, k, none⟩) (hgl this) _
  · have key : ∀ j, j < 4 → j ≠ k → (sv (sl j)).ownBlock = none ∨ (sv (sl j)).ownBlock ≠ some g := fun j hj hjk => by
      rcases hn with hn | hn
      · rw [← hn]; exact f.dis j k hj hk hjk
      · cases hb' : (sv (sl j)).ownBlock with
        | none => exact .inl rfl
        | some x =>
          have := ((f.own j hj).lt x hb').2
          exact .inr fun e' => by cases e'; omega
    unfold upd
    by_cases e1 : i = k
    · have e2 : j ≠ k := by omega
      rw [if_pos e1, if_neg e2]
      refine .inr fun e' => ?_
      rcases key j hj e2 with h | h
      · rw [h] at e'; cases e'
      · exact h e'.symm
    · rw [if_neg e1]
      by_cases e2 : j = k
      · rw [if_pos e2]; exact key i hi e1
      · rw [if_neg e2]; exact f.dis i j hi hj hij
theorem four_0 {B gl : Nat} {W : World} (h : W.heap[gl]? = some (.cells #[.slice none 0 0, .slice none 0 0, .slice none 0 0, .slice none 0 0] 33 (0, 0))) : Four B gl (fun _ => (none, 0, 0)) [[], [], [], []] W :=
  ⟨h, fun j hj => by rw [nil4]; exact World.ownsRow_nil _ _ _ _, fun j k _ _ _ => .inl rfl⟩
theorem Four.row {B gl : Nat} {sl : Nat → Option Addr × Nat × Nat} {Ls : List (List Ent)} {W : World} (f : Four B gl sl Ls W) (hLs : Ls.length = 4) : LsRow W (some ⟨gl, 0, none⟩) 4 sl Ls := by
  refine ⟨hLs, .inr ⟨gl, 0, rfl, lt_of_block f.blk, fun i hi => by rw [Nat.zero_add]; exact f.cell i hi⟩, fun i hi => ?_⟩
  have h := f.own i hi
  have hl := (own_erow h).2.1
  unfold sv at h
  have h' := h
  rw [hl] at h
  obtain ⟨h1, h2, h3⟩ := own_inp h
  exact ⟨hl.symm, by omega, by rw [hl]; exact h3⟩
theorem step_pushF {P : Program} {ops : Array Oper} {o : Oper} {a : Act} {K : Act → World → Prop} {Q : Exit → Act → World → Prop} {E : Prop} (hgd : o.guard = none) (s x : Operand) (t : TypeId)
    (ho : o.op = .call { callee := .builtin .append, args := #[s, x], argTypes := #[t, t] }) {e : TypeId} {z : Value} {size bytes : Nat} (ht : P.underlying t = some (.slice e))
    (hinfo : (P.info? e).map (fun i => (i.zero, i.size, i.bytes)) = some (some z, size, bytes)) (hzs : z.cells.size = size) (hsz : 0 < size) {w : World} {B n c g : Nat} {xs : List Value} {v : Value} (hs : a.eval s = v)
    (cs : Array Value) (hcs : cs.size = size) (h1 : ∀ u ∈ cs.toList, u.oneCell' = true) (hx : a.eval x = .slice (some ⟨g, 0, none⟩) 1 c) (hg : w.heap[g]? = some (.cells cs e (0, 0))) (hown : w.ownsRow B e size v n xs) (hbase : B ≤ w.heap.size)
    (h63 : n + 1 ≤ maxLen) (hbytes : (n + 1) * bytes ≤ 140737488355328)
    (h : ∀ g' cap w', w'.ownsRow B e size (.slice (some ⟨g', 0, none⟩) (n + 1) cap) (n + 1) (xs ++ cs.toList) → w.grownBy w' v.ownBlock → Below B w w' → (v.ownBlock = some g' ∨ g' = w.heap.size) → K (a.put o.dst (.slice (some ⟨g', 0, none⟩) (n + 1) cap)) w') :
    if Region.wanted o (yielded ops a.tmps) = true then Oper.wp P o a w K Q else E := by
  obtain ⟨i0, hi, hz0, hz1, hz2⟩ := info_parts hinfo
  refine step_append_lies w hgd s x t ho B e i0 z size bytes ht hi hz0 hz1 hz2 hzs hsz v n xs hs hown ⟨g, 0, none⟩ 1 c cs.toList hx (by simp [hcs]) (World.news_of_block hg) h1 (by omega) h63 hbytes hbase _ rfl ?_
  intro g' cap w' hown' hgr hln _
  exact h _ _ _ hown' hgr ((Below.refl B w).grown hgr hbase (fun k hk => (hown.lt k hk).1)) hln
theorem Four.put' {B gl g cap : Nat} {pa : Option Addr} {mk dk : Nat} {sl : Nat → Option Addr × Nat × Nat} {Ls : List (List Ent)} {W W5 : World} {k : Nat} {e : Ent} (f : Four B gl sl Ls W) (hLs : Ls.length = 4) (hk : k < 4) (hsk : (pa, mk, dk) = sl k)
    (ho : W5.ownsRow B 45 5 (.slice (some ⟨g, 0, none⟩) (mk + 1) cap) (mk + 1) (ecells (Ls.getD k []) ++ e.cells)) (hg : W.grownBy W5 (Value.slice pa mk dk).ownBlock) (hn : (Value.slice pa mk dk).ownBlock = some g ∨ g = W.heap.size) :
    (W5.cell? ⟨gl, k, none⟩ = some (.slice pa mk dk) ∧ W5.frozen? ⟨gl, k, none⟩ = false) ∧
    Four B gl (upd sl k (some ⟨g, 0, none⟩, mk + 1, cap)) (Ls.set k (Ls.getD k [] ++ [e])) (W5.setCell ⟨gl, k, none⟩ (.slice (some ⟨g, 0, none⟩) (mk + 1) cap)) := by
  have e1 : (sl k).2.1 = mk := by rw [← hsk]
  have e2 : sv (sl k) = .slice pa mk dk := by rw [← hsk]; rfl
  rw [← e1] at ho
  rw [← e2] at hg hn
  obtain ⟨h1, h2⟩ := f.put hLs hk ho hg hn
  have hf : Four B gl sl Ls W → True := fun _ => trivial
  refine ⟨⟨?_, ?_⟩, by rw [← e1]; exact h2⟩
  · rw [← e2]
    have hc := fun j => cell_of_row W5 gl j _ _ _ h1
    obtain rfl | rfl | rfl | rfl : k = 0 ∨ k = 1 ∨ k = 2 ∨ k = 3 := by omega
    · exact hc 0
    · exact hc 1
    · exact hc 2
    · exact hc 3
  · simp [World.frozen?, h1]
theorem Four.put2 {B gl g cap : Nat} {pa : Option Addr} {mk dk : Nat} {sl : Nat → Option Addr × Nat × Nat} {Ls : List (List Ent)} {W0 W W5 : World} {k : Nat} {e : Ent} (f : Four B gl sl Ls W0) (hLs : Ls.length = 4) (hk : k < 4) (hsk : (pa, mk, dk) = sl k)
    (ho : W5.ownsRow B 45 5 (.slice (some ⟨g, 0, none⟩) (mk + 1) cap) (mk + 1) (ecells (Ls.getD k []) ++ e.cells)) (hg : W.grownBy W5 (Value.slice pa mk dk).ownBlock) (hn : (Value.slice pa mk dk).ownBlock = some g ∨ g = W.heap.size)
    (hb : Below W0.heap.size W0 W) :
    (W5.cell? ⟨gl, k, none⟩ = some (.slice pa mk dk) ∧ W5.frozen? ⟨gl, k, none⟩ = false) ∧
    Four B gl (upd sl k (some ⟨g, 0, none⟩, mk + 1, cap)) (Ls.set k (Ls.getD k [] ++ [e])) (W5.setCell ⟨gl, k, none⟩ (.slice (some ⟨g, 0, none⟩) (mk + 1) cap)) :=
  (f.below hb).put' hLs hk hsk ho hg hn
end Go.Proofs.YtpihmjdljbienaaGreatDoor.Mg
