/- Several texts in one: MrgR, MrgRV, MrgRC, MrgRM, MrgO, MrgS. -/
import Derived.Test.YtpihmjdljbienaaGreatDoorGp
import Derived.Test.YtpihmjdljbienaaGreatDoorCmpW
import Derived.Test.YtpihmjdljbienaaGreatDoorGb
import Derived.BigQuiet
import Derived.Deep.DeepCutAuto
import Derived.Deep.QuietTactic
import Derived.Deep.RegionHeld3
/- The walks of layer 13's reference: Alive, first, Visible. -/
namespace Go.Proofs.YtpihmjdljbienaaGreatDoor.Mg
open Ew
open Go.RowKit
open En B
set_option linter.unusedVariables false

theorem infoAE : (Tryz.prog.info? 45).map (fun i => (i.zero, i.size, i.bytes)) = some (some (.agg #[.string ⟨#[]⟩, .int .i64 0, .bool false, .string ⟨#[]⟩, .int .i64 0]), 5, 56) := by kernel_rfl

def FirstR (L : List Ent) (key : ByteArray) (s : Int) (w : World) (e : Ending) (w' : World) : Prop := ∃ r : Int, e = .returned (.int .i64 r) ∧ FirstIs L key s r ∧ -1 ≤ r ∧ r ≤ 9223372036854775807 ∧ w = w'

/-- that place -/
def firstI (L : List Ent) (key : ByteArray) (s : Int) : Int := if L.findIdx (isK key s) < L.length then (L.findIdx (isK key s) : Int) else -1
theorem firstI_is (L : List Ent) (key : ByteArray) (s : Int) : FirstIs L key s (firstI L key s) := by
  unfold firstI
  by_cases h : L.findIdx (isK key s) < L.length
  · rw [if_pos h]
    refine .inl ⟨_, rfl, h, ?_, fun k hk => ?_⟩
    · rw [List.getD_eq_getElem?_getD, List.getElem?_eq_getElem h]; exact List.findIdx_getElem (w := h)
    · rw [List.getD_eq_getElem?_getD, List.getElem?_eq_getElem (by omega)]
      have := List.not_of_lt_findIdx hk
      simpa using this
  · rw [if_neg h]
    refine .inr ⟨rfl, fun k hk => ?_⟩
    have hf : L.findIdx (isK key s) = L.length := by have := List.findIdx_le_length (xs := L) (p := isK key s); omega
    rw [List.getD_eq_getElem?_getD, List.getElem?_eq_getElem hk]
    have := List.not_of_lt_findIdx (p := isK key s) (xs := L) (i := k) (by omega)
    simpa using this
theorem first_one {L : List Ent} {key : ByteArray} {s r r' : Int} (h : FirstIs L key s r) (h' : FirstIs L key s r') : r = r' := by
  rcases h with ⟨i, rfl, hi, hm, hb⟩ | ⟨rfl, hn⟩
  · rcases h' with ⟨j, rfl, hj, hm', hb'⟩ | ⟨rfl, hn'⟩
    · by_cases h1 : i < j
      · have := hb' i h1; rw [hm] at this; cases this
      · by_cases h2 : j < i
        · have := hb j h2; rw [hm'] at this; cases this
        · omega
    · have := hn' i hi; rw [hm] at this; cases this
  · rcases h' with ⟨j, rfl, hj, hm', hb'⟩ | ⟨rfl, hn'⟩
    · have := hn j hj; rw [hm'] at this; cases this
    · rfl
end Go.Proofs.YtpihmjdljbienaaGreatDoor.Mg

/- The walk of the reference's Visible. -/
namespace Go.Proofs.YtpihmjdljbienaaGreatDoor.Mg
open Ew
open Go.RowKit
open En B
set_option linter.unusedVariables false

theorem own_lower {w : World} {B B' n size : Nat} {e : TypeId} {v : Value} {xs : List Value} (h : w.ownsRow B e size v n xs) (hb : B' ≤ B) : w.ownsRow B' e size v n xs := by
  refine ⟨h.1, ?_⟩
  rcases h.2 with hv | ⟨g, cap, cur, hv, hB, hr⟩
  · exact .inl hv
  · exact .inr ⟨g, cap, cur, hv, Nat.le_trans hb hB, hr⟩
/-- a slice of entries of the call's own is handed back -/
def OwnR (B : Nat) (T : TypeId) (R : List Ent) (w : World) (e : Ending) (w' : World) : Prop := ∃ p d, e = .returned (.slice p R.length d) ∧ w'.ownsRow B T 5 (.slice p R.length d) R.length (ecells R) ∧ Below B w w'

theorem visT_succ (L : List Ent) (s now : Int) (i : Nat) (h : i < L.length) : visT L s now (i + 1) = visT L s now i ++ (if (topB L s (L.getD i ent0) && aliveE (L.getD i ent0) now) = true then [L.getD i ent0] else []) := filter_take_succ _ L i h
theorem visT_len (L : List Ent) (s now : Int) (i : Nat) : (visT L s now i).length ≤ i := Nat.le_trans (List.length_filter_le _ _) (by rw [List.length_take]; omega)

end Go.Proofs.YtpihmjdljbienaaGreatDoor.Mg

/- The walk of the reference's Compact. -/
namespace Go.Proofs.YtpihmjdljbienaaGreatDoor.Mg
open Ew
open Go.RowKit
open En B
set_option linter.unusedVariables false

theorem filterT_succ (P : Ent → Bool) (K : List Ent) (i : Nat) (h : i < K.length) : (K.take (i + 1)).filter P = (K.take i).filter P ++ (if P (K.getD i ent0) = true then [K.getD i ent0] else []) := filter_take_succ P K i h
theorem filterT_len (P : Ent → Bool) (K : List Ent) (i : Nat) : ((K.take i).filter P).length ≤ i := Nat.le_trans (List.length_filter_le _ _) (by rw [List.length_take]; omega)

theorem firstI_bd (L : List Ent) (key : ByteArray) (s : Int) : -1 ≤ firstI L key s := by unfold firstI; split <;> omega
end Go.Proofs.YtpihmjdljbienaaGreatDoor.Mg

/- The walk of the reference's Merge. -/
namespace Go.Proofs.YtpihmjdljbienaaGreatDoor.Mg
open Ew
open Go.RowKit
open En B
set_option linter.unusedVariables false

/-- a slice of slices of entries (or of boxes of one such), wherever they lie -/
def LsRow (w : World) (la : Option Addr) (ln : Nat) (sl : Nat → Option Addr × Nat × Nat) (ls : List (List Ent)) : Prop :=
  ls.length = ln ∧ Row w la ln (fun i => .slice (sl i).1 (sl i).2.1 (sl i).2.2) ∧ ∀ i, i < ln → (ls.getD i []).length = (sl i).2.1 ∧ (sl i).2.1 ≤ (sl i).2.2 ∧ ERow w (sl i).1 (sl i).2.1 (fun j => (ls.getD i []).getD j ent0)
theorem LsRow.below {w w' : World} {la : Option Addr} {ln : Nat} {sl : Nat → Option Addr × Nat × Nat} {ls : List (List Ent)} (h : LsRow w la ln sl ls) (k : Below w.heap.size w w') : LsRow w' la ln sl ls :=
  ⟨h.1, h.2.1.below k, fun i hi => ⟨(h.2.2 i hi).1, (h.2.2 i hi).2.1, (h.2.2 i hi).2.2.below k⟩⟩
theorem take_flat (ls : List (List Ent)) (i : Nat) (h : i < ls.length) : (ls.take (i + 1)).flatten = (ls.take i).flatten ++ ls.getD i [] := by
  rw [take_snoc ls i [] h, List.flatten_append]; simp
theorem flat_le (ls : List (List Ent)) (i : Nat) (h : i < ls.length) : (ls.take i).flatten.length + (ls.getD i []).length ≤ ls.flatten.length := by
  have h1 : ls.flatten = (ls.take (i + 1)).flatten ++ (ls.drop (i + 1)).flatten := by rw [← List.flatten_append, List.take_append_drop]
  rw [h1, List.length_append, take_flat ls i h, List.length_append]; omega
theorem there_take (R : List Ent) (e : Ent) (j : Nat) (h : j < R.length) : (R.take (j + 1)).any (fun x => sameK x e) = ((R.take j).any (fun x => sameK x e) || sameK (R.getD j ent0) e) := by
  rw [take_snoc R j ent0 h, List.any_append]; simp
theorem keep10 {W W' : World} {b1 b2 o1 o2 : Nat} {a0 a1 a2 a3 a4 c0 c1 c2 c3 c4 : Value}
    (h : (W.cell? ⟨b1, o1, none⟩ = some a0 ∧ W.cell? ⟨b1, o1 + 1, none⟩ = some a1 ∧ W.cell? ⟨b1, o1 + 2, none⟩ = some a2 ∧ W.cell? ⟨b1, o1 + 3, none⟩ = some a3 ∧ W.cell? ⟨b1, o1 + 4, none⟩ = some a4) ∧
      (W.cell? ⟨b2, o2, none⟩ = some c0 ∧ W.cell? ⟨b2, o2 + 1, none⟩ = some c1 ∧ W.cell? ⟨b2, o2 + 2, none⟩ = some c2 ∧ W.cell? ⟨b2, o2 + 3, none⟩ = some c3 ∧ W.cell? ⟨b2, o2 + 4, none⟩ = some c4) ∧ b1 < W.heap.size ∧ b2 < W.heap.size)
    (k : Below W.heap.size W W') :
    ((W'.cell? ⟨b1, o1, none⟩ = some a0 ∧ W'.cell? ⟨b1, o1 + 1, none⟩ = some a1 ∧ W'.cell? ⟨b1, o1 + 2, none⟩ = some a2 ∧ W'.cell? ⟨b1, o1 + 3, none⟩ = some a3 ∧ W'.cell? ⟨b1, o1 + 4, none⟩ = some a4) ∧
      (W'.cell? ⟨b2, o2, none⟩ = some c0 ∧ W'.cell? ⟨b2, o2 + 1, none⟩ = some c1 ∧ W'.cell? ⟨b2, o2 + 2, none⟩ = some c2 ∧ W'.cell? ⟨b2, o2 + 3, none⟩ = some c3 ∧ W'.cell? ⟨b2, o2 + 4, none⟩ = some c4) ∧ b1 < W'.heap.size ∧ b2 < W'.heap.size) := by
  obtain ⟨⟨h0, h1, h2, h3, h4⟩, ⟨g0, g1, g2, g3, g4⟩, hb1, hb2⟩ := h
  exact ⟨⟨(k.cell (p := ⟨b1, o1, Option.none⟩) hb1).trans h0, (k.cell (p := ⟨b1, o1 + 1, Option.none⟩) hb1).trans h1, (k.cell (p := ⟨b1, o1 + 2, Option.none⟩) hb1).trans h2, (k.cell (p := ⟨b1, o1 + 3, Option.none⟩) hb1).trans h3, (k.cell (p := ⟨b1, o1 + 4, Option.none⟩) hb1).trans h4⟩,
    ⟨(k.cell (p := ⟨b2, o2, Option.none⟩) hb2).trans g0, (k.cell (p := ⟨b2, o2 + 1, Option.none⟩) hb2).trans g1, (k.cell (p := ⟨b2, o2 + 2, Option.none⟩) hb2).trans g2, (k.cell (p := ⟨b2, o2 + 3, Option.none⟩) hb2).trans g3, (k.cell (p := ⟨b2, o2 + 4, Option.none⟩) hb2).trans g4⟩,
    Nat.lt_of_lt_of_le hb1 k.size, Nat.lt_of_lt_of_le hb2 k.size⟩

end Go.Proofs.YtpihmjdljbienaaGreatDoor.Mg

/- The walks of layer 13's ordered, same, alike. -/
namespace Go.Proofs.YtpihmjdljbienaaGreatDoor.Mg
open Ew
open Go.RowKit
open En B
set_option linter.unusedVariables false

theorem row_ne {w : World} {g : Nat} {cs : Array Value} {t e : TypeId} {fr : Nat × Nat} {B n size : Nat} {v : Value} {xs : List Value} (hg : w.heap[g]? = some (.cells cs t fr)) (h : w.ownsRow B e size v n xs) (hne : t ≠ e) : v.ownBlock ≠ some g := by
  rcases h.2 with ⟨rfl, _⟩ | ⟨g', cap, cur, rfl, _, hb, _⟩
  · simp [Value.ownBlock]
  · intro hh
    simp only [Value.ownBlock, Option.some.injEq] at hh
    subst hh
    rw [hg] at hb
    simp only [Option.some.injEq, Obj.cells.injEq] at hb
    exact hne hb.2.1
theorem Cell1.alloc {w : World} {g : Nat} {t : TypeId} {v : Value} (h : Cell1 w g t v) (o : Obj) : Cell1 (w.alloc o) g t v := blk_alloc h
theorem own_farB {w : World} {B n size : Nat} {e : TypeId} {v : Value} {xs : List Value} (h : w.ownsRow B e size v n xs) {p : Addr} (hp : v.ownBlock ≠ some p.block) (u : Value) : (w.setCell p u).ownsRow B e size v n xs := by
  refine ⟨h.1, ?_⟩
  rcases h.2 with hv | ⟨g', cap', cur, hv, hB, hb, hr⟩
  · exact .inl hv
  · refine .inr ⟨g', cap', cur, hv, hB, ?_, hr⟩
    rw [hv] at hp
    exact (Below.heap_setCell w p u g' (fun e => hp (by rw [← e]; rfl))).trans hb

end Go.Proofs.YtpihmjdljbienaaGreatDoor.Mg

/- The walks of layer 13's same, alike (of equal lists); of merge.Alive, upTo. -/
namespace Go.Proofs.YtpihmjdljbienaaGreatDoor.Mg
open Ew
open Go.RowKit
open En B
set_option linter.unusedVariables false

theorem nq_api (k : ByteArray) (q : Int) (g : Bool) (v : ByteArray) (u : Int) (W : World) :
    (binOp .neq 45 (.agg #[.string k, .int .i64 q, .bool g, .string v, .int .i64 u]) (.agg #[.string k, .int .i64 q, .bool g, .string v, .int .i64 u])).run Tryz.prog W = .ok (.bool false) W := by rw [neq_api, eqE_refl]; rfl
theorem alive_any (k : ByteArray) (q : Int) (g : Bool) (v : ByteArray) (u now : Int) (w : World) :
    Calls Tryz.prog 87 #[.agg #[.string k, .int .i64 q, .bool g, .string v, .int .i64 u], .int .i64 now] w fun e w' => e = .returned (.bool (aliveE ⟨k, q, g, v, u⟩ now)) ∧ Below w.heap.size w w' := by
  have hz := below_alloc (Below.refl w.heap.size w) (.cells #[.string k, .int .i64 q, .bool g, .string v, .int .i64 u] 45)
  cases g with
  | true =>
    have hl : aliveE ⟨k, q, true, v, u⟩ now = false := rfl
    rw [hl]
    go_enter Tryz.func87, Tryz.ntmps87
    go_wp2_with fail
    go_ret
    exact ⟨rfl, hz⟩
  | false =>
    by_cases h0 : u = 0
    · have hl : aliveE ⟨k, q, false, v, u⟩ now = true := by simp [aliveE, h0]
      rw [hl]
      clear hl
      subst h0
      go_enter Tryz.func87, Tryz.ntmps87
      go_wp2_with fail
      go_ret
      exact ⟨rfl, hz⟩
    · have e0 : (u == 0) = false := ef h0
      by_cases h1 : now ≤ u
      · have hl : aliveE ⟨k, q, false, v, u⟩ now = true := by simp [aliveE, h1]
        rw [hl]
        clear hl h0
        go_enter Tryz.func87, Tryz.ntmps87
        go_wp2_with fail
        go_ret
        exact ⟨rfl, hz⟩
      · have hl : aliveE ⟨k, q, false, v, u⟩ now = false := by simp [aliveE, h0, h1]
        rw [hl]
        have h2 : decide (now ≤ u) = false := df h1
        clear hl h0 h1
        go_enter Tryz.func87, Tryz.ntmps87
        go_wp2_with fail
        go_ret
        exact ⟨rfl, hz⟩

/-- the first of n entries up to a number -/
def UpN (f : Nat → Ent) (n : Nat) (s r : Int) : Prop :=
  (∃ i : Nat, r = (i : Int) ∧ i < n ∧ (f i).seq ≤ s ∧ ∀ k, k < i → s < (f k).seq) ∨ (r = -1 ∧ ∀ k, k < n → s < (f k).seq)
def UpR (f : Nat → Ent) (n : Nat) (s : Int) (w : World) (e : Ending) (w' : World) : Prop := ∃ r : Int, e = .returned (.int .i64 r) ∧ UpN f n s r ∧ Below w.heap.size w w'

theorem upto1_any (g0 : Nat) (k : ByteArray) (q : Int) (g : Bool) (v : ByteArray) (u s : Int) (w : World) (hc : w.cell? ⟨g0, 0, none⟩ = some (.int .i64 s)) (hg : g0 < w.heap.size) :
    Calls Tryz.prog 135 #[.agg #[.string k, .int .i64 q, .bool g, .string v, .int .i64 u], .pointer (some ⟨g0, 0, none⟩)] w fun e w' => e = .returned (.bool (decide (q ≤ s))) ∧ Below w.heap.size w w' := by
  have hz := below_alloc (Below.refl w.heap.size w) (.cells #[.string k, .int .i64 q, .bool g, .string v, .int .i64 u] 45)
  go_enter Tryz.func135, Tryz.ntmps135
  go_wp2_with fail
  go_ret
  exact ⟨rfl, hz⟩

set_option maxHeartbeats 800000 in
set_option maxRecDepth 100000 in
theorem index_any (g0 : Nat) (s : Int) (a : Option Addr) (n cap : Nat) (f : Nat → Ent) (hn : n ≤ 9223372036854775806) (w : World) (hr : ERow w a n f) (hc : w.cell? ⟨g0, 0, none⟩ = some (.int .i64 s)) (hg : g0 < w.heap.size) :
    Calls Tryz.prog 134 #[.slice a n cap, .func (.func 135) #[] #[.pointer (some ⟨g0, 0, none⟩)]] w (UpR f n s w) := by
  have HR := Lib.hid hr
  have HC := Lib.hid hc
  clear hr hc
  go_enter Tryz.func134, Tryz.ntmps134
  go_wp2_with fail
  go_loopw [8] (fun si wr => ∃ i : Nat, si = .int .i64 i ∧ i ≤ n ∧ Hid (∀ k, k < i → s < (f k).seq) ∧ Below w.heap.size w wr) (fun si _ => n - (intOf si).toNat)
  case atStart => exact ⟨0, rfl, by omega, (fun k h => by omega), Below.refl _ _⟩
  case round =>
    obtain ⟨i, rfl, hi, hno, hbel⟩ := hrel
    by_cases hlt : i < n
    · obtain ⟨ab, off, rfl, hab, hac⟩ := (HR.out.below hbel).at (by omega)
      have hd := hac i hlt
      obtain ⟨x, hx⟩ : ∃ x, x = f i := ⟨_, rfl⟩
      rw [← hx] at hd
      have HX := Lib.hid hx
      obtain ⟨k0, q0, g0', v0, u0⟩ := x
      simp only at hd
      obtain ⟨d0, d1, d2, d3, d4⟩ := hd
      have i1 : (0 : Int) ≤ (i : Int) := by omega
      have i2 : (i : Int) < (n : Int) := by omega
      have hgs := hbel.size
      have HU := Lib.hid (upto1_any g0 k0 q0 g0' v0 u0 s wr ((hbel.cell (p := ⟨g0, 0, none⟩) hg).trans HC.out) (by omega))
      clear hac hx
      by_cases hq : q0 ≤ s
      · have hqd : decide (q0 ≤ s) = true := dt hq
        have HQ := Lib.hid hq
        rw [hqd] at HU
        clear hq hqd
        go_wp2_with fail
        refine HU.out.mono ?_
        rintro e w2 ⟨rfl, hb2⟩
        have hz := chain hbel hb2
        clear hb2
        go_wp2_with fail
        go_ret
        exact ⟨i, rfl, .inl ⟨i, rfl, hlt, by rw [← HX.out]; exact HQ.out, hno.out⟩, hz⟩
      · have hqd : decide (q0 ≤ s) = false := df hq
        have hno2 : Hid (∀ k, k < i + 1 → s < (f k).seq) := fun k hk => by
          by_cases e : k = i
          · subst e; rw [← HX.out]; show s < q0; omega
          · exact hno.out k (by omega)
        rw [hqd] at HU
        clear hq hqd
        go_wp2_with fail
        refine HU.out.mono ?_
        rintro e w2 ⟨rfl, hb2⟩
        have hz := chain hbel hb2
        clear hb2
        go_wp2_with fail
        go_roundw
        case rel => exact ⟨i + 1, by go_num, by omega, hno2, hz⟩
        case measure => simp [intOf]; omega
    · obtain rfl : i = n := by omega
      go_wp2_with fail
      go_ret
      exact ⟨-1, rfl, .inr ⟨rfl, hno.out⟩, hbel⟩
theorem upto_any (a : Option Addr) (n cap : Nat) (f : Nat → Ent) (hn : n ≤ 9223372036854775806) (s : Int) (w : World) (hr : ERow w a n f) :
    Calls Tryz.prog 86 #[.slice a n cap, .int .i64 s] w (UpR f n s w) := by
  have hb0 := below_alloc (Below.refl w.heap.size w) (.cells #[.int .i64 s] 2)
  have HI := Lib.hid (index_any w.heap.size s a n cap f hn (w.alloc (.cells #[.int .i64 s] 2)) (hr.below ((Below.refl _ _).alloc (Nat.le_refl _) _)) (World.cell?_alloc_at _ _ _ _ rfl) (by simp))
  clear hr
  go_enter Tryz.func86, Tryz.ntmps86
  go_wp2_with fail
  refine HI.out.mono ?_
  rintro e w2 ⟨r, rfl, hu, hb2⟩
  have HU := Lib.hid hu
  have hz := chain hb0 hb2
  clear hu hb2
  go_wp2_with fail
  go_ret
  exact ⟨r, rfl, HU.out, hz⟩
end Go.Proofs.YtpihmjdljbienaaGreatDoor.Mg
