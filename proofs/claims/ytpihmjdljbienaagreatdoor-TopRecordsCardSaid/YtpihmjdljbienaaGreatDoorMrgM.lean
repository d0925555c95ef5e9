/- A map of counts: what a look-up and a store do. -/
import Derived.Test.YtpihmjdljbienaaGreatDoorMrgX
import Derived.Maps.Own
import Derived.Maps.Views
namespace Go.Proofs.YtpihmjdljbienaaGreatDoor.Mg
open Ew
open Go.RowKit
open En B
set_option linter.unusedVariables false

/-- block b is a map of at most k counts: c -/
def MapC (W : World) (b k : Nat) (c : Nat → Int) : Prop :=
  ∃ D : DataW Unit, Maps.IsMap D ∧ W.ownsMap Tryz.prog 3 (plainElem Tryz.prog 3) b k D ∧ ∀ i : Nat, i ≤ 9223372036854775807 → D.atKey (.int .i64 i) (.lit (.int .i64 0)) = .lit (.int .i64 (c i))
theorem wf64 {x : Int} (h : -9223372036854775808 ≤ x ∧ x ≤ 9223372036854775807) : (Lit.int .i64 x).wf = true := by
  simpa [Lit.wf, IntKind.min, IntKind.max, IntKind.signed, IntKind.bits] using h
theorem mapC_new (w : World) : MapC (w.alloc (.map #[] 0)) w.heap.size 0 (fun _ => 0) :=
  ⟨.map [], Maps.isMap_empty, World.ownsMap_made _ _ _ _, fun i _ => rfl⟩
theorem MapC.kept {w w' : World} {row : Option Nat} {b k : Nat} {c : Nat → Int} (h : MapC w b k c) (hg : w.grownBy w' row) (hne : some b ≠ row) : MapC w' b k c := by
  obtain ⟨D, h1, h2, h3⟩ := h
  exact ⟨D, h1, h2.kept hg hne, h3⟩
theorem MapC.below {w w' : World} {b k : Nat} {c : Nat → Int} (h : MapC w b k c) (hb : Below w.heap.size w w') : MapC w' b k c :=
  h.kept (row := none) ⟨hb.os, hb.tape, hb.output, hb.size, fun i hi _ => hb.block i hi⟩ (by simp)
theorem MapC.mono {w : World} {b k k' : Nat} {c : Nat → Int} (h : MapC w b k c) (hk : k ≤ k') : MapC w b k' c := by
  obtain ⟨D, h1, h2, h3⟩ := h
  exact ⟨D, h1, h2.mono hk, h3⟩
theorem MapC.blk {w : World} {b k : Nat} {c : Nat → Int} (h : MapC w b k c) : ∃ es ck, w.heap[b]? = some (.map es ck) := by
  obtain ⟨D, h1, ⟨es, ck, hh, _⟩, h3⟩ := h
  exact ⟨es, ck, hh⟩
theorem wpListIn_pushG {F : Fence} {nF : Nat} {P : Program} {ops : Array Oper} {rest : List Oper} {o : Oper} {a : Act} {Q : Exit → Act → World → Prop} (hgd : o.guard = none) (s x : Operand) (t : TypeId)
    (ho : o.op = .call { callee := .builtin .append, args := #[s, x], argTypes := #[t, t] }) {e : TypeId} {z : Value} {size bytes : Nat} (ht : P.underlying t = some (.slice e))
    (hinfo : (P.info? e).map (fun i => (i.zero, i.size, i.bytes)) = some (some z, size, bytes)) (hzs : z.cells.size = size) (hsz : 0 < size) {w : World} {B n c g : Nat} {xs : List Value} {v : Value} (hs : a.eval s = v)
    (cs : Array Value) (hcs : cs.size = size) (h1 : ∀ u ∈ cs.toList, u.oneCell' = true) (hx : a.eval x = .slice (some ⟨g, 0, none⟩) 1 c) (hg : w.heap[g]? = some (.cells cs e (0, 0))) (hown : w.ownsRow B e size v n xs) (hbase : B ≤ w.heap.size)
    (h63 : n + 1 ≤ maxLen) (hbytes : (n + 1) * bytes ≤ 140737488355328)
    (h : ∀ a' cap w', w'.ownsRow B e size (.slice a' (n + 1) cap) (n + 1) (xs ++ cs.toList) → w.grownBy w' v.ownBlock → Below B w w' → wpListIn F nF P ops Q rest (a.put o.dst (.slice a' (n + 1) cap)) w') :
    wpListIn F nF P ops Q (o :: rest) a w := by
  obtain ⟨i0, hi, hz0, hz1, hz2⟩ := info_parts hinfo
  refine wpListIn_append_own _ hgd s x t ho B e i0 z size bytes ht hi hz0 hz1 hz2 hzs hsz v n xs hs hown ⟨g, 0, none⟩ 1 c cs.toList hx (by simp [hcs]) (World.news_of_block hg) h1 h63 hbytes hbase ?_
  intro v' w' hown' hgr _
  obtain ⟨a', cap, rfl, _⟩ := own_form hown'
  exact h a' cap w' hown' hgr ((Below.refl B w).grown hgr hbase (fun k hk => (hown.lt k hk).1))
theorem ecells_take (R : List Ent) (m : Nat) : (ecells R).take (m * 5) = ecells (R.take m) := by
  induction R generalizing m with
  | nil => simp [ecells]
  | cons e t ih =>
    cases m with
    | zero => simp [ecells]
    | succ m =>
      show (e.cells ++ ecells t).take ((m + 1) * 5) = e.cells ++ ecells (t.take m)
      rw [List.take_append, List.take_of_length_le (by show 5 ≤ _; omega), show (m + 1) * 5 - e.cells.length = m * 5 from by show (m + 1) * 5 - 5 = _; omega, ih]
theorem own_shrink {w : World} {B m d : Nat} {e : TypeId} {pp : Option Addr} {R : List Ent} (h : w.ownsRow B e 5 (.slice pp m d) m (ecells R)) (j : Nat) (hj : j ≤ m) (h0 : 0 < m) : w.ownsRow B e 5 (.slice pp j d) j (ecells (R.take j)) := by
  have hl := h.1
  rw [ecells_len] at hl
  rcases h.2 with ⟨_, h1⟩ | ⟨g, cap, cur, hv, hB, hg, hn, hm, hs, ht⟩
  · omega
  · cases hv
    refine ⟨by rw [ecells_len, List.length_take]; omega, .inr ⟨g, d, cur, rfl, hB, hg, by omega, hm, hs, ?_⟩⟩
    rw [← ecells_take, ← ht, List.take_take, Nat.min_eq_left (by omega)]
theorem own_cells {w : World} {B n size : Nat} {e : TypeId} {v : Value} {xs : List Value} (h : w.ownsRow B e size v n xs) (k : Nat) (o : Obj) (hk : v.ownBlock = some k) (ho : w.heap[k]? = some o) : o.isCells = true := by
  rcases h.2 with ⟨he, _⟩ | ⟨g', cap', cur, he, _, hgb, _⟩
  · rw [he] at hk; cases hk
  · rw [he] at hk
    simp only [Value.ownBlock, Option.some.injEq] at hk
    subst hk
    rw [hgb] at ho
    cases ho
    rfl

/-- how long the slice is that a variable holds -/
def lenAt (W : World) (g : Nat) : Nat := match W.cell? ⟨g, 0, none⟩ with | some (.slice _ m _) => m | _ => 0
theorem lenAt_is {W : World} {g : Nat} {t : TypeId} {a : Option Addr} {m d : Nat} (h : Cell1 W g t (.slice a m d)) : lenAt W g = m := by unfold lenAt; rw [h.cell]
/-- the state within a round of Compact -/
structure RJ (w W : World) (sa : Option Addr) (sn scap : Nat) (now : Int) (bot : Bool) (vb : Value) (gm km : Nat) (cn : Nat → Int) (R : List Ent) (pp : Option Addr) (m d : Nat) (wr : World) : Prop where
  c4 : Cell1 wr w.heap.size 200 (.slice sa sn scap)
  c5 : Cell1 wr (w.heap.size + 1) 2 (.int .i64 now)
  c6 : Cell1 wr (w.heap.size + 2) 4 (.bool bot)
  c7 : Cell1 wr (w.heap.size + 3) 33 (.slice pp m d)
  own : wr.ownsRow w.heap.size 45 5 (.slice pp m d) m (ecells R)
  len : m = R.length
  bel : Below w.heap.size w wr
  siz : w.heap.size + 4 < wr.heap.size
  kept : Kept (w.heap.size + 4) W wr
  box : Cell1 wr (w.heap.size + 4) 33 vb
  map : MapC wr gm km cn

section
variable {w W wr : World} {sa : Option Addr} {sn scap : Nat} {now : Int} {bot : Bool} {vb : Value} {gm km : Nat} {cn : Nat → Int} {R : List Ent} {pp : Option Addr} {m d : Nat}
theorem RJ.below {w' : World} (h : RJ w W sa sn scap now bot vb gm km cn R pp m d wr) (k : Below wr.heap.size wr w') : RJ w W sa sn scap now bot vb gm km cn R pp m d w' :=
  ⟨h.c4.below k, h.c5.below k, h.c6.below k, h.c7.below k, own_below h.own k, h.len, chain h.bel k, Nat.lt_of_lt_of_le h.siz k.size, h.kept.trans (kept_below h.siz k), h.box.below k, h.map.below k⟩
theorem map_ne {b k g : Nat} {c : Nat → Int} {t : TypeId} {v : Value} (h : MapC wr b k c) (hc : Cell1 wr g t v) : b ≠ g := fun e => by
  obtain ⟨es, ck, hh⟩ := h.blk
  subst e
  unfold Cell1 at hc
  rw [hc] at hh
  cases hh
theorem MapC.setCell {b k g : Nat} {c : Nat → Int} {t : TypeId} {v : Value} (h : MapC wr b k c) (hc : Cell1 wr g t v) (v' : Value) : MapC (wr.setCell ⟨g, 0, none⟩ v') b k c :=
  h.kept (row := some g) (grownBy_setCell' wr g v') (fun e => map_ne h hc (Option.some.inj e))
theorem RJ.push {w5 : World} {a5 : Option Addr} {cap5 : Nat} {e : Ent} (h : RJ w W sa sn scap now bot vb gm km cn R pp m d wr) (ho : w5.ownsRow w.heap.size 45 5 (.slice a5 (m + 1) cap5) (m + 1) (ecells R ++ e.cells))
    (hg : wr.grownBy w5 (Value.slice pp m d).ownBlock) (hb : Below w.heap.size wr w5) :
    Cell1 w5 (w.heap.size + 3) 33 (.slice pp m d) ∧ RJ w W sa sn scap now bot vb gm km cn (R ++ [e]) a5 (m + 1) cap5 (w5.setCell ⟨w.heap.size + 3, 0, none⟩ (.slice a5 (m + 1) cap5)) := by
  have c7 : Cell1 w5 (w.heap.size + 3) 33 (.slice pp m d) := blk_grown hg h.c7 (row_ne h.c7 h.own (by decide))
  have c4 : Cell1 w5 w.heap.size 200 (.slice sa sn scap) := blk_grown hg h.c4 (row_ne h.c4 h.own (by decide))
  have c5 : Cell1 w5 (w.heap.size + 1) 2 (.int .i64 now) := blk_grown hg h.c5 (row_ne h.c5 h.own (by decide))
  have c6 : Cell1 w5 (w.heap.size + 2) 4 (.bool bot) := blk_grown hg h.c6 (row_ne h.c6 h.own (by decide))
  have c8 : Cell1 w5 (w.heap.size + 4) 33 vb := blk_grown hg h.box (row_ne h.box h.own (by decide))
  have hm : MapC w5 gm km cn := h.map.kept hg (fun e' => by
    obtain ⟨es, ck, hh⟩ := h.map.blk
    have := own_cells h.own gm _ e'.symm hh
    cases this)
  refine ⟨c7, ⟨c4.far (p := ⟨w.heap.size + 3, 0, none⟩) (by show w.heap.size ≠ w.heap.size + 3; omega) _, c5.far (p := ⟨w.heap.size + 3, 0, none⟩) (by show w.heap.size + 1 ≠ w.heap.size + 3; omega) _, c6.far (p := ⟨w.heap.size + 3, 0, none⟩) (by show w.heap.size + 2 ≠ w.heap.size + 3; omega) _, c7.set _, ?_, ?_, (h.bel.trans hb).setCell (p := ⟨w.heap.size + 3, 0, none⟩) (by show w.heap.size ≤ w.heap.size + 3; omega) _, ?_, ?_, c8.far (p := ⟨w.heap.size + 3, 0, none⟩) (by show w.heap.size + 4 ≠ w.heap.size + 3; omega) _, hm.setCell c7 _⟩⟩
  · rw [ecells_snoc]
    exact own_farB ho (p := ⟨w.heap.size + 3, 0, none⟩) (row_ne (g := w.heap.size + 3) c7 ho (by decide)) _
  · rw [List.length_append, ← h.len]; rfl
  · rw [size_set]; exact Nat.lt_of_lt_of_le h.siz hg.size
  · exact (h.kept.trans (kept_grown h.siz hg (row_ne h.box h.own (by decide)) (own_cells h.own))).trans (kept_set c7 (by omega) _)
theorem RJ.upd {w3 : World} {km' : Nat} {cn' : Nat → Int} (h : RJ w W sa sn scap now bot vb gm km cn R pp m d wr) (hg : wr.grownBy w3 (some gm)) (hm : MapC w3 gm km' cn') (hW : W.heap.size ≤ gm) (hw : w.heap.size ≤ W.heap.size) :
    RJ w W sa sn scap now bot vb gm km' cn' R pp m d w3 := by
  have ne : ∀ {g : Nat} {t : TypeId} {v : Value}, Cell1 wr g t v → some gm ≠ some g := fun hc e => map_ne h.map hc (Option.some.inj e)
  refine ⟨blk_grown hg h.c4 (ne h.c4), blk_grown hg h.c5 (ne h.c5), blk_grown hg h.c6 (ne h.c6), blk_grown hg h.c7 (ne h.c7), h.own.kept hg (.inr fun e => ?_), h.len, ?_, Nat.lt_of_lt_of_le h.siz hg.size, ?_, blk_grown hg h.box (ne h.box), hm⟩
  · obtain ⟨es, ck, hh⟩ := h.map.blk
    have := own_cells h.own gm _ e hh
    cases this
  · exact h.bel.grown hg h.bel.size (fun k e => by cases e; omega)
  · exact ⟨Nat.le_trans h.kept.size hg.size, (hg.block _ h.siz (ne h.box).symm).trans h.kept.box, fun k o hk ho => (hg.block k (lt_of_block (h.kept.other k o hk ho)) (fun e => by have := lt_of_block hk; cases e; omega)).trans (h.kept.other k o hk ho)⟩
theorem RJ.pop (h : RJ w W sa sn scap now bot vb gm km cn R pp m d wr) (h0 : 0 < m) :
    RJ w W sa sn scap now bot vb gm km cn (R.take (m - 1)) pp (m - 1) d (wr.setCell ⟨w.heap.size + 3, 0, none⟩ (.slice pp (m - 1) d)) := by
  have hs := own_shrink h.own (m - 1) (by omega) h0
  refine ⟨h.c4.far (p := ⟨w.heap.size + 3, 0, none⟩) (by show w.heap.size ≠ w.heap.size + 3; omega) _, h.c5.far (p := ⟨w.heap.size + 3, 0, none⟩) (by show w.heap.size + 1 ≠ w.heap.size + 3; omega) _, h.c6.far (p := ⟨w.heap.size + 3, 0, none⟩) (by show w.heap.size + 2 ≠ w.heap.size + 3; omega) _, h.c7.set _, ?_, ?_, h.bel.setCell (p := ⟨w.heap.size + 3, 0, none⟩) (by show w.heap.size ≤ w.heap.size + 3; omega) _, ?_, ?_, h.box.far (p := ⟨w.heap.size + 3, 0, none⟩) (by show w.heap.size + 4 ≠ w.heap.size + 3; omega) _, h.map.setCell h.c7 _⟩
  · exact own_farB hs (p := ⟨w.heap.size + 3, 0, none⟩) (row_ne (g := w.heap.size + 3) h.c7 hs (by decide)) _
  · rw [List.length_take, ← h.len]; omega
  · rw [size_set]; exact h.siz
  · exact h.kept.trans (kept_set h.c7 (by omega) _)
end
end Go.Proofs.YtpihmjdljbienaaGreatDoor.Mg
