/- Appends in a region that draws its order. -/
import Derived.Test.YtmgdcebbeglcmaaEnt
import Derived.Deep.RegionHeld3
import Derived.Deep.AppendLies
import Derived.Deep.DeepCutAuto
namespace Go.Proofs.Ytmgdcebbeglcmaa.B
open Go.RowKit
set_option linter.unusedVariables false

theorem own_keeps {w w' : World} {B n size : Nat} {e : TypeId} {v : Value} {xs : List Value} {ts : List TypeId} (h : w.ownsRow B e size v n xs) (k : Keeps ts w w') (he : e ∉ ts) : w'.ownsRow B e size v n xs := by
  refine ⟨h.1, ?_⟩
  rcases h.2 with hv | ⟨g, cap, cur, hv, hB, hb, hr⟩
  · exact .inl hv
  · exact .inr ⟨g, cap, cur, hv, hB, k g cur e (0, 0) hb he, hr⟩
theorem own_drew {w : World} {B n size : Nat} {e : TypeId} {v : Value} {xs : List Value} (h : w.ownsRow B e size v n xs) : w.drew.ownsRow B e size v n xs := h
theorem blk_drew {w : World} {g : Nat} {x : Option Obj} (h : w.heap[g]? = x) : w.drew.heap[g]? = x := h
theorem blk_alloc {w : World} {g : Nat} {o x : Obj} (h : w.heap[g]? = some x) : (w.alloc o).heap[g]? = some x := (Below.heap_alloc w o g (lt_of_block h)).trans h
theorem blk_new {w : World} {g : Nat} {o : Obj} (h : w.heap.size = g) : (w.alloc o).heap[g]? = some o := by subst h; exact heap_alloc_new w o
theorem cells5 {w : World} {g : Nat} {t : TypeId} {c0 c1 c2 c3 c4 : Value} (h : w.heap[g]? = some (.cells #[c0, c1, c2, c3, c4] t (0, 0))) :
    w.cell? ⟨g, 0, none⟩ = some c0 ∧ w.cell? ⟨g, 1, none⟩ = some c1 ∧ w.cell? ⟨g, 2, none⟩ = some c2 ∧ w.cell? ⟨g, 3, none⟩ = some c3 ∧ w.cell? ⟨g, 4, none⟩ = some c4 :=
  ⟨cell_of_row w g 0 _ _ _ h, cell_of_row w g 1 _ _ _ h, cell_of_row w g 2 _ _ _ h, cell_of_row w g 3 _ _ _ h, cell_of_row w g 4 _ _ _ h⟩
theorem keep_blk {ts : List TypeId} {w w' : World} {g : Nat} {cs : Array Value} {t : TypeId} {fr : Nat × Nat} (k : Keeps ts w w') (h : w.heap[g]? = some (.cells cs t fr)) (ht : t ∉ ts) : w'.heap[g]? = some (.cells cs t fr) := k g cs t fr h ht
theorem keeps_drew {ts : List TypeId} {a b : World} (h : Keeps ts a b) : Keeps ts a b.drew := h
theorem keeps_drewN {ts : List TypeId} {a b : World} (n : Nat) (h : Keeps ts a b) : Keeps ts a (b.drewN n) := h
theorem keeps_alloc {ts : List TypeId} {a b : World} (h : Keeps ts a b) (o : Obj) : Keeps ts a (b.alloc o) := h.trans (Keeps.below ((Below.refl _ _).alloc (Nat.le_refl _) _))

theorem below_alloc {w a : World} (h : Below w.heap.size w a) (o : Obj) : Below w.heap.size w (a.alloc o) := h.alloc h.size o

theorem step_push {P : Program} {ops : Array Oper} {o : Oper} {a : Act} {K : Act → World → Prop} {Q : Exit → Act → World → Prop} {E : Prop} (hgd : o.guard = none) (s x : Operand) (t : TypeId)
    (ho : o.op = .call { callee := .builtin .append, args := #[s, x], argTypes := #[t, t] }) {e : TypeId} {z : Value} {size bytes : Nat} (ht : P.underlying t = some (.slice e))
    (hinfo : (P.info? e).map (fun i => (i.zero, i.size, i.bytes)) = some (some z, size, bytes)) (hzs : z.cells.size = size) (hsz : 0 < size) {w : World} {B n c g : Nat} {xs : List Value} {v : Value} (hs : a.eval s = v)
    (cs : Array Value) (hcs : cs.size = size) (h1 : ∀ u ∈ cs.toList, u.oneCell' = true) (hx : a.eval x = .slice (some ⟨g, 0, none⟩) 1 c) (hg : w.heap[g]? = some (.cells cs e (0, 0))) (hown : w.ownsRow B e size v n xs) (hbase : B ≤ w.heap.size)
    (h63 : n + 1 ≤ maxLen) (hbytes : (n + 1) * bytes ≤ 140737488355328)
    (h : ∀ a' cap w', w'.ownsRow B e size (.slice a' (n + 1) cap) (n + 1) (xs ++ cs.toList) → Keeps [e] w w' → Below B w w' → K (a.put o.dst (.slice a' (n + 1) cap)) w') :
    if Region.wanted o (yielded ops a.tmps) = true then Oper.wp P o a w K Q else E := by
  obtain ⟨i0, hi, hz0, hz1, hz2⟩ := info_parts hinfo
  refine step_append_lies w hgd s x t ho B e i0 z size bytes ht hi hz0 hz1 hz2 hzs hsz v n xs hs hown ⟨g, 0, none⟩ 1 c cs.toList hx (by simp [hcs]) (World.news_of_block hg) h1 (by omega) h63 hbytes hbase _ rfl ?_
  intro g' cap w' hown' hgr _ _
  exact h _ _ _ hown' (Keeps.grown hown (by simp) hgr) ((Below.refl B w).grown hgr hbase (fun k hk => (hown.lt k hk).1))
end Go.Proofs.Ytmgdcebbeglcmaa.B
