/- An append in a region that draws its order: all blocks but the row's own stay. -/
import Derived.Test.YtmgdcebbeglcmaaTwo
namespace Go.Proofs.Ytmgdcebbeglcmaa.B
open Go.RowKit
set_option linter.unusedVariables false

theorem step_pushG {P : Program} {ops : Array Oper} {o : Oper} {a : Act} {K : Act → World → Prop} {Q : Exit → Act → World → Prop} {E : Prop} (hgd : o.guard = none) (s x : Operand) (t : TypeId)
    (ho : o.op = .call { callee := .builtin .append, args := #[s, x], argTypes := #[t, t] }) {e : TypeId} {z : Value} {size bytes : Nat} (ht : P.underlying t = some (.slice e))
    (hinfo : (P.info? e).map (fun i => (i.zero, i.size, i.bytes)) = some (some z, size, bytes)) (hzs : z.cells.size = size) (hsz : 0 < size) {w : World} {B n c g : Nat} {xs : List Value} {v : Value} (hs : a.eval s = v)
    (cs : Array Value) (hcs : cs.size = size) (h1 : ∀ u ∈ cs.toList, u.oneCell' = true) (hx : a.eval x = .slice (some ⟨g, 0, none⟩) 1 c) (hg : w.heap[g]? = some (.cells cs e (0, 0))) (hown : w.ownsRow B e size v n xs) (hbase : B ≤ w.heap.size)
    (h63 : n + 1 ≤ maxLen) (hbytes : (n + 1) * bytes ≤ 140737488355328)
    (h : ∀ a' cap w', w'.ownsRow B e size (.slice a' (n + 1) cap) (n + 1) (xs ++ cs.toList) → w.grownBy w' v.ownBlock → Below B w w' → K (a.put o.dst (.slice a' (n + 1) cap)) w') :
    if Region.wanted o (yielded ops a.tmps) = true then Oper.wp P o a w K Q else E := by
  obtain ⟨i0, hi, hz0, hz1, hz2⟩ := info_parts hinfo
  refine step_append_lies w hgd s x t ho B e i0 z size bytes ht hi hz0 hz1 hz2 hzs hsz v n xs hs hown ⟨g, 0, none⟩ 1 c cs.toList hx (by simp [hcs]) (World.news_of_block hg) h1 (by omega) h63 hbytes hbase _ rfl ?_
  intro g' cap w' hown' hgr _ _
  exact h _ _ _ hown' hgr ((Below.refl B w).grown hgr hbase (fun k hk => (hown.lt k hk).1))
theorem blk_grown {w w' : World} {r : Option Nat} {g : Nat} {x : Obj} (k : w.grownBy w' r) (h : w.heap[g]? = some x) (hne : r ≠ some g) : w'.heap[g]? = some x := (k.block g (lt_of_block h) (fun e => hne e.symm)).trans h
theorem blk_far {w : World} {g : Nat} {x : Option Obj} {p : Addr} {v : Value} (h : w.heap[g]? = x) (hne : g ≠ p.block) : (w.setCell p v).heap[g]? = x := (Below.heap_setCell w p v g hne).trans h
theorem own_new {w : World} {B n size : Nat} {e : TypeId} {v : Value} {xs : List Value} (h : w.ownsRow B e size v n xs) {g : Nat} (hg : w.heap.size ≤ g) : v.ownBlock ≠ some g := fun e' => by have := (h.lt g e').2; omega
end Go.Proofs.Ytmgdcebbeglcmaa.B
