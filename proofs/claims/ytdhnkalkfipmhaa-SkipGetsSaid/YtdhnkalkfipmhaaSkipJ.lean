/- An append of nothing. -/
import Derived.Test.YtdhnkalkfipmhaaSkipL
import Derived.Deep.RegionLawGrows
namespace Go.Proofs.Ytdhnkalkfipmhaa.Ew
open Go.RowKit
open En B
set_option linter.unusedVariables false

theorem run_append_none {P : Program} (t ty e : TypeId) (i : TypeInfo) (h1 : P.underlying t = some (.slice e)) (h2 : P.info? e = some i) (ao : Option Addr) (n cap : Nat) (hn : n ≤ cap) (xo : Option Addr) (c : Nat) (w : World) :
    (Builtin.append_ #[t, t] ty #[.slice ao n cap, .slice xo 0 c]).run P w = .ok (.slice ao n cap) w := by
  cases xo <;> cases ao <;> simp [Builtin.append_, run_underlying h1, sizeOf, typeInfo, h2, Builtin.lenOf, hn, Builtin.firstCells, loadCells, storeCells, go_sem]
  all_goals trace_state
theorem step_append_none {P : Program} {ops : Array Oper} {o : Oper} {a : Act} {w : World} {K : Act → World → Prop} {Q : Exit → Act → World → Prop} {E : Prop}
    (hg : o.guard = none) (s x : Operand) (t : TypeId) (hop : o.op = Op.call { callee := Callee.builtin Builtin.append, args := #[s, x], argTypes := #[t, t] })
    (e : TypeId) (i : TypeInfo) (h1 : P.underlying t = some (.slice e)) (h2 : P.info? e = some i)
    (ao : Option Addr) (n cap : Nat) (hs : a.eval s = .slice ao n cap) (hn : n ≤ cap) (xo : Option Addr) (j c : Nat) (hx : a.eval x = .slice xo j c) (hj : j = 0)
    (hK : K (a.put o.dst (.slice ao n cap)) w) :
    if Region.wanted o (yielded ops a.tmps) = true then Oper.wp P o a w K Q else E := by
  have hw : Region.wanted o (yielded ops a.tmps) = true := by simp [Region.wanted, hg]
  rw [if_pos hw]
  subst hj
  have hrun := run_append_none (P := P) t o.type e i h1 h2 ao n cap hn xo c w
  unfold Oper.wp
  simp [execOp, hop, resolve, invoke, builtin, hs, hx, hrun, Result.andThen]
  exact hK
theorem step_append_growsE {P : Program} {ops : Array Oper} {o : Oper} {a : Act} {w : World} {K : Act → World → Prop} {Q : Exit → Act → World → Prop} {E : Prop}
    (hg : o.guard = none) (s x : Operand) (t : TypeId) (hop : o.op = Op.call { callee := Callee.builtin Builtin.append, args := #[s, x], argTypes := #[t, t] })
    (e : TypeId) (i : TypeInfo) (z : Value) (size bytes : Nat) (h1 : P.underlying t = some (.slice e)) (h2 : P.info? e = some i) (h3 : i.zero = some z) (h4 : i.size = size) (h5 : i.bytes = bytes) (h6 : z.cells.size = size) (h7 : 0 < size)
    (ao : Option Addr) (n cap : Nat) (olds : List Value) (hs : a.eval s = .slice ao n cap) (hnone : ao = none → n = 0 ∧ cap = 0) (hlo : olds.length = n * size) (holds : ∀ b, ao = some b → ∀ j u, olds[j]? = some u → w.cell? (b.add j) = some u)
    (ad : Addr) (m c : Nat) (news : List Value) (hx : a.eval x = .slice (some ad) m c) (hn : news.length = m * size) (hc : ∀ j u, news[j]? = some u → w.cell? (ad.add j) = some u) (h1c : ∀ u ∈ news, u.oneCell' = true)
    (hfull : cap < n + m) (b1 : n + m ≤ maxLen) (b2 : (n + m) * bytes ≤ 140737488355328)
    (hK : ∀ qa qc w', w'.ownsRow w.heap.size e size (.slice qa (n + m) qc) (n + m) (olds ++ news) → Below w.heap.size w w' → K (a.put o.dst (.slice qa (n + m) qc)) w') :
    if Region.wanted o (yielded ops a.tmps) = true then Oper.wp P o a w K Q else E := by
  refine step_append_grows hg s x t hop e i z size bytes h1 h2 h3 h4 h5 h6 h7 ao n cap olds hs hnone hlo holds ad m c news hx hn hc h1c hfull b1 b2 ?_
  intro v' w3 hown hgr
  obtain ⟨qa, qc, rfl, _⟩ := own_form hown
  exact hK qa qc w3 hown ((Below.refl _ _).grown hgr (Nat.le_refl _) (fun k hk => by cases hk))
end Go.Proofs.Ytdhnkalkfipmhaa.Ew
