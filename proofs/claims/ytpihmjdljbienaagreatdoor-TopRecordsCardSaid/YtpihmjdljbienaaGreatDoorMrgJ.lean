/- A region that draws its order, in a round of a range over a function: what holds of it in a plain walk holds there. -/
import Derived.Test.YtpihmjdljbienaaGreatDoorMrgK
import Derived.StillTailTactics
import Derived.Lib.QuietBelow
namespace Go.Proofs.YtpihmjdljbienaaGreatDoor.Mg
open Ew
open Go.RowKit
open En B
set_option linter.unusedVariables false

section
variable {P : Program} {ops : Array Oper} {Q : Exit → Act → World → Prop}
theorem rowsIn_of {n : Nat} {row : String} {args : Array Value} {w : World} {R : Value → World → Prop} (h : Rows P row args w R) : RowsIn Fence.wide n P row args w R :=
  fun c cs _ => let ⟨v, w', r, s⟩ := h c cs; ⟨v, w', r, stepsIn_wide.2 s⟩
theorem opIn_of {o : Oper} {a : Act} {w : World} {K : Act → World → Prop} (l n : Nat) (hnd : ∀ c, o.op ≠ .defer c) (h : o.wp P a w K Q) : o.wpIn (Fence.wide.inRound l) n P a w K Q := by
  refine ⟨fun _ _ => trivial, ?_⟩
  rw [show (Fence.wide.inRound l).round = some l from rfl, Oper.semAt_eq _ _ _ hnd]
  unfold Oper.wp at h
  generalize (execOp a.eval o).run P w = r at h
  cases r with
  | ok x w' =>
    cases x <;> simp only [Oper.upon] at h <;> simp only [Oper.uponIn]
    case value => exact h
    case skip => exact h
    case defer => exact h
    case enter => exact ⟨(fun h => by cases h), callsIn_wide.2 h⟩
    case row => exact ⟨(fun h => by cases h), rowsIn_of h⟩
  | halt x w' => cases x <;> simp only [Oper.upon] at h <;> simp only [Oper.uponIn]; exact h
theorem opsIn_of (l n : Nat) (hq : ¬ LetsOut Q) (hnd : ∀ (i : Nat) (o : Oper), ops[i]? = some o → ∀ c, o.op ≠ .defer c) : ∀ (is : List Nat) (a : Act) (w : World), wpOps P ops Q is a w → wpOpsIn (Fence.wide.inRound l) n P ops Q is a w
  | [], _, _, h => h
  | i :: is, a, w, h => by
    unfold wpOps at h
    unfold wpOpsIn
    cases ho : ops[i]? with
    | none => simp only [ho] at h ⊢; exact opsIn_of l n hq hnd is a w h
    | some o =>
      simp only [ho] at h ⊢
      split
      · rename_i hw
      
        rw [if_pos hw] at h
        rcases h with h | h
        · have h2 := opIn_of l n (hnd i o ho) h
          refine ⟨h2.1, ?_⟩
          have h3 := h2.2
          revert h3
          generalize (o.semAt (Fence.wide.inRound l).round a.eval).run P w = r
          intro h3
          cases r with
          | ok x w' =>
            cases x <;> simp only [Oper.uponIn] at h3 ⊢
            case value => exact opsIn_of l n hq hnd is _ _ h3
            case skip => exact opsIn_of l n hq hnd is _ _ h3
            case defer => exact opsIn_of l n hq hnd is _ _ h3
            case enter => exact ⟨h3.1, h3.2.mono fun e w'' he => by cases e <;> first | exact opsIn_of l n hq hnd is _ _ he | exact he⟩
            case row => exact ⟨h3.1, h3.2.mono fun v w'' he => opsIn_of l n hq hnd is _ _ he⟩
            case round => exact ⟨h3.1, h3.2.mono fun e w'' he => by cases e <;> first | exact opsIn_of l n hq hnd is _ _ he | exact he⟩
          | halt x w' => cases x <;> simp only [Oper.uponIn] at h3 ⊢; exact h3
        · exact absurd h.2 hq
      · rename_i hw
        rw [if_neg hw] at h
        exact ⟨fun _ _ => trivial, opsIn_of l n hq hnd is _ _ h⟩
/-- it holds no 'defer' -/
def noDefer (ops : Array Oper) : Bool := ops.toList.all fun o => match o.op with | .defer _ => false | _ => true
theorem noDefer_spec (h : noDefer ops = true) (i : Nat) (o : Oper) (ho : ops[i]? = some o) (c : Call) : o.op ≠ .defer c := by
  intro e
  have := List.all_eq_true.1 h o (List.mem_of_getElem? (by rw [Array.getElem?_toList]; exact ho))
  rw [e] at this
  cases this
theorem wpIn_round_any {id l n : Nat} {a : Act} {w : World} (hm : P.follows .mixedOrders = true) (hd : noDefer ops = true) (hq : ¬ LetsOut Q)
    (h : wpAny P .any ops Q ops.size (Array.replicate ops.size false) a w.drew) : (Code.region id ops true).wpIn (Fence.wide.inRound l) n P Q a w :=
  wpIn_region_draw fun t => by
    simp only [Region.schedule, hm, Bool.true_or, if_true]
    exact opsIn_of l n hq (noDefer_spec hd) _ _ _ (wpAny_sound ops.size t _ a _ h)
end

/-- reads and callees that lay blocks of their own -/
theorem wpIn_round_quiet {P : Program} {id l n : Nat} {Q : Exit → Act → World → Prop} {a : Act} {w : World} {ol : List Oper} (hm : P.follows .mixedOrders = true) (hB : Region.lexB .any ol.toArray = true) (hd : noDefer ol.toArray = true) (hq : ¬ LetsOut Q)
    (h : wpQuiet P ol.toArray (fun w' => ∃ p : Regrown, w' = Sort.grow (redrawn w p.d) p.os) (fun a' => ∀ w', (∃ p : Regrown, w' = Sort.grow (redrawn w p.d) p.os) → Q .normal a' w') ol a) : (Code.region id ol.toArray true).wpIn (Fence.wide.inRound l) n P Q a w := by
  simp only [Region.lexB, Bool.and_eq_true] at hB
  refine wpIn_round_any hm hd hq (wpAny_of_quiet (C := fun w' => ∃ p : Regrown, w' = Sort.grow (redrawn w p.d) p.os) (Q := fun a' => ∀ w', (∃ p : Regrown, w' = Sort.grow (redrawn w p.d) p.os) → Q .normal a' w') (fun _ w' hw' h => h w' hw') _ _ _ _ ⟨⟨w.drawn + 1, #[]⟩, by rw [Sort.grow_empty]; rfl⟩ ?_)
  have := wpAnyQ_lex (C := fun w' => ∃ p : Regrown, w' = Sort.grow (redrawn w p.d) p.os) (md := .any) hB.1 ol 0 (Array.replicate ol.toArray.size false) a (by simp) (by simpa using hB.2) h
  simpa using this
/-- reads, and one chain of others behind them -/
theorem wpIn_round_tail {P : Program} {id l m : Nat} {Q : Exit → Act → World → Prop} {a : Act} {w : World} {ol : List Oper} (n : Nat) (hm : P.follows .mixedOrders = true) (hB : Region.lexTailB .any ol.toArray n = true) (hd : noDefer ol.toArray = true) (hq : ¬ LetsOut Q)
    (h : wpStill P ol.toArray w.drew (fun a' => wpList P ol.toArray Q (ol.drop n) a' w.drew) (ol.take n) a) : (Code.region id ol.toArray true).wpIn (Fence.wide.inRound l) m P Q a w := by
  simp only [Region.lexTailB, Bool.and_eq_true, decide_eq_true_eq] at hB
  obtain ⟨⟨⟨⟨h1, h2⟩, h3⟩, h4⟩, h5⟩ := hB
  have e1 : (ol.take n).length = n := by have : n < ol.length := by simpa using h2
                                         simp; omega
  have e2 : (ol.drop n).length = ol.toArray.size - n := by simp
  have e3 : ol.toArray.size = n + (ol.toArray.size - n) := by omega
  have H := wpAnyL_lex (md := .any) (g := ol.toArray.size - n) h1 h3 h4 h2 (ol.take n) 0 (Array.replicate ol.toArray.size false) a
    (fun j hj => by rw [e1] at hj; simp [hj]) (by omega)
    ⟨by simp, fun j oj _ hl => (by rw [getD_replicate_false] at hl; cases hl), fun t _ ht => getD_in (by simpa using ht) (getD_replicate_false _ _)⟩ (by rw [e1]; exact h5) h
  rw [e1] at H
  refine wpIn_round_any hm hd hq ?_
  have K := wpAny_of_head (Q' := Q) (g := ol.toArray.size - n) (fun listed a' hL => by
    have := wpAny_of_seq (md := .any) (Q' := Q) (ol.drop n) n listed a' w.drew (fun j => by simp [List.getElem?_drop]) (by rw [e2]; exact hL.1) hL.2
    rwa [e2] at this) n _ a H
  rw [← e3] at K
  exact K
end Go.Proofs.YtpihmjdljbienaaGreatDoor.Mg
