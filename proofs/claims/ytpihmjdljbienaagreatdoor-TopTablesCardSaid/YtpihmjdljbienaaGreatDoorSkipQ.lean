/- A sorted list to which entries are put: no program in sight. -/
import Derived.Test.YtpihmjdljbienaaGreatDoorGa
import Derived.Test.YtpihmjdljbienaaGreatDoorGoodI
namespace Go.Proofs.YtpihmjdljbienaaGreatDoor.En
set_option linter.unusedVariables false

theorem goodE_sz6 {e : Ent} (h : goodE e = 0) : e.key.size ≤ 64 ∧ e.val.size ≤ 512 := by
  unfold goodE at h
  by_cases h1 : 64 < e.key.size ∨ 512 < e.val.size
  · rw [if_pos h1] at h; simp at h
  · omega
/-- the list behind a put, and the answer -/
def skE (L : List Ent) (e : Ent) : List Ent × Int :=
  if goodE e ≠ 0 then (L, goodE e) else if thereE L e = true then (L, 11) else (L.take (lessN e L) ++ e :: L.drop (lessN e L), 0)

theorem skE_sorted {L : List Ent} {e : Ent} (hs : Sorted L) : Sorted (skE L e).1 := by
  unfold skE
  split
  · exact hs
  · split
    · exact hs
    · rename_i h; exact sorted_ins hs (by simpa using h)
theorem skE_len (L : List Ent) (e : Ent) : (skE L e).1.length ≤ L.length + 1 := by
  unfold skE
  split
  · simp
  · split
    · simp
    · have := insE_len e (lessN_le e L); unfold insE at this; simp only; omega
theorem map_getD (ns : List Nd) (i : Nat) (hi : i < ns.length) : (ns.map Nd.e).getD i ent0 = (ns.getD i nd0).e := by
  rw [List.getD_eq_getElem?_getD, List.getElem?_map, List.getElem?_eq_getElem hi, List.getD_eq_getElem?_getD, List.getElem?_eq_getElem hi]; rfl
theorem map_ins (ns : List Nd) (m : Nat) (x : Nd) : (ins ns m x).map Nd.e = insE (ns.map Nd.e) m x.e := by unfold ins insE; simp [List.map_take, List.map_drop]
theorem lastIx_0 {ns : List Nd} (h : ∀ i, i < ns.length → 1 ≤ (ns.getD i nd0).h) {m : Nat} (hm : m ≤ ns.length) : lastIx ns 0 m = m := by
  refine lastIx_is (Nat.le_refl _) ?_ (fun i h1 h2 => by omega)
  by_cases h0 : m = 0
  · exact .inl h0
  · exact .inr (h (m - 1) (by omega))
theorem next_0 {ns : List Nd} (h : ∀ i, i < ns.length → 1 ≤ (ns.getD i nd0).h) {m : Nat} : nxt (ns.drop m) 0 = if m < ns.length then some (ns.getD m nd0) else none := by
  by_cases hm : m < ns.length
  · rw [if_pos hm]
    have h1 := h m hm
    rw [List.getD_eq_getElem?_getD, List.getElem?_eq_getElem hm] at h1 ⊢
    rw [List.drop_eq_getElem_cons hm]
    simp only [nxt, Option.getD_some] at h1 ⊢
    rw [if_pos (by omega)]
  · rw [if_neg hm, List.drop_of_length_le (by omega)]; rfl
/-- behind the last place ahead that is so high comes what comes behind all that are ahead -/
theorem next_last {ns : List Nd} {f m : Nat} (hm : m ≤ ns.length) : nxt (ns.drop (lastIx ns f m)) f = nxt (ns.drop m) f := by
  have hle := lastIx_le ns f m
  have hl : (ns.take m).length = m := by rw [List.length_take]; omega
  have e3 : ∀ p, p ≤ m → ns.drop p = (ns.take m).drop p ++ ns.drop m := fun p hp => by
    conv => lhs; rw [← List.take_append_drop m ns]
    rw [List.drop_append, hl, show p - m = 0 from by omega, List.drop_zero]
  have e2 := e3 _ hle
  rw [e2, nxt_append]
  cases hq : nxt ((ns.take m).drop (lastIx ns f m)) f with
  | none => rfl
  | some y =>
    obtain ⟨j, h1, h2, h3, h4, _⟩ := next_some hq
    rw [hl] at h2
    have hlow := lastIx_low (ns := ns) (f := f) (m := m) j h1 h2
    rw [show (ns.take m).getD j nd0 = ns.getD j nd0 from by rw [List.getD_eq_getElem?_getD, List.getElem?_take_of_lt h2, ← List.getD_eq_getElem?_getD]] at h3
    subst h3
    omega
end Go.Proofs.YtpihmjdljbienaaGreatDoor.En
