/- Plain facts on a filter's bits: no program in sight. -/
import Derived.Test.YtfeaacjacbljfaaBloomP
namespace Go.Proofs.Ytfeaacjacbljfaa.Mp
open B Fp
set_option linter.unusedVariables false

/-- one bit set -/
def setBit (l : List UInt8) (p : Nat) : List UInt8 := l.set (p / 8) (UInt8.ofNat ((l.getD (p / 8) 0).toNat ||| 2 ^ (p % 8)))
/-- whether a bit is set -/
def hasBit (l : List UInt8) (p : Nat) : Bool := (l.getD (p / 8) 0).toNat.testBit (p % 8)

theorem setBit_len (l : List UInt8) (p : Nat) : (setBit l p).length = l.length := by simp [setBit]
theorem sets_len (ps : List Nat) (l : List UInt8) : (ps.foldl setBit l).length = l.length := by
  induction ps generalizing l with
  | nil => rfl
  | cons p t ih => rw [List.foldl_cons, ih, setBit_len]
theorem or_lt (y : UInt8) (k : Nat) (hk : k < 8) : y.toNat ||| 2 ^ k < 256 :=
  Nat.or_lt_two_pow (n := 8) (UInt8.toNat_lt y) (Nat.lt_of_lt_of_le (Nat.pow_lt_pow_right (by omega) hk) (by decide))
theorem or_toNat (y : UInt8) (k : Nat) (hk : k < 8) : (UInt8.ofNat (y.toNat ||| 2 ^ k)).toNat = y.toNat ||| 2 ^ k := by
  rw [UInt8.toNat_ofNat', Nat.mod_eq_of_lt (or_lt y k hk)]
theorem hasBit_set (l : List UInt8) (p q : Nat) (hp : p / 8 < l.length) : hasBit (setBit l p) q = (hasBit l q || decide (p = q)) := by
  unfold hasBit setBit
  by_cases h : p / 8 = q / 8
  · have hg : (l.set (p / 8) (UInt8.ofNat ((l.getD (p / 8) 0).toNat ||| 2 ^ (p % 8)))).getD (q / 8) 0 = UInt8.ofNat ((l.getD (p / 8) 0).toNat ||| 2 ^ (p % 8)) := by
      rw [← h, List.getD_eq_getElem?_getD, List.getElem?_set_self hp]; rfl
    rw [hg, or_toNat _ _ (by omega), Nat.testBit_or, h, Nat.testBit_two_pow]
    congr 1
    by_cases h2 : p % 8 = q % 8
    · rw [decide_eq_true h2, decide_eq_true (by omega)]
    · rw [decide_eq_false h2, decide_eq_false (by omega)]
  · have hg : (l.set (p / 8) (UInt8.ofNat ((l.getD (p / 8) 0).toNat ||| 2 ^ (p % 8)))).getD (q / 8) 0 = l.getD (q / 8) 0 := by
      rw [List.getD_eq_getElem?_getD, List.getElem?_set_ne h, ← List.getD_eq_getElem?_getD]
    rw [hg, decide_eq_false (by omega : ¬ p = q), Bool.or_false]
theorem hasBit_sets (ps : List Nat) (l : List UInt8) (q : Nat) (h : ∀ p ∈ ps, p / 8 < l.length) : hasBit (ps.foldl setBit l) q = (hasBit l q || decide (q ∈ ps)) := by
  induction ps generalizing l with
  | nil => simp
  | cons p t ih =>
    rw [List.foldl_cons, ih _ (fun x hx => by rw [setBit_len]; exact h x (List.mem_cons_of_mem _ hx)), hasBit_set _ _ _ (h p (List.mem_cons_self ..))]
    by_cases h1 : p = q
    · subst h1; simp
    · have : ¬ q = p := fun e => h1 e.symm
      simp [h1, this]
/-- bytes with the same bits are the same -/
theorem bits_ext (l m : List UInt8) (h : l.length = m.length) (hb : ∀ q, hasBit l q = hasBit m q) : l = m := by
  refine List.ext_getElem h fun i h1 h2 => ?_
  apply UInt8.toNat_inj.mp
  apply Nat.eq_of_testBit_eq
  intro k
  by_cases hk : k < 8
  · have := hb (8 * i + k)
    unfold hasBit at this
    rw [show (8 * i + k) / 8 = i by omega, show (8 * i + k) % 8 = k by omega] at this
    rw [List.getD_eq_getElem?_getD, List.getD_eq_getElem?_getD, List.getElem?_eq_getElem h1, List.getElem?_eq_getElem h2] at this
    exact this
  · have hz : ∀ y : UInt8, y.toNat.testBit k = false := fun y => Nat.testBit_lt_two_pow (Nat.lt_of_lt_of_le (UInt8.toNat_lt y) (Nat.le_trans (by decide : (256 : Nat) ≤ 2 ^ 8) (Nat.pow_le_pow_right (by omega) (by omega))))
    rw [hz, hz]
theorem hasBit_zeros (n q : Nat) : hasBit (List.replicate n 0) q = false := by
  unfold hasBit
  rw [List.getD_eq_getElem?_getD, List.getElem?_replicate]
  split <;> simp

/-- the bits of all keys -/
def keysP (ks : List (List UInt8)) (pr sz : Nat) : List Nat := ks.flatMap fun k => plsN k pr sz
def marks (ks : List (List UInt8)) (pr nb : Nat) : List UInt8 := (keysP ks pr (8 * nb)).foldl setBit (List.replicate nb 0)
theorem marks_len (ks : List (List UInt8)) (pr nb : Nat) : (marks ks pr nb).length = nb := by unfold marks; rw [sets_len, List.length_replicate]
theorem keysP_lt (ks : List (List UInt8)) (pr nb : Nat) (h : 0 < nb) : ∀ p ∈ keysP ks pr (8 * nb), p / 8 < (List.replicate nb (0 : UInt8)).length := by
  intro p hp
  simp only [keysP, List.mem_flatMap] at hp
  obtain ⟨k, _, hk⟩ := hp
  have := plsN_lt k pr (8 * nb) (by omega) p hk
  rw [List.length_replicate]; omega
theorem marks_has (ks : List (List UInt8)) (pr nb q : Nat) (h : 0 < nb) : hasBit (marks ks pr nb) q = decide (q ∈ keysP ks pr (8 * nb)) := by
  unfold marks
  rw [hasBit_sets _ _ _ (keysP_lt ks pr nb h), hasBit_zeros, Bool.false_or]
theorem marks_rev (ks : List (List UInt8)) (pr nb : Nat) (h : 0 < nb) : marks ks.reverse pr nb = marks ks pr nb := by
  refine bits_ext _ _ (by rw [marks_len, marks_len]) fun q => ?_
  rw [marks_has _ _ _ _ h, marks_has _ _ _ _ h]
  apply decide_eq_decide.mpr
  simp [keysP]
theorem marks_step (ks : List (List UInt8)) (k : List UInt8) (pr nb : Nat) : marks (ks ++ [k]) pr nb = (plsN k pr (8 * nb)).foldl setBit (marks ks pr nb) := by
  unfold marks keysP
  rw [List.flatMap_append, List.foldl_append]
  simp

/-- how many bits a key has; how many bytes there are -/
def probN (bits : Nat) : Nat := max 1 (min 8 (bits * 69 / 100))
def byteN (bits n : Nat) : Nat := (max 64 (bits * n) + 7) / 8
def filt (bits : Nat) (ks : List (List UInt8)) : List UInt8 := UInt8.ofNat (probN bits) :: marks ks (probN bits) (byteN bits ks.length)
def mk (bits : Int) (ks : List (List UInt8)) : List UInt8 × Int :=
  if bits < 1 ∨ 16 < bits then ([], 2) else if 65536 < ks.length then ([], 5) else (filt bits.toNat ks, 0)
def hasK (f : List UInt8) (key : List UInt8) : Bool :=
  if f.length < 2 ∨ 2097153 < f.length ∨ (f.getD 0 0).toNat < 1 ∨ 8 < (f.getD 0 0).toNat then true
  else (plsN key (f.getD 0 0).toNat (8 * (f.length - 1))).all (hasBit (f.drop 1))
theorem byteN_pos (bits n : Nat) : 8 ≤ byteN bits n := by unfold byteN; omega
theorem byteN_le (bits n : Nat) (hb : bits ≤ 16) (hn : n ≤ 65536) : byteN bits n ≤ 131073 := by
  have : bits * n ≤ 16 * 65536 := Nat.mul_le_mul hb hn
  unfold byteN; omega
theorem probN_le (bits : Nat) : 1 ≤ probN bits ∧ probN bits ≤ 8 := by unfold probN; omega
theorem hasK_filt (bits : Nat) (ks : List (List UInt8)) (key : List UInt8) (hb : bits ≤ 16) (hn : ks.length ≤ 65536) :
    hasK (filt bits ks) key = (plsN key (probN bits) (8 * byteN bits ks.length)).all (hasBit (marks ks (probN bits) (byteN bits ks.length))) := by
  have hp := probN_le bits
  have h1 := byteN_pos bits ks.length
  have h2 := byteN_le bits ks.length hb hn
  have hl : (filt bits ks).length = byteN bits ks.length + 1 := by unfold filt; rw [List.length_cons, marks_len]
  have h0 : ((filt bits ks).getD 0 0).toNat = probN bits := by
    show (UInt8.ofNat (probN bits)).toNat = _
    rw [UInt8.toNat_ofNat', Nat.mod_eq_of_lt (by omega)]
  have hd : (filt bits ks).drop 1 = marks ks (probN bits) (byteN bits ks.length) := rfl
  unfold hasK
  rw [hl, h0, if_neg (by omega), hd, Nat.add_sub_cancel]
theorem hasK_in (bits : Nat) (ks : List (List UInt8)) (key : List UInt8) (hb : bits ≤ 16) (hn : ks.length ≤ 65536) (hk : key ∈ ks) : hasK (filt bits ks) key = true := by
  rw [hasK_filt _ _ _ hb hn, List.all_eq_true]
  intro q hq
  have h1 := byteN_pos bits ks.length
  rw [marks_has _ _ _ _ (by omega), decide_eq_true_iff]
  simp only [keysP, List.mem_flatMap]
  exact ⟨key, hk, hq⟩
theorem hasK_none (bits : Nat) (key : List UInt8) (hb : bits ≤ 16) : hasK (filt bits []) key = false := by
  rw [hasK_filt _ _ _ hb (by simp)]
  have hp := probN_le bits
  have h1 := byteN_pos bits 0
  have h0 : (plsN key (probN bits) (8 * byteN bits ([] : List (List UInt8)).length)) ≠ [] := by
    intro h
    have := congrArg List.length h
    rw [plsN_len] at this
    simp at this; omega
  obtain ⟨p, hp2⟩ := List.exists_mem_of_ne_nil _ h0
  rw [List.all_eq_false]
  refine ⟨p, hp2, ?_⟩
  rw [marks_has _ _ _ _ (by simp only [List.length_nil]; omega)]
  simp [keysP]
theorem filt_rev (bits : Nat) (ks : List (List UInt8)) : filt bits ks.reverse = filt bits ks := by
  have h1 := byteN_pos bits ks.length
  unfold filt
  rw [List.length_reverse, marks_rev _ _ _ (by omega)]
theorem mk_rev (bits : Int) (ks : List (List UInt8)) : mk bits ks.reverse = mk bits ks := by
  unfold mk
  rw [List.length_reverse, filt_rev]
end Go.Proofs.Ytfeaacjacbljfaa.Mp
