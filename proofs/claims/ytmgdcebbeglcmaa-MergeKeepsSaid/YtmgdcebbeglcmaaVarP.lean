/- Plain facts on varint's bytes: no program in sight. -/
import Derived.Test.YtmgdcebbeglcmaaBase
namespace Go.Proofs.Ytmgdcebbeglcmaa.Vp
open B

/-- the number that stands for n -/
def zz (n : Int) : Nat := if 0 ≤ n then (2 * n).toNat else (-2 * n - 1).toNat

/-- a number's bytes, seven bits each -/
def vb (u : Nat) : List UInt8 := if u < 128 then [UInt8.ofNat u] else UInt8.ofNat (u % 128 + 128) :: vb (u / 128)
termination_by u
decreasing_by omega

theorem vb_small {u : Nat} (h : u < 128) : vb u = [UInt8.ofNat u] := by rw [vb, if_pos h]
theorem vb_big {u : Nat} (h : 128 ≤ u) : vb u = UInt8.ofNat (u % 128 + 128) :: vb (u / 128) := by rw [vb, if_neg (by omega)]

theorem vb_pos (u : Nat) : 1 ≤ (vb u).length := by
  by_cases h : u < 128
  · rw [vb_small h]; simp
  · rw [vb_big (by omega)]; simp

theorem vb_len : ∀ (k u : Nat), u < 128 ^ k → 1 ≤ k → (vb u).length ≤ k
  | 0, _, _, h => by omega
  | 1, u, h, _ => by rw [vb_small (by omega)]; simp
  | k + 2, u, h, _ => by
    by_cases hs : u < 128
    · rw [vb_small hs]; simp
    · rw [vb_big (by omega)]
      have := vb_len (k + 1) (u / 128) (by rw [Nat.div_lt_iff_lt_mul (by omega)]; rw [Nat.pow_succ] at h; exact h) (by omega)
      simp; omega

theorem vb_len10 {u : Nat} (h : u < 18446744073709551616) : (vb u).length ≤ 10 :=
  vb_len 10 u (Nat.lt_of_lt_of_le h (by decide)) (by omega)

theorem zz_lt {n : Int} (h0 : -9223372036854775808 ≤ n) (h1 : n ≤ 9223372036854775807) : zz n < 18446744073709551616 := by
  unfold zz; split <;> omega

/-- the bytes of n -/
def enc (n : Int) : ByteArray := str (vb (zz n))

inductive R | short | form | ok (u : Nat) (used : Nat)

def val (f : Nat → Nat) : Nat → Nat
  | 0 => 0
  | k + 1 => val f k + (f k % 128) * 128 ^ k

def scan (f : Nat → Nat) (m : Nat) : Nat → Nat → R
  | 0, _ => .form
  | n + 1, i => if i = m then .short else if (i = 9 ∧ 1 < f i) ∨ (0 < i ∧ f i = 0) then .form
      else if f i < 128 then .ok (val f (i + 1)) (i + 1) else scan f m n (i + 1)

def getR (s : ByteArray) (a : Nat) : R := scan (fun i => bn s (a + i)) (s.size - a) 10 0

def unzz (u : Nat) : Int := if u % 2 = 0 then (u / 2 : Nat) else -((u / 2 : Nat) : Int) - 1

/-- what Get answers -/
structure G where
  n : Int
  next : Int
  e : Int

def getS (s : ByteArray) (a : Int) : G :=
  if a < 0 ∨ (s.size : Int) < a then ⟨0, 0, 2⟩ else
  match getR s a.toNat with
  | .short => ⟨0, 0, 3⟩
  | .form => ⟨0, 0, 4⟩
  | .ok u k => ⟨unzz u, a + k, 0⟩

theorem val_lt (f : Nat → Nat) : ∀ k, val f k < 128 ^ k
  | 0 => by simp [val]
  | k + 1 => by
    have := val_lt f k
    have h : f k % 128 * 128 ^ k ≤ 127 * 128 ^ k := Nat.mul_le_mul (by omega) (Nat.le_refl _)
    rw [val, Nat.pow_succ]; omega
theorem zz_unzz (u : Nat) : zz (unzz u) = u := by
  unfold zz unzz
  rcases Nat.mod_two_eq_zero_or_one u with h | h
  · rw [if_pos h, if_pos (by omega)]; omega
  · rw [if_neg (by omega), if_neg (by omega)]; omega
theorem unzz_zz (n : Int) : unzz (zz n) = n := by
  unfold zz unzz
  by_cases h : 0 ≤ n
  · rw [if_pos h, if_pos (by omega)]; omega
  · rw [if_neg h, if_neg (by omega)]; omega
theorem unzz_bd {u : Nat} (h : u < 18446744073709551616) : -9223372036854775808 ≤ unzz u ∧ unzz u ≤ 9223372036854775807 := by
  unfold unzz; split <;> omega

/-- what a number that is read tells of the bytes -/
structure Reads (f : Nat → Nat) (m i k : Nat) : Prop where
  lo : i < k
  hi : k ≤ 10
  room : k ≤ m
  last : f (k - 1) < 128
  nine : k = 10 → f 9 ≤ 1
  nz : 1 < k → f (k - 1) ≠ 0
  big : ∀ j, i ≤ j → j + 1 < k → 128 ≤ f j

theorem scan_inv (f : Nat → Nat) (m : Nat) : ∀ n i u k, i + n = 10 → i ≤ m → scan f m n i = .ok u k → Reads f m i k ∧ u = val f k
  | 0, _, _, _, _, _, h => by simp [scan] at h
  | n + 1, i, u, k, hn, hm, h => by
    rw [scan] at h
    by_cases h1 : i = m
    · rw [if_pos h1] at h; cases h
    · rw [if_neg h1] at h
      by_cases h2 : (i = 9 ∧ 1 < f i) ∨ (0 < i ∧ f i = 0)
      · rw [if_pos h2] at h; cases h
      · rw [if_neg h2] at h
        by_cases h3 : f i < 128
        · rw [if_pos h3] at h
          cases h
          refine ⟨⟨by omega, by omega, by omega, by simpa using h3, ?_, ?_, fun j h4 h5 => by omega⟩, rfl⟩
          · intro h4
            have : i = 9 := by omega
            subst this; omega
          · intro h4; simp only [Nat.add_sub_cancel]; omega
        · rw [if_neg h3] at h
          obtain ⟨hr, hu⟩ := scan_inv f m n (i + 1) u k (by omega) (by omega) h
          refine ⟨⟨by have := hr.lo; omega, hr.hi, hr.room, hr.last, hr.nine, hr.nz, fun j h4 h5 => ?_⟩, hu⟩
          by_cases hj : j = i
          · subst hj; omega
          · exact hr.big j (by omega) h5

theorem scan_of (f : Nat → Nat) (m k : Nat) : ∀ n i, i + n = 10 → Reads f m i k → scan f m n i = .ok (val f k) k
  | 0, i, hn, h => by have := h.lo; have := h.hi; omega
  | n + 1, i, hn, h => by
    have hlo := h.lo; have hhi := h.hi; have hroom := h.room
    rw [scan, if_neg (by omega)]
    by_cases hl : i + 1 = k
    · subst hl
      have h1 := h.last; have h2 := h.nine; have h3 := h.nz
      simp only [Nat.add_sub_cancel] at h1 h3
      rw [if_neg, if_pos h1]
      rintro (⟨rfl, h4⟩ | ⟨h4, h5⟩)
      · have := h2 rfl; omega
      · exact h3 (by omega) h5
    · have hb := h.big i (Nat.le_refl _) (by omega)
      rw [if_neg (by omega), if_neg (by omega)]
      exact scan_of f m k n (i + 1) (by omega) ⟨by omega, h.hi, h.room, h.last, h.nine, h.nz, fun j h4 h5 => h.big j (by omega) h5⟩

theorem scan_short (f : Nat → Nat) (m : Nat) (hm : m < 10) : ∀ n i, i + n = 10 → i ≤ m → (∀ j, i ≤ j → j < m → 128 ≤ f j) → scan f m n i = .short
  | 0, i, hn, hi, _ => by omega
  | n + 1, i, hn, hi, h => by
    rw [scan]
    by_cases h1 : i = m
    · rw [if_pos h1]
    · have hb := h i (Nat.le_refl _) (by omega)
      rw [if_neg h1, if_neg (by omega), if_neg (by omega)]
      exact scan_short f m hm n (i + 1) (by omega) (by omega) fun j h4 h5 => h j (by omega) h5

theorem val_congr {f g : Nat → Nat} : ∀ k, (∀ j, j < k → f j = g j) → val f k = val g k
  | 0, _ => rfl
  | k + 1, h => by rw [val, val, val_congr k fun j hj => h j (by omega), h k (by omega)]

theorem val_shift (f : Nat → Nat) : ∀ k, val f (k + 1) = f 0 % 128 + 128 * val (fun j => f (j + 1)) k
  | 0 => by simp [val]
  | k + 1 => by
    rw [val, val_shift f k, val, Nat.mul_add, Nat.pow_succ]
    have : f (k + 1) % 128 * (128 ^ k * 128) = 128 * (f (k + 1) % 128 * 128 ^ k) := by
      rw [Nat.mul_comm (128 ^ k) 128, ← Nat.mul_assoc, Nat.mul_comm (f (k + 1) % 128) 128, Nat.mul_assoc]
    omega

theorem val_pos (f : Nat → Nat) (k : Nat) (h : f k % 128 ≠ 0) : 0 < val f (k + 1) := by
  rw [val]
  have h1 : 0 < 128 ^ k := Nat.pow_pos (by omega)
  have : 1 * 128 ^ k ≤ f k % 128 * 128 ^ k := Nat.mul_le_mul (by omega) (Nat.le_refl _)
  omega

theorem val_bound {f : Nat → Nat} {m i k : Nat} (h : Reads f m i k) : val f k < 18446744073709551616 := by
  have hlo := h.lo
  obtain ⟨j, rfl⟩ : ∃ j, k = j + 1 := ⟨k - 1, by omega⟩
  by_cases hk : j = 9
  · subst hk
    have h1 := h.nine rfl
    have h2 := val_lt f 9
    have h3 : f 9 % 128 * 128 ^ 9 ≤ 1 * 128 ^ 9 := Nat.mul_le_mul (by omega) (Nat.le_refl _)
    rw [val]
    exact Nat.lt_of_lt_of_le (show val f 9 + f 9 % 128 * 128 ^ 9 < 128 ^ 9 + 128 ^ 9 by omega) (by decide)
  · have h1 := val_lt f (j + 1)
    have hhi := h.hi
    exact Nat.lt_of_lt_of_le h1 (Nat.le_trans (Nat.pow_le_pow_right (n := 128) (by omega) (show j + 1 ≤ 9 by omega)) (by decide))

theorem vb_val : ∀ (k : Nat) (f : Nat → Nat), (∀ j, f j < 256) → f k < 128 → (1 ≤ k → f k ≠ 0) → (∀ j, j < k → 128 ≤ f j) →
    vb (val f (k + 1)) = (List.range (k + 1)).map fun j => UInt8.ofNat (f j)
  | 0, f, hf, hl, _, _ => by
    have : val f 1 = f 0 := by simp [val]; omega
    rw [this, vb_small hl]; simp
  | k + 1, f, hf, hl, hz, hb => by
    have h0 := hb 0 (by omega)
    have hp : 0 < val (fun j => f (j + 1)) (k + 1) := val_pos (fun j => f (j + 1)) k (by
      have := hz (by omega); show f (k + 1) % 128 ≠ 0; omega)
    rw [val_shift]
    have h1 : (f 0 % 128 + 128 * val (fun j => f (j + 1)) (k + 1)) % 128 + 128 = f 0 := by have := hf 0; omega
    have h2 : (f 0 % 128 + 128 * val (fun j => f (j + 1)) (k + 1)) / 128 = val (fun j => f (j + 1)) (k + 1) := by omega
    rw [vb_big (by omega), h1, h2, vb_val k (fun j => f (j + 1)) (fun j => hf _) hl (fun h => hz (by omega)) (fun j hj => hb _ (by omega))]
    rw [List.range_succ_eq_map (n := k + 1)]
    simp [Function.comp_def]

/-- the bytes of a number, one by one -/
def vf (u : Nat) : Nat → Nat := fun j => ((vb u).getD j 0).toNat

theorem vf_small {u : Nat} (h : u < 128) : vf u 0 = u := by
  simp only [vf, vb_small h, List.getD_eq_getElem?_getD]
  simp; omega
theorem vf_big {u : Nat} (h : 128 ≤ u) : vf u 0 = u % 128 + 128 := by
  simp only [vf, vb_big h, List.getD_eq_getElem?_getD]
  simp; omega
theorem vf_succ {u : Nat} (h : 128 ≤ u) (j : Nat) : vf u (j + 1) = vf (u / 128) j := by
  simp only [vf, vb_big h, List.getD_eq_getElem?_getD]
  simp

theorem vb_reads : ∀ (n u : Nat), u < n → (∀ j, j + 1 < (vb u).length → 128 ≤ vf u j) ∧ vf u ((vb u).length - 1) < 128 ∧ (1 < (vb u).length → vf u ((vb u).length - 1) ≠ 0) ∧ val (vf u) (vb u).length = u
  | 0, _, h => by omega
  | n + 1, u, h => by
    by_cases hs : u < 128
    · have hl : (vb u).length = 1 := by rw [vb_small hs]; rfl
      rw [hl]
      refine ⟨fun j hj => by omega, by rw [vf_small hs]; exact hs, by omega, ?_⟩
      simp [val, vf_small hs]; omega
    · have hb : 128 ≤ u := by omega
      obtain ⟨h1, h2, h3, h4⟩ := vb_reads n (u / 128) (by omega)
      have hl : (vb u).length = (vb (u / 128)).length + 1 := by rw [vb_big hb]; rfl
      have hp := vb_pos (u / 128)
      rw [hl]
      have e : (vb (u / 128)).length + 1 - 1 = ((vb (u / 128)).length - 1) + 1 := by omega
      refine ⟨fun j hj => ?_, by rw [e, vf_succ hb]; exact h2, fun _ => ?_, ?_⟩
      · cases j with
        | zero => rw [vf_big hb]; omega
        | succ j => rw [vf_succ hb]; exact h1 j (by omega)
      · rw [e, vf_succ hb]
        by_cases hq : 1 < (vb (u / 128)).length
        · exact h3 hq
        · have h5 : (vb (u / 128)).length - 1 = 0 := by omega
          rw [h5]
          have h6 : u / 128 < 128 := by
            rcases Nat.lt_or_ge (u / 128) 128 with h7 | h7
            · exact h7
            · have := vb_pos (u / 128 / 128)
              have h8 : (vb (u / 128)).length = (vb (u / 128 / 128)).length + 1 := by rw [vb_big h7]; rfl
              omega
          rw [vf_small h6]; omega
      · rw [val_shift, vf_big hb, val_congr (g := vf (u / 128)) _ (fun j _ => vf_succ hb j), h4]; omega

theorem vb_nine {u : Nat} (h : u < 18446744073709551616) (hl : (vb u).length = 10) : vf u 9 ≤ 1 := by
  obtain ⟨_, h2, _, h4⟩ := vb_reads (u + 1) u (by omega)
  rw [hl] at h4 h2
  simp only [Nat.add_one_sub_one] at h2
  rcases Nat.lt_or_ge 1 (vf u 9) with h5 | h5
  · exfalso
    have : 2 * 128 ^ 9 ≤ vf u 9 % 128 * 128 ^ 9 := Nat.mul_le_mul (by omega) (Nat.le_refl _)
    rw [val] at h4
    have h6 : (2 : Nat) * 128 ^ 9 = 18446744073709551616 := by decide
    omega
  · exact h5

/-- what is read where a number's bytes stand -/
theorem scan_vb {u : Nat} (h : u < 18446744073709551616) (f : Nat → Nat) (m : Nat) (hm : (vb u).length ≤ m) (hf : ∀ j, j < (vb u).length → f j = vf u j) :
    scan f m 10 0 = .ok u (vb u).length := by
  obtain ⟨h1, h2, h3, h4⟩ := vb_reads (u + 1) u (by omega)
  have hp := vb_pos u
  have h5 := vb_len10 h
  have hR : Reads f m 0 (vb u).length := ⟨by omega, h5, hm, by rw [hf _ (by omega)]; exact h2, fun hk => by rw [hf _ (by omega)]; exact vb_nine h hk, fun hk => by rw [hf _ (by omega)]; exact h3 hk, fun j _ hj => by rw [hf _ (by omega)]; exact h1 j hj⟩
  have := scan_of f m (vb u).length 10 0 rfl hR
  rw [this, val_congr _ hf, h4]

/-- what is read where they are cut off -/
theorem scan_cut {u : Nat} (h : u < 18446744073709551616) (f : Nat → Nat) (m : Nat) (hm : m < (vb u).length) (hf : ∀ j, j < m → f j = vf u j) : scan f m 10 0 = .short := by
  obtain ⟨h1, _⟩ := vb_reads (u + 1) u (by omega)
  have h5 := vb_len10 h
  exact scan_short f m (by omega) 10 0 rfl (by omega) fun j _ hj => by rw [hf _ hj]; exact h1 j (by omega)

/-- what Get tells when it tells no error -/
theorem getS_ok {s : ByteArray} {a : Int} (h : (getS s a).e = 0) : ∃ (b k : Nat), a = b ∧ Reads (fun i => bn s (b + i)) (s.size - b) 0 k ∧ b + k ≤ s.size ∧
    getS s a = ⟨unzz (val (fun i => bn s (b + i)) k), ((b + k : Nat) : Int), 0⟩ := by
  unfold getS at h ⊢
  by_cases h1 : a < 0 ∨ (s.size : Int) < a
  · rw [if_pos h1] at h; exact absurd h (by decide)
  · rw [if_neg h1] at h ⊢
    obtain ⟨b, rfl⟩ := Int.eq_ofNat_of_zero_le (show 0 ≤ a by omega)
    simp only [Int.toNat_natCast] at h ⊢
    cases hr : getR s b with
    | short => rw [hr] at h; exact absurd h (by simp)
    | form => rw [hr] at h; exact absurd h (by simp)
    | ok u k =>
      obtain ⟨hR, hu⟩ := scan_inv _ _ 10 0 u k rfl (by omega) hr
      have := hR.room; have := hR.lo
      exact ⟨b, k, rfl, hR, by omega, by simp only [hu]; rw [Int.natCast_add]⟩

theorem getS_cases (s : ByteArray) (a : Int) : getS s a = ⟨0, 0, 2⟩ ∨ getS s a = ⟨0, 0, 3⟩ ∨ getS s a = ⟨0, 0, 4⟩ ∨ (getS s a).e = 0 := by
  unfold getS
  split
  · exact .inl rfl
  · cases getR s a.toNat with
    | short => exact .inr (.inl rfl)
    | form => exact .inr (.inr (.inl rfl))
    | ok u k => exact .inr (.inr (.inr rfl))

/-- what GetText answers -/
structure GT where
  t : ByteArray
  next : Int
  e : Int

def getT (s : ByteArray) (a : Int) : GT :=
  let g := getS s a
  if g.e ≠ 0 then ⟨str [], 0, g.e⟩ else if g.n < 0 then ⟨str [], 0, 4⟩ else if 65535 < g.n then ⟨str [], 0, 5⟩
  else if (s.size : Int) - g.next < g.n then ⟨str [], 0, 3⟩ else ⟨s.extract g.next.toNat (g.next.toNat + g.n.toNat), g.next + g.n, 0⟩

end Go.Proofs.Ytmgdcebbeglcmaa.Vp
