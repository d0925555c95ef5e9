/- Entries among bytes: no program in sight. -/
import Derived.Test.YtimkopihjldhnaaBlockP
import Derived.Test.YtimkopihjldhnaaBatchM
namespace Go.Proofs.Ytimkopihjldhnaa.En
open B Vp
set_option linter.unusedVariables false

/-- the next number, from 0 up to a bound; above it this error -/
def cntB (s : ByteArray) (a most above : Int) : G :=
  if (getS s a).e ≠ 0 then ⟨0, 0, (getS s a).e⟩ else if (getS s a).n < 0 then ⟨0, 0, 4⟩ else if most < (getS s a).n ∧ above ≠ 0 then ⟨0, 0, above⟩ else getS s a
/-- the entry that stands at a place, behind a key -/
def oneE (s : ByteArray) (a : Int) (last : ByteArray) : IR :=
  if (cntB s a last.size 4).e ≠ 0 then ⟨ent0, 0, (cntB s a last.size 4).e⟩ else
  if (getT s (cntB s a last.size 4).next).e ≠ 0 then ⟨ent0, 0, (getT s (cntB s a last.size 4).next).e⟩ else
  if (getS s (getT s (cntB s a last.size 4).next).next).e ≠ 0 then ⟨ent0, 0, (getS s (getT s (cntB s a last.size 4).next).next).e⟩ else
  if (cntB s (getS s (getT s (cntB s a last.size 4).next).next).next 9223372036854775807 0).e ≠ 0 then ⟨ent0, 0, (cntB s (getS s (getT s (cntB s a last.size 4).next).next).next 9223372036854775807 0).e⟩ else
  if (cntB s (getS s (getT s (cntB s a last.size 4).next).next).next 9223372036854775807 0).n = 0 then
    ⟨⟨last.extract 0 (cntB s a last.size 4).n.toNat ++ (getT s (cntB s a last.size 4).next).t, (getS s (getT s (cntB s a last.size 4).next).next).n, true, ByteArray.empty, 0⟩, (cntB s (getS s (getT s (cntB s a last.size 4).next).next).next 9223372036854775807 0).next, 0⟩ else
  if (getT s (cntB s (getS s (getT s (cntB s a last.size 4).next).next).next 9223372036854775807 0).next).e ≠ 0 then ⟨ent0, 0, (getT s (cntB s (getS s (getT s (cntB s a last.size 4).next).next).next 9223372036854775807 0).next).e⟩ else
  ⟨⟨last.extract 0 (cntB s a last.size 4).n.toNat ++ (getT s (cntB s a last.size 4).next).t, (getS s (getT s (cntB s a last.size 4).next).next).n, false, (getT s (cntB s (getS s (getT s (cntB s a last.size 4).next).next).next 9223372036854775807 0).next).t,
    (cntB s (getS s (getT s (cntB s a last.size 4).next).next).next 9223372036854775807 0).n - 1⟩, (getT s (cntB s (getS s (getT s (cntB s a last.size 4).next).next).next 9223372036854775807 0).next).next, 0⟩
/-- the entries from a place on, behind those that are read -/
def onesE (s : ByteArray) : Nat → Int → List Ent → LR
  | 0, a, acc => ⟨acc, a, 0⟩
  | k + 1, a, acc =>
    if (oneE s a (lastE acc).key).e ≠ 0 then ⟨[], 0, (oneE s a (lastE acc).key).e⟩ else
    if nextE acc (oneE s a (lastE acc).key).x ≠ 0 then ⟨[], 0, nextE acc (oneE s a (lastE acc).key).x⟩ else
    onesE s k (oneE s a (lastE acc).key).next (acc ++ [(oneE s a (lastE acc).key).x])
/-- the entries that bytes are, or the reason why they are none -/
def parseE (s : ByteArray) : List Ent × Int :=
  if (cntB s 0 4096 5).e ≠ 0 then ([], (cntB s 0 4096 5).e) else
  if (onesE s (cntB s 0 4096 5).n.toNat (cntB s 0 4096 5).next []).e ≠ 0 then ([], (onesE s (cntB s 0 4096 5).n.toNat (cntB s 0 4096 5).next []).e) else
  if (onesE s (cntB s 0 4096 5).n.toNat (cntB s 0 4096 5).next []).next < s.size then ([], 4) else ((onesE s (cntB s 0 4096 5).n.toNat (cntB s 0 4096 5).next []).l, 0)

theorem cntB_bd {s : ByteArray} {a most above : Int} (h : (cntB s a most above).e = 0) : 0 ≤ (cntB s a most above).n ∧ (cntB s a most above).n ≤ 9223372036854775807 ∧ (above ≠ 0 → (cntB s a most above).n ≤ most) := by
  unfold cntB at h ⊢
  by_cases h1 : (getS s a).e ≠ 0
  · rw [if_pos h1] at h; exact absurd h h1
  rw [if_neg h1] at h ⊢
  by_cases h2 : (getS s a).n < 0
  · rw [if_pos h2] at h; simp at h
  rw [if_neg h2] at h ⊢
  by_cases h3 : most < (getS s a).n ∧ above ≠ 0
  · rw [if_pos h3] at h; exact absurd h h3.2
  rw [if_neg h3] at h ⊢
  obtain ⟨b, k, rfl, hr, _, hg⟩ := getS_ok h
  have h4 := unzz_bd (val_bound hr)
  refine ⟨by omega, ?_, fun h5 => ?_⟩
  · rw [hg]; exact h4.2
  · by_cases h6 : most < (getS s (b : Int)).n
    · exact absurd ⟨h6, h5⟩ h3
    · omega
theorem txt_le (s : ByteArray) (a : Int) : (getT s a).t.size ≤ 65535 := by
  by_cases h : (getT s a).e = 0
  · exact txt_size h
  · unfold getT at h ⊢
    simp only at h ⊢
    split <;> rename_i h1
    · exact Nat.zero_le _
    · rw [if_neg h1] at h
      split <;> rename_i h2
      · exact Nat.zero_le _
      · rw [if_neg h2] at h
        split <;> rename_i h3
        · exact Nat.zero_le _
        · rw [if_neg h3] at h
          split <;> rename_i h4
          · exact Nat.zero_le _
          · rw [if_neg h4] at h; exact absurd rfl h
end Go.Proofs.Ytimkopihjldhnaa.En
