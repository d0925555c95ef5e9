/- The reference's Build, every way; and the law's lists and wakes. -/
import Derived.Test.YtajfalffpcamhaaBlockD
namespace Go.Proofs.Ytajfalffpcamhaa.Ew
open Go.RowKit
open En B Vp Vw Bd
set_option linter.unusedVariables false

set_option maxHeartbeats 800000 in
set_option maxRecDepth 100000 in
theorem rbuild_bad (a : Option Addr) (n cap : Nat) (l : List Ent) (every : Int) (hl : l.length = n) (hcap : n ≤ cap) (hm : cap ≤ 9223372036854775807)
    (h : (every < 1 ∨ 64 < every) ∨ 4096 < n ∨ (orderedE l).2 ≠ 0) (w : World) (hrow : ERow w a n (fun i => l.getD i ent0)) :
    Calls Try.prog 38 #[.slice a n cap, .int .i64 every] w fun e w' => e = .returned (.tuple #[.string (buildE l every).1, .int .i64 (buildE l every).2]) ∧ Below w.heap.size w w' := by
  have HO := Lib.hid (rordered_any a n cap l hl hcap hm w hrow)
  obtain ⟨b, hb⟩ : ∃ b, b = buildE l every := ⟨_, rfl⟩
  rw [← hb]
  unfold buildE at hb
  rw [hl] at hb
  generalize orderedE l = r at HO h hb
  obtain ⟨r1, r2⟩ := r
  simp only at h hb
  clear hl hrow
  go_enter Try.func38, Try.ntmps38
  by_cases h1 : every < 1 ∨ 64 < every
  · rw [if_pos h1] at hb
    have HB := Lib.hid hb
    clear h hb
    rcases h1 with h1 | h1
    · go_wp2_with fail
      go_ret2
      exact ⟨by rw [HB.out]; rfl, Below.refl _ _⟩
    · go_wp2_with fail
      go_ret2
      exact ⟨by rw [HB.out]; rfl, Below.refl _ _⟩
  · rw [if_neg h1] at hb
    have k1 : 1 ≤ every := by omega
    have k2 : every ≤ 64 := by omega
    by_cases h2 : 4096 < n
    · rw [if_pos h2] at hb
      have HB := Lib.hid hb
      clear h hb h1
      go_wp2_with fail
      go_ret2
      exact ⟨by rw [HB.out]; rfl, Below.refl _ _⟩
    · rw [if_neg h2] at hb
      have h3 : r2 ≠ 0 := h.resolve_left h1 |>.resolve_left h2
      rw [if_pos h3] at hb
      have e3 : (r2 != 0) = true := nt h3
      have HB := Lib.hid hb
      clear h hb h1 h3
      go_wp2_with fail
      refine HO.out.mono ?_
      rintro e w1 ⟨rfl, hb1⟩
      go_wp2_with fail
      go_ret2
      exact ⟨by rw [HB.out]; rfl, hb1⟩

theorem rbuild_any (a : Option Addr) (n cap : Nat) (l : List Ent) (every : Int) (hl : l.length = n) (hcap : n ≤ cap) (hm : cap ≤ 9223372036854775807)
    (hf : ∀ e ∈ l, Fits e) (w : World) (hrow : ERow w a n (fun i => l.getD i ent0)) :
    Calls Try.prog 38 #[.slice a n cap, .int .i64 every] w fun e w' => e = .returned (.tuple #[.string (buildE l every).1, .int .i64 (buildE l every).2]) ∧ Below w.heap.size w w' := by
  by_cases h : (every < 1 ∨ 64 < every) ∨ 4096 < n ∨ (orderedE l).2 ≠ 0
  · exact rbuild_bad a n cap l every hl hcap hm h w hrow
  · have h1 : ¬ (every < 1 ∨ 64 < every) := fun hh => h (.inl hh)
    have h2 : ¬ 4096 < n := fun hh => h (.inr (.inl hh))
    have h3 : ¬ (orderedE l).2 ≠ 0 := fun hh => h (.inr (.inr hh))
    have hb : buildE l every = (str (bytesK every.toNat l), 0) := by
      unfold buildE
      rw [if_neg h1, if_neg (by rw [hl]; exact h2), if_neg h3]
    rw [hb]
    obtain ⟨v, hv⟩ : ∃ v : Nat, every = v := ⟨every.toNat, by omega⟩
    subst hv
    exact rbuild_in a n cap l v (by omega) (by omega) hl (by omega) hcap hm hf (by omega) w hrow
end Go.Proofs.Ytajfalffpcamhaa.Ew
