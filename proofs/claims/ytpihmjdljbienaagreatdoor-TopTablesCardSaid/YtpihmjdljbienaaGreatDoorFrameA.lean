/- The walks of frame's All and of the reference's. -/
import Derived.Test.YtpihmjdljbienaaGreatDoorGc
namespace Go.Proofs.YtpihmjdljbienaaGreatDoor.Fw
open Go.RowKit
open Fp B
set_option linter.unusedVariables false

theorem infoStr : (Tryz.prog.info? 9).map (fun i => (i.zero, i.size, i.bytes)) = some (some (.string ⟨#[]⟩), 1, 16) := by kernel_rfl

def GotF (w : World) (r : List ByteArray × Nat × Int) (e : Ending) (w' : World) : Prop :=
  ∃ a cap, e = .returned (.tuple #[.slice a r.1.length cap, .int .i64 r.2.1, .int .i64 r.2.2]) ∧ Row w' a r.1.length (fun i => .string (r.1.getD i ByteArray.empty)) ∧ Below w.heap.size w w'

set_option maxHeartbeats 800000 in
set_option maxRecDepth 100000 in
theorem all_any (s : ByteArray) (hs : s.size ≤ 16777216) (w : World) :
    Calls Tryz.prog 49 #[.string s] w (GotF w (allF s)) := by
  generalize hr0 : allF s = r
  have HR0 := Lib.hid hr0
  clear hr0
  go_enter Tryz.func49, Tryz.ntmps49
  go_wp2_with fail
  go_loopw [5, 6] (fun v x wr => ∃ (k f : Nat) (acc : List ByteArray), x = .int .i64 k ∧ k ≤ s.size ∧ acc.length ≤ k ∧ s.size < k + f ∧ Hid (r = fAll s f k acc) ∧
      wr.ownsRow w.heap.size 9 1 v acc.length (acc.map Value.string) ∧ Below w.heap.size w wr) (fun _ x _ => s.size - (intOf x).toNat)
  case atStart => exact ⟨0, s.size + 2, [], rfl, by omega, by simp, by omega, HR0.out.symm, World.ownsRow_nil _ _ _ _, Below.refl _ _⟩
  case round =>
    obtain ⟨k, f, acc, rfl, hk, hacc, hf, hg, hown, hbel⟩ := hrel
    obtain ⟨f, rfl⟩ : ∃ f', f = f' + 1 := ⟨f - 1, by omega⟩
    have hG := hg.out
    rw [fAll] at hG
    have hstep := @getF_step s k
    have HC := get_any s k (by omega) wr
    generalize getF s k = g at hG hstep HC
    obtain ⟨gt, gx, ge⟩ := g
    simp only at hG hstep
    have HC2 := Lib.hid HC
    clear HC hg
    by_cases he : ge = 0
    · subst he
      obtain ⟨nx, rfl, h1, h2⟩ := hstep rfl
      simp only [ne_eq, not_true_eq_false, if_false, Int.toNat_natCast] at hG
      have HG := Lib.hid hG
      clear hstep hG
      go_wp2_with fail
      refine HC2.out.mono ?_
      rintro e w1 ⟨rfl, n1, rfl⟩
      simp only [retF]
      have hown1 := own_drewN hown n1
      have hbel1 := drewN (n := n1) hbel
      clear hown hbel
      generalize wr.drewN n1 = w1 at hown1 hbel1 ⊢
      go_wp2_with (at_builtin; refine wpList_push rfl _ _ 39 rfl Tryz.underlying39 infoStr rfl (by decide) rfl #[.string gt] rfl ?c1 rfl hown1 ?c2 ?c3 ?c4 ?_)
      case c1 => rfl
      case c2 => exact hbel1.size
      case c3 => unfold maxLen; omega
      case c4 => omega
      intro a' cap w2 hown2 _ hb2
      have hb3 := hbel1.trans hb2
      go_wp2_with fail
      go_roundw
      case rel => exact ⟨nx, f, acc ++ [gt], rfl, by omega, by simp; omega, by omega, HG.out, by simpa using hown2, hb3⟩
      case measure => simp [intOf]; omega
    · have hb : (ge != 0) = true := nt he
      rw [if_pos he] at hG
      subst hG
      clear hstep he
      obtain ⟨a, cap, rfl, _⟩ := own_form hown
      go_wp2_with fail
      refine HC2.out.mono ?_
      rintro e w1 ⟨rfl, n1, rfl⟩
      simp only [retF]
      have hown1 := own_drewN hown n1
      have hbel1 := drewN (n := n1) hbel
      clear hown hbel
      generalize wr.drewN n1 = w1 at hown1 hbel1 ⊢
      go_wp2_with fail
      go_ret3
      exact ⟨a, cap, rfl, row_map (own_row hown1).2, hbel1⟩

end Go.Proofs.YtpihmjdljbienaaGreatDoor.Fw
