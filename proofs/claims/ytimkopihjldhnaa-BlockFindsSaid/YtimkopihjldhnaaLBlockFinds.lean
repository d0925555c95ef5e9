/- BlockFinds: of every bytes the newest entry of every key up to any number is the document's. No condition on the input. -/
import Derived.Test.YtimkopihjldhnaaBlockK
import Derived.Test.YtimkopihjldhnaaParseT
import Derived.Test.YtimkopihjldhnaaFindX
import Derived.Test.YtimkopihjldhnaaFindG
import Derived.ProofKit
import Derived.OpenShut
import Derived.ShutString
import Derived.ChangeOld
import Derived.Below
import Derived.SizedLaws
namespace Go.Proofs.Ytimkopihjldhnaa.blockFinds
open Go.ChangeShapes Go.WideShapes Go.ChangeAt Go.RowKit
open Go.ChangeMaps (open_string shut_string)
set_option linter.unusedVariables false
open En Ew B

set_option maxHeartbeats 800000 in
theorem walk (s key : ByteArray) (seq : Int) (hs : s.size ≤ 140737488351232) (hk : key.size ≤ 140737488351232) (_ : -9223372036854775808 ≤ seq ∧ seq ≤ 9223372036854775807) (w : World) :
    Calls Try.prog 8 #[.string s, .string key, .int .i64 seq] w fun e w' => e = .returned (.bool true) ∧ Below w.heap.size w w' := by
  have HA := Lib.hid (fun W : World => rparse_any s (by omega) W)
  have HB := Lib.hid (fun W : World => find_any s (by omega) key seq W)
  have hll := parse_len s
  generalize parseE s = r at HA HB hll
  obtain ⟨l, n⟩ := r
  simp only at hll HB
  have HC := Lib.hid (fun gb a1 c1 (W : World) h1 h2 => get06_any gb a1 l.length c1 l rfl (by omega) key seq W h1 h2)
  generalize foundE l key seq = f at HB HC
  obtain ⟨⟨k, q, g, v, u⟩, b⟩ := f
  unfold GotF at HB
  unfold GotG at HC
  simp only [Ent.v] at HB HC
  have hne1 : ∀ W : World, (binOp .eql 44 (.agg #[.string k, .int .i64 q, .bool g, .string v, .int .i64 u]) (.agg #[.string k, .int .i64 q, .bool g, .string v, .int .i64 u])).run Try.prog W = .ok (.bool true) W := fun W => by rw [eql_ref, eqE_refl]
  go_enter Try.func8, Try.ntmps8
  go_wp2_with fail
  refine (HA.out _).mono ?_
  rintro e w1 ⟨a1, c1, rfl, ho1, hb1⟩
  simp only at ho1
  have R1 := Lib.hid (own_erow ho1).2.2
  clear ho1
  go_wp2_with fail
  refine (HB.out _).mono ?_
  rintro e w2 ⟨rfl, hb2⟩
  have R2 := Lib.hid (R1.out.below hb2)
  have hB2 := chain hb1 hb2
  clear hb1 hb2 R1
  go_wp2_with fail
  have hE3 : EBox ((w2.alloc (.cells #[.string k, .int .i64 q, .bool g, .string v, .int .i64 u] 45)).alloc (.cells #[.slice none 0 0, .slice a1 l.length c1, .int .i64 0] 55)) w2.heap.size 45 ⟨k, q, g, v, u⟩ := blk_alloc (heap_alloc_new _ _)
  have hg3 : ((w2.alloc (.cells #[.string k, .int .i64 q, .bool g, .string v, .int .i64 u] 45)).alloc (.cells #[.slice none 0 0, .slice a1 l.length c1, .int .i64 0] 55)).cell? ⟨w2.heap.size + 1, 1, none⟩ = some (.slice a1 l.length c1) :=
    cell_of_row _ (w2.heap.size + 1) 1 _ _ _ (blk_new (by simp))
  have hB3 := below_alloc (below_alloc hB2 (.cells #[.string k, .int .i64 q, .bool g, .string v, .int .i64 u] 45)) (.cells #[.slice none 0 0, .slice a1 l.length c1, .int .i64 0] 55)
  have hR3 := R2.out.below (below_alloc (below_alloc (Below.refl _ w2) (.cells #[.string k, .int .i64 q, .bool g, .string v, .int .i64 u] 45)) (.cells #[.slice none 0 0, .slice a1 l.length c1, .int .i64 0] 55))
  generalize hW : World.alloc _ _ = W3
  rw [hW] at hE3 hg3 hB3 hR3
  generalize w2.heap.size = gg at hE3 hg3 ⊢
  clear hW R2 hB2 w2
  refine (HC.out _ _ _ _ hg3 hR3).mono ?_
  rintro e w4 ⟨rfl, hb4⟩
  have hE4 := hE3.below hb4
  have hB4 := chain hB3 hb4
  clear hE3 hg3 hB3 hR3 hb4 W3
  go_wp2_with fail
  have hE5 : EBox (w4.alloc (.cells #[.string k, .int .i64 q, .bool g, .string v, .int .i64 u] 44)) gg 45 ⟨k, q, g, v, u⟩ := blk_alloc hE4
  have hF5 : EBox (w4.alloc (.cells #[.string k, .int .i64 q, .bool g, .string v, .int .i64 u] 44)) w4.heap.size 44 ⟨k, q, g, v, u⟩ := heap_alloc_new _ _
  have hB5 := below_alloc hB4 (.cells #[.string k, .int .i64 q, .bool g, .string v, .int .i64 u] 44)
  refine (wakes10_any _).mono ?_
  rintro e w6 ⟨rfl, hb6⟩
  have hB6 := chain hB5 hb6
  obtain ⟨p0, p1, p2, p3, p4⟩ := (hE5.below hb6).cells
  obtain ⟨q0, q1, q2, q3, q4⟩ := (hF5.below hb6).cells
  simp only at p0 p1 p2 p3 p4 q0 q1 q2 q3 q4
  clear hE4 hB4 hE5 hF5 hB5 hb6
  go_wp2_with fail
  go_ret
  exact ⟨rfl, hB6⟩

theorem own : ownKnob Try.prog.godebug = none := by kernel_rfl
theorem laidOut : laidOutB Try.prog = true := by kernel_rfl

set_option maxRecDepth 100000 in
theorem lifted (os : Os) (started : os.Started) (H : Type) (enc : TypeId × Value → H) :
    ReturnsInHanded {} Try.checked os 8 .any (Rows.blockFindsSpec.pre6 enc Try.prog Try.f8 Rows.blockFindsRow.domain false) (Rows.blockFindsSpec.post enc Try.prog Try.f8 false true false false) := by
  refine returnsInHanded_of_change_sized (C := Try.checked) own started (by kernel_rfl) Try.func8
    (ChangeSpec.witness6 (enc := enc) (C := Try.checked) false ⟨#[], #[.string ByteArray.empty, .string ByteArray.empty, .int .i64 0], []⟩ 8 (by kernel_rfl) (by kernel_rfl) (by kernel_rfl) (by kernel_rfl)) ?_
  intro W base args ds gs before hval0 hW hcnd hsz0 _
  have hval : ∀ (j : Nat) t v, Try.f8.params[j]? = some t → args[j]? = some v → Value.okWide Try.prog W .any base t v := hval0
  have hsz : (DataW.weightsEach Try.prog (Try.f8.params.toList ++ Rows.blockFindsSpec.plain.varTypes Try.prog) (ds ++ gs)).all (· ≤ reachBytes) = true := hsz0
  have hW' := hW
  obtain ⟨p, q, hA0, hV, rfl, hfz, hnd⟩ := hW
  have hA : DataW.TrodAll enc Try.prog W 0 (fun _ => true) true Try.f8.params.toList args.toList ds p := hA0
  rw [Try.params8] at hA hval hsz
  obtain ⟨v0, vs0, d0, ds0, p0, q0, hargs, rfl, rfl, h0, r0⟩ := trodAll_cons hA
  obtain ⟨v1, vs1, d1, ds1, p1, q1, rfl, rfl, rfl, h1, r1⟩ := trodAll_cons r0
  obtain ⟨v2, vs2, d2, ds2, p2, q2, rfl, rfl, rfl, h2, r2⟩ := trodAll_cons r1
  obtain ⟨rfl, rfl, rfl⟩ := trodAll_nil r2
  obtain rfl : args = #[v0, v1, v2] := by cases args; simp_all
  obtain ⟨rfl, rfl⟩ := trodVars_none hV
  have k0 := h0
  have lt0 : ∀ x ∈ p0, x.block < W.heap.size := by obtain ⟨m, hm⟩ := k0; exact DataW.trod_lt m _ _ _ hm
  have k1 := h1
  have lt1 : ∀ x ∈ p1, x.block < W.heap.size := by obtain ⟨m, hm⟩ := k1; exact DataW.trod_lt m _ _ _ hm
  have k2 := h2
  have lt2 : ∀ x ∈ p2, x.block < W.heap.size := by obtain ⟨m, hm⟩ := k2; exact DataW.trod_lt m _ _ _ hm
  obtain ⟨a0, rfl, rfl, rfl, w0⟩ := open_string Try.underlying9 (hval 0 9 v0 rfl rfl) h0
  have b0 : a0.size ≤ 140737488351232 := by have := sized_string hsz (j := 0) rfl rfl; simpa [reachBytes] using this
  obtain ⟨a1, rfl, rfl, rfl, w1⟩ := open_string Try.underlying9 (hval 1 9 v1 rfl rfl) h1
  have b1 : a1.size ≤ 140737488351232 := by have := sized_string hsz (j := 1) rfl rfl; simpa [reachBytes] using this
  obtain ⟨a2, rfl, rfl, rfl, w2⟩ := open_int Try.underlying2 (hval 2 2 v2 rfl rfl) h2
  have b2 : -9223372036854775808 ≤ a2 ∧ a2 ≤ 9223372036854775807 := by simpa [Lit.wf, IntKind.min, IntKind.max, IntKind.signed, IntKind.bits] using w2
  clear hA0 hval0
  refine (walk a0 a1 a2 b0 b1 b2 W).mono fun e W' ⟨he, bel⟩ => ?_
  subst he
  exact ⟨_, rfl, _, _, _, [], _, [], hW', trodAll_mk1 (shut_bool Try.underlying4 _), (trodAll_cons_mk (Below.trod laidOut (by kernel_rfl) (of_decide_eq_true (by kernel_rfl)) k0 bel lt0) (trodAll_cons_mk (Below.trod laidOut (by kernel_rfl) (of_decide_eq_true (by kernel_rfl)) k1 bel lt1) (trodAll_cons_mk (Below.trod laidOut (by kernel_rfl) (of_decide_eq_true (by kernel_rfl)) k2 bel lt2) trodAll_mk0))), rfl, bel.frame _, fun h => by cases h⟩

theorem over : Rows.blockFindsRow.holds Try.pinned (OpenSpec.ofChange Rows.blockFindsSpec) :=
  OpenClaim.holds_of_wide 8 Try.f8 rfl rfl rfl rfl rfl rfl rfl ⟨rfl, rfl, rfl, rfl, rfl⟩ rfl rfl rfl rfl rfl (by kernel_rfl) Try.func8 (by kernel_rfl)
    (of_decide_eq_true (by kernel_rfl)) (by unfold Func.isWrapper; first | (rw [if_pos (by decide +kernel)]; kernel_rfl) | (rw [if_neg (by decide +kernel)]; exact ⟨rfl, rfl⟩))
    (fun os started H enc _ => lifted os started H enc)

/-- THE STATEMENT -/
theorem proved : Rows.BlockFindsSaid := over
end Go.Proofs.Ytimkopihjldhnaa.blockFinds
