/- BlockBack: entries are read back from their bytes, however often keys are told whole. No condition on the input. -/
import Derived.Test.YtimkopihjldhnaaBlockK
import Derived.Test.YtimkopihjldhnaaFindX
import Derived.Test.YtimkopihjldhnaaPush
import Derived.Deep.RegionHeld2
import Derived.ProofKit
import Derived.OpenShut
import Derived.ShutString
import Derived.ChangeOld
import Derived.Below
import Derived.SizedLaws
import Derived.Test.YtimkopihjldhnaaOpen
import Derived.Test.YtimkopihjldhnaaOpenE
namespace Go.Proofs.Ytimkopihjldhnaa.blockBack
open Go.ChangeShapes Go.WideShapes Go.ChangeAt Go.RowKit
open Go.ChangeMaps (open_string shut_string)
set_option linter.unusedVariables false
open En Ew B

theorem found_self {l : List Ent} (hs : Sorted l) (i : Nat) (hi : i < l.length) : foundE l (l.getD i ent0).key (l.getD i ent0).seq = (l.getD i ent0, true) := by
  refine found_at i hi (fun k hk => ?_) (by simp [isK])
  cases h : isK (l.getD i ent0).key (l.getD i ent0).seq (l.getD k ent0) with
  | false => rfl
  | true =>
    have a := isK_less (g := (l.getD i ent0).gone) (v := (l.getD i ent0).val) (u := (l.getD i ent0).til) h
    have b := hs k i hk hi
    have e : (⟨(l.getD i ent0).key, (l.getD i ent0).seq, (l.getD i ent0).gone, (l.getD i ent0).val, (l.getD i ent0).til⟩ : Ent) = l.getD i ent0 := rfl
    rw [e, b] at a
    cases a

theorem keepR {W W' : World} {b o1 : Nat} {x y : Value} (h : W.cell? ⟨b, o1, none⟩ = some x ∧ W.cell? ⟨b, o1 + 1, none⟩ = some y ∧ b < W.heap.size) (k : Below W.heap.size W W') :
    W'.cell? ⟨b, o1, none⟩ = some x ∧ W'.cell? ⟨b, o1 + 1, none⟩ = some y ∧ b < W'.heap.size :=
  ⟨(k.cell (p := ⟨b, o1, Option.none⟩) h.2.2).trans h.1, (k.cell (p := ⟨b, o1 + 1, Option.none⟩) h.2.2).trans h.2.1, Nat.lt_of_lt_of_le h.2.2 k.size⟩

theorem keepD {W : World} {b o1 : Nat} {x y : Value} (h : W.cell? ⟨b, o1, none⟩ = some x ∧ W.cell? ⟨b, o1 + 1, none⟩ = some y ∧ b < W.heap.size) :
    W.drew.cell? ⟨b, o1, none⟩ = some x ∧ W.drew.cell? ⟨b, o1 + 1, none⟩ = some y ∧ b < W.drew.heap.size := h
theorem keepDN {W : World} {n b o1 : Nat} {x y : Value} (h : W.cell? ⟨b, o1, none⟩ = some x ∧ W.cell? ⟨b, o1 + 1, none⟩ = some y ∧ b < W.heap.size) :
    (W.drewN n).cell? ⟨b, o1, none⟩ = some x ∧ (W.drewN n).cell? ⟨b, o1 + 1, none⟩ = some y ∧ b < (W.drewN n).heap.size := h
theorem keepA {W : World} {o : Obj} {b o1 : Nat} {x y : Value} (h : W.cell? ⟨b, o1, none⟩ = some x ∧ W.cell? ⟨b, o1 + 1, none⟩ = some y ∧ b < W.heap.size) :
    (W.alloc o).cell? ⟨b, o1, none⟩ = some x ∧ (W.alloc o).cell? ⟨b, o1 + 1, none⟩ = some y ∧ b < (W.alloc o).heap.size := keepR h (below_alloc (Below.refl _ _) _)
theorem keepS {W : World} {b o1 g k : Nat} {x y v : Value} (h : W.cell? ⟨b, o1, none⟩ = some x ∧ W.cell? ⟨b, o1 + 1, none⟩ = some y ∧ b < W.heap.size) (hne : b ≠ g) :
    (W.setCell ⟨g, k, none⟩ v).cell? ⟨b, o1, none⟩ = some x ∧ (W.setCell ⟨g, k, none⟩ v).cell? ⟨b, o1 + 1, none⟩ = some y ∧ b < (W.setCell ⟨g, k, none⟩ v).heap.size := by
  refine ⟨(World.cell?_setCell_other _ _ _ _ ?_).trans h.1, (World.cell?_setCell_other _ _ _ _ ?_).trans h.2.1, by simpa [World.setCell] using h.2.2⟩
  · intro e; have := congrArg Addr.block e; simp at this; omega
  · intro e; have := congrArg Addr.block e; simp at this; omega

set_option maxHeartbeats 1600000 in
set_option maxRecDepth 100000 in
theorem walk (a : Option Addr) (n cap : Nat) (l : List Ent) (every : Int) (w : World) (hz : l.length = n ∧ n ≤ cap ∧ n * 56 ≤ 140737488351232 ∧ (∀ e ∈ l, Fits e) ∧ ERow w a n (fun i => l.getD i ent0)) (_ : -9223372036854775808 ≤ every ∧ every ≤ 9223372036854775807) :
    Calls Try.prog 9 #[.slice a n cap, .int .i64 every] w fun e w' => e = .returned (.bool true) ∧ Below w.heap.size w w' := by
  obtain ⟨hl, hn, hm, hf, hrow⟩ := hz
  have HLS := Lib.hid (lists_any a n cap l hl hm w hrow)
  have HA := Lib.hid (fun a1 c1 h1 h2 W hr => build_any a1 n c1 l every hl h1 h2 hf W hr)
  have hpx := @build_parse l every
  generalize buildE l every = r at HA hpx
  obtain ⟨s, g⟩ := r
  simp only at hpx HA
  have HPX := Lib.hid (fun h => hpx h hf)
  have HL := Lib.hid hl
  clear hl hf hrow hpx
  go_enter Try.func9, Try.ntmps9
  go_wp2_with fail
  refine HLS.out.mono ?_
  unfold GotL
  rw [HL.out]
  rintro e w1 ⟨a1, c1, a2, c2, rfl, ho1, _, hb1⟩
  have R1 := Lib.hid (own_erow ho1).2.2
  have z1 := cap_own ho1
  obtain ⟨_, _, ev1, y1⟩ := own_form ho1
  cases ev1
  clear ho1
  go_wp2_with fail
  refine (HA.out _ _ y1 z1.2 _ R1.out).mono ?_
  rintro e w2 ⟨rfl, hb2⟩
  have hbz2 := chain hb1 hb2
  have R2 := Lib.hid (R1.out.below hb2)
  clear hb1 hb2 R1
  by_cases hg : g = 0
  case neg =>
    have e1 : (g != 0) = true := nt hg
    clear hg
    go_wp2_with fail
    refine (wakes10_any _).mono ?_
    rintro e w4 ⟨rfl, hb4⟩
    have hbz := chain hbz2 hb4
    go_wp2_with fail
    refine (wakes10_any _).mono ?_
    rintro e w5 ⟨rfl, hb5⟩
    have hbz5 := chain hbz hb5
    go_wp2_with fail
    go_ret
    exact ⟨rfl, hbz5⟩
  case pos =>
  subst hg
  obtain ⟨px, sx, hord, hl4⟩ := HPX.out rfl
  have HSO := Lib.hid (sorted_of (l := l) (fun j hj => ordered_get hord j hj))
  have HP := Lib.hid (fun W : World => parse_any s (by omega) W)
  have HF := Lib.hid (fun key seq (W : World) => find_any s (by omega) key seq W)
  rw [px] at HP HF
  simp only at HF
  rw [HL.out] at hl4
  clear px hord
  go_wp2_with fail
  refine (wakes10_any _).mono ?_
  rintro e w4 ⟨rfl, hb4⟩
  have hbz4 := chain hbz2 hb4
  have R4 := Lib.hid (R2.out.below hb4)
  clear hb4 hbz2 R2
  go_wp2_with fail
  refine (HP.out _).mono ?_
  rintro e w5 ⟨p1, d1, rfl, ho1, hb5⟩
  simp only at ho1
  have hbz5 := chain hbz4 hb5
  have RA := Lib.hid (own_erow ho1).2.2
  have RB := Lib.hid (R4.out.below hb5)
  rw [HL.out] at RA
  clear ho1 hb5 hbz4 R4
  have hln := HL.out
  go_wp2_with fail
  go_loopw [49] (fun i wr => ∃ j : Nat, i = .int .i64 j ∧ j ≤ n ∧ Below w5.heap.size w5 wr) (fun i _ => n - (intOf i).toNat)
  case atStart => exact ⟨0, rfl, by omega, Below.refl _ _⟩
  case round =>
    obtain ⟨j, rfl, hj, hbel⟩ := hrel
    have hB9 := Lib.hid (chain hbz5 hbel)
    by_cases hlt : j < n
    · obtain ⟨b1, o1, rfl, hl1, hc1⟩ := (RA.out.below hbel).at (by omega)
      obtain ⟨b2, o2, rfl, hl2, hc2⟩ := (RB.out.below hbel).at (by omega)
      have hd1 := hc1 j hlt
      have hd2 := hc2 j hlt
      have hfs := found_self HSO.out j (by omega)
      generalize l.getD j ent0 = x at hd1 hd2 hfs
      obtain ⟨k, q, g, v, u⟩ := x
      have HFF := Lib.hid (fun W => HF.out k q W)
      simp only at hfs
      rw [hfs] at HFF
      unfold GotF at HFF
      simp only [Ent.v] at HFF
      simp only at hd1 hd2
      have HD2 := Lib.hid hd2
      obtain ⟨p0, p1, p2, p3, p4⟩ := hd1
      obtain ⟨q0, q1, q2, q3, q4⟩ := hd2
      have i1 : (0 : Int) ≤ (j : Int) := by omega
      have i2 : (j : Int) < (n : Int) := by omega
      have hne1 : ∀ W : World, (binOp .neq 45 (.agg #[.string k, .int .i64 q, .bool g, .string v, .int .i64 u]) (.agg #[.string k, .int .i64 q, .bool g, .string v, .int .i64 u])).run Try.prog W = .ok (.bool false) W := fun W => by rw [neq_api, eqE_refl]; rfl
      clear hc1 hc2 hfs
      go_wp2_with fail
      go_quiet (fail)
      go_wp2_with fail
      have hR := Lib.hid (show wr.cell? ⟨b2, o2 + j * 5, none⟩ = some (.string k) ∧ wr.cell? ⟨b2, o2 + j * 5 + 1, none⟩ = some (.int .i64 q) ∧ b2 < wr.heap.size from ⟨q0, q1, hl2⟩)
      go_cut [12, 13, 14] (fun s12 s13 s14 wx => ∃ gb, s12 = .pointer (some ⟨gb, 0, none⟩) ∧ s13 = .bool true ∧ s14 = .int .i64 0 ∧ Hid (EBox wx gb 45 ⟨k, q, g, v, u⟩) ∧ Hid (Below wr.heap.size wr wx))
      case first =>
        clear p0 p1 p2 p3 p4 q0 q1 q2 q3 q4
        have hne : b2 ≠ wr.heap.size := by omega
        go_region_held3 (fun w' => w'.cell? ⟨b2, o2 + j * 5, none⟩ = some (.string k) ∧ w'.cell? ⟨b2, o2 + j * 5 + 1, none⟩ = some (.int .i64 q) ∧ b2 < w'.heap.size)
          (repeat (first | with_reducible exact hR.out | with_reducible refine keepD ?_ | with_reducible refine keepDN ?_ | with_reducible refine keepA ?_ | with_reducible refine keepR ?_ hb6 | with_reducible refine keepS ?_ hne))
          (first
            | (go_at_call 18; refine (HFF.out _).mono ?_; rintro e w6 ⟨rfl, hb6⟩
               first
                 | (have hE3 : EBox w6 wr.heap.size 45 ent0 := EBox.below (EBox.new (wr.drewN (nq + 1)) 45 ent0) hb6
                    have f0 := hE3.fz 0
                    have f1 := hE3.fz 1
                    have f2 := hE3.fz 2
                    have f3 := hE3.fz 3
                    have f4 := hE3.fz 4
                    obtain ⟨j0, j1, j2, j3, j4⟩ := hE3.cells)
                 | skip))
        · have HEZ := EBox.new w6 45 ⟨k, q, g, v, u⟩
          have HBZ := below_alloc (w := wr) (show Below wr.heap.size wr w6 from ⟨hb6.os, hb6.tape, hb6.output, hb6.size, hb6.block⟩) (.cells #[.string k, .int .i64 q, .bool g, .string v, .int .i64 u] 45)
          go_wp2_with fail
          go_meet
          exact ⟨w6.heap.size, rfl, rfl, rfl, HEZ, HBZ⟩
        · have HEZ := hE3.set5 ⟨k, q, g, v, u⟩
          have HBZ := below_set5 (w := wr) (k := 0) (chain (w := wr) (below_alloc (w := wr) (Below.refl _ _) _) (show Below (wr.alloc _).heap.size (wr.alloc _) w6 from ⟨hb6.os, hb6.tape, hb6.output, hb6.size, hb6.block⟩)) (Nat.le_refl _) ⟨k, q, g, v, u⟩
          go_wp2_with fail
          go_meet
          exact ⟨wr.heap.size, rfl, rfl, rfl, HEZ, HBZ⟩
      case rest =>
        obtain ⟨gb, rfl, rfl, rfl, hEb, hbx⟩ := hcut
        obtain ⟨r0, r1, r2, r3, r4⟩ := hEb.out.cells
        obtain ⟨q0, q1, q2, q3, q4⟩ := HD2.out
        have q0 := (hbx.out.cell (p := ⟨b2, o2 + j * 5, Option.none⟩) hl2).trans q0
        have q1 := (hbx.out.cell (p := ⟨b2, o2 + j * 5 + 1, Option.none⟩) hl2).trans q1
        have q2 := (hbx.out.cell (p := ⟨b2, o2 + j * 5 + 2, Option.none⟩) hl2).trans q2
        have q3 := (hbx.out.cell (p := ⟨b2, o2 + j * 5 + 3, Option.none⟩) hl2).trans q3
        have q4 := (hbx.out.cell (p := ⟨b2, o2 + j * 5 + 4, Option.none⟩) hl2).trans q4
        simp only at r0 r1 r2 r3 r4
        have hbz := chain hbel hbx.out
        clear p0 p1 p2 p3 p4
        go_wp2_with fail
        go_quiet (fail)
        go_wp2_with fail
        go_roundw
        case rel => exact ⟨j + 1, by go_num, by omega, drewN hbz⟩
        case measure => simp [intOf]; omega
    · obtain rfl : j = n := by omega
      go_wp2_with fail
      go_ret
      exact ⟨rfl, hB9.out⟩

theorem entT : Op.EntT Try.prog 57 ((match Try.prog.underlying 57 with | some (.struct fs) => fs | _ => #[])) := by
  rw [Try.underlying57]
  exact ⟨Try.underlying57, by kernel_rfl, by kernel_rfl, ⟨_, rfl, Try.underlying9⟩, ⟨_, rfl, Try.underlying2⟩, ⟨_, rfl, Try.underlying4⟩, ⟨_, rfl, Try.underlying9⟩, ⟨_, rfl, Try.underlying2⟩, rfl⟩
theorem bd64 {n : Int} (h : (Lit.int .i64 n).wf = true) : -9223372036854775808 ≤ n ∧ n ≤ 9223372036854775807 := by
  simpa [Lit.wf, IntKind.min, IntKind.max, IntKind.signed, IntKind.bits] using h


theorem own : ownKnob Try.prog.godebug = none := by kernel_rfl
theorem laidOut : laidOutB Try.prog = true := by kernel_rfl

set_option maxRecDepth 100000 in
theorem lifted (os : Os) (started : os.Started) (H : Type) (enc : TypeId × Value → H) :
    ReturnsInHanded {} Try.checked os 9 .any (Rows.blockBackSpec.pre6 enc Try.prog Try.f9 Rows.blockBackRow.domain false) (Rows.blockBackSpec.post enc Try.prog Try.f9 false true false false) := by
  refine returnsInHanded_of_change_sized (C := Try.checked) own started (by kernel_rfl) Try.func9
    (ChangeSpec.witness6 (enc := enc) (C := Try.checked) false ⟨#[], #[.slice none 0 0, .int .i64 0], []⟩ 8 (by kernel_rfl) (by kernel_rfl) (by kernel_rfl) (by kernel_rfl)) ?_
  intro W base args ds gs before hval0 hW hcnd hsz0 _
  have hval : ∀ (j : Nat) t v, Try.f9.params[j]? = some t → args[j]? = some v → Value.okWide Try.prog W .any base t v := hval0
  have hsz : (DataW.weightsEach Try.prog (Try.f9.params.toList ++ Rows.blockBackSpec.plain.varTypes Try.prog) (ds ++ gs)).all (· ≤ reachBytes) = true := hsz0
  have hW' := hW
  obtain ⟨p, q, hA0, hV, rfl, hfz, hnd⟩ := hW
  have hA : DataW.TrodAll enc Try.prog W 0 (fun _ => true) true Try.f9.params.toList args.toList ds p := hA0
  rw [Try.params9] at hA hval hsz
  obtain ⟨v0, vs0, d0, ds0, p0, q0, hargs, rfl, rfl, h0, r0⟩ := trodAll_cons hA
  obtain ⟨v1, vs1, d1, ds1, p1, q1, rfl, rfl, rfl, h1, r1⟩ := trodAll_cons r0
  obtain ⟨rfl, rfl, rfl⟩ := trodAll_nil r1
  obtain rfl : args = #[v0, v1] := by cases args; simp_all
  obtain ⟨rfl, rfl⟩ := trodVars_none hV
  have k0 := h0
  have lt0 : ∀ x ∈ p0, x.block < W.heap.size := by obtain ⟨m, hm⟩ := k0; exact DataW.trod_lt m _ _ _ hm
  have k1 := h1
  have lt1 : ∀ x ∈ p1, x.block < W.heap.size := by obtain ⟨m, hm⟩ := k1; exact DataW.trod_lt m _ _ _ hm
  obtain ⟨a0, n0, cap0, z0, rfl, w0, row0, lc0, cm0, wf0, wt0, bk0⟩ := Op.ents1 entT Try.underlying22 (hval 0 22 v0 rfl rfl) h0
  have wb0 := wt0 reachBytes (fun m hm => of_decide_eq_true (List.all_eq_true.1 hsz _ (DataW.weights_mem_each (j := 0) rfl rfl m hm)))
  have f0 : z0.length = n0 ∧ n0 ≤ cap0 ∧ n0 * 56 ≤ 140737488351232 ∧ (∀ e ∈ z0, En.Fits e) ∧ En.ERow W a0 n0 (fun i => z0.getD i En.ent0) := ⟨w0, lc0, by have h9 := wb0.2; rw [show Try.prog.bytesOf 57 = 56 from by kernel_rfl] at h9; exact h9, fun x hx => by have h9 := wf0 x hx; have h8 := wb0.1 x hx; exact ⟨h8.1, h8.2, (bd64 h9.2.2.1).1, (bd64 h9.2.2.1).2, (bd64 h9.2.2.2).1, (bd64 h9.2.2.2).2⟩, row0⟩
  obtain ⟨a1, rfl, rfl, rfl, w1⟩ := open_int Try.underlying3 (hval 1 3 v1 rfl rfl) h1
  have b1 : -9223372036854775808 ≤ a1 ∧ a1 ≤ 9223372036854775807 := by simpa [Lit.wf, IntKind.min, IntKind.max, IntKind.signed, IntKind.bits] using w1
  clear hA0 hval0
  refine (walk a0 n0 cap0 z0 a1 W f0 b1).mono fun e W' ⟨he, bel⟩ => ?_
  subst he
  exact ⟨_, rfl, _, _, _, [], _, [], hW', trodAll_mk1 (shut_bool Try.underlying4 _), (trodAll_cons_mk (Below.trod laidOut (by kernel_rfl) (of_decide_eq_true (by kernel_rfl)) k0 bel lt0) (trodAll_cons_mk (Below.trod laidOut (by kernel_rfl) (of_decide_eq_true (by kernel_rfl)) k1 bel lt1) trodAll_mk0)), rfl, bel.frame _, fun h => by cases h⟩

theorem over : Rows.blockBackRow.holds Try.pinned (OpenSpec.ofChange Rows.blockBackSpec) :=
  OpenClaim.holds_of_wide 9 Try.f9 rfl rfl rfl rfl rfl rfl rfl ⟨rfl, rfl, rfl, rfl, rfl⟩ rfl rfl rfl rfl rfl (by kernel_rfl) Try.func9 (by kernel_rfl)
    (of_decide_eq_true (by kernel_rfl)) (by unfold Func.isWrapper; first | (rw [if_pos (by decide +kernel)]; kernel_rfl) | (rw [if_neg (by decide +kernel)]; exact ⟨rfl, rfl⟩))
    (fun os started H enc _ => lifted os started H enc)

/-- THE STATEMENT -/
theorem proved : Rows.BlockBackSaid := over
end Go.Proofs.Ytimkopihjldhnaa.blockBack
