/- TableBack: entries are read back from their table, from every key on. No condition on the input. -/
import Derived.Test.YtajfalffpcamhaaTabQ
import Derived.Test.YtajfalffpcamhaaTabL
import Derived.Test.YtajfalffpcamhaaGb
import Derived.BigQuiet
import Derived.Deep.QuietTactic
import Derived.ProofKit
import Derived.OpenShut
import Derived.ShutString
import Derived.ChangeOld
import Derived.Below
import Derived.SizedLaws
import Derived.Test.YtajfalffpcamhaaOpen
import Derived.Test.YtajfalffpcamhaaOpenE
namespace Go.Proofs.Ytajfalffpcamhaa.tableBack
open Go.ChangeShapes Go.WideShapes Go.ChangeAt Go.RowKit
open Go.ChangeMaps (open_string shut_string)
set_option linter.unusedVariables false
open Tw Tb En Ew B Vp Fp

/-- the argument 'x': two numbers -/
def TwoN (v : Value) : Prop := ∃ x y : Int, v = .agg #[.int .i64 x, .int .i64 y] ∧ (-9223372036854775808 ≤ x ∧ x ≤ 9223372036854775807) ∧ (-9223372036854775808 ≤ y ∧ y ≤ 9223372036854775807)

set_option maxRecDepth 100000 in
theorem open_1 {H : Type} {enc : TypeId × Value → H} {w : World} {base b0 : Nat} {sp : Nat → Bool} {held : Bool} {v : Value} {d : DataW H} {p : List MemPlace}
    (hv : Value.okWide Try.prog w .any b0 59 v) (h : DataW.Trod enc Try.prog w base sp held 59 v d p) (hs : ∀ n ∈ d.weights Try.prog 59, n ≤ 140737488351232) : TwoN v := by
  have hc : Try.prog.cellsOf 59 = 2 := by kernel_rfl
  have hc1 : Try.prog.cellsOf 3 = 1 := by kernel_rfl
  have hu := Try.underlying59
  simp only [Value.okWide, hu] at hv
  obtain ⟨cs, rfl, hsz, _⟩ := hv
  rw [hc] at hsz
  obtain ⟨c0, c1, rfl⟩ : ∃ a b, cs = #[a, b] := by
    obtain ⟨l⟩ := cs
    match l, hsz with
    | [a, b], _ => exact ⟨a, b, rfl⟩
  obtain ⟨fuel, hf⟩ := h
  obtain ⟨xs, m, _, hx, _, hl, hg⟩ := DataW.trod_array hu hf
  have g0 := hg 0 (by omega)
  have g1 := hg 1 (by omega)
  rw [hc1] at g0 g1
  match xs, hl with
  | [x0, x1], _ =>
    obtain ⟨s0, e0, rfl, w0⟩ := DataW.trod_int Try.underlying3 g0
    obtain ⟨s1, e1, rfl, w1⟩ := DataW.trod_int Try.underlying3 g1
    simp [Value.cells] at e0 e1
    subst e0 e1
    exact ⟨s0, s1, rfl, by simpa [Lit.wf, IntKind.min, IntKind.max, IntKind.signed, IntKind.bits] using w0, by simpa [Lit.wf, IntKind.min, IntKind.max, IntKind.signed, IntKind.bits] using w1⟩

set_option maxHeartbeats 3200000 in
set_option maxRecDepth 100000 in
theorem walk (a0 : Option Addr) (n0 c0 : Nat) (z : List Ent) (v : Value) (key : ByteArray) (w : World)
    (f0 : z.length = n0 ∧ n0 ≤ c0 ∧ n0 * 56 ≤ 140737488351232 ∧ (∀ e ∈ z, Fits e) ∧ ERow w a0 n0 (fun i => z.getD i ent0)) (hv : TwoN v) (hks : key.size ≤ 140737488351232) :
    Calls Try.prog 6 #[.slice a0 n0 c0, v, .string key] w fun e w' => e = .returned (.bool true) ∧ Below w.heap.size w w' := by
  obtain ⟨x, y, rfl, hxb, hyb⟩ := hv
  obtain ⟨hl, hc, hn, hfit, hrow⟩ := f0
  have HLS := Lib.hid (fun W h => lists11_any a0 n0 c0 z hl hc W h)
  have HROW := Lib.hid hrow
  have hfL : ∀ e ∈ z.take 3000, Fits e := fun e he => hfit e (List.mem_of_mem_take he)
  have hLl : (z.take 3000).length ≤ 3000 := by rw [List.length_take]; omega
  generalize z.take 3000 = L at HLS hfL hLl
  have HW := Lib.hid wakes11_any
  have HBU := Lib.hid (fun a c h1 h2 W hr => tbuild_any a L.length c L rfl h1 h2 hfL x y W hr)
  have hbo := fun T (h : tabB L x y = (T, 0)) => built_of h hfL
  generalize tabB L x y = t at HBU hbo
  obtain ⟨T, te⟩ := t
  simp only [retB] at HBU
  have HBO := Lib.hid hbo
  have hb0 := below_alloc (Below.refl w.heap.size w) (.cells #[.int .i64 x, .int .i64 y] 59)
  have hk0 : (w.alloc (.cells #[.int .i64 x, .int .i64 y] 59)).heap[w.heap.size]? = some (.cells #[.int .i64 x, .int .i64 y] 59 (0, 0)) := heap_alloc_new _ _
  have HB0 := Lib.hid hb0
  have HK0 := Lib.hid hk0
  have HFL := Lib.hid hfL
  clear hl hc hn hfit hrow hb0 hk0 hbo hfL
  go_enter Try.func6, Try.ntmps6
  go_wp2_with fail
  refine (HLS.out _ (HROW.out.below HB0.out)).mono ?_
  rintro e w1 ⟨a1, c1, a2, c2, rfl, ho1, _, hb1⟩
  have HB1 := Lib.hid (chain HB0.out hb1)
  have HR1 := Lib.hid (own_erow ho1).2.2
  have hcp := cap_own ho1
  have hk1 := (hb1.block w.heap.size (lt_of_block HK0.out)).trans HK0.out
  have b0 := cell_of_row w1 w.heap.size 0 _ _ _ hk1
  have b1 := cell_of_row w1 w.heap.size 1 _ _ _ hk1
  simp at b0 b1
  clear ho1 hb1 hk1 HB0 HK0 HLS HROW
  go_wp2_with fail
  refine (HBU.out _ _ hcp.1 hcp.2 _ HR1.out).mono ?_
  rintro e w2 ⟨rfl, hb2⟩
  have HB2 := Lib.hid (chain HB1.out hb2)
  have HR2 := Lib.hid (HR1.out.below hb2)
  clear hb2 HB1 HR1 HBU b0 b1
  go_wp2_with fail
  refine (HW.out _).mono ?_
  rintro e w3 ⟨rfl, hb3⟩
  have HB3 := Lib.hid (chain HB2.out hb3)
  have HR3 := Lib.hid (HR2.out.below hb3)
  clear hb3 HB2 HR2
  by_cases h0 : te = 0
  case neg =>
    have d1 : (te != 0) = true := nt h0
    go_wp2_with fail
    refine (HW.out _).mono ?_
    rintro e w4 ⟨rfl, hb4⟩
    have HB4 := Lib.hid (chain HB3.out hb4)
    clear hb4
    go_wp2_with fail
    go_ret
    exact ⟨rfl, HB4.out⟩
  subst h0
  obtain ⟨cs, f, hB⟩ := HBO.out T rfl
  have hop := hB.opens
  rw [← str_size T] at hop
  have hTz : (str T).size ≤ 140737488351232 := by
    have h1 := whole_len (frAll cs) (bts cs.length ++ ixAll cs 0) f
    have h2 := hB.frl
    have h3 := frm_len (bts cs.length ++ ixAll cs 0)
    have h4 := frm_len f
    have h5 := hB.ixs
    have h6 := hB.short
    rw [str_size, hB.is]; omega
  have hgd := open_good (s := str T) (z := ((str T).size : Nat)) (by rw [hop])
  rw [hop] at hgd
  simp only at hgd
  have hall := hB.all key
  have hfs : (str f).size ≤ 4611686018427387904 := by have := hB.short; rw [str_size]; omega
  have hmay : ∀ e ∈ L, Mp.hasK (str f).data.toList e.key.data.toList = true := fun e he => by rw [toList_str]; exact hB.may e he
  generalize spOf cs 0 = sp at hop hgd hall
  generalize str f = fs at hop hfs hmay
  generalize str T = s at hop hTz hall ⊢
  have HOP := Lib.hid (fun g W hc => open_any g s (by omega) (s.size : Nat) (by omega) W hc)
  rw [hop] at HOP
  have HALL := Lib.hid (fun tb g W h => all_any tb g s fs (by omega) sp hgd.1 hgd.2 key W h)
  rw [hall] at HALL
  have HMAY : Hid (∀ e ∈ L, ∀ tb g W, TBox W tb g s sp fs → Calls Try.prog 16 #[.pointer (some ⟨tb, 0, none⟩), .string e.key] W fun e w' => e = .returned (.bool true) ∧ Below W.heap.size W w') := fun e he tb g W h => by
    have h1 := may_any tb g s fs hfs sp e.key (by have := (HFL.out e he).key; omega) W h
    rw [hmay e he] at h1
    exact h1
  clear hB hop hgd hall hfs hmay hTz HBO
  go_wp2_with fail
  refine (source_any s _).mono ?_
  rintro e w4 ⟨rfl, rfl⟩
  have HC4 : Hid (Cell1 (w3.alloc (.cells #[.string s] 9)) w3.heap.size 9 (.string s)) := heap_alloc_new _ _
  have hba := below_alloc (Below.refl w3.heap.size w3) (.cells #[.string s] 9)
  have HB4 := Lib.hid (chain HB3.out hba)
  have HR4 := Lib.hid (HR3.out.below hba)
  generalize hW : World.alloc _ _ = W4 at HC4 HB4 HR4 ⊢
  clear hW hba HB3 HR3
  generalize w3.heap.size = g at HC4 ⊢
  go_wp2_with fail
  refine (HOP.out g _ HC4.out).mono ?_
  rintro e w5 ⟨hb5, hor⟩
  have hor2 : ∃ tb, e = .returned (.tuple #[.pointer (some ⟨tb, 0, none⟩), .int .i64 0]) ∧ TBox w5 tb g s sp fs := by
    rcases hor with ⟨_, h⟩ | ⟨h, _⟩
    · exact h
    · exact absurd rfl h
  obtain ⟨tb, rfl, hT5⟩ := hor2
  have HT5 := Lib.hid hT5
  have HB5 := Lib.hid (chain HB4.out hb5)
  have HR5 := Lib.hid (HR4.out.below hb5)
  clear hor hT5 hb5 HB4 HC4 HR4 HOP
  go_wp2_with fail
  refine (HALL.out tb g _ HT5.out).mono ?_
  rintro e w6 ⟨am, cm, rfl, hO6, hb6⟩
  have HT6 := Lib.hid (HT5.out.below hb6)
  have HB6 := Lib.hid (chain HB5.out hb6)
  have HR6 := Lib.hid (HR5.out.below hb6)
  have hcm := cap_own hO6
  have HM6 := Lib.hid (own_erow hO6).2.2
  simp only at hcm HM6 ⊢
  clear hO6 hb6 HT5 HB5 HR5 HALL
  go_wp2_with fail
  go_loopw [13, 60] (fun sm si wr => ∃ (j : Nat) (N : List Ent) (a : Option Addr) (c : Nat), si = .int .i64 j ∧ sm = .slice a N.length c ∧ j ≤ L.length ∧ N.length ≤ c ∧ c ≤ 9223372036854775807 ∧ Hid (N = (L.drop j).filter (fromK key)) ∧ Hid (ERow w6 a N.length (fun i => N.getD i ent0)) ∧ Below w6.heap.size w6 wr) (fun sm si _ => L.length - (intOf si).toNat)
  case atStart => exact ⟨0, L.filter (fromK key), am, cm, rfl, rfl, by omega, hcm.1, hcm.2, by show _ = _; rw [List.drop_zero], HM6.out, Below.refl _ _⟩
  case round =>
    obtain ⟨j, N, a, c, rfl, rfl, hj, hnc, hc9, hN, hrow, hbel⟩ := hrel
    by_cases hlt : j < L.length
    · obtain ⟨b1, o1, rfl, hl1, hc1⟩ := (HR6.out.below hbel).at (by omega)
      have hd := hc1 j hlt
      have hN2 : N = if fromK key (L.getD j ent0) = true then L.getD j ent0 :: (L.drop (j + 1)).filter (fromK key) else (L.drop (j + 1)).filter (fromK key) := by
        rw [hN.out, List.drop_eq_getElem_cons hlt, List.filter_cons]
        simp only [List.getD_eq_getElem?_getD, List.getElem?_eq_getElem hlt, Option.getD_some]
      have HMY := Lib.hid (HMAY.out _ (mem_getD hlt))
      obtain ⟨N', hN'⟩ : ∃ N', N' = (L.drop (j + 1)).filter (fromK key) := ⟨_, rfl⟩
      rw [← hN'] at hN2
      have HN' := Lib.hid hN'
      generalize L.getD j ent0 = x at hd hN2 HMY
      obtain ⟨xk, xq, xg, xv, xu⟩ := x
      simp only at hd HMY
      obtain ⟨x0, x1, x2, x3, x4⟩ := hd
      have i1 : (0 : Int) ≤ (j : Int) := by omega
      have i2 : (j : Int) < (L.length : Int) := by omega
      have hlss := lssS xk key
      have hbx := below_alloc (Below.refl wr.heap.size wr) (.cells #[.string xk, .int .i64 xq, .bool xg, .string xv, .int .i64 xu] 57)
      have hE0 : EBox (wr.alloc (.cells #[.string xk, .int .i64 xq, .bool xg, .string xv, .int .i64 xu] 57)) wr.heap.size 57 ⟨xk, xq, xg, xv, xu⟩ := heap_alloc_new _ _
      have HE0 := Lib.hid hE0
      have HBX := Lib.hid hbx
      have HBL := Lib.hid hbel
      clear hc1 hN hN' hbx hE0 hbel
      go_wp2_with fail
      generalize hW : World.alloc _ _ = W1 at HE0 HBX ⊢
      have HT1 := Lib.hid ((HT6.out.below HBL.out).below HBX.out)
      refine (HMY.out tb g _ HT1.out).mono ?_
      rintro e w7 ⟨rfl, hb7⟩
      have hE7 := HE0.out.below hb7
      have HB7 := Lib.hid (chain HBL.out (chain HBX.out hb7))
      have hE7z := lt_of_block hE7
      obtain ⟨q0, q1, q2, q3, q4⟩ := hE7.cells
      simp only at q0 q1 q2 q3 q4
      clear hb7 hE7 HT1 HE0 HBX hW x0 x1 x2 x3 x4
      by_cases hfb : cmpK xk key < 0
      · have hl2 : Op.bytesLess xk.toList key.toList = true := by rw [hlss]; exact dt hfb
        have hN3 : N = N' := by rw [hN2, if_neg (by simp [fromK, hfb])]
        subst hN3
        clear hN2 hlss hfb
        go_wp2_with fail
        go_roundw
        case rel => exact ⟨j + 1, N, a, c, by go_num, rfl, by omega, hnc, hc9, HN'.out, hrow.out, HB7.out⟩
        case measure => simp [intOf]; omega
      · have hl2 : Op.bytesLess xk.toList key.toList = false := by rw [hlss]; exact df hfb
        have hN3 : N = ⟨xk, xq, xg, xv, xu⟩ :: N' := by rw [hN2, if_pos (by simp [fromK, hfb])]
        subst hN3
        obtain ⟨n', hn'⟩ : ∃ n', N'.length = n' := ⟨_, rfl⟩
        have hrw := hrow.out.below HB7.out
        rw [List.length_cons, hn'] at hrw hnc
        obtain ⟨b2, o2, rfl, hl2, hc2⟩ := hrw.at (by omega)
        have hd2 := hc2 0 (by omega)
        simp only [Nat.zero_mul, Nat.add_zero, List.getD_cons_zero] at hd2
        obtain ⟨p0, p1, p2, p3, p4⟩ := hd2
        have hne1 : ∀ W : World, (binOp .neq 57 (.agg #[.string xk, .int .i64 xq, .bool xg, .string xv, .int .i64 xu]) (.agg #[.string xk, .int .i64 xq, .bool xg, .string xv, .int .i64 xu])).run Try.prog W = .ok (.bool false) W := fun W => by rw [neq_api, eqE_refl]; rfl
        have z0 : (((n' + 1 : Nat) : Int) == 0) = false := ef (by omega)
        have HRW := Lib.hid hrow.out
        have HNN := Lib.hid hn'
        rw [List.length_cons, hn']
        clear hN2 hlss hfb hrw hc2 hn' hrow
        go_wp2_with fail
        go_quiet (fail)
        go_wp2_with fail
        have hA6 : ERow w6 (if c = 1 then some ⟨b2, o2, none⟩ else some ⟨b2, o2 + 5, none⟩) n' (fun i => N'.getD i ent0) := by
          by_cases h : c = 1
          · exact .inl (by omega)
          · rw [if_neg h]
            have h9 := HRW.out
            rw [List.length_cons, HNN.out] at h9
            have h8 := (erow_drop (c := 1) h9).congr (g := fun i => N'.getD i ent0) fun i hi => by simp [Nat.add_comm 1 i]
            rw [Nat.one_mul, Nat.add_sub_cancel] at h8
            exact h8
        have HA6 := Lib.hid hA6
        clear hA6
        generalize (if c = 1 then some (⟨b2, o2, none⟩ : Addr) else some ⟨b2, o2 + 5, none⟩) = a6 at HA6 ⊢
        rw [← HNN.out] at HA6 ⊢
        go_roundw
        case rel => exact ⟨j + 1, N', a6, c - 1, by go_num, rfl, by omega, by have := HNN.out; omega, by omega, HN'.out, HA6.out, drewN HB7.out⟩
        case measure => simp [intOf]; omega
    · obtain rfl : j = L.length := by omega
      have hN0 : N = [] := by rw [hN.out, List.drop_length]; rfl
      subst hN0
      have HB7 := Lib.hid (chain HB6.out hbel)
      clear hbel
      go_wp2_with fail
      go_ret
      exact ⟨rfl, HB7.out⟩

theorem entT : Op.EntT Try.prog 69 ((match Try.prog.underlying 69 with | some (.struct fs) => fs | _ => #[])) := by
  rw [Try.underlying69]
  exact ⟨Try.underlying69, by kernel_rfl, by kernel_rfl, ⟨_, rfl, Try.underlying9⟩, ⟨_, rfl, Try.underlying2⟩, ⟨_, rfl, Try.underlying4⟩, ⟨_, rfl, Try.underlying9⟩, ⟨_, rfl, Try.underlying2⟩, rfl⟩
theorem bd64 {n : Int} (h : (Lit.int .i64 n).wf = true) : -9223372036854775808 ≤ n ∧ n ≤ 9223372036854775807 := by
  simpa [Lit.wf, IntKind.min, IntKind.max, IntKind.signed, IntKind.bits] using h


theorem own : ownKnob Try.prog.godebug = none := by kernel_rfl
theorem laidOut : laidOutB Try.prog = true := by kernel_rfl

set_option maxRecDepth 100000 in
theorem lifted (os : Os) (started : os.Started) (H : Type) (enc : TypeId × Value → H) :
    ReturnsInHanded {} Try.checked os 6 .any (Rows.tableBackSpec.pre6 enc Try.prog Try.f6 Rows.tableBackRow.domain false) (Rows.tableBackSpec.post enc Try.prog Try.f6 false true false false) := by
  refine returnsInHanded_of_change_sized (C := Try.checked) own started (by kernel_rfl) Try.func6
    (ChangeSpec.witness6 (enc := enc) (C := Try.checked) false ⟨#[], #[.slice none 0 0, .agg #[.int .i64 0, .int .i64 0], .string ByteArray.empty], []⟩ 8 (by kernel_rfl) (by kernel_rfl) (by kernel_rfl) (by kernel_rfl)) ?_
  intro W base args ds gs before hval0 hW hcnd hsz0 _
  have hval : ∀ (j : Nat) t v, Try.f6.params[j]? = some t → args[j]? = some v → Value.okWide Try.prog W .any base t v := hval0
  have hsz : (DataW.weightsEach Try.prog (Try.f6.params.toList ++ Rows.tableBackSpec.plain.varTypes Try.prog) (ds ++ gs)).all (· ≤ reachBytes) = true := hsz0
  have hW' := hW
  obtain ⟨p, q, hA0, hV, rfl, hfz, hnd⟩ := hW
  have hA : DataW.TrodAll enc Try.prog W 0 (fun _ => true) true Try.f6.params.toList args.toList ds p := hA0
  rw [Try.params6] at hA hval hsz
  obtain ⟨v0, vs0, d0, ds0, p0, q0, hargs, rfl, rfl, h0, r0⟩ := trodAll_cons hA
  obtain ⟨v1, vs1, d1, ds1, p1, q1, rfl, rfl, rfl, h1, r1⟩ := trodAll_cons r0
  obtain ⟨v2, vs2, d2, ds2, p2, q2, rfl, rfl, rfl, h2, r2⟩ := trodAll_cons r1
  obtain ⟨rfl, rfl, rfl⟩ := trodAll_nil r2
  obtain rfl : args = #[v0, v1, v2] := by cases args; simp_all
  obtain ⟨rfl, rfl⟩ := trodVars_none hV
  have k0 := h0
  have lt0 : ∀ x ∈ p0, x.block < W.heap.size := by obtain ⟨m, hm⟩ := k0; exact DataW.trod_lt m _ _ _ hm
  have k1 := h1
  have lt1 : ∀ x ∈ p1, x.block < W.heap.size := by obtain ⟨m, hm⟩ := k1; exact DataW.trod_lt m _ _ _ hm
  have k2 := h2
  have lt2 : ∀ x ∈ p2, x.block < W.heap.size := by obtain ⟨m, hm⟩ := k2; exact DataW.trod_lt m _ _ _ hm
  obtain ⟨a0, n0, cap0, z0, rfl, w0, row0, lc0, cm0, wf0, wt0, bk0⟩ := Op.ents1 entT Try.underlying22 (hval 0 22 v0 rfl rfl) h0
  have wb0 := wt0 reachBytes (fun m hm => of_decide_eq_true (List.all_eq_true.1 hsz _ (DataW.weights_mem_each (j := 0) rfl rfl m hm)))
  have f0 : z0.length = n0 ∧ n0 ≤ cap0 ∧ n0 * 56 ≤ 140737488351232 ∧ (∀ e ∈ z0, En.Fits e) ∧ En.ERow W a0 n0 (fun i => z0.getD i En.ent0) := ⟨w0, lc0, by have h9 := wb0.2; rw [show Try.prog.bytesOf 69 = 56 from by kernel_rfl] at h9; exact h9, fun x hx => by have h9 := wf0 x hx; have h8 := wb0.1 x hx; exact ⟨h8.1, h8.2, (bd64 h9.2.2.1).1, (bd64 h9.2.2.1).2, (bd64 h9.2.2.2).1, (bd64 h9.2.2.2).2⟩, row0⟩
  have o1 := open_1 (hval 1 59 v1 rfl rfl) h1 (fun n hn => of_decide_eq_true (List.all_eq_true.1 hsz _ (DataW.weights_mem_each (j := 1) rfl rfl n hn)))
  obtain ⟨a2, rfl, rfl, rfl, w2⟩ := open_string Try.underlying9 (hval 2 9 v2 rfl rfl) h2
  have b2 : a2.size ≤ 140737488351232 := by have := sized_string hsz (j := 2) rfl rfl; simpa [reachBytes] using this
  clear hA0 hval0
  refine (walk a0 n0 cap0 z0 v1 a2 W f0 o1 b2).mono fun e W' ⟨he, bel⟩ => ?_
  subst he
  exact ⟨_, rfl, _, _, _, [], _, [], hW', trodAll_mk1 (shut_bool Try.underlying4 _), (trodAll_cons_mk (Below.trod laidOut (by kernel_rfl) (of_decide_eq_true (by kernel_rfl)) k0 bel lt0) (trodAll_cons_mk (Below.trod laidOut (by kernel_rfl) (of_decide_eq_true (by kernel_rfl)) k1 bel lt1) (trodAll_cons_mk (Below.trod laidOut (by kernel_rfl) (of_decide_eq_true (by kernel_rfl)) k2 bel lt2) trodAll_mk0))), rfl, bel.frame _, fun h => by cases h⟩

theorem over : Rows.tableBackRow.holds Try.pinned (OpenSpec.ofChange Rows.tableBackSpec) :=
  OpenClaim.holds_of_wide 6 Try.f6 rfl rfl rfl rfl rfl rfl rfl ⟨rfl, rfl, rfl, rfl, rfl⟩ rfl rfl rfl rfl rfl (by kernel_rfl) Try.func6 (by kernel_rfl)
    (of_decide_eq_true (by kernel_rfl)) (by unfold Func.isWrapper; first | (rw [if_pos (by decide +kernel)]; kernel_rfl) | (rw [if_neg (by decide +kernel)]; exact ⟨rfl, rfl⟩))
    (fun os started H enc _ => lifted os started H enc)

/-- THE STATEMENT -/
theorem proved : Rows.TableBackSaid := over
end Go.Proofs.Ytajfalffpcamhaa.tableBack
