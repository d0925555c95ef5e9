/- VarintBack: every number, and every text up to 65535 bytes, is read back from its bytes, whatever stands around. No condition on the input. -/
import Derived.Test.YthhkdnmfpoeklaaVarint
import Derived.Deep.RegionHeld3
import Derived.BigQuiet
import Derived.Lib.SmallJoins
import Derived.ProofKit
import Derived.OpenShut
import Derived.ShutString
import Derived.ChangeOld
import Derived.Below
import Derived.SizedLaws
namespace Go.Proofs.Ythhkdnmfpoeklaa.varintBack
open Go.ChangeShapes Go.WideShapes Go.ChangeAt Go.RowKit
open Go.ChangeMaps (open_string shut_string)
set_option linter.unusedVariables false
open Vp B Vw

/-- the argument 'around': two strings -/
def Two (v : Value) : Prop := ∃ x y : ByteArray, v = .agg #[.string x, .string y] ∧ x.size ≤ 140737488351232 ∧ y.size ≤ 140737488351232

theorem open_1 {H : Type} {enc : TypeId × Value → H} {w : World} {base b0 : Nat} {sp : Nat → Bool} {held : Bool} {v : Value} {d : DataW H} {p : List MemPlace}
    (hv : Value.okWide Try.prog w .any b0 35 v) (h : DataW.Trod enc Try.prog w base sp held 35 v d p) (hs : ∀ n ∈ d.weights Try.prog 35, n ≤ 140737488351232) : Two v := by
  have hc : Try.prog.cellsOf 35 = 2 := by kernel_rfl
  have hc1 : Try.prog.cellsOf 9 = 1 := by kernel_rfl
  have hu := Try.underlying35
  simp only [Value.okWide, hu] at hv
  obtain ⟨cs, rfl, hsz, _⟩ := hv
  rw [hc] at hsz
  obtain ⟨c0, c1, rfl⟩ : ∃ a b, cs = #[a, b] := by
    obtain ⟨l⟩ := cs
    match l, hsz with
    | [a, b], _ => exact ⟨a, b, rfl⟩
  obtain ⟨fuel, hf⟩ := h
  obtain ⟨xs, m, _, hx, _, hl, hg⟩ := DataW.trod_array hu hf
  have g0 := hg 0 (by omega)
  have g1 := hg 1 (by omega)
  rw [hc1] at g0 g1
  match xs, hl with
  | [x0, x1], _ =>
    obtain ⟨s0, e0, rfl, _⟩ := DataW.trod_string Try.underlying9 g0
    obtain ⟨s1, e1, rfl, _⟩ := DataW.trod_string Try.underlying9 g1
    simp [Value.cells] at e0 e1
    subst e0 e1
    simp only [Prod.mk.injEq] at hx
    obtain ⟨rfl, _⟩ := hx
    refine ⟨s0, s1, rfl, ?_, ?_⟩
    · exact hs s0.data.toList.length (by simp [DataW.weights, hu, DataW.weightsAll])
    · exact hs s1.data.toList.length (by simp [DataW.weights, hu, DataW.weightsAll])

theorem getS_at (x y : List UInt8) (n : Int) (hn : -9223372036854775808 ≤ n ∧ n ≤ 9223372036854775807) :
    getS (str x ++ enc n ++ str y) x.length = ⟨n, ((x.length + (vb (zz n)).length : Nat) : Int), 0⟩ := by
  have hlt := zz_lt hn.1 hn.2
  have hs : str x ++ enc n ++ str y = str (x ++ vb (zz n) ++ y) := by rw [enc, str_append, str_append]
  unfold getS
  rw [hs, if_neg (by rw [str_size]; simp only [List.length_append]; omega)]
  have h : getR (str (x ++ vb (zz n) ++ y)) ((x.length : Int)).toNat = .ok (zz n) (vb (zz n)).length := by
    unfold getR
    refine scan_vb hlt _ _ (by rw [str_size]; simp) (fun j hj => ?_)
    simp only [bn, vf, toList_str, List.getD_eq_getElem?_getD, Int.toNat_natCast, List.append_assoc]
    rw [List.getElem?_append_right (by omega), Nat.add_sub_cancel_left, List.getElem?_append_left hj]
  rw [h]
  simp [unzz_zz]

theorem getT_at (x y t : List UInt8) (ht : t.length ≤ 65535) :
    getT (str x ++ (enc t.length ++ str t) ++ str y) x.length = ⟨str t, ((x.length + (vb (zz t.length)).length + t.length : Nat) : Int), 0⟩ := by
  have h := getS_at x (t ++ y) t.length ⟨by omega, by omega⟩
  have hs : str x ++ (enc t.length ++ str t) ++ str y = str x ++ enc t.length ++ str (t ++ y) := by
    rw [enc]; simp only [str_append, List.append_assoc]
  rw [hs]
  unfold getT
  rw [h]
  have hz : (str x ++ enc t.length ++ str (t ++ y)).size = x.length + (vb (zz t.length)).length + (t.length + y.length) := by
    rw [enc, str_append, str_append, str_size]; simp; omega
  simp only [ne_eq, not_true_eq_false, if_false]
  rw [if_neg (by omega), if_neg (by omega), if_neg (by rw [hz]; omega)]
  simp only [Int.toNat_natCast, GT.mk.injEq]
  refine ⟨?_, by omega, trivial⟩
  rw [extract_str, enc]
  simp only [str_append, toList_str, List.append_assoc]
  congr 1
  rw [List.drop_append, List.drop_of_length_le (by omega), List.nil_append, List.drop_append, List.drop_of_length_le (by omega), List.nil_append]
  rw [show x.length + (vb (zz t.length)).length - x.length - (vb (zz t.length)).length = 0 from by omega, List.drop_zero, show x.length + (vb (zz t.length)).length + t.length - (x.length + (vb (zz t.length)).length) = t.length from by omega]
  exact List.take_left

/-- the two strings' own block stays while the world grows -/
theorem grow2 {w a b : World} {g : Nat} {x y : ByteArray} (h : a.cell? ⟨g, 0, none⟩ = some (.string x) ∧ a.cell? ⟨g, 1, none⟩ = some (.string y) ∧ g < a.heap.size ∧ Below g w a) (k : Below a.heap.size a b) :
    b.cell? ⟨g, 0, none⟩ = some (.string x) ∧ b.cell? ⟨g, 1, none⟩ = some (.string y) ∧ g < b.heap.size ∧ Below g w b :=
  ⟨(k.cell (p := ⟨g, 0, none⟩) h.2.2.1).trans h.1, (k.cell (p := ⟨g, 1, none⟩) h.2.2.1).trans h.2.1, Nat.lt_of_lt_of_le h.2.2.1 k.size, h.2.2.2.trans (k.mono (by have := h.2.2.1; omega))⟩

set_option maxHeartbeats 1000000 in
set_option maxRecDepth 100000 in
theorem walk (n : Int) (v : Value) (t : ByteArray) (hn : -9223372036854775808 ≤ n ∧ n ≤ 9223372036854775807) (hv : Two v) (ht : t.size ≤ 140737488351232) (w : World) :
    Calls Try.prog 7 #[.int .i64 n, v, .string t] w fun e w' => e = .returned (.bool true) ∧ Below w.heap.size w w' := by
  obtain ⟨x, y, rfl, hx, hy⟩ := hv
  have hgn := getS_at x.data.toList y.data.toList n hn
  have hl := vb_len10 (zz_lt hn.1 hn.2)
  have hl1 := vb_pos (zz n)
  have hen : (enc n).size = (vb (zz n)).length := by rw [enc, str_size]
  rw [← hen] at hgn hl hl1
  have hlx : x.data.toList.length = x.size := rfl
  rw [str_toList, str_toList, hlx] at hgn
  clear hen hlx
  have hH : (w.alloc (.cells #[.string x, .string y] 35)).cell? ⟨w.heap.size, 0, none⟩ = some (.string x) ∧ (w.alloc (.cells #[.string x, .string y] 35)).cell? ⟨w.heap.size, 1, none⟩ = some (.string y) ∧ w.heap.size < (w.alloc (.cells #[.string x, .string y] 35)).heap.size ∧ Below w.heap.size w (w.alloc (.cells #[.string x, .string y] 35)) := ⟨by simp [go_sem], by simp [go_sem], by simp, (Below.refl _ _).alloc (Nat.le_refl _) _⟩
  have HH := Lib.hid hH
  have hs1 : ¬ 9223372036854775807 < x.size + (enc n).size := by omega
  have hs2 : ¬ 9223372036854775807 < x.size + (enc n).size + y.size := by omega
  have hsz : (x ++ enc n ++ y).size = x.size + (enc n).size + y.size := by simp only [ByteArray.size_append]
  have hbk : (x ++ enc n ++ y).size ≤ 4611686018427387904 := by rw [hsz]; omega
  have hne : (((x.size + (enc n).size : Nat) : Int) == (x.size : Int)) = false := ef (by omega)
  have hns : ((((x.size + (enc n).size : Nat) : Int)) != ((x ++ enc n ++ y).size : Int) - (y.size : Int)) = false := nf (by rw [hsz]; omega)
  have HG := Lib.hid hgn
  clear hH hgn
  go_enter Try.func7, Try.ntmps7
  go_wp2_with fail
  go_region_held3 (fun w' => w'.cell? ⟨w.heap.size, 0, none⟩ = some (.string x) ∧ w'.cell? ⟨w.heap.size, 1, none⟩ = some (.string y) ∧ w.heap.size < w'.heap.size ∧ Below w.heap.size w w')
    (first | (refine ⟨?_, ?_, ?_, ?_⟩ <;> assumption) | exact ⟨HH.out.1, HH.out.2.1, HH.out.2.2.1, HH.out.2.2.2.drew⟩ | exact grow2 (a := (w.alloc (.cells #[.string x, .string y] 35)).drew) ⟨HH.out.1, HH.out.2.1, HH.out.2.2.1, HH.out.2.2.2.drew⟩ hb2)
    (first | (go_at_call 9; refine (put_any _ hn.1 hn.2 _).mono ?_; rintro e w2 ⟨rfl, hb2⟩))
  go_wp2_with fail
  have hw2 := grow2 (a := (w.alloc (.cells #[.string x, .string y] 35)).drew) ⟨HH.out.1, HH.out.2.1, HH.out.2.2.1, HH.out.2.2.2.drew⟩ hb2
  refine (get_any _ _ hbk _).mono ?_
  rintro e w3 ⟨rfl, rfl⟩
  rw [HG.out]
  simp only [ret3]
  have het : (enc t.size).size ≤ 10 := by rw [enc, str_size]; exact vb_len10 (zz_lt (by omega) (by omega))
  by_cases htl : t.size ≤ 65535
  · have hgt := getT_at x.data.toList y.data.toList t.data.toList htl
    have hen2 : (enc t.size).size = (vb (zz t.size)).length := by rw [enc, str_size]
    rw [str_toList, str_toList, str_toList, show t.data.toList.length = t.size from rfl, show x.data.toList.length = x.size from rfl, ← hen2] at hgt
    have HGT := Lib.hid hgt
    obtain ⟨q, hq⟩ : ∃ q, q = enc t.size ++ t := ⟨_, rfl⟩
    have hqz : q.size = (enc t.size).size + t.size := by rw [hq, ByteArray.size_append]
    have hput := putText_any t (by omega)
    rw [← hq] at hput hgt
    have HP := Lib.hid hput
    have HGT := Lib.hid hgt
    have hs3 : ¬ 9223372036854775807 < x.size + q.size := by omega
    have hs4 : ¬ 9223372036854775807 < x.size + q.size + y.size := by omega
    have hsz2 : (x ++ q ++ y).size = x.size + q.size + y.size := by simp only [ByteArray.size_append]
    have hbk2 : (x ++ q ++ y).size ≤ 4611686018427387904 := by rw [hsz2]; omega
    have hnx : ((x.size + (enc t.size).size + t.size : Nat) : Int) = (x.size : Int) + (q.size : Int) := by omega
    have HNX := Lib.hid hnx
    have hql : q.size ≤ 65545 := by omega
    clear hput hgt hq hqz hen2 het hnx hs1 hs2 hsz hbk hne hns
    go_wp2_with fail
    go_region_held3 (fun w' => w'.cell? ⟨w.heap.size, 0, none⟩ = some (.string x) ∧ w'.cell? ⟨w.heap.size, 1, none⟩ = some (.string y) ∧ w.heap.size < w'.heap.size ∧ Below w.heap.size w w')
      (first | (refine ⟨?_, ?_, ?_, ?_⟩ <;> assumption) | exact ⟨hw2.1, hw2.2.1, hw2.2.2.1, hw2.2.2.2.drew⟩ | exact grow2 (a := w2.drew) ⟨hw2.1, hw2.2.1, hw2.2.2.1, hw2.2.2.2.drew⟩ hb4)
      (first | (go_at_call 14; refine (HP.out _).mono ?_; rintro e w4 ⟨rfl, hb4⟩))
    have hw4 := grow2 (a := w2.drew) ⟨hw2.1, hw2.2.1, hw2.2.2.1, hw2.2.2.2.drew⟩ hb4
    go_wp2_with fail
    refine (getText_any _ _ hbk2 _).mono ?_
    rintro e w5 ⟨rfl, rfl⟩
    rw [HGT.out, HNX.out]
    simp only [retT]
    go_wp2_with fail
    go_ret
    exact ⟨rfl, hw4.2.2.2⟩
  · have htl2 : decide (65535 < (t.size : Int)) = true := dt (by omega)
    go_wp2_with fail
    go_ret
    exact ⟨rfl, hw2.2.2.2⟩

theorem own : ownKnob Try.prog.godebug = none := by kernel_rfl
theorem laidOut : laidOutB Try.prog = true := by kernel_rfl

set_option maxRecDepth 100000 in
theorem lifted (os : Os) (started : os.Started) (H : Type) (enc : TypeId × Value → H) :
    ReturnsInHanded {} Try.checked os 7 .any (Rows.varintBackSpec.pre6 enc Try.prog Try.f7 Rows.varintBackRow.domain false) (Rows.varintBackSpec.post enc Try.prog Try.f7 false true false false) := by
  refine returnsInHanded_of_change_sized (C := Try.checked) own started (by kernel_rfl) Try.func7
    (ChangeSpec.witness6 (enc := enc) (C := Try.checked) false ⟨#[], #[.int .i64 0, .agg #[.string ByteArray.empty, .string ByteArray.empty], .string ByteArray.empty], []⟩ 8 (by kernel_rfl) (by kernel_rfl) (by kernel_rfl) (by kernel_rfl)) ?_
  intro W base args ds gs before hval0 hW hcnd hsz0 _
  have hval : ∀ (j : Nat) t v, Try.f7.params[j]? = some t → args[j]? = some v → Value.okWide Try.prog W .any base t v := hval0
  have hsz : (DataW.weightsEach Try.prog (Try.f7.params.toList ++ Rows.varintBackSpec.plain.varTypes Try.prog) (ds ++ gs)).all (· ≤ reachBytes) = true := hsz0
  have hW' := hW
  obtain ⟨p, q, hA0, hV, rfl, hfz, hnd⟩ := hW
  have hA : DataW.TrodAll enc Try.prog W 0 (fun _ => true) true Try.f7.params.toList args.toList ds p := hA0
  rw [Try.params7] at hA hval hsz
  obtain ⟨v0, vs0, d0, ds0, p0, q0, hargs, rfl, rfl, h0, r0⟩ := trodAll_cons hA
  obtain ⟨v1, vs1, d1, ds1, p1, q1, rfl, rfl, rfl, h1, r1⟩ := trodAll_cons r0
  obtain ⟨v2, vs2, d2, ds2, p2, q2, rfl, rfl, rfl, h2, r2⟩ := trodAll_cons r1
  obtain ⟨rfl, rfl, rfl⟩ := trodAll_nil r2
  obtain rfl : args = #[v0, v1, v2] := by cases args; simp_all
  obtain ⟨rfl, rfl⟩ := trodVars_none hV
  have k0 := h0
  have lt0 : ∀ x ∈ p0, x.block < W.heap.size := by obtain ⟨m, hm⟩ := k0; exact DataW.trod_lt m _ _ _ hm
  have k1 := h1
  have lt1 : ∀ x ∈ p1, x.block < W.heap.size := by obtain ⟨m, hm⟩ := k1; exact DataW.trod_lt m _ _ _ hm
  have k2 := h2
  have lt2 : ∀ x ∈ p2, x.block < W.heap.size := by obtain ⟨m, hm⟩ := k2; exact DataW.trod_lt m _ _ _ hm
  obtain ⟨a0, rfl, rfl, rfl, w0⟩ := open_int Try.underlying2 (hval 0 2 v0 rfl rfl) h0
  have b0 : -9223372036854775808 ≤ a0 ∧ a0 ≤ 9223372036854775807 := by simpa [Lit.wf, IntKind.min, IntKind.max, IntKind.signed, IntKind.bits] using w0
  have o1 := open_1 (hval 1 35 v1 rfl rfl) h1 (fun n hn => of_decide_eq_true (List.all_eq_true.1 hsz _ (DataW.weights_mem_each (j := 1) rfl rfl n hn)))
  obtain ⟨a2, rfl, rfl, rfl, w2⟩ := open_string Try.underlying9 (hval 2 9 v2 rfl rfl) h2
  have b2 : a2.size ≤ 140737488351232 := by have := sized_string hsz (j := 2) rfl rfl; simpa [reachBytes] using this
  clear hA0 hval0
  refine (walk a0 v1 a2 b0 o1 b2 W).mono fun e W' ⟨he, bel⟩ => ?_
  subst he
  exact ⟨_, rfl, _, _, _, [], _, [], hW', trodAll_mk1 (shut_bool Try.underlying4 _), (trodAll_cons_mk (Below.trod laidOut (by kernel_rfl) (of_decide_eq_true (by kernel_rfl)) k0 bel lt0) (trodAll_cons_mk (Below.trod laidOut (by kernel_rfl) (of_decide_eq_true (by kernel_rfl)) k1 bel lt1) (trodAll_cons_mk (Below.trod laidOut (by kernel_rfl) (of_decide_eq_true (by kernel_rfl)) k2 bel lt2) trodAll_mk0))), rfl, bel.frame _, fun h => by cases h⟩

theorem over : Rows.varintBackRow.holds Try.pinned (OpenSpec.ofChange Rows.varintBackSpec) :=
  OpenClaim.holds_of_wide 7 Try.f7 rfl rfl rfl rfl rfl rfl rfl ⟨rfl, rfl, rfl, rfl, rfl⟩ rfl rfl rfl rfl rfl (by kernel_rfl) Try.func7 (by kernel_rfl)
    (of_decide_eq_true (by kernel_rfl)) (by unfold Func.isWrapper; first | (rw [if_pos (by decide +kernel)]; kernel_rfl) | (rw [if_neg (by decide +kernel)]; exact ⟨rfl, rfl⟩))
    (fun os started H enc _ => lifted os started H enc)

/-- THE STATEMENT -/
theorem proved : Rows.VarintBackSaid := over
end Go.Proofs.Ythhkdnmfpoeklaa.varintBack
