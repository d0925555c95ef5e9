/- The walk of the program's spans: the loop. -/
import Derived.Test.YtpihmjdljbienaaGreatDoorGd
import Derived.Test.YtpihmjdljbienaaGreatDoorParseE
namespace Go.Proofs.YtpihmjdljbienaaGreatDoor.Tw
open Go.RowKit
open Tb Fp Fw Vp Vw B En
set_option linter.unusedVariables false

theorem infoSpan : (Tryz.prog.info? 152).map (fun i => (i.zero, i.size, i.bytes)) = some (some (.agg #[.string ⟨#[]⟩, .int .i64 0, .int .i64 0]), 3, 32) := by kernel_rfl
theorem num_gt {s : ByteArray} {a : Int} (h : (getS s a).e = 0) : a < (getS s a).next ∧ (getS s a).next ≤ s.size := by
  obtain ⟨x, y, n, rfl, rfl, hn, hg⟩ := num_was h
  have := bts_pos n
  rw [hg, str_size]
  simp only [List.length_append]
  omega
theorem txt_gt {s : ByteArray} {a : Int} (h : (getT s a).e = 0) : a < (getT s a).next ∧ (getT s a).next ≤ s.size := by
  obtain ⟨x, y, t, rfl, rfl, hn, hg⟩ := txt_was h
  have := bts_pos t.length
  have h2 := txt_len t
  rw [hg, str_size]
  simp only [List.length_append]
  omega

/-- the blocks, or the panic -/
def GotSp (w : World) (r : List Sp × Int) (e : Ending) (w' : World) : Prop :=
  Below w.heap.size w w' ∧ ((r.2 = 0 ∧ ∃ a c, e = .returned (.slice a r.1.length c) ∧ w'.ownsRow w.heap.size 152 3 (.slice a r.1.length c) r.1.length (scells r.1)) ∨ (r.2 ≠ 0 ∧ e = pan 140 r.2))
theorem gotsp_bad {w w' : World} {x : Int} (hb : Below w.heap.size w w') (h : x ≠ 0) : GotSp w ([], x) (pan 140 x) w' := ⟨hb, .inr ⟨h, rfl⟩⟩

/-- the state between rounds -/
structure SI (w : World) (s : ByteArray) (fin : Nat) (R : LS) (k : Nat) (ib ab : Nat) (v : Value) (b : Nat) (wr : World) : Prop where
  ex : ∃ (a : Int) (acc : List Sp), roundsB s fin k a acc b = R ∧ Cell1 wr ab 3 (.int .i64 a) ∧ (∃ p c, v = .slice p acc.length c) ∧ wr.ownsRow w.heap.size 152 3 v acc.length (scells acc) ∧ (acc.length : Int) ≤ a ∧ a ≤ 65535
  cell : Cell1 wr ib 9 (.string s)
  bel : Below w.heap.size w wr

set_option maxHeartbeats 1600000 in
set_option maxRecDepth 100000 in
theorem spans_any (s : ByteArray) (hs : s.size ≤ 65535) (fin : Nat) (hf : fin ≤ 140737488355328) (w : World) :
    Calls Tryz.prog 80 #[.string s, .int .i64 fin] w (GotSp w (spansB s fin)) := by
  have hmf : ∀ (fn : Fn) (first cap : Array Value) (w : World), (Instr.makeFunc fn first cap).run Tryz.prog w = .ok (.func fn first cap) w := fun _ _ _ _ => rfl
  have hs2 : s.size ≤ 4611686018427387904 := by omega
  obtain ⟨r, hr⟩ : ∃ r, r = spansB s fin := ⟨_, rfl⟩
  rw [← hr]
  unfold spansB at hr
  by_cases h0 : (getS s 0).e = 0
  case neg =>
    rw [if_pos h0] at hr
    subst hr
    go_enter Tryz.func80, Tryz.ntmps80
    go_wp2_with fail
    generalize hW : World.alloc _ _ = W0
    have hI : Cell1 W0 w.heap.size 9 (.string s) := by rw [← hW]; exact blk_alloc (heap_alloc_new _ _)
    have hA : Cell1 W0 (w.heap.size + 1) 3 (.int .i64 0) := by rw [← hW]; exact blk_new (by simp)
    have hB : Below w.heap.size w W0 := by rw [← hW]; exact below_alloc (below_alloc (Below.refl _ _) _) _
    clear hW
    refine (num1_bad _ _ s hs2 0 rfl h0 _ hI hA).mono ?_
    rintro e w1 ⟨rfl, rfl⟩
    go_wp2_with fail
    exact ⟨rfl, gotsp_bad hB h0⟩
  rw [if_neg (by simp [h0])] at hr
  by_cases h1 : (getS s 0).n < 0
  · rw [if_pos h1] at hr
    subst hr
    have d1 : decide (0 ≤ (getS s 0).n) = false := df (by omega)
    go_enter Tryz.func80, Tryz.ntmps80
    go_wp2_with fail
    generalize hW : World.alloc _ _ = W0
    have hI : Cell1 W0 w.heap.size 9 (.string s) := by rw [← hW]; exact blk_alloc (heap_alloc_new _ _)
    have hA : Cell1 W0 (w.heap.size + 1) 3 (.int .i64 0) := by rw [← hW]; exact blk_new (by simp)
    have hB : Below w.heap.size w W0 := by rw [← hW]; exact below_alloc (below_alloc (Below.refl _ _) _) _
    have hsz : w.heap.size ≤ W0.heap.size := by rw [← hW]; simp; omega
    clear hW
    refine (num1_ok _ _ s hs2 0 rfl h0 _ hI hA).mono ?_
    rintro e w1 ⟨rfl, hA1, ho⟩
    have hB1 := ho.below hB (by omega) hsz
    go_wp2_with fail
    refine (mustBe_bad _).mono ?_
    rintro e w2 ⟨rfl, rfl⟩
    go_wp2_with fail
    exact ⟨rfl, gotsp_bad hB1 (by decide)⟩
  rw [if_neg h1] at hr
  obtain ⟨m, hm⟩ := Int.eq_ofNat_of_zero_le (show 0 ≤ (getS s 0).n by omega)
  have hmb : m ≤ 9223372036854775807 := by
    obtain ⟨b, k, _, hrd, _, hg⟩ := getS_ok h0
    have h4 := unzz_bd (val_bound hrd)
    rw [hg] at hm; simp only at hm; omega
  have hx0 := num_gt h0
  have HG0 := Lib.hid (fun W ib ab hI hA => num1_ok ib ab s hs2 0 rfl h0 W hI hA)
  generalize getS s 0 = g at hr hm hx0 HG0
  obtain ⟨gn, gx, ge⟩ := g
  simp only at hr hm hx0
  subst hm
  simp only [Int.toNat_natCast] at hr
  obtain ⟨R, hRR⟩ : ∃ R, roundsB s fin m gx [] 0 = R := ⟨_, rfl⟩
  rw [hRR] at hr
  have HR := Lib.hid hr
  have HRR := Lib.hid hRR
  clear hr hRR h0 h1
  go_enter Tryz.func80, Tryz.ntmps80
  go_wp2_with fail
  generalize hW : World.alloc _ _ = W0
  have hI : Cell1 W0 w.heap.size 9 (.string s) := by rw [← hW]; exact blk_alloc (heap_alloc_new _ _)
  have hA : Cell1 W0 (w.heap.size + 1) 3 (.int .i64 0) := by rw [← hW]; exact blk_new (by simp)
  have hB : Below w.heap.size w W0 := by rw [← hW]; exact below_alloc (below_alloc (Below.refl _ _) _) _
  have hsz : w.heap.size + 1 < W0.heap.size := by rw [← hW]; simp
  clear hW
  refine (HG0.out _ _ _ hI hA).mono ?_
  rintro e w1 ⟨rfl, hA1, ho⟩
  have hB1 := ho.below hB (by omega) (by omega)
  have hI1 := hI.only ho (by omega)
  clear hI hA hB HG0 ho
  have d1 : decide ((0 : Int) ≤ (m : Int)) = true := dt (by omega)
  have H1 : Hid (SI w s fin R (m - 0) w.heap.size (w.heap.size + 1) (.slice none 0 0) 0 w1) := ⟨⟨gx, [], HRR.out, hA1, ⟨none, 0, rfl⟩, World.ownsRow_nil _ _ _ _, by simp; omega, by omega⟩, hI1, hB1⟩
  clear hA1 hB1 hI1 HRR hx0
  go_wp2_with fail
  refine (mustBe_ok _).mono ?_
  rintro e w2 ⟨rfl, rfl⟩
  go_wp2_with fail
  go_loopw [22, 8, 9] (fun si so sb wr => ∃ i b : Nat, si = .int .i64 i ∧ sb = .int .i64 b ∧ i ≤ m ∧ b ≤ fin ∧ Hid (SI w s fin R (m - i) w.heap.size (w.heap.size + 1) so b wr)) (fun si so sb _ => m - (intOf si).toNat)
  case atStart => exact ⟨0, 0, rfl, rfl, by omega, by omega, H1.out⟩
  case round =>
    obtain ⟨i, b, rfl, rfl, hi, hbf, hS⟩ := hrel
    obtain ⟨⟨a, acc, hR, hA, ⟨p, c, rfl⟩, hO, hla, ha5⟩, hI, hB⟩ := hS.out
    clear hS H1
    by_cases hlt : i < m
    · obtain ⟨k, hk⟩ : ∃ k, m - i = k + 1 := ⟨m - i - 1, by omega⟩
      rw [hk] at hR
      have HT := Lib.hid (fun W => getText_any s a hs2 W)
      have c0 := hI.cell
      have c1 := hA.cell
      by_cases e1 : (getT s a).e = 0
      case neg =>
        obtain rfl : r = ([], (getT s a).e) := by rw [HR.out, rounds_bad hR (round_t e1) e1]
        generalize getT s a = t at HT e1
        obtain ⟨tt, tx, te⟩ := t
        simp only at e1
        have HB := Lib.hid hB
        clear hR hA hO hI hB hk HR
        go_wp2_with fail
        refine (HT.out _).mono ?_
        rintro e w3 ⟨rfl, rfl⟩
        simp only [retT]
        go_wp2_with fail
        refine (must_bad _ e1 _).mono ?_
        rintro e w4 ⟨rfl, rfl⟩
        go_wp2_with fail
        exact ⟨rfl, gotsp_bad HB.out e1⟩
      have ht1 := txt_gt e1
      by_cases e2 : (getS s (getT s a).next).e = 0
      case neg =>
        obtain rfl : r = ([], (getS s (getT s a).next).e) := by rw [HR.out, rounds_bad hR (round_f e1 e2) e2]
        have HF := Lib.hid (fun W hI hA => num1_bad w.heap.size (w.heap.size + 1) s hs2 (getT s a).next rfl e2 W hI hA)
        generalize (getS s (getT s a).next).e = fe at e2 HF
        generalize getT s a = t at HT e1 HF
        obtain ⟨tt, tx, te⟩ := t
        simp only at e1 HF
        subst e1
        have hA1 := hA.set (.int .i64 tx)
        have hI1 := hI.far (p := ⟨w.heap.size + 1, 0, none⟩) (by simp) (.int .i64 tx)
        have hB1 := hB.setCell (p := ⟨w.heap.size + 1, 0, none⟩) (by simp) (.int .i64 tx)
        have f1 := hA.fz
        have HB := Lib.hid hB1
        have HI := Lib.hid hI1
        have HA := Lib.hid hA1
        clear hR hA hO hI hB hk HR hB1 hI1 hA1
        go_wp2_with fail
        refine (HT.out _).mono ?_
        rintro e w3 ⟨rfl, rfl⟩
        simp only [retT]
        go_wp2_with fail
        refine (must_ok _).mono ?_
        rintro e w4 ⟨rfl, rfl⟩
        go_wp2_with fail
        refine (HF.out _ HI.out HA.out).mono ?_
        rintro e w5 ⟨rfl, rfl⟩
        go_wp2_with fail
        exact ⟨rfl, gotsp_bad HB.out e2⟩
      have hf1 := num_gt e2
      by_cases e3 : (getS s (getS s (getT s a).next).next).e = 0
      case neg =>
        obtain rfl : r = ([], (getS s (getS s (getT s a).next).next).e) := by rw [HR.out, rounds_bad hR (round_n e1 e2 e3) e3]
        have HF := Lib.hid (fun W hI hA => num1_ok w.heap.size (w.heap.size + 1) s hs2 (getT s a).next rfl e2 W hI hA)
        have HG := Lib.hid (fun W hI hA => num1_bad w.heap.size (w.heap.size + 1) s hs2 (getS s (getT s a).next).next rfl e3 W hI hA)
        generalize (getS s (getS s (getT s a).next).next).e = ge at e3 HG
        generalize getS s (getT s a).next = f at HF HG
        generalize getT s a = t at HT e1 HF
        obtain ⟨tt, tx, te⟩ := t
        simp only at e1 HF
        subst e1
        have hA1 := hA.set (.int .i64 tx)
        have hI1 := hI.far (p := ⟨w.heap.size + 1, 0, none⟩) (by simp) (.int .i64 tx)
        have hB1 := hB.setCell (p := ⟨w.heap.size + 1, 0, none⟩) (by simp) (.int .i64 tx)
        have f1 := hA.fz
        have HB := Lib.hid hB1
        have HI := Lib.hid hI1
        have HA := Lib.hid hA1
        clear hR hA hO hI hB hk HR hB1 hI1 hA1
        go_wp2_with fail
        refine (HT.out _).mono ?_
        rintro e w3 ⟨rfl, rfl⟩
        simp only [retT]
        go_wp2_with fail
        refine (must_ok _).mono ?_
        rintro e w4 ⟨rfl, rfl⟩
        go_wp2_with fail
        have hsz3 : w.heap.size ≤ wr.heap.size := by have := HB.out.size; simpa using this
        refine (HF.out _ HI.out HA.out).mono ?_
        rintro e w5 ⟨rfl, hA5, ho5⟩
        have hI5 := HI.out.only ho5 (by omega)
        have hB5 := ho5.below HB.out (by omega) (by simpa using hsz3)
        go_wp2_with fail
        refine (HG.out _ hI5 hA5).mono ?_
        rintro e w6 ⟨rfl, rfl⟩
        go_wp2_with fail
        exact ⟨rfl, gotsp_bad hB5 e3⟩
      have hn1 := num_gt e3
      obtain ⟨ok, hok⟩ : ∃ ok, okB fin b acc (getT s a).t (getS s (getT s a).next).n (getS s (getS s (getT s a).next).next).n = ok := ⟨_, rfl⟩
      have HF := Lib.hid (fun W hI hA => num1_ok w.heap.size (w.heap.size + 1) s hs2 (getT s a).next rfl e2 W hI hA)
      have HG := Lib.hid (fun W hI hA => num1_ok w.heap.size (w.heap.size + 1) s hs2 (getS s (getT s a).next).next rfl e3 W hI hA)
      have hno : ok = false → r = ([], 4) := fun h => by rw [HR.out, rounds_bad hR (round_no e1 e2 e3 (by rw [hok]; exact h)) (by decide)]
      have hyes : ok = true → roundsB s fin k (getS s (getS s (getT s a).next).next).next (acc ++ [⟨(getT s a).t, b, (getS s (getS s (getT s a).next).next).n.toNat⟩]) (b + (getS s (getS s (getT s a).next).next).n.toNat) = R :=
        fun h => rounds_ok hR (round_ok e1 e2 e3 (by rw [hok]; exact h)) rfl
      have hnx : a < (getS s (getS s (getT s a).next).next).next ∧ (getS s (getS s (getT s a).next).next).next ≤ 65535 := by omega
      clear hR ht1 hf1 hn1 ha5
      generalize getS s (getS s (getT s a).next).next = g at HG hok hyes hnx
      generalize getS s (getT s a).next = f at HF HG hok
      generalize getT s a = t at HT e1 HF hok hyes
      obtain ⟨tt, tx, te⟩ := t
      obtain ⟨fn, fx, fe⟩ := f
      obtain ⟨gn, gx2, ge2⟩ := g
      simp only at e1 HF HG hok hyes hnx
      subst e1
      have hA1 := hA.set (.int .i64 tx)
      have hI1 := hI.far (p := ⟨w.heap.size + 1, 0, none⟩) (by simp) (.int .i64 tx)
      have hB1 := hB.setCell (p := ⟨w.heap.size + 1, 0, none⟩) (by simp) (.int .i64 tx)
      have hO1 := Ew.own_setOther hO hA (by decide) (.int .i64 tx)
      have f1 := hA.fz
      have hne : (Value.slice p acc.length c).ownBlock ≠ some (w.heap.size + 1) := Ew.own_ne hO hA (by decide)
      have HB := Lib.hid hB1
      have HI := Lib.hid hI1
      have HA := Lib.hid hA1
      have HO := Lib.hid hO1
      have HK := Lib.hid hk
      have HOK := Lib.hid hok
      have HNO := Lib.hid hno
      have HYES := Lib.hid hyes
      have HNX := Lib.hid hnx
      have HNE := Lib.hid hne
      have hnf : (Value.slice p acc.length c).ownBlock ≠ some w.heap.size := Ew.own_ne hO hI (by decide)
      have HNF := Lib.hid hnf
      clear hA hO hI hB hB1 hI1 hA1 hO1 hk hok hno hyes hnx hne hnf e2 e3
      go_wp2_with fail
      refine (HT.out _).mono ?_
      rintro e w3 ⟨rfl, rfl⟩
      simp only [retT]
      go_wp2_with fail
      refine (must_ok _).mono ?_
      rintro e w4 ⟨rfl, rfl⟩
      go_wp2_with fail
      have hsz3 : w.heap.size ≤ wr.heap.size := by have := HB.out.size; simpa using this
      refine (HF.out _ HI.out HA.out).mono ?_
      rintro e w5 ⟨rfl, hA5, ho5⟩
      have hI5 := HI.out.only ho5 (by omega)
      have hB5 := ho5.below HB.out (by omega) (by simpa using hsz3)
      have hO5 := Only.own HO.out ho5 HNE.out
      have hsz5 := hB5.size
      clear HB HI HA HO ho5 HF
      go_wp2_with fail
      refine (HG.out _ hI5 hA5).mono ?_
      rintro e w6 ⟨rfl, hA6, ho6⟩
      have hI6 := hI5.only ho6 (by omega)
      have hB6 := ho6.below hB5 (by omega) (by omega)
      have hO6 := Only.own hO5 ho6 HNE.out
      clear hA5 hI5 hB5 hO5 ho6 HG
      have HA6 := Lib.hid hA6
      have HI6 := Lib.hid hI6
      have HB6 := Lib.hid hB6
      have HO6 := Lib.hid hO6
      clear hA6 hI6 hB6 hO6 c0 c1 f1
      by_cases k1 : fn = b
      case neg =>
        obtain rfl : r = ([], 4) := HNO.out (by rw [← HOK.out]; simp [okB, k1])
        have d1 : (fn == (b : Int)) = false := ef k1
        clear k1
        go_wp2_with fail
        refine (mustBe_bad _).mono ?_
        rintro e w7 ⟨rfl, rfl⟩
        go_wp2_with fail
        exact ⟨rfl, gotsp_bad HB6.out (by decide)⟩
      subst k1
      by_cases k2 : 8 ≤ gn
      case neg =>
        obtain rfl : r = ([], 4) := HNO.out (by rw [← HOK.out]; simp [okB, k2])
        have d2 : decide (8 ≤ gn) = false := df k2
        clear k2
        go_wp2_with fail
        refine (mustBe_bad _).mono ?_
        rintro e w7 ⟨rfl, rfl⟩
        go_wp2_with fail
        exact ⟨rfl, gotsp_bad HB6.out (by decide)⟩
      have d2 : decide (8 ≤ gn) = true := dt k2
      have e9 : IntKind.i64.wrap ((fin : Int) - (b : Int)) = (fin : Int) - (b : Int) := by rw [IntKind.wrap_i64]; omega
      by_cases k3 : gn ≤ (fin : Int) - (b : Int)
      case neg =>
        obtain rfl : r = ([], 4) := HNO.out (by rw [← HOK.out]; simp [okB, k3])
        have d3 : decide (gn ≤ (fin : Int) - (b : Int)) = false := df k3
        clear k3
        go_wp2_with fail
        refine (mustBe_bad _).mono ?_
        rintro e w7 ⟨rfl, rfl⟩
        go_wp2_with fail
        exact ⟨rfl, gotsp_bad HB6.out (by decide)⟩
      have d3 : decide (gn ≤ (fin : Int) - (b : Int)) = true := dt k3
      obtain ⟨n, rfl⟩ := Int.eq_ofNat_of_zero_le (show 0 ≤ gn by omega)
      simp only [Int.toNat_natCast] at HYES
      have hnx2 := HNX.out
      have hacc : acc.length + 1 ≤ 65535 := by omega
      by_cases k4 : acc.length = 0
      · obtain rfl : acc = [] := List.eq_nil_of_length_eq_zero k4
        obtain rfl : ok = true := by rw [← HOK.out]; simp [okB, k2, k3]
        simp only [List.length_nil] at HO6 k4 hacc
        clear k4
        go_wp2_with fail
        refine (mustBe_ok _).mono ?_
        rintro e w7 ⟨rfl, rfl⟩
        go_wp2_with (at_builtin; refine wpList_push2 rfl _ _ 145 rfl Tryz.underlying145 infoSpan rfl (by decide) rfl #[.string tt, .int .i64 b, .int .i64 n] rfl ?c1 rfl rfl HO6.out ?c2 ?c3 ?c4 ?_)
        case c1 => simp [Value.oneCell']
        case c2 => exact HB6.out.size
        case c3 => unfold maxLen; omega
        case c4 => first | omega | simp
        intro a7 cap7 w7 hO7 hg7 hb7
        have hA7 := blk_grown hg7 HA6.out HNE.out
        have hI7 := blk_grown hg7 HI6.out HNF.out
        have hB7 := HB6.out.trans hb7
        have h10 := HYES.out (by first | rfl | trivial)
        clear HO6 HA6 HI6 HB6 HYES
        go_wp2_with fail
        go_roundw
        case rel => exact ⟨i + 1, b + n, by go_num, by go_num, by omega, by omega, ⟨⟨gx2, [⟨tt, b, n⟩], by rw [show m - (i + 1) = k from by have := HK.out; omega]; exact h10, hA7, ⟨a7, cap7, rfl⟩, hO7, by simp; omega, hnx2.2⟩, hI7, hB7⟩⟩
        case measure => simp [intOf]; omega
      · obtain ⟨j, hj⟩ : ∃ j, acc.length = j + 1 := ⟨acc.length - 1, by omega⟩
        obtain ⟨gb, off, hp, hgb, hcs⟩ := (own_srow HO6.out).2.2.at (by omega)
        subst hp
        have cj := (hcs j (by omega)).1
        have hlj : lastS acc = acc.getD j sp0 := by unfold lastS; rw [hj]; rfl
        rw [← hlj] at cj
        have hem : acc.isEmpty = false := by cases acc with | nil => simp at k4 | cons _ _ => rfl
        have HJ := Lib.hid hj
        have HOK2 : ok = !decide (cmpK tt (lastS acc).last < 0) := by rw [← HOK.out]; simp [okB, k2, k3, hem]
        have hle := leqS (lastS acc).last tt
        rw [← HOK2] at hle
        generalize (lastS acc).last = ls at cj hle
        have e59 : (acc.length : Int) - 1 = (j : Int) := by omega
        have e60 : IntKind.i64.wrap ((acc.length : Int) - 1) = (j : Int) := by rw [IntWalk.i64_in _ (by omega)]; omega
        have d4 : ((acc.length : Int) == 0) = false := ef (by omega)
        have i1 : (0 : Int) ≤ (j : Int) := by omega
        have i2 : (j : Int) < (acc.length : Int) := by omega
        have i3 : j < acc.length := by omega
        clear hcs hlj hem HOK HOK2 k4 hj
        cases ok with
        | false =>
          obtain rfl : r = ([], 4) := HNO.out rfl
          have hle2 : Op.bytesLess ls.toList tt.toList = false := by cases h : Op.bytesLess ls.toList tt.toList with | false => rfl | true => rw [h] at hle; cases hle
          have hle3 : (ls.toList == tt.toList) = false := by rw [hle2] at hle; simpa using hle
          clear hle
          go_wp2_with fail
          refine (mustBe_bad _).mono ?_
          rintro e w7 ⟨rfl, rfl⟩
          go_wp2_with fail
          exact ⟨rfl, gotsp_bad HB6.out (by decide)⟩
        | true =>
          have hle2 : (Op.bytesLess ls.toList tt.toList || ls.toList == tt.toList) = true := by simpa using hle
          clear hle
          have hst : (true = true) := rfl
          by_cases hl1 : Op.bytesLess ls.toList tt.toList = true
          case neg =>
            have hl0 : Op.bytesLess ls.toList tt.toList = false := by simpa using hl1
            have hl3 : (ls.toList == tt.toList) = true := by rw [hl0] at hle2; simpa using hle2
            clear hl1 hle2
            go_wp2_with fail
            refine (mustBe_ok _).mono ?_
            rintro e w7 ⟨rfl, rfl⟩
            go_wp2_with (at_builtin; refine wpList_push2 rfl _ _ 145 rfl Tryz.underlying145 infoSpan rfl (by decide) rfl #[.string tt, .int .i64 b, .int .i64 n] rfl ?c1 rfl rfl HO6.out ?c2 ?c3 ?c4 ?_)
            case c1 => simp [Value.oneCell']
            case c2 => exact HB6.out.size
            case c3 => unfold maxLen; omega
            case c4 => first | omega | simp
            intro a7 cap7 w7 hO7 hg7 hb7
            have hA7 := blk_grown hg7 HA6.out HNE.out
            have hI7 := blk_grown hg7 HI6.out HNF.out
            have hB7 := HB6.out.trans hb7
            have h10 := HYES.out (by first | rfl | trivial)
            have hO8 : w7.ownsRow w.heap.size 152 3 (.slice a7 (acc ++ [(⟨tt, b, n⟩ : Sp)]).length cap7) (acc ++ [(⟨tt, b, n⟩ : Sp)]).length (scells (acc ++ [⟨tt, b, n⟩])) := by
              rw [List.length_append, List.length_singleton, scells_snoc]; exact hO7
            clear HO6 HA6 HI6 HB6 HYES hO7
            go_wp2_with fail
            go_roundw
            case rel => exact ⟨i + 1, b + n, by go_num, by go_num, by omega, by omega, ⟨⟨gx2, acc ++ [⟨tt, b, n⟩], by rw [show m - (i + 1) = k from by have := HK.out; omega]; exact h10, hA7, ⟨a7, cap7, by first | rfl | (rw [List.length_append, List.length_singleton]; rfl) | simp⟩, by simpa using hO8, by simp; omega, hnx2.2⟩, hI7, hB7⟩⟩
            case measure => simp [intOf]; omega
          · clear hle2
            go_wp2_with fail
            refine (mustBe_ok _).mono ?_
            rintro e w7 ⟨rfl, rfl⟩
            go_wp2_with (at_builtin; refine wpList_push2 rfl _ _ 145 rfl Tryz.underlying145 infoSpan rfl (by decide) rfl #[.string tt, .int .i64 b, .int .i64 n] rfl ?c1 rfl rfl HO6.out ?c2 ?c3 ?c4 ?_)
            case c1 => simp [Value.oneCell']
            case c2 => exact HB6.out.size
            case c3 => unfold maxLen; omega
            case c4 => first | omega | simp
            intro a7 cap7 w7 hO7 hg7 hb7
            have hA7 := blk_grown hg7 HA6.out HNE.out
            have hI7 := blk_grown hg7 HI6.out HNF.out
            have hB7 := HB6.out.trans hb7
            have h10 := HYES.out (by first | rfl | trivial)
            have hO8 : w7.ownsRow w.heap.size 152 3 (.slice a7 (acc ++ [(⟨tt, b, n⟩ : Sp)]).length cap7) (acc ++ [(⟨tt, b, n⟩ : Sp)]).length (scells (acc ++ [⟨tt, b, n⟩])) := by
              rw [List.length_append, List.length_singleton, scells_snoc]; exact hO7
            clear HO6 HA6 HI6 HB6 HYES hO7
            go_wp2_with fail
            go_roundw
            case rel => exact ⟨i + 1, b + n, by go_num, by go_num, by omega, by omega, ⟨⟨gx2, acc ++ [⟨tt, b, n⟩], by rw [show m - (i + 1) = k from by have := HK.out; omega]; exact h10, hA7, ⟨a7, cap7, by first | rfl | (rw [List.length_append, List.length_singleton]; rfl) | simp⟩, by simpa using hO8, by simp; omega, hnx2.2⟩, hI7, hB7⟩⟩
            case measure => simp [intOf]; omega
    · obtain rfl : i = m := by omega
      rw [show i - i = 0 from by omega] at hR
      obtain rfl : R = ⟨acc, a, b, 0⟩ := by rw [← hR]; rfl
      have c0 := hI.cell
      have c1 := hA.cell
      have hr2 := HR.out
      clear hR HR hI hA hla ha5
      have HB := Lib.hid hB
      have HO := Lib.hid hO
      clear hB hO
      by_cases k1 : a = (s.size : Int)
      case neg =>
        obtain rfl : r = ([], 4) := by rw [hr2]; unfold closeB; rw [if_neg (fun hh => hh rfl), if_pos (Or.inl k1)]
        have d1 : (a == (s.size : Int)) = false := ef k1
        clear k1 hr2
        go_wp2_with fail
        refine (mustBe_bad _).mono ?_
        rintro e w7 ⟨rfl, rfl⟩
        go_wp2_with fail
        exact ⟨rfl, gotsp_bad HB.out (by decide)⟩
      subst k1
      by_cases k2 : b = fin
      case neg =>
        obtain rfl : r = ([], 4) := by rw [hr2]; unfold closeB; rw [if_neg (fun hh => hh rfl), if_pos (Or.inr k2)]
        have d1 : ((b : Int) == (fin : Int)) = false := ef (by omega)
        clear k2 hr2
        go_wp2_with fail
        refine (mustBe_bad _).mono ?_
        rintro e w7 ⟨rfl, rfl⟩
        go_wp2_with fail
        exact ⟨rfl, gotsp_bad HB.out (by decide)⟩
      subst k2
      obtain rfl : r = (acc, 0) := by rw [hr2]; unfold closeB; rw [if_neg (fun hh => hh rfl), if_neg (by simp)]
      clear hr2
      go_wp2_with fail
      refine (mustBe_ok _).mono ?_
      rintro e w7 ⟨rfl, rfl⟩
      go_wp2_with fail
      go_ret
      exact ⟨HB.out, .inl ⟨rfl, p, c, rfl, HO.out⟩⟩
end Go.Proofs.YtpihmjdljbienaaGreatDoor.Tw
