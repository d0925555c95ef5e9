/- The walks of the reference's Which and All. -/
import Derived.Test.YtajfalffpcamhaaTabG
import Derived.Test.YtajfalffpcamhaaTabA
import Derived.Test.YtajfalffpcamhaaParseT
namespace Go.Proofs.Ytajfalffpcamhaa.Tw
open Go.RowKit
open Tb Fp Fw Vp Vw B En
set_option linter.unusedVariables false

theorem which_step (key : ByteArray) (l : List Sp) (j : Nat) (h : j < l.length) : whichB key (l.drop j) = if cmpK (l.getD j sp0).last key < 0 then whichB key (l.drop (j + 1)) + 1 else 0 := by
  rw [drop_sp l j h]; rfl

set_option maxHeartbeats 800000 in
set_option maxRecDepth 100000 in
theorem rwhich_any (tb : Nat) (s f : ByteArray) (sp : List Sp) (hl : sp.length ≤ 65535) (key : ByteArray) (w : World) (h : RBox w tb s sp f) :
    Calls Try.prog 15 #[.pointer (some ⟨tb, 0, none⟩), .string key] w fun e w' => e = .returned (.int .i64 (whichB key sp : Nat)) ∧ Below w.heap.size w w' := by
  obtain ⟨r, hr⟩ : ∃ r, whichB key sp = r := ⟨_, rfl⟩
  rw [hr]
  have HR := Lib.hid hr
  have HT := Lib.hid h
  clear hr h
  go_enter Try.func15, Try.ntmps15
  go_wp2_with fail
  go_loopw [5] (fun si wr => ∃ j : Nat, si = .int .i64 j ∧ j ≤ sp.length ∧ Hid (j + whichB key (sp.drop j) = r) ∧ Below w.heap.size w wr) (fun si _ => sp.length - (intOf si).toNat)
  case atStart => exact ⟨0, rfl, by omega, by show 0 + _ = _; rw [List.drop_zero, Nat.zero_add]; exact HR.out, Below.refl _ _⟩
  case round =>
    obtain ⟨j, rfl, hj, hc, hb⟩ := hrel
    obtain ⟨a, c, ⟨t0, t1, t2⟩, hrw, _⟩ := (HT.out.below hb).cells
    by_cases hlt : j < sp.length
    · have hst := hc.out
      rw [which_step key sp j hlt] at hst
      obtain ⟨ab, off, rfl, hab, hac⟩ := hrw.at (by omega)
      have hd := (hac j hlt).1
      generalize (sp.getD j sp0).last = x at hd hst
      have hge := lssS x key
      have i1 : (0 : Int) ≤ (j : Int) := by omega
      have i2 : (j : Int) < (sp.length : Int) := by omega
      have HB := Lib.hid hb
      clear hac hb hc t0 t2 hrw
      by_cases hx : cmpK x key < 0
      · rw [if_pos hx] at hst
        have hge2 : Op.bytesLess x.toList key.toList = true := by rw [hge]; exact dt hx
        have HST : Hid (j + 1 + whichB key (sp.drop (j + 1)) = r) := by show _ = _; omega
        clear hst hge hx
        go_wp2_with fail
        go_roundw
        case rel => exact ⟨j + 1, by go_num, by omega, HST.out, HB.out⟩
        case measure => simp [intOf]; omega
      · rw [if_neg hx] at hst
        have hge2 : Op.bytesLess x.toList key.toList = false := by rw [hge]; exact df hx
        have hst2 : r = j := by omega
        subst hst2
        clear hst hge hx
        go_wp2_with fail
        go_ret
        exact ⟨rfl, HB.out⟩
    · obtain rfl : j = sp.length := by omega
      have hst := hc.out
      rw [List.drop_length] at hst
      have hst2 : r = sp.length := by rw [← hst]; rfl
      subst hst2
      clear hst hc
      go_wp2_with fail
      go_ret
      exact ⟨rfl, hb⟩

/-- between rounds -/
structure RO (w : World) (s key : ByteArray) (sp : List Sp) (R : List Ent × Int) (k : Nat) (vo vl : Value) (wr : World) : Prop where
  ex : ∃ last acc pl cl p c, vl = .slice pl last.length cl ∧ vo = .slice p acc.length c ∧ allGo s key (sp.drop k) last acc = R ∧ ERow wr pl last.length (fun i => last.getD i ent0) ∧ wr.ownsRow w.heap.size 56 5 vo acc.length (ecells acc) ∧ acc.length ≤ k * 4096 ∧ last.length ≤ 4096
  bel : Below w.heap.size w wr
/-- between the rounds of a block -/
structure RI (w : World) (key : ByteArray) (lb : Nat) (la : Option Addr) (l acc0 : List Ent) (k j : Nat) (v : Value) (wr : World) : Prop where
  ex : ∃ acc p c, v = .slice p acc.length c ∧ acc = acc0 ++ (l.take j).filter (fromK key) ∧ wr.ownsRow w.heap.size 56 5 v acc.length (ecells acc) ∧ acc.length ≤ k * 4096 + j
  ne : v.ownBlock ≠ some lb
  row : ERow wr la l.length (fun i => l.getD i ent0)
  bel : Below w.heap.size w wr
theorem info45r : (Try.prog.info? 56).map (fun i => (i.zero, i.size, i.bytes)) = some (some (.agg #[.string ⟨#[]⟩, .int .i64 0, .bool false, .string ⟨#[]⟩, .int .i64 0]), 5, 56) := by kernel_rfl
theorem gotr_bad {w w' : World} {x : Int} (hb : Below w.heap.size w w') : Ew.GotR w ([], x) (.returned (.tuple #[.slice none 0 0, .int .i64 x])) w' := ⟨none, 0, rfl, World.ownsRow_nil _ _ _ _, hb⟩

set_option maxHeartbeats 3200000 in
set_option maxRecDepth 100000 in
theorem rall_any (tb : Nat) (s f : ByteArray) (hs : s.size ≤ 4611686018427387904) (sp : List Sp) (hl : sp.length ≤ 65535) (key : ByteArray) (w : World) (h : RBox w tb s sp f) :
    Calls Try.prog 22 #[.pointer (some ⟨tb, 0, none⟩), .string key] w (Ew.GotR w (allB s sp key)) := by
  obtain ⟨R, hR⟩ : ∃ R, allGo s key (sp.drop (whichB key sp)) [] [] = R := ⟨_, rfl⟩
  have hR2 : allB s sp key = R := hR
  rw [hR2]
  have HR := Lib.hid hR
  have HW := Lib.hid (fun W h => rwhich_any tb s f sp hl key W h)
  have hwl := which_le key sp
  generalize whichB key sp = p at HR HW hwl
  have HT := Lib.hid h
  clear hR hR2 h
  go_enter Try.func22, Try.ntmps22
  go_wp2_with fail
  refine (HW.out _ HT.out).mono ?_
  rintro e w1 ⟨rfl, hb⟩
  have H0 : Hid (RO w s key sp R p (.slice none 0 0) (.slice none 0 0) w1) := ⟨⟨[], [], none, 0, none, 0, rfl, rfl, HR.out, .inl rfl, World.ownsRow_nil _ _ _ _, by simp, by simp⟩, hb⟩
  clear hb HW
  go_wp2_with fail
  go_loopw [6, 7, 9] (fun so sl si wr => ∃ k : Nat, si = .int .i64 k ∧ k ≤ sp.length ∧ Hid (RO w s key sp R k so sl wr)) (fun so sl si _ => sp.length - (intOf si).toNat)
  case atStart => exact ⟨p, rfl, hwl, H0.out⟩
  case round =>
    obtain ⟨k, rfl, hk, hS⟩ := hrel
    obtain ⟨⟨last, acc, pl, cl, pa, pc, rfl, rfl, hR, hE, hO, hacc, hl4⟩, hB⟩ := hS.out
    clear hS H0
    have hT := HT.out.below hB
    obtain ⟨a, c, ⟨t0, t1, t2⟩, hr, _⟩ := hT.cells
    by_cases hlt : k < sp.length
    · have HBk := Lib.hid (fun W h => rblock_any tb s f hs sp k W h)
      rw [blockB_in s hlt] at HBk
      obtain ⟨x, hx⟩ : ∃ x, sp.getD k sp0 = x := ⟨_, rfl⟩
      rw [hx] at HBk
      obtain ⟨r, hr'⟩ : ∃ r, bodyB s x.at_ x.n = r := ⟨_, rfl⟩
      have hrt := bodyB_t s x.at_ x.n
      rw [hr'] at HBk hrt
      by_cases e1 : r.e = 0
      case neg =>
        obtain rfl := go_b hlt hx hr' hR e1
        obtain ⟨rt, re⟩ := r
        simp only [retS] at HBk e1
        have d1 : (re != 0) = true := nt e1
        have HB := Lib.hid hB
        have HTk := Lib.hid hT
        clear hR hE hO hB hT hr hr' hx
        go_wp2_with fail
        refine (HBk.out _ HTk.out).mono ?_
        rintro e w3 ⟨rfl, hb⟩
        have HB3 := Lib.hid (chain HB.out hb)
        clear hb
        go_wp2_with fail
        go_ret2
        exact gotr_bad HB3.out
      obtain ⟨rt, re⟩ := r
      simp only at e1 hrt
      subst e1
      simp only [retS] at HBk
      have HP := Lib.hid (fun W => Ew.rparse_any rt (by omega) W)
      have hpg := @parse_good rt
      have hpl := parse_len rt
      obtain ⟨q, hq⟩ : ∃ q, parseE rt = q := ⟨_, rfl⟩
      rw [hq] at HP hpg hpl
      by_cases e2 : q.2 = 0
      case neg =>
        obtain rfl := go_p hlt hx hr' hR rfl hq e2
        obtain ⟨l, qe⟩ := q
        simp only at HP e2
        have d1 : (qe != 0) = true := nt e2
        have HB := Lib.hid hB
        have HTk := Lib.hid hT
        clear hR hE hO hB hT hr hr' hx hpg
        go_wp2_with fail
        refine (HBk.out _ HTk.out).mono ?_
        rintro e w3 ⟨rfl, hb⟩
        have HB3 := Lib.hid (chain HB.out hb)
        clear hb
        go_wp2_with fail
        refine (HP.out _).mono ?_
        rintro e w4 ⟨la, lc, rfl, _, hb⟩
        have HB4 := Lib.hid (chain HB3.out hb)
        clear hb
        simp only
        go_wp2_with fail
        go_ret2
        exact gotr_bad HB4.out
      obtain ⟨l, qe⟩ := q
      simp only at HP e2 hpg hpl
      subst e2
      have HG1 := Lib.hid (fun h3 => go_f hlt hx hr' hR rfl hq rfl h3)
      have HG2 := Lib.hid (fun h3 => go_k hlt hx hr' hR rfl hq rfl h3)
      simp only at HG1 HG2
      obtain ⟨ab, off, rfl, hab, hac⟩ := hr.at (by omega)
      have hx1 := (hac k hlt).1
      rw [hx] at hx1
      obtain ⟨xl, xa, xn⟩ := x
      simp only at hx1 HG1 HG2
      have HE := Lib.hid hE
      have HB := Lib.hid hB
      have HTk := Lib.hid hT
      have HO := Lib.hid hO
      have HX1 := Lib.hid hx1
      have ht1 := hT.lt
      have T1 := Lib.hid t1
      clear hR hE hO hB hT hr hr' hx hac hx1 t0 t2 hq hpg
      go_wp2_with fail
      clear t1
      refine (HBk.out _ HTk.out).mono ?_
      rintro e w3 ⟨rfl, hb3⟩
      go_wp2_with fail
      refine (HP.out _).mono ?_
      rintro e w4 ⟨la, lc, rfl, ho4, hb4⟩
      simp only at ho4
      have hbb := chain hb3 hb4
      have hB4 := chain HB.out hbb
      have HB4 := Lib.hid hB4
      have HE4 := Lib.hid (HE.out.below hbb)
      have HO4 := Lib.hid (own_below HO.out hbb)
      have HX4 := Lib.hid (kc HX1.out hbb)
      have T4 := Lib.hid (kc T1.out hbb)
      have HR4 := Lib.hid (own_erow ho4).2.2
      have hla : ∀ lb lo, la = some ⟨lb, lo, none⟩ → w3.heap.size ≤ lb := fun lb lo hh => by
        rcases ho4.2 with ⟨hv, _⟩ | ⟨g', cap, cur, hv, hg', _⟩
        · simp only [Value.slice.injEq] at hv; rw [hv.1] at hh; cases hh
        · simp only [Value.slice.injEq] at hv; rw [hv.1] at hh; cases hh; exact hg'
      have HLA := Lib.hid hla
      have hb3z := hb3.size
      have HNL := Lib.hid (fun lb (h : wr.heap.size ≤ lb) => own_new HO.out h)
      clear hbb hB4 HB HE HO HX1 T1 HBk HP hla ho4 hb4 hb3
      by_cases l0 : l = []
      · obtain rfl : R = ([], 4) := HG1.out (.inl l0)
        subst l0
        go_wp2_with fail
        go_ret2
        exact gotr_bad HB4.out
      · obtain ⟨m, hm⟩ : ∃ m, l.length = m + 1 := ⟨l.length - 1, by have : l.length ≠ 0 := fun hh => l0 (List.eq_nil_of_length_eq_zero hh); omega⟩
        obtain ⟨lb, lo, rfl, hlb, hlc⟩ := HR4.out.at (by omega)
        have hlbz := HLA.out lb lo rfl
        have em : IntKind.i64.wrap ((l.length : Int) - 1) = (m : Int) := by rw [IntWalk.i64_in _ (by omega)]; omega
        have z0 : ((l.length : Int) == 0) = false := ef (by omega)
        have hlm : lastE l = l.getD m ent0 := by unfold lastE; rw [hm]; rfl
        have hc1 := (hlc m (by omega)).1
        rw [← hlm] at hc1
        have hc0 := hlc 0 (by omega)
        obtain ⟨yk, hy⟩ : ∃ yk, (lastE l).key = yk := ⟨_, rfl⟩
        obtain ⟨u, hu⟩ : ∃ u, l.getD 0 ent0 = u := ⟨_, rfl⟩
        rw [hy] at hc1
        rw [hu] at hc0
        simp only [hy, hu] at HG1 HG2
        have i1 : (0 : Int) ≤ (m : Int) := by omega
        have i2 : (m : Int) < (l.length : Int) := by omega
        have i3 : m < l.length := by omega
        have i4 : (0 : Int) < (l.length : Int) := by omega
        have i5 : 0 < l.length := by omega
        have j1 : (0 : Int) ≤ (k : Int) := by omega
        have j2 : (k : Int) < (sp.length : Int) := by omega
        have HM := Lib.hid hm
        obtain ⟨uk, uq, ug, uv, uu⟩ := u
        simp only at hc0 HG1 HG2
        have HC0 := Lib.hid hc0
        clear hlc hlm hc0 hy hu hm HLA
        have t4 := T4.out
        have x4 := HX4.out
        by_cases keq : yk = xl
        case neg =>
          obtain rfl : R = ([], 4) := HG1.out (.inr (.inl keq))
          have hne : (yk.toList == xl.toList) = false := beq_eq_false_iff_ne.2 fun e => keq (Ew.toList_inj e)
          go_wp2_with fail
          go_quiet (fail)
          go_wp2_with fail
          go_ret2
          exact gotr_bad (drewN HB4.out)
        subst keq
        have heq : (yk.toList == yk.toList) = true := by simp
        have hsz4 : tb < w4.heap.size := by have := HB4.out.size; omega
        have hbw : w.heap.size ≤ w4.heap.size := HB4.out.size
        have hne0 : (yk.toList != yk.toList) = false := by simp
        go_upto_if 67 with fail
        all_goals try go_quiet (fail)
        go_upto_if 67 with fail
        have HB5 := Lib.hid (drewN (n := nq) HB4.out)
        have HE5 : Hid (ERow (w4.drewN nq) pl last.length (fun i => last.getD i ent0)) := HE4.out
        have HO5 : Hid ((w4.drewN nq).ownsRow w.heap.size 56 5 (.slice pa acc.length pc) acc.length (ecells acc)) := HO4.out
        have HR5 : Hid (ERow (w4.drewN nq) (some ⟨lb, lo, none⟩) l.length (fun i => l.getD i ent0)) := HR4.out
        have HC5 : Hid ((w4.drewN nq).cell? ⟨lb, lo, none⟩ = some (.string uk) ∧ (w4.drewN nq).cell? ⟨lb, lo + 1, none⟩ = some (.int .i64 uq) ∧ (w4.drewN nq).cell? ⟨lb, lo + 2, none⟩ = some (.bool ug) ∧ (w4.drewN nq).cell? ⟨lb, lo + 3, none⟩ = some (.string uv) ∧ (w4.drewN nq).cell? ⟨lb, lo + 4, none⟩ = some (.int .i64 uu)) := by
          have := HC0.out; simp only [Nat.zero_mul, Nat.add_zero] at this; exact this
        generalize w4.drewN nq = w5 at HB5 HE5 HO5 HR5 HC5 ⊢
        go_cut [] (fun wx => (last = [] ∨ lessE (lastE last) ⟨uk, uq, ug, uv, uu⟩ = true) ∧ Below w5.heap.size w5 wx)
        case first =>
          by_cases hln : last = []
          · subst hln
            go_wp2_with fail
            go_meet
            exact ⟨.inl (by first | rfl | trivial), Below.refl _ _⟩
          · obtain ⟨q, hq⟩ : ∃ q, last.length = q + 1 := ⟨last.length - 1, by have : last.length ≠ 0 := fun hh => hln (List.eq_nil_of_length_eq_zero hh); omega⟩
            obtain ⟨pb, po, rfl, hpb, hpc⟩ := HE5.out.at (by omega)
            have hz := hpc q (by omega)
            have hlz : lastE last = last.getD q ent0 := by unfold lastE; rw [hq]; rfl
            rw [← hlz] at hz
            obtain ⟨z, hz0⟩ : ∃ z, lastE last = z := ⟨_, rfl⟩
            rw [hz0] at hz
            obtain ⟨zk, zq, zg, zv, zu⟩ := z
            simp only at hz
            have HLE := Lib.hid (fun W => Ew.rless_any zk zq zg zv zu uk uq ug uv uu W)
            have hle2 : lessE (lastE last) ⟨uk, uq, ug, uv, uu⟩ = lessE ⟨zk, zq, zg, zv, zu⟩ ⟨uk, uq, ug, uv, uu⟩ := by rw [hz0]
            generalize lessE ⟨zk, zq, zg, zv, zu⟩ ⟨uk, uq, ug, uv, uu⟩ = le at HLE hle2
            have elq : IntKind.i64.wrap ((last.length : Int) - 1) = (q : Int) := by rw [IntWalk.i64_in _ (by omega)]; omega
            have dl : decide (0 < last.length) = true := dt (by omega)
            have k1 : (0 : Int) ≤ (q : Int) := by omega
            have k2 : (q : Int) < (last.length : Int) := by omega
            have HS : Hid ((w5.cell? ⟨pb, po + q * 5, none⟩ = some (.string zk) ∧ w5.cell? ⟨pb, po + q * 5 + 1, none⟩ = some (.int .i64 zq) ∧ w5.cell? ⟨pb, po + q * 5 + 2, none⟩ = some (.bool zg) ∧ w5.cell? ⟨pb, po + q * 5 + 3, none⟩ = some (.string zv) ∧ w5.cell? ⟨pb, po + q * 5 + 4, none⟩ = some (.int .i64 zu)) ∧
              (w5.cell? ⟨lb, lo, none⟩ = some (.string uk) ∧ w5.cell? ⟨lb, lo + 1, none⟩ = some (.int .i64 uq) ∧ w5.cell? ⟨lb, lo + 2, none⟩ = some (.bool ug) ∧ w5.cell? ⟨lb, lo + 3, none⟩ = some (.string uv) ∧ w5.cell? ⟨lb, lo + 4, none⟩ = some (.int .i64 uu))) := ⟨hz, HC5.out⟩
            have HLZ := Lib.hid hle2
            have HLN := Lib.hid hln
            clear hpc hz hlz hz0 hle2 hln hq t4 x4
            go_wp2_with fail
            go_region_held3 (fun w' => (w'.cell? ⟨pb, po + q * 5, none⟩ = some (.string zk) ∧ w'.cell? ⟨pb, po + q * 5 + 1, none⟩ = some (.int .i64 zq) ∧ w'.cell? ⟨pb, po + q * 5 + 2, none⟩ = some (.bool zg) ∧ w'.cell? ⟨pb, po + q * 5 + 3, none⟩ = some (.string zv) ∧ w'.cell? ⟨pb, po + q * 5 + 4, none⟩ = some (.int .i64 zu)) ∧
              (w'.cell? ⟨lb, lo, none⟩ = some (.string uk) ∧ w'.cell? ⟨lb, lo + 1, none⟩ = some (.int .i64 uq) ∧ w'.cell? ⟨lb, lo + 2, none⟩ = some (.bool ug) ∧ w'.cell? ⟨lb, lo + 3, none⟩ = some (.string uv) ∧ w'.cell? ⟨lb, lo + 4, none⟩ = some (.int .i64 uu)))
              (first | exact HS.out | (obtain ⟨⟨h4, h5, h6, h7, h8⟩, h9, h10, h11, h12, h13⟩ := HS.out; exact ⟨⟨kc (W := w5.drew) h4 hb6, kc (W := w5.drew) h5 hb6, kc (W := w5.drew) h6 hb6, kc (W := w5.drew) h7 hb6, kc (W := w5.drew) h8 hb6⟩, kc (W := w5.drew) h9 hb6, kc (W := w5.drew) h10 hb6, kc (W := w5.drew) h11 hb6, kc (W := w5.drew) h12 hb6, kc (W := w5.drew) h13 hb6⟩))
              (first | (go_at_call 58; refine (HLE.out _).mono ?_; rintro e w6 ⟨rfl, hb6⟩))
            all_goals
              have hz : Below w5.heap.size w5 w6 := (Below.refl w5.heap.size w5).drew.trans hb6
              clear hb6
              cases le with
              | true =>
                go_wp2_with fail
                go_meet
                exact ⟨.inr HLZ.out, hz⟩
              | false =>
                obtain rfl : R = ([], 4) := HG1.out (.inr (.inr ⟨HLN.out, HLZ.out⟩))
                have hzz := chain HB5.out hz
                go_wp2_with fail
                go_ret2
                exact gotr_bad hzz
        case rest =>
        obtain ⟨hcond, hcb⟩ := hcut
        have HRN := Lib.hid (HG2.out (by
          rintro (h | h | ⟨h1, h2⟩)
          · exact l0 h
          · exact h rfl
          · rcases hcond with h3 | h3
            · exact h1 h3
            · rw [h2] at h3; cases h3))
        have HI : Hid (RI w key lb (some ⟨lb, lo, none⟩) l acc k 0 (.slice pa acc.length pc) wc) := ⟨⟨acc, pa, pc, rfl, by simp, own_below HO5.out hcb, by omega⟩, HNL.out lb (by omega), HR5.out.below hcb, chain HB5.out hcb⟩
        clear HG1 HG2 HO4 HR4 HB4 HE4 HO5 HR5 HB5 HE5 HC5 hcond hcb
        go_wp2_with fail
        go_loopw [6, 15] (fun so sj wr2 => ∃ j : Nat, sj = .int .i64 j ∧ j ≤ l.length ∧ Hid (RI w key lb (some ⟨lb, lo, none⟩) l acc k j so wr2)) (fun so sj _ => l.length - (intOf sj).toNat)
        case atStart => exact ⟨0, rfl, by omega, HI.out⟩
        case round =>
          obtain ⟨j, rfl, hj, hS⟩ := hrel
          obtain ⟨⟨acc2, pb, pd, rfl, hac2, hO2, hln2⟩, hN2, hR2, hB2⟩ := hS.out
          clear hS HI
          by_cases hjl : j < l.length
          · obtain ⟨b9, o9, hq9, hlb2, hlc2⟩ := hR2.at (by omega)
            simp only [Option.some.injEq, Addr.mk.injEq, and_true] at hq9
            obtain ⟨rfl, rfl⟩ := hq9
            have hd := hlc2 j hjl
            obtain ⟨e, he⟩ : ∃ e, l.getD j ent0 = e := ⟨_, rfl⟩
            rw [he] at hd
            obtain ⟨fb, hfb⟩ : ∃ fb, fromK key (l.getD j ent0) = fb := ⟨_, rfl⟩
            have HF := Lib.hid (filt_step key l j hjl fb hfb)
            rw [he] at HF hfb
            obtain ⟨ek, eq, eg, ev, eu⟩ := e
            simp only at hd
            obtain ⟨d0, d1, d2, d3, d4⟩ := hd
            have i1 : (0 : Int) ≤ (j : Int) := by omega
            have i2 : (j : Int) < (l.length : Int) := by omega
            have hge := lssS ek key
            have hfb2 : decide (cmpK ek key < 0) = !fb := by rw [← hfb]; unfold fromK; simp
            rw [hfb2] at hge
            have HAC := Lib.hid hac2
            have HO2 := Lib.hid hO2
            have HN2 := Lib.hid hN2
            have HR2 := Lib.hid hR2
            have HB2 := Lib.hid hB2
            have hw2 := hB2.size
            clear hlc2 he hfb hfb2 hac2 hO2 hN2 hR2 hB2
            cases fb with
            | false =>
              have hge2 : Op.bytesLess ek.toList key.toList = true := hge
              clear hge
              have HI2 : Hid (RI w key lb (some ⟨lb, lo, none⟩) l acc k (j + 1) (.slice pb acc2.length pd) wr) :=
                ⟨⟨acc2, pb, pd, rfl, by rw [HF.out, HAC.out]; simp, HO2.out, by omega⟩, HN2.out, HR2.out, HB2.out⟩
              go_wp2_with fail
              go_roundw
              case rel => exact ⟨j + 1, by go_num, by omega, HI2.out⟩
              case measure => simp [intOf]; omega
            | true =>
              have hge2 : Op.bytesLess ek.toList key.toList = false := hge
              clear hge
              have hacb : acc2.length + 1 ≤ 268435456 := by omega
              go_wp2_with (at_builtin; refine wpList_pushL rfl _ _ 24 rfl Try.underlying24 info45r rfl (by decide) rfl #[.string ek, .int .i64 eq, .bool eg, .string ev, .int .i64 eu] rfl ?c1 rfl ?c0 HO2.out ?c2 ?c3 ?c4 ?_)
              case c0 => rfl
              case c1 => simp [Value.oneCell']
              case c3 => unfold maxLen; omega
              case c4 => first | omega | simp
              intro g7 cap7 w7 hO7 hg7 hb7 hn7
              have HI2 : Hid (RI w key lb (some ⟨lb, lo, none⟩) l acc k (j + 1) (.slice (some ⟨g7, 0, none⟩) (acc2 ++ [(⟨ek, eq, eg, ev, eu⟩ : Ent)]).length cap7) w7) := by
                refine ⟨⟨acc2 ++ [(⟨ek, eq, eg, ev, eu⟩ : Ent)], some ⟨g7, 0, none⟩, cap7, rfl, by rw [HF.out, HAC.out]; simp, ?_, by simp; omega⟩, ?_, ?_, ?_⟩
                · rw [List.length_append, List.length_singleton, ecells_snoc]; exact hO7
                · rcases hn7 with hn7 | hn7
                  · intro hh
                    simp only [Value.ownBlock, Option.some.injEq] at hh
                    subst hh
                    exact HN2.out hn7
                  · intro hh
                    simp only [Value.ownBlock, Option.some.injEq] at hh
                    first | omega | (simp at hn7; omega)
                · exact erow_blk HR2.out (hg7.block lb (by first | omega | (simp; omega)) (fun e => HN2.out e.symm))
                · exact HB2.out.trans (hb7)
              rw [List.length_append, List.length_singleton] at HI2
              clear hO7 hg7 hb7 hn7
              go_wp2_with fail
              go_roundw
              case rel => exact ⟨j + 1, by go_num, by omega, HI2.out⟩
              case measure => simp [intOf]; omega
          · obtain rfl : j = l.length := by omega
            rw [List.take_length] at hac2
            have HRO : Hid (RO w s key sp R (k + 1) (.slice pb acc2.length pd) (.slice (some ⟨lb, lo, none⟩) l.length lc) wr) := ⟨⟨l, acc2, some ⟨lb, lo, none⟩, lc, pb, pd, rfl, rfl, by rw [hac2]; exact HRN.out, hR2, hO2, by omega, by omega⟩, hB2⟩
            clear hO2 hB2 hR2 hN2
            go_wp2_with fail
            go_roundw
            case rel => exact ⟨k + 1, by go_num, by omega, HRO.out⟩
            case measure => simp [intOf]; omega
    · obtain rfl : k = sp.length := by omega
      have hRR : R = (acc, 0) := by rw [← hR, List.drop_length]; rfl
      subst hRR
      have HO := Lib.hid hO
      have HB := Lib.hid hB
      clear hR hE hO hB hT hr
      go_wp2_with fail
      go_ret2
      exact ⟨pa, pc, rfl, HO.out, HB.out⟩
end Go.Proofs.Ytajfalffpcamhaa.Tw
