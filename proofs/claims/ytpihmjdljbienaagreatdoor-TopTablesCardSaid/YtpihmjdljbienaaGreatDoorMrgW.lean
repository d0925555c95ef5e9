/- The walk of layer 13's Merge. -/
import Derived.Test.YtpihmjdljbienaaGreatDoorMrgF
import Derived.Test.YtpihmjdljbienaaGreatDoorGp
import Derived.Deep.LoopGhost
import Derived.Deep.RegionHeld3
import Derived.Deep.DeepCutAuto
namespace Go.Proofs.YtpihmjdljbienaaGreatDoor.Mg
open Ew
open Go.RowKit
open En B
set_option linter.unusedVariables false

theorem infoRun : (Tryz.prog.info? 161).map (fun i => (i.zero, i.size, i.bytes)) = some (some (.agg #[.slice none 0 0, .int .i64 0]), 2, 32) := by kernel_rfl
theorem HST.push {w0 W w5 : World} {gb d : Nat} {p a5 : Option Addr} {cap5 : Nat} {h : List Run} (s : HST w0 gb p d h W) (r : Run) (hv : VRow w0 r)
    (ho : w5.ownsRow w0.heap.size 161 2 (.slice a5 (h.length + 1) cap5) (h.length + 1) (rcells h ++ [.slice r.a r.m r.c, .int .i64 r.idx])) (hg : W.grownBy w5 (Value.slice p h.length d).ownBlock) (hb : Below w0.heap.size W w5) :
    Cell1 w5 gb 159 (.slice p h.length d) ∧ HST w0 gb a5 cap5 (h ++ [r]) (w5.setCell ⟨gb, 0, none⟩ (.slice a5 (h.length + 1) cap5)) := by
  have c : Cell1 w5 gb 159 (.slice p h.length d) := blk_grown hg s.box (row_ne s.box s.own (by decide))
  have hl : (h ++ [r]).length = h.length + 1 := by simp
  refine ⟨c, ⟨(s.bel.trans hb).setCell (p := ⟨gb, 0, none⟩) s.far _, s.far, ?_, ?_, fun x hx => ?_⟩⟩
  · rw [hl]; exact c.set _
  · rw [hl, rcells_snoc]; exact own_farB ho (p := ⟨gb, 0, none⟩) (row_ne c ho (by decide)) _
  · rcases List.mem_append.1 hx with hx | hx
    · exact s.val x hx
    · rw [List.mem_singleton] at hx; subst hx; exact hv
theorem HST.keeps {w0 W W' : World} {gb d : Nat} {p : Option Addr} {h : List Run} {ts : List TypeId} (s : HST w0 gb p d h W) (hb : Below w0.heap.size W W') (k : Keeps ts W W') (h1 : 161 ∉ ts) (h2 : 159 ∉ ts) : HST w0 gb p d h W' :=
  ⟨s.bel.trans hb, s.far, s.box.keeps k h2, own_keeps s.own k h1, s.val⟩
theorem HST.set0 {w0 W : World} {gb d g : Nat} {h : List Run} (s : HST w0 gb (some ⟨g, 0, none⟩) d h W) (h0 : 0 < h.length) (r : Run) (hi : r.idx = (h.getD 0 run0).idx) (hv : VRow w0 r) :
    HST w0 gb (some ⟨g, 0, none⟩) d (h.set 0 r) (W.setCell ⟨g, 0, none⟩ (.slice r.a r.m r.c)).drew ∧ Keeps [161] W (W.setCell ⟨g, 0, none⟩ (.slice r.a r.m r.c)).drew := by
  have ho := (s.own.stored 0 (.slice r.a r.m r.c)).1
  rw [rcells_set0 h0 hi] at ho
  refine s.turned h0 (by rw [List.length_set]) (own_drew ho) ((Only.refl g W).set 0 _).drew fun x hx => ?_
  rcases List.mem_or_eq_of_mem_set hx with hx | rfl
  · exact s.val x hx
  · exact hv
/-- what is left of a run when its first entry is gone -/
theorem VRow.rest {w : World} {eb eoff m c x : Nat} {e : Ent} {t : List Ent} (v : VRow w ⟨some ⟨eb, eoff, none⟩, m, c, x, e :: t⟩) :
    VRow w ⟨if c = 1 then some ⟨eb, eoff, none⟩ else some ⟨eb, eoff + 5, none⟩, m - 1, c - 1, x, t⟩ := by
  have hl : t.length + 1 = m := v.len
  have hc : m ≤ c := v.cap
  refine ⟨by show t.length = m - 1; omega, by show m - 1 ≤ c - 1; omega, ?_⟩
  by_cases h1 : m = 1
  · exact .inl (by show m - 1 = 0; omega)
  · obtain ⟨b, off, hb, hbs, hcc⟩ := v.row.at (show 0 < m by omega)
    cases hb
    refine .inr ⟨eb, eoff + 5, by show (if c = 1 then _ else _) = _; rw [if_neg (by omega)], hbs, fun i hi => ?_⟩
    have hi' : i < m - 1 := hi
    have h2 := hcc (i + 1) (by show i + 1 < m; omega)
    simp only [List.getD_cons_succ] at h2
    rw [show eoff + (i + 1) * 5 = eoff + 5 + i * 5 from by omega] at h2
    exact h2
theorem pos_snoc {h : List Run} {r : Run} (hp : Pos h.length h) (hr : 0 < r.m) : Pos (h ++ [r]).length (h ++ [r]) := fun j hj => by
  rw [List.length_append] at hj
  simp only [List.length_cons, List.length_nil] at hj
  rw [getR_app h r j (by omega)]
  split
  · exact hp j (by omega)
  · exact hr

set_option maxHeartbeats 6400000 in
set_option maxRecDepth 100000 in
theorem merge_any (la : Option Addr) (ln lcap : Nat) (sl : Nat → Option Addr × Nat × Nat) (ls : List (List Ent)) (w : World) (hrow : LsRow w la ln sl ls) (hn : ln ≤ 1000000000) (hfl : ls.flatten.length * 56 ≤ 140737488351232) (hso : ∀ j, j < ls.length → Sorted (ls.getD j [])) :
    Calls Tryz.prog 27 #[.slice la ln lcap] w (OwnR w.heap.size 45 (mpAll [] ls.flatten) w) := by
  obtain ⟨P, hP⟩ : ∃ P, P = OwnR w.heap.size 45 (mpAll [] ls.flatten) w := ⟨_, rfl⟩
  rw [← hP]
  have HP := Lib.hid hP
  have HLR := Lib.hid hrow
  have HLL := Lib.hid hrow.1
  have HSO := Lib.hid hso
  have hb0 := below_alloc (Below.refl w.heap.size w) (.cells #[.slice none 0 0] 159)
  have H0 : Hid (HST w w.heap.size none 0 [] (w.alloc (.cells #[.slice none 0 0] 159))) :=
    ⟨hb0, Nat.le_refl _, heap_alloc_new _ _, World.ownsRow_nil _ _ _ _, fun r hr => by cases hr⟩
  clear hrow hP hso hb0
  go_enter Tryz.func27, Tryz.ntmps27
  go_wp2_with fail
  go_loopw [10] (fun si wr => ∃ (i : Nat) (p : Option Addr) (d : Nat) (h : List Run), si = .int .i64 i ∧ i ≤ ln ∧ Hid (HST w w.heap.size p d h wr) ∧ Hid (Made ls i h) ∧ Hid (Pos h.length h)) (fun si _ => ln - (intOf si).toNat)
  case atStart => exact ⟨0, none, 0, [], rfl, by omega, H0.out, made_0 ls, fun j hj => by simp at hj⟩
  case round =>
    clear H0
    obtain ⟨i, p, d, h, rfl, hi, hst, hmd, hps⟩ := hrel
    have hlh := hmd.out.len
    by_cases hlt : i < ln
    · obtain ⟨lb, loff, rfl, hlb, hlc⟩ := HLR.out.2.1.at (by omega)
      have hlci := hlc i hlt
      obtain ⟨hl1, hl2, hl3⟩ := HLR.out.2.2 i hlt
      obtain ⟨⟨a, n, c⟩, hs⟩ : ∃ s, s = sl i := ⟨_, rfl⟩
      rw [← hs] at hlci hl1 hl2 hl3
      simp only at hlci hl1 hl2 hl3
      have cc := (hst.out.bel.cell (p := ⟨lb, loff + i, none⟩) hlb).trans hlci
      have i1 : (0 : Int) ≤ (i : Int) := by omega
      have i2 : (i : Int) < (ln : Int) := by omega
      have HVR : Hid (VRow w ⟨a, n, c, i, ls.getD i []⟩) := ⟨hl1, hl2, hl3⟩
      have HL1 := Lib.hid hl1
      have cb := hst.out.box.cell
      have cz := hst.out.box.fz
      have cg := hst.out.box.lt
      clear hlc hlb hlci hl1 hl2 hl3 hs
      by_cases h0 : n = 0
      · subst h0
        go_wp2_with fail
        go_roundw
        case rel => exact ⟨i + 1, p, d, h, by go_num, by omega, hst, hmd.out.skip (List.eq_nil_of_length_eq_zero HL1.out), hps⟩
        case measure => simp [intOf]; omega
      · have n1 : (0 : Int) < (n : Int) := by omega
        have HPO := Lib.hid (show 0 < n by omega)
        have HNE : Hid (ls.getD i [] ≠ []) := fun e => by
          have h1 := HL1.out
          have h2 := HPO.out
          rw [e] at h1
          rw [← h1] at h2
          exact absurd h2 (by decide)
        clear h0
        go_wp2_with (at_builtin; refine wpList_push2 rfl _ _ 159 rfl Tryz.underlying159 infoRun rfl (by decide) rfl _ rfl ?c1 rfl ?c0 hst.out.own ?c2 ?c3 ?c4 ?_)
        case c0 => rfl
        case c1 => simp [Value.oneCell']
        case c2 => exact hst.out.bel.size
        case c3 => unfold maxLen; omega
        case c4 => omega
        intro a5 cap5 w5 hown5 hg5 hb5
        obtain ⟨c5, hs5⟩ := hst.out.push ⟨a, n, c, i, ls.getD i []⟩ HVR.out hown5 hg5 hb5
        have HS5 := Lib.hid hs5
        have cc5 := c5.cell
        have cf5 := c5.fz
        clear hown5 hg5 hb5 hs5 c5 cb cz cc
        go_wp2_with fail
        go_roundw
        case rel => exact ⟨i + 1, a5, cap5, h ++ [⟨a, n, c, i, ls.getD i []⟩], by go_num, by omega, HS5, Lib.hid (hmd.out.push ⟨a, n, c, i, ls.getD i []⟩ rfl rfl HNE.out), Lib.hid (pos_snoc hps.out HPO.out)⟩
        case measure => simp [intOf]; omega
    · obtain rfl : i = ln := by omega
      have hlc : h.length ≤ 1000000000000 := by omega
      have HR0 := Lib.hid (fun h' hs => Made.start (h := h) (h' := h') (HLL.out ▸ hmd.out) hs HSO.out)
      clear hlt
      go_wp2_with fail
      refine (init_any w w.heap.size p d h wr hst.out hlc hps.out).mono ?_
      rintro e w2 ⟨⟨v, rfl⟩, h2, hs2, hsm2, hh2, hk2⟩
      have HS2 := Lib.hid hs2
      have HH2 : Hid (HeapFrom h2 h2.length 0) := by rw [hsm2.len]; exact hh2
      have HP2 : Hid (Pos h2.length h2) := by rw [hsm2.len]; exact same_pos hsm2 hps.out
      have HM2 := Lib.hid (HR0.out h2 hsm2)
      have HL2 : h2.length ≤ i := by rw [hsm2.len]; exact hlh
      clear hs2 hsm2 hh2 hk2 hst hmd hps HR0 hlh hlc
      obtain ⟨R, hR⟩ : ∃ R, R = mpAll [] ls.flatten := ⟨_, rfl⟩
      rw [← hR] at HM2 HP
      obtain ⟨N, hN⟩ : ∃ N, N = ls.flatten.length := ⟨_, rfl⟩
      rw [← hN] at hfl
      go_wp2_with fail
      go_loopg [6] N (fun gk so wr => ∃ (rs : List (List Ent)) (h : List Run) (p : Option Addr) (d : Nat) (q : Option Addr) (m dq : Nat) (out : List Ent), gk = rs.flatten.length ∧ so = .slice q m dq ∧ Hid (HST w w.heap.size p d h wr) ∧ Hid (HeapFrom h h.length 0) ∧ Hid (Pos h.length h) ∧ Hid (MI rs h out R) ∧ Hid (wr.ownsRow w.heap.size 45 5 (.slice q m dq) m (ecells out)) ∧ Hid (m = out.length) ∧ h.length ≤ i ∧ m + gk ≤ N)
      case atStart =>
        exact ⟨ls, h2, p, d, none, 0, 0, [], hN, rfl, HS2, HH2, HP2, HM2, Lib.hid (World.ownsRow_nil _ _ _ _), Lib.hid rfl, HL2, by omega⟩
      case round =>
        clear HS2 HH2 HP2 HM2 HL2 hN
        obtain ⟨rs, h, p, d, q, m, dq, out, hgk, rfl, hst, hh, hps, hmi, hown, hm, hlh, hmn⟩ := hrel
        have cb := hst.out.box.cell
        by_cases h0 : h.length = 0
        · have hdone : out = R := (List.eq_nil_of_length_eq_zero h0 ▸ hmi.out : MI rs [] out R).done
          rw [h0] at cb
          go_wp2_with fail
          rw [HP.out, ← hdone]
          exact ⟨q, dq, by rw [← hm.out]; rfl, by rw [← hm.out]; exact hown.out, hst.out.bel⟩
        · obtain ⟨g, rfl, hg1, hg2, cs, fr, hgb⟩ := hst.out.row (by omega)
          have hrr := (own_rrow hst.out.own).2.2
          obtain ⟨b, off, hb0, hb, hc⟩ := hrr.at (by omega)
          cases hb0
          have r0c := (hc 0 (by omega)).1
          simp only [Nat.zero_mul, Nat.add_zero] at r0c
          have hv0 := hst.out.val _ (getR_mem (by omega : 0 < h.length))
          have hp0 := hps.out 0 (by omega)
          have HSTEP := Lib.hid (fun e t => MI.step (e := e) (t := t) hmi.out (by omega) hh.out)
          have HPUT := Lib.hid (MI.put hmi.out (by omega) hh.out)
          obtain ⟨hxl, htop, _⟩ := hmi.out.top (by omega : 0 < h.length)
          obtain ⟨r0, hr0⟩ : ∃ r, r = h.getD 0 run0 := ⟨_, rfl⟩
          have HR0 := Lib.hid hr0
          rw [← hr0] at r0c hv0 hp0 HSTEP HPUT htop hxl
          have HXL := Lib.hid hxl
          clear hxl
          obtain ⟨a0, m0, c0, x0, L0⟩ := r0
          have hvl := hv0.len
          have hvc := hv0.cap
          have hvr := hv0.row
          simp only at r0c hvl hvc hvr hp0 HSTEP htop
          obtain ⟨e, t, rfl⟩ : ∃ e t, L0 = e :: t := by
            cases L0 with
            | nil => rw [← hvl] at hp0; exact absurd hp0 (by decide)
            | cons e t => exact ⟨e, t, rfl⟩
          have hme : Run.hd ⟨a0, m0, c0, x0, e :: t⟩ = e := rfl
          rw [hme] at HPUT
          obtain ⟨eb, eoff, rfl, heb, hec⟩ := hvr.at hp0
          have hd := hec 0 hp0
          rw [List.getD_cons_zero] at hd
          simp only [Nat.zero_mul, Nat.add_zero] at hd
          obtain ⟨E, hE⟩ : ∃ E, E = e := ⟨_, rfl⟩
          have HE := Lib.hid hE
          rw [← hE] at hd
          obtain ⟨k0, q0, g0, v0, u0⟩ := E
          simp only at hd
          obtain ⟨d0, d1, d2, d3, d4⟩ := hd
          have e0 := (hst.out.bel.cell (p := ⟨eb, eoff, none⟩) heb).trans d0
          have e1 := (hst.out.bel.cell (p := ⟨eb, eoff + 1, none⟩) heb).trans d1
          have e2 := (hst.out.bel.cell (p := ⟨eb, eoff + 2, none⟩) heb).trans d2
          have e3 := (hst.out.bel.cell (p := ⟨eb, eoff + 3, none⟩) heb).trans d3
          have e4 := (hst.out.bel.cell (p := ⟨eb, eoff + 4, none⟩) heb).trans d4
          have hl1 : (0 : Int) < (h.length : Int) := by omega
          have hm1 : (0 : Int) < (m0 : Int) := by omega
          have hb1 := below_alloc (Below.refl wr.heap.size wr) (.cells #[.string k0, .int .i64 q0, .bool g0, .string v0, .int .i64 u0] 45)
          have hE0 : EBox (wr.alloc (.cells #[.string k0, .int .i64 q0, .bool g0, .string v0, .int .i64 u0] 45)) wr.heap.size 45 ⟨k0, q0, g0, v0, u0⟩ := heap_alloc_new _ _
          have HVW := Lib.hid hv0.rest
          have HHP := Lib.hid hh.out
          clear hc hrr hec d0 d1 d2 d3 d4 hE hr0 hme hvr h0 hb hv0
          have HC2 := Lib.hid r0c
          have HGB := Lib.hid hgb
          clear hgb
          go_upto_region 12 with fail
          generalize hW : World.alloc _ _ = W1
          rw [hW] at hb1 hE0
          generalize hg7 : wr.heap.size = g7 at hE0 ⊢
          have HB1 := Lib.hid hb1
          have HST1 := Lib.hid (hst.out.below hb1)
          have HOW1 := Lib.hid (own_below hown.out hb1)
          have HE1 := Lib.hid hE0
          have HHE := Lib.hid heb
          obtain ⟨bb, hbb⟩ : ∃ b : Bool, b = decide (out = [] ∨ lessE (out.getD (out.length - 1) ent0) e = true) := ⟨_, rfl⟩
          have HBB := Lib.hid hbb
          clear hW hb1 hE0 hg7 cb r0c e0 e1 e2 e3 e4 hst hown heb hbb
          try clear wr
          go_cut [48] (fun s48 wx => s48 = .bool bb ∧ Below W1.heap.size W1 wx)
          case first =>
            by_cases hm0 : m = 0
            · subst hm0
              have HX := Lib.hid (show bb = true by rw [HBB.out, List.eq_nil_of_length_eq_zero hm.out.symm]; simp)
              go_quiet (fail)
              go_wp2_with fail
              go_meet
              exact ⟨by rw [HX.out], drewN (Below.refl _ _)⟩
            · obtain ⟨n1, hn1⟩ : ∃ n1, m = n1 + 1 := ⟨m - 1, by omega⟩
              have HX := Lib.hid (show bb = lessE (out.getD n1 ent0) ⟨k0, q0, g0, v0, u0⟩ by
                have h1 := hm.out
                have h2 : out ≠ [] := fun e' => by rw [e'] at h1; exact hm0 h1
                rw [HBB.out, ← h1, ← HE.out, hn1, Nat.add_sub_cancel]
                simp [h2])
              obtain ⟨ob, ooff, rfl, hob, hoc⟩ := (own_erow HOW1.out).2.2.at (by omega)
              have hl := hoc n1 (by omega)
              generalize out.getD n1 ent0 = y at hl HX
              obtain ⟨k1, q1, g1, v1, u1⟩ := y
              simp only at hl
              have HL := Lib.hid hl
              obtain ⟨y0, y1, y2, y3, y4⟩ := hl
              obtain ⟨z0, z1, z2, z3, z4⟩ := HE1.out.cells
              simp only at z0 z1 z2 z3 z4
              have hgz := lt_of_block HE1.out
              have j1 : (0 : Int) ≤ (n1 : Int) := by omega
              have j2 : (n1 : Int) < (m : Int) := by omega
              have hmz : ((m : Int) == 0) = false := ef (by omega)
              have em0 : IntKind.i64.wrap ((m : Int) - 1) = (n1 : Int) := by rw [IntWalk.i64_in _ (by omega)]; omega
              have H0 : Hid (((W1.cell? ⟨ob, ooff + n1 * 5, none⟩ = some (.string k1) ∧ W1.cell? ⟨ob, ooff + n1 * 5 + 1, none⟩ = some (.int .i64 q1) ∧ W1.cell? ⟨ob, ooff + n1 * 5 + 2, none⟩ = some (.bool g1) ∧ W1.cell? ⟨ob, ooff + n1 * 5 + 3, none⟩ = some (.string v1) ∧ W1.cell? ⟨ob, ooff + n1 * 5 + 4, none⟩ = some (.int .i64 u1)) ∧
                (W1.cell? ⟨g7, 0, none⟩ = some (.string k0) ∧ W1.cell? ⟨g7, 0 + 1, none⟩ = some (.int .i64 q0) ∧ W1.cell? ⟨g7, 0 + 2, none⟩ = some (.bool g0) ∧ W1.cell? ⟨g7, 0 + 3, none⟩ = some (.string v0) ∧ W1.cell? ⟨g7, 0 + 4, none⟩ = some (.int .i64 u0)) ∧ ob < W1.heap.size ∧ g7 < W1.heap.size)) :=
                ⟨HL.out, HE1.out.cells, hob, lt_of_block HE1.out⟩
              have HLS := Lib.hid (fun W : World => less_any k1 q1 g1 v1 u1 k0 q0 g0 v0 u0 W)
              rw [← HX.out] at HLS
              clear hoc hn1
              go_region_held3 (fun w' => ((w'.cell? ⟨ob, ooff + n1 * 5, none⟩ = some (.string k1) ∧ w'.cell? ⟨ob, ooff + n1 * 5 + 1, none⟩ = some (.int .i64 q1) ∧ w'.cell? ⟨ob, ooff + n1 * 5 + 2, none⟩ = some (.bool g1) ∧ w'.cell? ⟨ob, ooff + n1 * 5 + 3, none⟩ = some (.string v1) ∧ w'.cell? ⟨ob, ooff + n1 * 5 + 4, none⟩ = some (.int .i64 u1)) ∧
                (w'.cell? ⟨g7, 0, none⟩ = some (.string k0) ∧ w'.cell? ⟨g7, 0 + 1, none⟩ = some (.int .i64 q0) ∧ w'.cell? ⟨g7, 0 + 2, none⟩ = some (.bool g0) ∧ w'.cell? ⟨g7, 0 + 3, none⟩ = some (.string v0) ∧ w'.cell? ⟨g7, 0 + 4, none⟩ = some (.int .i64 u0)) ∧ ob < w'.heap.size ∧ g7 < w'.heap.size))
                (first | exact H0.out | exact keep10 (W := W1.drew) H0.out hb3)
                (first | (go_at_call 84; refine (HLS.out _).mono ?_; rintro e w5 ⟨rfl, hb3⟩))
              all_goals
                have hz3 := Below.trans ((Below.refl W1.heap.size W1).drew) (hb3.mono (Nat.le_refl _))
                clear hb3
                go_wp2_with fail
                go_meet
                exact ⟨rfl, hz3⟩
          case rest =>
          obtain ⟨rfl, hwc⟩ := hcut
          have HSTc := Lib.hid (HST1.out.below hwc)
          have HOWc := Lib.hid (own_below HOW1.out hwc)
          have HEc := Lib.hid (HE1.out.below hwc)
          have HC2c := Lib.hid ((hwc.cell (p := ⟨g, 0, none⟩) (Nat.lt_of_lt_of_le (lt_of_block HGB.out) HB1.out.size)).trans ((HB1.out.cell (p := ⟨g, 0, none⟩) (lt_of_block HGB.out)).trans HC2.out))
          have HGBc := Lib.hid ((hwc.block g (Nat.lt_of_lt_of_le (lt_of_block HGB.out) HB1.out.size)).trans ((HB1.out.block g (lt_of_block HGB.out)).trans HGB.out))
          clear HST1 HOW1 HE1 hwc HB1 HC2 HGB
          go_upto_if 48 with fail
          go_cut [6] (fun s6 wx => ∃ (q' : Option Addr) (m' dq' : Nat), s6 = .slice q' m' dq' ∧ Hid (HST w w.heap.size (some ⟨g, 0, none⟩) d h wx) ∧ Hid (wx.ownsRow w.heap.size 45 5 (.slice q' m' dq') m' (ecells (mpE out e))) ∧ Hid (m' = (mpE out e).length) ∧ m' ≤ m + 1 ∧ Hid (wx.heap[g]? = some (.cells cs 161 fr)))
          case first =>
            cases bb with
            | true =>
              have HX := Lib.hid (show mpE out e = out ++ [e] by rw [HPUT.out, if_pos (of_decide_eq_true HBB.out.symm)])
              obtain ⟨z0, z1, z2, z3, z4⟩ := HEc.out.cells
              simp only at z0 z1 z2 z3 z4
              go_wp2_with (at_builtin; refine wpList_push2 rfl _ _ 33 rfl Tryz.underlying33 infoAE rfl (by decide) rfl _ rfl ?c1 rfl ?c0 HOWc.out ?c2 ?c3 ?c4 ?_)
              case c0 => rfl
              case c1 => simp [Value.oneCell']
              case c2 => exact HSTc.out.bel.size
              case c3 => unfold maxLen; omega
              case c4 => omega
              intro a5 cap5 w5 hown5 hg5 hb5
              have hk5 := Keeps.grown (ts := [45]) HOWc.out (by simp) hg5
              have HS5 := Lib.hid (HSTc.out.keeps hb5 hk5 (by decide) (by decide))
              have HO5 : Hid (w5.ownsRow w.heap.size 45 5 (.slice a5 (m + 1) cap5) (m + 1) (ecells (mpE out e))) := by rw [HX.out, ecells_snoc, ← HE.out]; exact hown5
              have HG5 := Lib.hid (hk5 _ _ _ _ HGBc.out (by decide))
              clear hown5 hg5 hb5 hk5
              go_wp2_with fail
              go_meet
              exact ⟨a5, m + 1, cap5, rfl, HS5, HO5, Lib.hid (by rw [HX.out, List.length_append, ← hm.out]; rfl), by omega, HG5⟩
            | false =>
              have HX := Lib.hid (show mpE out e = out by rw [HPUT.out, if_neg (of_decide_eq_false HBB.out.symm)])
              go_wp2_with fail
              go_meet
              exact ⟨q, m, dq, rfl, HSTc, by rw [HX.out]; exact HOWc, by rw [HX.out]; exact hm, by omega, HGBc⟩
          case rest =>
          obtain ⟨q', m', dq', rfl, hst, hown, hm', hmm, hgb⟩ := hcut
          have hrr := (own_rrow hst.out.own).2.2
          have hlp : 0 < h.length := by omega
          obtain ⟨b, off, hb0, hgs, hc⟩ := hrr.at hlp
          cases hb0
          have r0c := (hc 0 hlp).1
          have hr0 := HR0.out
          simp only [Nat.zero_mul, Nat.add_zero] at r0c
          rw [← hr0] at r0c
          simp only at r0c
          have hz := hst.out.own.frozenAt 0
          have cb := hst.out.box.cell
          have cg := hst.out.box.lt
          have hgw := hg2
          have m1 : (1 : Int) ≤ (m0 : Int) := by omega
          have m2 : (m0 : Int) ≤ (c0 : Int) := by omega
          have m3 : (1 : Int) ≤ (c0 : Int) := by omega
          clear hrr hc hr0 HEc HC2c HGBc HSTc HOWc
          go_upto_region 14 with fail
          go_region
          have HVX := HVW.out
          clear HVW
          generalize (if c0 = 1 then some (⟨eb, eoff, none⟩ : Addr) else some ⟨eb, eoff + 5, none⟩) = a2 at HVX ⊢
          have HVW := Lib.hid HVX
          clear HVX
          obtain ⟨hs2, hk2⟩ := hst.out.set0 hlp ⟨a2, m0 - 1, c0 - 1, x0, t⟩ (by rw [← HR0.out]) HVW.out
          simp only at hs2 hk2
          have hlen2 : (h.set 0 ⟨a2, m0 - 1, c0 - 1, x0, t⟩).length = h.length := List.length_set
          have HS2 := Lib.hid hs2
          have HO2 := Lib.hid (own_keeps hown.out hk2 (by decide))
          have HM2 := Lib.hid hm'.out
          have HFP := Lib.hid (flat_pred (j := x0) (e := e) (t := t) HXL.out htop)
          have HHE := Lib.hid (set0_heap (r := ⟨a2, m0 - 1, c0 - 1, x0, t⟩) hlp HHP.out)
          have HPT : Hid (∀ k, 1 ≤ k → k < (h.set 0 ⟨a2, m0 - 1, c0 - 1, x0, t⟩).length → 0 < ((h.set 0 ⟨a2, m0 - 1, c0 - 1, x0, t⟩).getD k run0).m) := fun k k1 k2 => by
            rw [hlen2] at k2
            rw [set0_getD hlp k k2, if_neg (by omega)]
            exact hps.out k k2
          have HLX := Lib.hid hlen2
          clear hs2 hk2 hst hown hm' hgb htop hlen2
          by_cases ht : t = []
          · subst ht
            have hm0 : m0 = 1 := hvl.symm
            have hcz : (((m0 - 1 : Nat) : Int) == 0) = true := et (by omega)
            have HMI := Lib.hid (fun h' h1 h2 h3 => MI.popped (h' := h') (e := e) (r := ⟨a2, m0 - 1, c0 - 1, x0, []⟩) hmi.out hlp HHP.out (by rw [← HR0.out]) (by rw [← HR0.out]) h1 h2 h3)
            clear hm0
            go_wp2_with fail
            refine (hpop_any w w.heap.size (some ⟨g, 0, none⟩) d _ _ HS2.out (by rw [HLX.out]; omega) (by rw [HLX.out]; omega) HHE.out HPT.out).mono ?_
            rintro e3 w3 ⟨⟨v3, rfl⟩, h3, hs3, hl3, hh3, hA, hB, hD, hk3⟩
            have HS3 := Lib.hid hs3
            have HO3 := Lib.hid (own_keeps HO2.out hk3 (by decide))
            have HM3 := Lib.hid (HMI.out h3 hA hB hD)
            rw [← HR0.out] at HM3
            have HP3 : Hid (Pos h3.length h3) := fun j hj => by
              obtain ⟨k, k1, k2, ek⟩ := hA _ (getR_mem hj)
              rw [ek]; exact HPT.out k k1 k2
            have HH3 := Lib.hid hh3
            have HL3 := Lib.hid (show h3.length ≤ i by have := HLX.out; omega)
            clear hs3 hk3 hh3 hA hB hD HMI HS2 HO2 HHE
            go_wp2_with fail
            go_roundg (rs.set x0 []).flatten.length
            case rel => exact ⟨rs.set x0 [], h3, some ⟨g, 0, none⟩, d, q', m', dq', mpE out e, rfl, rfl, HS3, HH3, HP3, HM3, HO3, HM2, HL3.out, by have := HFP.out; omega⟩
            case measure => have := HFP.out; omega
          · have hcz : (((m0 - 1 : Nat) : Int) == 0) = false := ef (by have := List.length_pos_iff.2 ht; rw [List.length_cons] at hvl; omega)
            have HMI := Lib.hid (fun h' hs => MI.fixed (h' := h') (e := e) (r := ⟨a2, m0 - 1, c0 - 1, x0, t⟩) hmi.out hlp HHP.out (by rw [← HR0.out]) ht (by rw [← HR0.out]) rfl hs)
            have HPF : Hid (Pos (h.set 0 ⟨a2, m0 - 1, c0 - 1, x0, t⟩).length (h.set 0 ⟨a2, m0 - 1, c0 - 1, x0, t⟩)) := fun k k2 => by
              by_cases k0 : k = 0
              · subst k0
                rw [set0_getD hlp 0 hlp, if_pos rfl]
                show 0 < m0 - 1
                have := List.length_pos_iff.2 ht; rw [List.length_cons] at hvl; omega
              · exact HPT.out k (by omega) k2
            go_wp2_with fail
            refine (fix_any w w.heap.size (some ⟨g, 0, none⟩) d _ _ HS2.out (by rw [HLX.out]; omega) HHE.out HPF.out).mono ?_
            rintro e3 w3 ⟨⟨v3, rfl⟩, h3, hs3, hsm3, hh3, hk3⟩
            have HS3 := Lib.hid hs3
            have HO3 := Lib.hid (own_keeps HO2.out hk3 (by decide))
            have HM3 := Lib.hid (HMI.out h3 hsm3)
            rw [← HR0.out] at HM3
            have HP3 : Hid (Pos h3.length h3) := by rw [hsm3.len]; exact same_pos hsm3 HPF.out
            have HH3 : Hid (HeapFrom h3 h3.length 0) := by rw [hsm3.len]; exact hh3
            have HL3 := Lib.hid (show h3.length ≤ i by rw [hsm3.len, HLX.out]; exact hlh)
            clear hs3 hk3 hh3 hsm3 HMI HS2 HO2 HHE HPF
            go_wp2_with fail
            go_roundg (rs.set x0 t).flatten.length
            case rel => exact ⟨rs.set x0 t, h3, some ⟨g, 0, none⟩, d, q', m', dq', mpE out e, rfl, rfl, HS3, HH3, HP3, HM3, HO3, HM2, HL3.out, by have := HFP.out; omega⟩
            case measure => have := HFP.out; omega
end Go.Proofs.YtpihmjdljbienaaGreatDoor.Mg
