/- The walk of the reference's Compact. -/
import Derived.Test.YtmgdcebbeglcmaaMrgRV
import Derived.Deep.DeepCutAuto
import Derived.Deep.QuietTactic
namespace Go.Proofs.Ytmgdcebbeglcmaa.Ew
open Go.RowKit
open En B
set_option linter.unusedVariables false

theorem filterT_succ (P : Ent → Bool) (K : List Ent) (i : Nat) (h : i < K.length) : (K.take (i + 1)).filter P = (K.take i).filter P ++ (if P (K.getD i ent0) = true then [K.getD i ent0] else []) := filter_take_succ P K i h
theorem filterT_len (P : Ent → Bool) (K : List Ent) (i : Nat) : ((K.take i).filter P).length ≤ i := Nat.le_trans (List.length_filter_le _ _) (by rw [List.length_take]; omega)

theorem firstI_bd (L : List Ent) (key : ByteArray) (s : Int) : -1 ≤ firstI L key s := by unfold firstI; split <;> omega
theorem quiet_first {a : Option Addr} {n cap : Nat} {L : List Ent} {key : ByteArray} {s r : Int} {w : World} {m : Nat}
    (h : ∀ W, ERow W a n (fun i => L.getD i ent0) → Calls Try.prog 28 #[.slice a n cap, .string key, .int .i64 s] W fun e w' => e = .returned (.int .i64 r) ∧ W = w') (hr : ERow w a n (fun i => L.getD i ent0)) :
    Calls Try.prog 28 #[.slice a n cap, .string key, .int .i64 s] (w.drewN m) fun e w'' => e = .returned (.int .i64 r) ∧ ∃ k, w'' = w.drewN k :=
  quiet_add_left (h _ (hr.below (drewN (Below.refl _ _))))

set_option maxHeartbeats 3200000 in
set_option maxRecDepth 100000 in
theorem rcomp_any (a : Option Addr) (n cap : Nat) (L : List Ent) (hl : L.length = n) (hn : n * 56 ≤ 140737488351232) (hso : Sorted L) (w : World) (hr : ERow w a n (fun i => L.getD i ent0))
    (sa : Option Addr) (sn scap : Nat) (z : List Int) (hz : z.length = sn) (hsn : sn ≤ 9223372036854775806) (hzr : Row w sa sn (fun i => .int .i64 (z.getD i 0))) (now : Int) (bot : Bool) :
    Calls Try.prog 19 #[.slice a n cap, .slice sa sn scap, .int .i64 now, .bool bot] w (OwnR w.heap.size 39 (compE L z now bot) w) := by
  have HL := Lib.hid hl
  have HS := Lib.hid hso
  have HR := Lib.hid hr
  have HZ := Lib.hid hz
  have HZR := Lib.hid hzr
  clear hl hr hso hz hzr
  go_enter Try.func19, Try.ntmps19
  go_wp2_with fail
  go_loopw [9, 10] (fun so si wr => ∃ (i : Nat) (m : Nat) (p : Option Addr) (d : Nat), si = .int .i64 i ∧ i ≤ n ∧ m ≤ i ∧ so = .slice p m d ∧ Hid (wr.ownsRow w.heap.size 39 5 (.slice p m d) m (ecells (keptT L z i))) ∧ Hid (m = (keptT L z i).length) ∧ Below w.heap.size w wr) (fun _ si _ => n - (intOf si).toNat)
  case atStart => exact ⟨0, 0, none, 0, rfl, by omega, by omega, rfl, World.ownsRow_nil _ _ _ _, rfl, Below.refl _ _⟩
  case round =>
    obtain ⟨i, m, p, d, rfl, hi, hmi, rfl, hown, hm, hbel⟩ := hrel
    by_cases hlt : i < n
    · obtain ⟨b, off, rfl, hb, hc⟩ := (HR.out.below hbel).at (by omega)
      have HC := Lib.hid hc
      have hd := hc i hlt
      have hks := Lib.hid (keptT_succ L z i (by rw [HL.out]; exact hlt))
      have hft := Lib.hid (fun s => first_top (s := s) HS.out (i := i) (by rw [HL.out]; exact hlt) (firstI_is L _ s))
      have hhr := Lib.hid (head_ref HS.out (i := i) (by rw [HL.out]; exact hlt))
      have hk0 := Lib.hid (kbT_0 L z (L.getD i ent0))
      have hk1 := Lib.hid (kbT_succ L z (L.getD i ent0))
      have hk2 := Lib.hid (kbT_all L z (L.getD i ent0))
      have hfc := Lib.hid (fun W h key s => rfirst2_any (some ⟨b, off, none⟩) n cap L HL.out (by omega) W h key s)
      have HRW := Lib.hid (HR.out.below hbel)
      have hx0 : ∃ x, x = L.getD i ent0 := ⟨_, rfl⟩
      obtain ⟨x, hx⟩ := hx0
      rw [← hx] at hd hks hft hk0 hk1 hk2
      have HX := Lib.hid hx
      obtain ⟨k1, q1, g1, v1, u1⟩ := x
      simp only at hd hft
      obtain ⟨d0, d1, d2, d3, d4⟩ := hd
      have i1 : (0 : Int) ≤ (i : Int) := by omega
      have i2 : (i : Int) < (n : Int) := by omega
      have HB := Lib.hid hb
      clear hc hb hx
      go_upto_if 28 with fail
      go_cut [11] (fun s11 wx => s11 = .bool (headB L ⟨k1, q1, g1, v1, u1⟩) ∧ ∃ nd, wx = wr.drewN nd)
      case first =>
        by_cases h0 : i = 0
        · have hh : headB L ⟨k1, q1, g1, v1, u1⟩ = true := by rw [HX.out]; exact hhr.out.2 (.inl h0)
          have HH := Lib.hid hh
          clear hh
          subst h0
          go_wp2_with fail
          go_meet
          exact ⟨by rw [HH.out], 0, rfl⟩
        · have e0 := HC.out (i - 1) (by omega)
          have j1 : (0 : Int) ≤ ((i : Int) - 1) := by omega
          have j2 : ((i : Int) - 1) < (n : Int) := by omega
          have j3 : ((i : Int) - 1).toNat = i - 1 := by omega
          have j4 : IntKind.i64.wrap ((i : Int) - 1) = (i : Int) - 1 := by refine IntWalk.i64_in _ ?_; omega
          have e1 : ((i : Int) == 0) = false := ef (by omega)
          obtain ⟨y, hy⟩ : ∃ y, y = L.getD (i - 1) ent0 := ⟨_, rfl⟩
          rw [← hy] at e0
          have HY := Lib.hid hy
          obtain ⟨k2, q2, g2, v2, u2⟩ := y
          simp only at e0
          have c0 := e0.1
          have hhk : headB L ⟨k1, q1, g1, v1, u1⟩ = (k2.toList != k1.toList) := by
            have := hhr.out
            rw [← HX.out, ← HY.out] at this
            simp only at this
            rw [Bool.eq_iff_iff, this]
            constructor
            · rintro (h | h)
              · omega
              · exact bne_iff_ne.2 fun e => h (toList_inj e)
            · intro h
              exact .inr fun e => by rw [e] at h; simp at h
          have HH := Lib.hid hhk
          have h0' : 0 < i := by omega
          clear hy e0 hhk h0
          go_wp2_with fail
          go_quiet (fail)
          go_wp2_with fail
          go_meet
          exact ⟨by rw [HH.out]; rfl, _, rfl⟩
      case rest =>
      obtain ⟨rfl, nd, rfl⟩ := hcut
      have hb1 : Below wr.heap.size wr (wr.drewN nd) := drewN (Below.refl _ _)
      have HRW1 := Lib.hid (HRW.out.below hb1)
      have hown1 := Lib.hid (own_below hown.out hb1)
      have hbel1 := chain hbel hb1
      have hs1 : (wr.drewN nd).heap.size = wr.heap.size := rfl
      have HB1 : Hid (b < (wr.drewN nd).heap.size) := HB.out
      replace d0 : (wr.drewN nd).cell? ⟨b, off + i * 5, none⟩ = some (.string k1) := d0
      replace d1 : (wr.drewN nd).cell? ⟨b, off + i * 5 + 1, none⟩ = some (.int .i64 q1) := d1
      replace d2 : (wr.drewN nd).cell? ⟨b, off + i * 5 + 2, none⟩ = some (.bool g1) := d2
      replace d3 : (wr.drewN nd).cell? ⟨b, off + i * 5 + 3, none⟩ = some (.string v1) := d3
      replace d4 : (wr.drewN nd).cell? ⟨b, off + i * 5 + 4, none⟩ = some (.int .i64 u1) := d4
      clear hb1 hown hbel HRW hhr HC HB
      generalize wr.drewN nd = wn at *
      clear hs1
      go_wp2_with fail
      go_loopw [11, 12] (fun s11 s12 wk => ∃ k : Nat, k ≤ sn ∧ s12 = .int .i64 k ∧ s11 = .bool (kbT L z ⟨k1, q1, g1, v1, u1⟩ k) ∧ Below wn.heap.size wn wk) (fun _ s12 _ => sn - (intOf s12).toNat)
      case atStart => exact ⟨0, by omega, rfl, by rw [hk0.out], Below.refl _ _⟩
      case round =>
        obtain ⟨k, hk, rfl, rfl, hb2⟩ := hrel
        by_cases hkn : k < sn
        · obtain ⟨sb, soff, rfl, hsb, hsc⟩ := (HZR.out.below (chain hbel1 hb2)).at (by omega)
          have hs := hsc k hkn
          have hsu := Lib.hid (hk1.out k (by rw [HZ.out]; exact hkn))
          have hft2 := Lib.hid (hft.out (z.getD k 0))
          have hfc2 := Lib.hid (fun W h => hfc.out W h k1 (z.getD k 0))
          have hfr := firstI_bd L k1 (z.getD k 0)
          generalize z.getD k 0 = s at hs hsu hft2 hfc2 hfr
          generalize firstI L k1 s = fi at hft2 hfc2 hfr
          have k3 : (0 : Int) ≤ (k : Int) := by omega
          have k4 : (k : Int) < (sn : Int) := by omega
          have HRW2 := Lib.hid (HRW1.out.below hb2)
          have c0 := (hb2.cell (p := ⟨b, off + i * 5, none⟩) HB1.out).trans d0
          clear hsc hsb d0 d1 d2 d3 d4
          by_cases hfi : fi = (i : Int)
          · have htb := hft2.out.1 hfi
            have er : (fi == (i : Int)) = true := et hfi
            have HFI := Lib.hid hfi
            have HV := Lib.hid (show kbT L z ⟨k1, q1, g1, v1, u1⟩ (k + 1) = true by rw [hsu.out, htb, Bool.or_true])
            clear hfi htb
            go_wp2_with fail
            go_quiet ((go_at_call 28; exact quiet_first (hfc2.out) HRW2.out))
            go_wp2_with fail
            go_roundw
            case rel => exact ⟨k + 1, by omega, by go_num, by rw [HV.out], drewN hb2⟩
            case measure => simp [intOf]; omega
          · have er : (fi == (i : Int)) = false := ef hfi
            have htb : topB L s ⟨k1, q1, g1, v1, u1⟩ = false := by
              cases h : topB L s ⟨k1, q1, g1, v1, u1⟩ with
              | false => rfl
              | true => exact absurd (hft2.out.2 h) hfi
            have HV := Lib.hid (show kbT L z ⟨k1, q1, g1, v1, u1⟩ (k + 1) = kbT L z ⟨k1, q1, g1, v1, u1⟩ k by rw [hsu.out, htb, Bool.or_false])
            clear hfi htb
            go_wp2_with fail
            go_quiet ((go_at_call 28; exact quiet_first (hfc2.out) HRW2.out))
            go_wp2_with fail
            go_roundw
            case rel => exact ⟨k + 1, by omega, by go_num, by rw [HV.out], drewN hb2⟩
            case measure => simp [intOf]; omega
        · obtain rfl : k = sn := by omega
          have hka := hk2.out
          rw [HZ.out] at hka
          have hown2 := Lib.hid (own_below hown1.out hb2)
          have hbel2 := chain hbel1 hb2
          rw [hka]
          have HKA := Lib.hid hka
          have c0 := (hb2.cell (p := ⟨b, off + i * 5, none⟩) HB1.out).trans d0
          have c1 := (hb2.cell (p := ⟨b, off + i * 5 + 1, none⟩) HB1.out).trans d1
          have c2 := (hb2.cell (p := ⟨b, off + i * 5 + 2, none⟩) HB1.out).trans d2
          have c3 := (hb2.cell (p := ⟨b, off + i * 5 + 3, none⟩) HB1.out).trans d3
          have c4 := (hb2.cell (p := ⟨b, off + i * 5 + 4, none⟩) HB1.out).trans d4
          clear hka hb2 d0 d1 d2 d3 d4 hft hk0 hk1 hk2 hfc HKA hown1 hbel1
          cases hkb : keepB L z ⟨k1, q1, g1, v1, u1⟩ with
          | true =>
            have HV := Lib.hid (show keptT L z (i + 1) = keptT L z i ++ [⟨k1, q1, g1, v1, u1⟩] by rw [hks.out, hkb]; rfl)
            clear hkb hks
            go_wp2_with (at_builtin; refine wpList_push2 rfl _ _ 24 rfl Try.underlying24 infoR06 rfl (by decide) rfl _ rfl ?c1 rfl rfl hown2.out ?c2 ?c3 ?c4 ?_)
            case c1 => simp [Value.oneCell']
            case c2 => exact hbel2.size
            case c3 => unfold maxLen; omega
            case c4 => omega
            intro a' cap' w5 hown5 _ hb5
            have HW : Hid (w5.ownsRow w.heap.size 39 5 (.slice a' (m + 1) cap') (m + 1) (ecells (keptT L z (i + 1)))) := by rw [HV.out, ecells_snoc]; exact hown5
            have hb6 := hbel2.trans hb5
            have hm2 : Hid (m + 1 = (keptT L z (i + 1)).length) := by rw [HV.out, List.length_append, ← hm.out]; rfl
            clear hown5 hb5
            go_wp2_with fail
            go_roundw
            case rel => exact ⟨i + 1, m + 1, a', cap', by go_num, by omega, by omega, rfl, HW, hm2, hb6⟩
            case measure => simp [intOf]; omega
          | false =>
            have HV := Lib.hid (show keptT L z (i + 1) = keptT L z i by rw [hks.out, hkb]; exact List.append_nil _)
            clear hkb hks
            go_wp2_with fail
            go_roundw
            case rel => exact ⟨i + 1, m, p, d, by go_num, by omega, by omega, rfl, by rw [HV.out]; exact hown2, by rw [HV.out]; exact hm, hbel2⟩
            case measure => simp [intOf]; omega
    · obtain rfl : i = n := by omega
      have hke : keptT L z i = keptE L z := by rw [← HL.out]; exact keptT_all L z
      rw [hke] at hown hm
      have HSK := Lib.hid (sorted_filter (keepB L z) HS.out)
      have hce := Lib.hid (show compE L z now bot = if bot then (keptE L z).filter (lateB (keptE L z) now) else keptE L z from rfl)
      have hsk : L.filter (keepB L z) = keptE L z := rfl
      rw [hsk] at HSK
      clear hke hsk
      generalize keptE L z = K at hown hm HSK hce
      cases bot with
      | false =>
        go_wp2_with fail
        go_ret
        have hm2 := hm.out
        have ho := hown.out
        subst hm2
        rw [hce.out]
        exact ⟨p, d, rfl, ho, hbel⟩
      | true =>
        rw [if_pos rfl] at hce
        have HK := Lib.hid (own_erow hown.out).2.2
        have HB0 := Lib.hid hbel
        clear hbel hown
        obtain ⟨w3, rfl⟩ : ∃ w3 : World, w3 = wr := ⟨_, rfl⟩
        go_wp2_with fail
        go_loopw [14, 15] (fun so si wt => ∃ (j : Nat) (t : Nat) (p2 : Option Addr) (d2 : Nat), si = .int .i64 j ∧ j ≤ m ∧ t ≤ j ∧ so = .slice p2 t d2 ∧ Hid (wt.ownsRow w3.heap.size 39 5 (.slice p2 t d2) t (ecells ((K.take j).filter (lateB K now)))) ∧ Hid (t = ((K.take j).filter (lateB K now)).length) ∧ Below w3.heap.size w3 wt) (fun _ si _ => m - (intOf si).toNat)
        case atStart => exact ⟨0, 0, none, 0, rfl, by omega, by omega, rfl, World.ownsRow_nil _ _ _ _, rfl, Below.refl _ _⟩
        case round =>
          obtain ⟨j, t, p2, d2, rfl, hj, htj, rfl, hown, ht, hbel⟩ := hrel
          by_cases hjm : j < m
          · have hfs := Lib.hid (filterT_succ (lateB K now) K j (by rw [← hm.out]; exact hjm))
            have hlr := Lib.hid (late_ref (now := now) HSK.out (i := j) (by rw [← hm.out]; exact hjm))
            obtain ⟨kb, koff, rfl, hkb, hkc⟩ := (HK.out.below hbel).at (by omega)
            have HKC := Lib.hid hkc
            have HKB := Lib.hid hkb
            have hd := hkc j hjm
            obtain ⟨x, hx⟩ : ∃ x, x = K.getD j ent0 := ⟨_, rfl⟩
            rw [← hx] at hd hfs
            have HX := Lib.hid hx
            obtain ⟨k1, q1, g1, v1, u1⟩ := x
            simp only at hd
            obtain ⟨d0, d1, d2', d3, d4⟩ := hd
            have j1 : (0 : Int) ≤ (j : Int) := by omega
            have j2 : (j : Int) < (m : Int) := by omega
            clear hkc hkb hx
            obtain ⟨wt, rfl⟩ : ∃ wt : World, wt = wr := ⟨_, rfl⟩
            go_wp2_with fail
            go_loopw [16, 17] (fun s16 s17 wk => ∃ (k : Nat) (sm : Bool), j ≤ k ∧ k ≤ m ∧ s17 = .int .i64 k ∧ s16 = .bool sm ∧ Hid (sm = true ↔ laT K now j k) ∧ Below wt.heap.size wt wk) (fun _ s17 _ => m - (intOf s17).toNat)
            case atStart => exact ⟨j, false, by omega, by omega, rfl, rfl, (⟨(fun h => by cases h), (fun h => absurd h (laT_no K now j))⟩), Below.refl _ _⟩
            case round =>
              obtain ⟨k, sm, hjk, hk, rfl, rfl, hsm, hb2⟩ := hrel
              by_cases hkm : k < m
              · have he := HKC.out k hkm
                have hls := Lib.hid (laT_succ (K := K) (now := now) hjk)
                obtain ⟨y, hy⟩ : ∃ y, y = K.getD k ent0 := ⟨_, rfl⟩
                rw [← hy, ← HX.out] at hls
                rw [← hy] at he
                obtain ⟨k3, q3, g3, v3, u3⟩ := y
                simp only at he hls
                obtain ⟨e0, e1, e2, e3, e4⟩ := he
                have c0 := (hb2.cell (p := ⟨kb, koff + k * 5, none⟩) HKB.out).trans e0
                have c1 := (hb2.cell (p := ⟨kb, koff + k * 5 + 1, none⟩) HKB.out).trans e1
                have c2 := (hb2.cell (p := ⟨kb, koff + k * 5 + 2, none⟩) HKB.out).trans e2
                have c3 := (hb2.cell (p := ⟨kb, koff + k * 5 + 3, none⟩) HKB.out).trans e3
                have c4 := (hb2.cell (p := ⟨kb, koff + k * 5 + 4, none⟩) HKB.out).trans e4
                have hal := Lib.hid (fun W => ralive_any k3 q3 g3 v3 u3 now W)
                generalize aliveE ⟨k3, q3, g3, v3, u3⟩ now = al at hal hls
                have k4 : (0 : Int) ≤ (k : Int) := by omega
                have k5 : (k : Int) < (m : Int) := by omega
                have HE0 := Lib.hid e0
                have HD0 := Lib.hid d0
                clear hy e0 e1 e2 e3 e4 d0 d1 d2' d3 d4
                go_wp2_with fail
                refine (hal.out _).mono ?_
                rintro e w6 ⟨rfl, hb6⟩
                have hb7 := chain hb2 hb6
                have f0 := (hb7.cell (p := ⟨kb, koff + k * 5, none⟩) HKB.out).trans HE0.out
                have f1 := (hb7.cell (p := ⟨kb, koff + j * 5, none⟩) HKB.out).trans HD0.out
                clear hb6 c0 c1 c2 c3 c4 hb2
                by_cases hkk : k3 = k1
                · have ek : (k3.toList == k1.toList) = true := by rw [hkk]; exact beq_self_eq_true _
                  have HKK := Lib.hid hkk
                  clear hkk
                  cases al with
                  | true =>
                    have HN : Hid (laT K now j (k + 1)) := hls.out.2 (.inr ⟨HKK.out, rfl⟩)
                    clear hls
                    go_wp2_with fail
                    go_quiet (fail)
                    go_wp2_with fail
                    go_roundw
                    case rel => exact ⟨k + 1, true, by omega, by omega, by go_num, rfl, ⟨fun _ => HN.out, fun _ => rfl⟩, drewN hb7⟩
                    case measure => simp [intOf]; omega
                  | false =>
                    have HN : Hid (sm = true ↔ laT K now j (k + 1)) := hsm.out.trans ⟨fun h => hls.out.2 (.inl h), fun h => (hls.out.1 h).elim id (fun hh => by cases hh.2)⟩
                    clear hls hsm
                    go_wp2_with fail
                    go_quiet (fail)
                    go_wp2_with fail
                    go_roundw
                    case rel => exact ⟨k + 1, sm, by omega, by omega, by go_num, rfl, HN, drewN hb7⟩
                    case measure => simp [intOf]; omega
                · have ek : (k3.toList == k1.toList) = false := beq_eq_false_iff_ne.2 fun e => hkk (toList_inj e)
                  have HN : Hid (sm = true ↔ laT K now j (k + 1)) := hsm.out.trans ⟨fun h => hls.out.2 (.inl h), fun h => (hls.out.1 h).elim id (fun hh => absurd hh.1 hkk)⟩
                  clear hkk hls hsm
                  go_wp2_with fail
                  go_quiet (fail)
                  go_wp2_with fail
                  go_roundw
                  case rel => exact ⟨k + 1, sm, by omega, by omega, by go_num, rfl, HN, drewN hb7⟩
                  case measure => simp [intOf]; omega
              · obtain rfl : k = m := by omega
                have c0 := (hb2.cell (p := ⟨kb, koff + j * 5, none⟩) HKB.out).trans d0
                have c1 := (hb2.cell (p := ⟨kb, koff + j * 5 + 1, none⟩) HKB.out).trans d1
                have c2 := (hb2.cell (p := ⟨kb, koff + j * 5 + 2, none⟩) HKB.out).trans d2'
                have c3 := (hb2.cell (p := ⟨kb, koff + j * 5 + 3, none⟩) HKB.out).trans d3
                have c4 := (hb2.cell (p := ⟨kb, koff + j * 5 + 4, none⟩) HKB.out).trans d4
                have hlq : lateB K now ⟨k1, q1, g1, v1, u1⟩ = sm := by
                  rw [Bool.eq_iff_iff, HX.out, hlr.out, hsm.out, hm.out]
                have hown2 := Lib.hid (own_below hown.out hb2)
                have hbel2 := chain hbel hb2
                have HLQ := Lib.hid hlq
                clear hlq d0 d1 d2' d3 d4 hb2 hown hbel hlr hsm
                cases sm with
                | true =>
                  have HV := Lib.hid (show (K.take (j + 1)).filter (lateB K now) = (K.take j).filter (lateB K now) ++ [⟨k1, q1, g1, v1, u1⟩] by rw [hfs.out, HLQ.out]; rfl)
                  clear hfs HLQ
                  go_wp2_with (at_builtin; refine wpList_push2 rfl _ _ 24 rfl Try.underlying24 infoR06 rfl (by decide) rfl _ rfl ?d1 rfl rfl hown2.out ?d2 ?d3 ?d4 ?_)
                  case d1 => simp [Value.oneCell']
                  case d2 => exact hbel2.size
                  case d3 => unfold maxLen; omega
                  case d4 => omega
                  intro a' cap' w5 hown5 _ hb5
                  have HW : Hid (w5.ownsRow w3.heap.size 39 5 (.slice a' (t + 1) cap') (t + 1) (ecells ((K.take (j + 1)).filter (lateB K now)))) := by rw [HV.out, ecells_snoc]; exact hown5
                  have hb6 := hbel2.trans hb5
                  have hm2 : Hid (t + 1 = ((K.take (j + 1)).filter (lateB K now)).length) := by rw [HV.out, List.length_append, ← ht.out]; rfl
                  clear hown5 hb5
                  go_wp2_with fail
                  go_roundw
                  case rel => exact ⟨j + 1, t + 1, a', cap', by go_num, by omega, by omega, rfl, HW, hm2, hb6⟩
                  case measure => simp [intOf]; omega
                | false =>
                  have HV := Lib.hid (show (K.take (j + 1)).filter (lateB K now) = (K.take j).filter (lateB K now) by rw [hfs.out, HLQ.out]; exact List.append_nil _)
                  clear hfs HLQ
                  go_wp2_with fail
                  go_roundw
                  case rel => exact ⟨j + 1, t, p2, d2, by go_num, by omega, by omega, rfl, by rw [HV.out]; exact hown2, by rw [HV.out]; exact ht, hbel2⟩
                  case measure => simp [intOf]; omega
          · obtain rfl : j = m := by omega
            go_wp2_with fail
            go_ret
            have ht2 := ht.out
            have ho := hown.out
            have he : (K.take j).filter (lateB K now) = K.filter (lateB K now) := by rw [hm.out, List.take_length]
            rw [he] at ht2 ho
            subst ht2
            rw [hce.out]
            exact ⟨p2, d2, rfl, own_lower ho HB0.out.size, HB0.out.trans (hbel.mono HB0.out.size)⟩
end Go.Proofs.Ytmgdcebbeglcmaa.Ew
