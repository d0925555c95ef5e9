/- The walks of the reference's Cost and Put. -/
import Derived.Test.YtdhnkalkfipmhaaSkipW
import Derived.Test.YtdhnkalkfipmhaaEqE
import Derived.Test.YtdhnkalkfipmhaaOnly
import Derived.BigQuiet
namespace Go.Proofs.Ytdhnkalkfipmhaa.Ew
open Go.RowKit
open En B
set_option linter.unusedVariables false

/-- the reference's list -/
def RB (w : World) (rb : Nat) (ca : Option Addr) (cn cc : Nat) (la : Option Addr) (ln lc : Nat) (size : Int) : Prop :=
  w.heap[rb]? = some (.cells #[.slice ca cn cc, .slice la ln lc, .int .i64 size] 48 (0, 0))
theorem RB.below {w w' : World} {rb cn cc ln lc : Nat} {ca la : Option Addr} {size : Int} (h : RB w rb ca cn cc la ln lc size) (k : Below w.heap.size w w') : RB w' rb ca cn cc la ln lc size := (k.block rb (lt_of_block h)).trans h
theorem RB.cells {w : World} {rb cn cc ln lc : Nat} {ca la : Option Addr} {size : Int} (h : RB w rb ca cn cc la ln lc size) : w.cell? ⟨rb, 0, none⟩ = some (.slice ca cn cc) ∧ w.cell? ⟨rb, 1, none⟩ = some (.slice la ln lc) ∧ w.cell? ⟨rb, 2, none⟩ = some (.int .i64 size) :=
  ⟨cell_of_row w rb 0 _ _ _ h, cell_of_row w rb 1 _ _ _ h, cell_of_row w rb 2 _ _ _ h⟩
theorem RB.fz {w : World} {rb cn cc ln lc : Nat} {ca la : Option Addr} {size : Int} (h : RB w rb ca cn cc la ln lc size) (k : Nat) : w.frozen? ⟨rb, k, none⟩ = false := by
  unfold RB at h; simp [World.frozen?, h]
theorem RB.setSize {w : World} {rb cn cc ln lc : Nat} {ca la : Option Addr} {size : Int} (h : RB w rb ca cn cc la ln lc size) (s : Int) : RB (w.setCell ⟨rb, 2, none⟩ (.int .i64 s)) rb ca cn cc la ln lc s := by
  unfold RB at h ⊢; rw [heap_setCell_same w rb 2 _ _ _ h]; rfl
theorem RB.setL {w : World} {rb cn cc ln lc ln' lc' : Nat} {ca la la' : Option Addr} {size : Int} (h : RB w rb ca cn cc la ln lc size) : RB (w.setCell ⟨rb, 1, none⟩ (.slice la' ln' lc')) rb ca cn cc la' ln' lc' size := by
  unfold RB at h ⊢; rw [heap_setCell_same w rb 1 _ _ _ h]; rfl
theorem infoRef06 : (Try.prog.info? 55).map (fun i => (i.zero, i.size, i.bytes)) = some (some (.agg #[.string ⟨#[]⟩, .int .i64 0, .bool false, .string ⟨#[]⟩, .int .i64 0]), 5, 56) := by kernel_rfl

set_option maxHeartbeats 800000 in
set_option maxRecDepth 100000 in
theorem rcost_any (w : World) (rb cn cc ln lc : Nat) (ca la : Option Addr) (size : Int) (z : List Int) (hl : RB w rb ca cn cc la ln lc size) (hz : z.length = cn) (hk : ln ≤ 1000000) (hn : cn ≤ 9223372036854775807) (hb : I64s z) (hr : Row w ca cn (fun i => .int .i64 (z.getD i 0)))
    (k : ByteArray) (q : Int) (g : Bool) (v : ByteArray) (u : Int) (hk1 : k.size ≤ 140737488351232) (hv1 : v.size ≤ 140737488351232) :
    Calls Try.prog 39 #[.pointer (some ⟨rb, 0, none⟩), .agg #[.string k, .int .i64 q, .bool g, .string v, .int .i64 u]] w fun e w' => e = .returned (.int .i64 (costE z ln ⟨k, q, g, v, u⟩)) ∧ Below w.heap.size w w' := by
  have hB0 := below_alloc (Below.refl w.heap.size w) (.cells #[.string k, .int .i64 q, .bool g, .string v, .int .i64 u] 55)
  have hE0 : EBox (w.alloc (.cells #[.string k, .int .i64 q, .bool g, .string v, .int .i64 u] 55)) w.heap.size 55 ⟨k, q, g, v, u⟩ := heap_alloc_new _ _
  have hl0 := hl.below hB0
  have hr0 := hr.below hB0
  obtain ⟨l0, l1, _⟩ := hl0.cells
  obtain ⟨i0, i1, i2, i3, i4⟩ := hE0.cells
  simp only at i0 i1 i2 i3 i4
  obtain ⟨r, hrr⟩ : ∃ r, r = costE z ln ⟨k, q, g, v, u⟩ := ⟨_, rfl⟩
  rw [← hrr]
  unfold costE coinH at hrr
  simp only at hrr
  by_cases h0 : cn = 0
  · rw [if_pos (by omega)] at hrr
    subst h0
    have HR := Lib.hid hrr
    clear hrr hl hl0 hr hr0 hE0
    go_enter Try.func39, Try.ntmps39
    go_wp2_with fail
    go_ret
    rw [HR.out]
    exact ⟨by simp, hB0⟩
  · rw [if_neg (by omega)] at hrr
    obtain ⟨b, off, rfl, hbl, hc⟩ := hr0.at (by omega)
    rw [hz] at hrr
    have hjl : ln % cn < cn := Nat.mod_lt _ (by omega)
    have hj := hc (ln % cn) hjl
    obtain ⟨j, hjj⟩ : ∃ j, j = ln % cn := ⟨_, rfl⟩
    have hmod : (ln : Int) % (cn : Int) = (j : Int) := by rw [hjj]; omega
    rw [← hjj] at hj hrr hjl
    have hx : -9223372036854775808 ≤ z.getD j 0 ∧ z.getD j 0 ≤ 9223372036854775807 := by
      rw [List.getD_eq_getElem?_getD, List.getElem?_eq_getElem (by omega)]
      exact hb _ (List.getElem_mem _)
    generalize z.getD j 0 = c at hj hrr hx
    have HR := Lib.hid hrr
    have d1 : (0 : Int) ≤ (j : Int) := by omega
    have d2 : (j : Int) < (cn : Int) := by omega
    have hcn1 : 1 ≤ cn := by omega
    clear hrr hjj hc hb hr hz hl hl0 hr0 hE0
    unfold coin at HR
    by_cases hc0 : c < 0
    · rw [if_pos hc0] at HR
      obtain ⟨x, hx9⟩ : ∃ x : Nat, -(c + 1) = (x : Int) := ⟨(-(c + 1)).toNat, by omega⟩
      have hx7 : -1 - c = (x : Int) := by omega
      have hx8 : (x : Int) ≤ 9223372036854775807 := by omega
      rw [hx9] at HR
      clear hx9
      go_enter Try.func39, Try.ntmps39
      go_wp2_with fail
      go_quiet (fail)
      go_wp2_with fail
      go_ret
      rw [HR.out]
      exact ⟨rfl, drewN hB0⟩
    · rw [if_neg hc0] at HR
      go_enter Try.func39, Try.ntmps39
      go_wp2_with fail
      go_quiet (fail)
      go_wp2_with fail
      go_ret
      rw [HR.out]
      exact ⟨rfl, drewN hB0⟩

def RS (w : World) (B rb : Nat) (z : List Int) (L : List Ent) (size : Int) : Prop :=
  ∃ ca cc la lc, B ≤ rb ∧ RB w rb ca z.length cc la L.length lc size ∧ w.ownsRow B 3 1 (.slice ca z.length cc) z.length (z.map (Value.int .i64)) ∧ w.ownsRow B 55 5 (.slice la L.length lc) L.length (ecells L)
theorem RS.below {w w' : World} {B rb : Nat} {z : List Int} {L : List Ent} {size : Int} (h : RS w B rb z L size) (k : Below w.heap.size w w') : RS w' B rb z L size := by
  obtain ⟨ca, cc, la, lc, h1, h2, h3, h4⟩ := h
  exact ⟨ca, cc, la, lc, h1, h2.below k, own_below h3 k, own_below h4 k⟩
/-- the reference's list behind a put, and the answer -/
def RPutR (w : World) (B rb : Nat) (z : List Int) (L : List Ent) (size : Int) (x : Ent) (e : Ending) (w' : World) : Prop :=
  e = .returned (.int .i64 (skE L x).2) ∧ RS w' B rb z (skE L x).1 (if (skE L x).2 = 0 then size + costE z L.length x else size) ∧ Only rb w w' ∧ Below B w w'
theorem there_of {L : List Ent} {x : Ent} {i : Nat} (hi : i < L.length) (h : sameK (L.getD i ent0) x = true) : thereE L x = true := by
  unfold thereE
  rw [List.any_eq_true]
  refine ⟨L.getD i ent0, ?_, h⟩
  rw [List.getD_eq_getElem?_getD, List.getElem?_eq_getElem hi]
  exact List.getElem_mem hi
theorem there_not {L : List Ent} {x : Ent} (h : ∀ i, i < L.length → sameK (L.getD i ent0) x = false) : thereE L x = false := by
  cases ht : thereE L x with
  | false => rfl
  | true =>
    unfold thereE at ht
    rw [List.any_eq_true] at ht
    obtain ⟨y, hy, hs⟩ := ht
    obtain ⟨j, hj, rfl⟩ := List.getElem_of_mem hy
    have := h j hj
    rw [List.getD_eq_getElem?_getD, List.getElem?_eq_getElem hj] at this
    simp only [Option.getD_some] at this
    rw [this] at hs; cases hs

theorem own_lower {w : World} {B B' n size : Nat} {e : TypeId} {v : Value} {xs : List Value} (h : w.ownsRow B e size v n xs) (hb : B' ≤ B) : w.ownsRow B' e size v n xs := by
  refine ⟨h.1, ?_⟩
  rcases h.2 with hv | ⟨g, cap, cur, h1, h2, h3⟩
  · exact .inl hv
  · exact .inr ⟨g, cap, cur, h1, by omega, h3⟩
theorem keep11 {W W' : World} {b1 b2 b3 o1 o2 o3 : Nat} {a0 a1 a2 a3 a4 c0 c1 c2 c3 c4 d : Value}
    (h : ((W.cell? ⟨b1, o1, none⟩ = some a0 ∧ W.cell? ⟨b1, o1 + 1, none⟩ = some a1 ∧ W.cell? ⟨b1, o1 + 2, none⟩ = some a2 ∧ W.cell? ⟨b1, o1 + 3, none⟩ = some a3 ∧ W.cell? ⟨b1, o1 + 4, none⟩ = some a4) ∧
      (W.cell? ⟨b2, o2, none⟩ = some c0 ∧ W.cell? ⟨b2, o2 + 1, none⟩ = some c1 ∧ W.cell? ⟨b2, o2 + 2, none⟩ = some c2 ∧ W.cell? ⟨b2, o2 + 3, none⟩ = some c3 ∧ W.cell? ⟨b2, o2 + 4, none⟩ = some c4) ∧ b1 < W.heap.size ∧ b2 < W.heap.size) ∧ W.cell? ⟨b3, o3, none⟩ = some d ∧ b3 < W.heap.size)
    (k : Below W.heap.size W W') :
    ((W'.cell? ⟨b1, o1, none⟩ = some a0 ∧ W'.cell? ⟨b1, o1 + 1, none⟩ = some a1 ∧ W'.cell? ⟨b1, o1 + 2, none⟩ = some a2 ∧ W'.cell? ⟨b1, o1 + 3, none⟩ = some a3 ∧ W'.cell? ⟨b1, o1 + 4, none⟩ = some a4) ∧
      (W'.cell? ⟨b2, o2, none⟩ = some c0 ∧ W'.cell? ⟨b2, o2 + 1, none⟩ = some c1 ∧ W'.cell? ⟨b2, o2 + 2, none⟩ = some c2 ∧ W'.cell? ⟨b2, o2 + 3, none⟩ = some c3 ∧ W'.cell? ⟨b2, o2 + 4, none⟩ = some c4) ∧ b1 < W'.heap.size ∧ b2 < W'.heap.size) ∧ W'.cell? ⟨b3, o3, none⟩ = some d ∧ b3 < W'.heap.size :=
  ⟨keep10s h.1 k, (k.cell (p := ⟨b3, o3, Option.none⟩) h.2.2).trans h.2.1, Nat.lt_of_lt_of_le h.2.2 k.size⟩

set_option maxHeartbeats 3200000 in
set_option maxRecDepth 100000 in
theorem rput_any (w : World) (B rb : Nat) (z : List Int) (L : List Ent) (size : Int) (hB : B ≤ w.heap.size) (hrs : RS w B rb z L size) (hsrt : Sorted L) (hnn : L.length ≤ 100000) (hz9 : z.length ≤ 9223372036854775807) (hzb : I64s z) (hsz : 0 ≤ size ∧ size ≤ 1000000000)
    (k : ByteArray) (q : Int) (g : Bool) (v : ByteArray) (u : Int) :
    Calls Try.prog 41 #[.pointer (some ⟨rb, 0, none⟩), .agg #[.string k, .int .i64 q, .bool g, .string v, .int .i64 u]] w (RPutR w B rb z L size ⟨k, q, g, v, u⟩) := by
  obtain ⟨P, hP⟩ : ∃ P, P = RPutR w B rb z L size ⟨k, q, g, v, u⟩ := ⟨_, rfl⟩
  rw [← hP]
  have HP := Lib.hid hP
  have HGD := Lib.hid (fun W => rgood_any k q g v u W)
  have HRS := Lib.hid hrs
  have HSO := Lib.hid hsrt
  obtain ⟨ca, cc, la, lc, hrb, hRB, hOC, hOL⟩ := hrs
  have HRB := Lib.hid hRB
  have HOC := Lib.hid hOC
  have HOL := Lib.hid hOL
  have HROW := Lib.hid (own_erow hOL).2.2
  have hrl := lt_of_block hRB
  have hB0 := below_alloc (Below.refl w.heap.size w) (.cells #[.string k, .int .i64 q, .bool g, .string v, .int .i64 u] 55)
  have hE0 : EBox (w.alloc (.cells #[.string k, .int .i64 q, .bool g, .string v, .int .i64 u] 55)) w.heap.size 55 ⟨k, q, g, v, u⟩ := heap_alloc_new _ _
  obtain ⟨n, hn⟩ : ∃ n, n = L.length := ⟨_, rfl⟩
  rw [← hn] at HROW HRB HOL hnn
  have HN := Lib.hid hn
  obtain ⟨m, hm⟩ : ∃ m, m = lessN ⟨k, q, g, v, u⟩ L := ⟨_, rfl⟩
  have hml : m ≤ n := by rw [hm, hn]; exact lessN_le _ L
  have HLT := Lib.hid (fun i (hi : i < n) => (show lessE (L.getD i ent0) ⟨k, q, g, v, u⟩ = decide (i < m) by
    by_cases h : i < m
    · rw [lessN_lt _ L i (by omega)]; simp [h]
    · rw [lessN_ge hsrt (by omega) (by omega)]; simp [h]))
  have HM := Lib.hid hm
  clear hsrt hP hRB hOC hOL hn hm
  go_enter Try.func41, Try.ntmps41
  go_wp2_with fail
  generalize hW : World.alloc _ _ = W0
  rw [hW] at hB0 hE0
  clear hW
  refine (HGD.out _).mono ?_
  rintro e w1 ⟨rfl, hb1⟩
  have hB1 := chain hB0 hb1
  have HE1 := Lib.hid (hE0.below hb1)
  clear hb1 hB0 hE0 HGD
  by_cases hg : goodE ⟨k, q, g, v, u⟩ = 0
  case neg =>
    have hsE : skE L ⟨k, q, g, v, u⟩ = (L, goodE ⟨k, q, g, v, u⟩) := by unfold skE; rw [if_pos hg]
    generalize goodE ⟨k, q, g, v, u⟩ = ge at hg hsE
    have HSE := Lib.hid hsE
    have e1 : (ge != 0) = true := nt hg
    have hg9 := Lib.hid hg
    clear hg hsE
    go_wp2_with fail
    rw [HP.out]
    refine ⟨by rw [HSE.out]; rfl, ?_, Only.of_below hB1, hB1.mono hB⟩
    rw [HSE.out]
    show RS w1 B rb z L (if ge = 0 then size + costE z L.length ⟨k, q, g, v, u⟩ else size)
    rw [if_neg hg9.out]
    exact HRS.out.below hB1
  case pos =>
  obtain ⟨hk64, hv512⟩ := goodE_sz6 hg
  have HG := Lib.hid hg
  rw [hg]
  clear hg
  go_wp2_with fail
  go_loopw [6, 7] (fun sa si wr => ∃ i : Nat, si = .int .i64 i ∧ i ≤ n ∧ sa = .int .i64 ((min m i : Nat) : Int) ∧ Hid (∀ j, j < i → sameK (L.getD j ent0) ⟨k, q, g, v, u⟩ = false) ∧ Below w.heap.size w wr ∧ Hid (EBox wr w.heap.size 55 ⟨k, q, g, v, u⟩)) (fun _ si _ => n - (intOf si).toNat)
  case atStart => exact ⟨0, rfl, by omega, by simp, fun j hj => by omega, hB1, HE1.out⟩
  case round =>
    obtain ⟨i, rfl, hi, rfl, hno, hbel, hE⟩ := hrel
    have HRB2 := Lib.hid (HRB.out.below hbel)
    have l1 := HRB2.out.cells.2.1
    by_cases hlt : i < n
    · obtain ⟨ab, off, rfl, hab, hac⟩ := (HROW.out.below hbel).at (by omega)
      have hd := hac i hlt
      have hle := HLT.out i hlt
      obtain ⟨x, hx⟩ : ∃ x, x = L.getD i ent0 := ⟨_, rfl⟩
      rw [← hx] at hd hle
      have HX := Lib.hid hx
      obtain ⟨k1, q1, g1, v1, u1⟩ := x
      simp only at hd
      have HD := Lib.hid hd
      obtain ⟨d0, d1, d2, d3, d4⟩ := hd
      obtain ⟨e0, e1, e2, e3, e4⟩ := hE.out.cells
      simp only at e0 e1 e2 e3 e4
      have i1 : (0 : Int) ≤ (i : Int) := by omega
      have i2 : (i : Int) < (n : Int) := by omega
      have HLE := Lib.hid hle
      clear hac hx hle
      go_wp2_with fail
      go_cut [50] (fun s50 wx => s50 = .bool (sameK ⟨k1, q1, g1, v1, u1⟩ ⟨k, q, g, v, u⟩) ∧ ∃ nd, wx = wr.drewN nd)
      case first =>
        by_cases hk : k1 = k
        · subst hk
          by_cases hq : q1 = q
          · subst hq
            go_quiet (fail)
            go_wp2_with fail
            go_meet
            exact ⟨by simp [sameK], _, rfl⟩
          · have hqf : (q1 == q) = false := ef hq
            have HQ := Lib.hid hq
            clear hq
            go_quiet (fail)
            go_wp2_with fail
            go_meet
            exact ⟨by simp [sameK, HQ.out], _, rfl⟩
        · have hkk : (k1.toList == k.toList) = false := beq_eq_false_iff_ne.2 fun e => hk (toList_inj e)
          have HK := Lib.hid hk
          clear hk
          go_quiet (fail)
          go_wp2_with fail
          go_meet
          exact ⟨by simp [sameK, HK.out], _, rfl⟩
      case rest =>
        obtain ⟨rfl, nd, hwc⟩ := hcut
        have hsame := Lib.hid (show sameK (L.getD i ent0) ⟨k, q, g, v, u⟩ = sameK ⟨k1, q1, g1, v1, u1⟩ ⟨k, q, g, v, u⟩ by rw [← HX.out])
        generalize sameK ⟨k1, q1, g1, v1, u1⟩ ⟨k, q, g, v, u⟩ = sm at hsame
        have hbc : Below w.heap.size w wc := by rw [hwc]; exact drewN hbel
        cases sm with
        | true =>
          have hsE := Lib.hid (show skE L ⟨k, q, g, v, u⟩ = (L, 11) by
            unfold skE
            rw [if_neg (by rw [HG.out]; simp), if_pos (there_of (by rw [← HN.out]; exact hlt) hsame.out)])
          clear hwc l1 d0 d1 d2 d3 d4 e0 e1 e2 e3 e4
          go_wp2_with fail
          rw [HP.out]
          refine ⟨by rw [hsE.out]; rfl, ?_, Only.of_below hbc, hbc.mono hB⟩
          rw [hsE.out]
          show RS wc B rb z L (if (11 : Int) = 0 then size + costE z L.length ⟨k, q, g, v, u⟩ else size)
          rw [if_neg (by decide)]
          exact HRS.out.below hbc
        | false =>
          subst hwc
          have HLS := Lib.hid (fun W : World => rless_any k1 q1 g1 v1 u1 k q g v u W)
          rw [HLE.out] at HLS
          have H0 : Hid (((wr.cell? ⟨ab, off + i * 5, none⟩ = some (.string k1) ∧ wr.cell? ⟨ab, off + i * 5 + 1, none⟩ = some (.int .i64 q1) ∧ wr.cell? ⟨ab, off + i * 5 + 2, none⟩ = some (.bool g1) ∧ wr.cell? ⟨ab, off + i * 5 + 3, none⟩ = some (.string v1) ∧ wr.cell? ⟨ab, off + i * 5 + 4, none⟩ = some (.int .i64 u1)) ∧
            (wr.cell? ⟨w.heap.size, 0, none⟩ = some (.string k) ∧ wr.cell? ⟨w.heap.size, 0 + 1, none⟩ = some (.int .i64 q) ∧ wr.cell? ⟨w.heap.size, 0 + 2, none⟩ = some (.bool g) ∧ wr.cell? ⟨w.heap.size, 0 + 3, none⟩ = some (.string v) ∧ wr.cell? ⟨w.heap.size, 0 + 4, none⟩ = some (.int .i64 u)) ∧ ab < wr.heap.size ∧ w.heap.size < wr.heap.size) ∧ wr.cell? ⟨rb, 1, none⟩ = some (.slice (some ⟨ab, off, none⟩) n lc) ∧ rb < wr.heap.size) :=
            ⟨⟨HD.out, hE.out.cells, hab, lt_of_block hE.out⟩, l1, lt_of_block HRB2.out⟩
          clear d0 d1 d2 d3 d4 e0 e1 e2 e3 e4 l1
          go_wp2_with fail
          go_region_held3 (fun w' => ((w'.cell? ⟨ab, off + i * 5, none⟩ = some (.string k1) ∧ w'.cell? ⟨ab, off + i * 5 + 1, none⟩ = some (.int .i64 q1) ∧ w'.cell? ⟨ab, off + i * 5 + 2, none⟩ = some (.bool g1) ∧ w'.cell? ⟨ab, off + i * 5 + 3, none⟩ = some (.string v1) ∧ w'.cell? ⟨ab, off + i * 5 + 4, none⟩ = some (.int .i64 u1)) ∧
            (w'.cell? ⟨w.heap.size, 0, none⟩ = some (.string k) ∧ w'.cell? ⟨w.heap.size, 0 + 1, none⟩ = some (.int .i64 q) ∧ w'.cell? ⟨w.heap.size, 0 + 2, none⟩ = some (.bool g) ∧ w'.cell? ⟨w.heap.size, 0 + 3, none⟩ = some (.string v) ∧ w'.cell? ⟨w.heap.size, 0 + 4, none⟩ = some (.int .i64 u)) ∧ ab < w'.heap.size ∧ w.heap.size < w'.heap.size) ∧ w'.cell? ⟨rb, 1, none⟩ = some (.slice (some ⟨ab, off, none⟩) n lc) ∧ rb < w'.heap.size)
            (first | exact H0.out | exact keep11 (W := wr.drewN (nd + 1)) H0.out hb3)
            (first | (go_at_call 26; refine (HLS.out _).mono ?_; rintro e w3 ⟨rfl, hb3⟩))
          all_goals
            have hz3 := Below.trans (drewN (n := nd + 1) hbel) (hb3.mono hbel.size)
            have HE3 := Lib.hid (EBox.below (w := wr.drewN (nd + 1)) hE.out hb3)
            have hno3 := Lib.hid (fun j (hj : j < i + 1) => (show sameK (L.getD j ent0) ⟨k, q, g, v, u⟩ = false by
              by_cases h : j = i
              · subst h; exact hsame.out
              · exact hno.out j (by omega)))
            clear hb3
            by_cases him : i < m
            · have hdm : decide (i < m) = true := dt him
              rw [Nat.min_eq_right (by omega)]
              have hmin : min m (i + 1) = i + 1 := by omega
              have HMI := Lib.hid hmin
              clear hmin
              go_wp2_with fail
              go_roundw
              case rel => exact ⟨i + 1, by go_num, by omega, by rw [HMI.out]; go_num, hno3.out, hz3, HE3.out⟩
              case measure => simp [intOf]; omega
            · have hdm : decide (i < m) = false := df him
              rw [Nat.min_eq_left (by omega)]
              have hmin : min m (i + 1) = m := by omega
              have HMI := Lib.hid hmin
              clear hmin
              go_wp2_with fail
              go_roundw
              case rel => exact ⟨i + 1, by go_num, by omega, by rw [HMI.out], hno3.out, hz3, HE3.out⟩
              case measure => simp [intOf]; omega
    · obtain rfl : i = n := by omega
      rw [Nat.min_eq_left hml]
      have hnt : thereE L ⟨k, q, g, v, u⟩ = false := there_not (fun j hj => hno.out j (by rw [HN.out]; exact hj))
      have HSE := Lib.hid (show skE L ⟨k, q, g, v, u⟩ = (insE L m ⟨k, q, g, v, u⟩, 0) by
        unfold skE insE
        rw [if_neg (by rw [HG.out]; simp), if_neg (by rw [hnt]; decide), HM.out])
      obtain ⟨I, hI⟩ : ∃ I, I = insE L m ⟨k, q, g, v, u⟩ := ⟨_, rfl⟩
      have hIl : I.length = i + 1 := by rw [hI, insE_len _ (by rw [← HN.out]; exact hml), ← HN.out]
      have hIa := Lib.hid (fun j (hj : j < m) => (show I.getD j ent0 = L.getD j ent0 by rw [hI, insE_getD _ (by rw [← HN.out]; exact hml), if_pos hj]))
      have hIm := Lib.hid (show I.getD m ent0 = ⟨k, q, g, v, u⟩ by rw [hI, insE_getD _ (by rw [← HN.out]; exact hml), if_neg (by omega), if_pos rfl])
      have hIb := Lib.hid (fun j (hj : m ≤ j) => (show I.getD (j + 1) ent0 = L.getD j ent0 by rw [hI, insE_getD _ (by rw [← HN.out]; exact hml), if_neg (by omega), if_neg (by omega)]; rfl))
      rw [← hI] at HSE
      have HIL := Lib.hid hIl
      clear hno hnt hI hIl l1
      obtain ⟨e0, e1, e2, e3, e4⟩ := hE.out.cells
      simp only at e0 e1 e2 e3 e4
      have l1 := HRB2.out.cells.2.1
      obtain ⟨co, hco⟩ : ∃ co, co = costE z i ⟨k, q, g, v, u⟩ := ⟨_, rfl⟩
      have hcob : 0 ≤ co ∧ co ≤ 1000 := by
        have := coinH_bd z i
        rw [hco]; unfold costE; simp only; omega
      have HCO := Lib.hid (rcost_any wr rb z.length cc i lc ca la size z HRB2.out rfl (by omega) hz9 hzb (coins_row (own_below HOC.out hbel)) k q g v u (by omega) (by omega))
      rw [← hco] at HCO
      have HCOE := Lib.hid hco
      clear hco
      go_wp2_with fail
      refine HCO.out.mono ?_
      rintro e w2 ⟨rfl, hb2⟩
      have hB2 := chain hbel hb2
      have HE2 := Lib.hid (hE.out.below hb2)
      have HR2 := Lib.hid (HRB2.out.below hb2)
      have l2 := HR2.out.cells.2.2
      have f2 := HR2.out.fz 2
      clear hb2 e0 e1 e2 e3 e4 l1 HCO
      go_wp2_with fail
      have hor : Only rb w w2 := Only.of_below hB2
      have hbb : Below B w w2 := hB2.mono hB
      have hol := own_below HOL.out hB2
      have hoc := own_below HOC.out hB2
      generalize hW : World.setCell w2 _ _ = W3
      have HR3 : Hid (RB W3 rb ca z.length cc la i lc (size + co)) := by rw [← hW]; exact HR2.out.setSize _
      have HE3 : Hid (EBox W3 w.heap.size 55 ⟨k, q, g, v, u⟩) := by rw [← hW]; exact HE2.out.far (p := ⟨rb, 2, Option.none⟩) (fun e => blk_ne HE2.out HR2.out (by decide) e) _
      have HOL3 : Hid (W3.ownsRow B 55 5 (.slice la i lc) i (ecells L)) := by rw [← hW]; exact own_setAny hol HR2.out (by decide) _
      have HOC3 : Hid (W3.ownsRow B 3 1 (.slice ca z.length cc) z.length (z.map (Value.int .i64))) := by rw [← hW]; exact own_setAny hoc HR2.out (by decide) _
      have HOR3 : Hid (Only rb w W3) := by rw [← hW]; exact hor.set 2 _
      have HBB3 : Hid (Below B w W3) := by rw [← hW]; exact hbb.setCell (p := ⟨rb, 2, none⟩) hrb _
      have hs3 : w.heap.size ≤ W3.heap.size := HBB3.out.size
      clear hW hor hbb hol hoc HR2 HE2 l2 f2 hB2 w2
      have HROW3 := Lib.hid (own_erow HOL3.out).2.2
      clear HROW HRB HOL HOC HRS hE HRB2 hbel wr
      go_loopw [10, 11] (fun so si wr => ∃ (j : Nat) (p : Option Addr) (d : Nat), si = .int .i64 j ∧ j ≤ m ∧ so = .slice p j d ∧ Hid (wr.ownsRow W3.heap.size 55 5 (.slice p j d) j (ecells (I.take j))) ∧ Below W3.heap.size W3 wr) (fun _ si _ => m - (intOf si).toNat)
      case atStart => exact ⟨0, none, 0, rfl, by omega, rfl, World.ownsRow_nil _ _ _ _, Below.refl _ _⟩
      case round =>
        obtain ⟨j, p, d, rfl, hj, rfl, HOW, hbel3⟩ := hrel
        have l1 := (HR3.out.below hbel3).cells.2.1
        by_cases hjm : j < m
        · obtain ⟨ab, off, rfl, hab, hac⟩ := (HROW3.out.below hbel3).at (by omega)
          have hd := hac j (by omega)
          obtain ⟨x, hx⟩ : ∃ x, x = L.getD j ent0 := ⟨_, rfl⟩
          rw [← hx] at hd
          have HTK := Lib.hid (show I.take (j + 1) = I.take j ++ [x] by rw [take_snoc I j ent0 (by rw [HIL.out]; omega), hIa.out j hjm, hx])
          obtain ⟨k1, q1, g1, v1, u1⟩ := x
          simp only at hd
          obtain ⟨d0, d1, d2, d3, d4⟩ := hd
          have i1 : (0 : Int) ≤ (j : Int) := by omega
          have i2 : (j : Int) < (i : Int) := by omega
          clear hac hx
          go_wp2_with (at_builtin; refine wpList_push2 rfl _ _ 24 rfl Try.underlying24 infoRef06 rfl (by decide) rfl _ rfl ?c1 rfl rfl HOW.out ?c2 ?c3 ?c4 ?_)
          case c1 => simp [Value.oneCell']
          case c2 => exact hbel3.size
          case c3 => unfold maxLen; omega
          case c4 => omega
          intro a' cap' w5 hown5 _ hb5

          have hz : w5.ownsRow W3.heap.size 55 5 (.slice a' (j + 1) cap') (j + 1) (ecells (I.take (j + 1))) := by rw [HTK.out, ecells_snoc]; exact hown5
          have HZ := Lib.hid hz
          have hb6 := hbel3.trans hb5
          clear hown5 hz
          go_wp2_with fail
          go_roundw
          case rel => exact ⟨j + 1, a', cap', by go_num, by omega, rfl, HZ.out, hb6⟩
          case measure => simp [intOf]; omega
        · obtain rfl : j = m := by omega
          have HE4 := HE3.out.below hbel3
          obtain ⟨e0, e1, e2, e3, e4⟩ := HE4.cells
          simp only at e0 e1 e2 e3 e4
          have HTK := Lib.hid (show I.take (j + 1) = I.take j ++ [⟨k, q, g, v, u⟩] by rw [take_snoc I j ent0 (by rw [HIL.out]; omega), hIm.out])
          clear HE4
          go_wp2_with (at_builtin; refine wpList_push2 rfl _ _ 24 rfl Try.underlying24 infoRef06 rfl (by decide) rfl _ rfl ?c1 rfl rfl HOW.out ?c2 ?c3 ?c4 ?_)
          case c1 => simp [Value.oneCell']
          case c2 => exact hbel3.size
          case c3 => unfold maxLen; omega
          case c4 => omega
          intro a' cap' w5 hown5 _ hb5

          have hz : w5.ownsRow W3.heap.size 55 5 (.slice a' (j + 1) cap') (j + 1) (ecells (I.take (j + 1))) := by rw [HTK.out, ecells_snoc]; exact hown5
          have HZ := Lib.hid hz
          have hb6 := hbel3.trans hb5
          clear hown5 hz e0 e1 e2 e3 e4 l1 HTK HOW hb5
          go_wp2_with fail
          have HZ9 := Lib.hid (show w5.ownsRow W3.heap.size 55 5 (.slice a' (j + 1) cap') (j + 1) (ecells (I.take (j + 1))) from HZ.out)
          clear HZ
          go_loopw [10, 12] (fun so si wr => ∃ (t : Nat) (p : Option Addr) (d : Nat), si = .int .i64 t ∧ j ≤ t ∧ t ≤ i ∧ so = .slice p (t + 1) d ∧ Hid (wr.ownsRow W3.heap.size 55 5 (.slice p (t + 1) d) (t + 1) (ecells (I.take (t + 1)))) ∧ Below W3.heap.size W3 wr) (fun _ si _ => i - (intOf si).toNat)
          case atStart => exact ⟨j, a', cap', rfl, by omega, by omega, rfl, HZ9.out, hb6⟩
          case round =>
            obtain ⟨t, p2, d2, rfl, hjt, hti, rfl, HOW, hbel4⟩ := hrel
            have l1 := (HR3.out.below hbel4).cells.2.1
            by_cases htn : t < i
            · obtain ⟨ab, off, rfl, hab, hac⟩ := (HROW3.out.below hbel4).at (by omega)
              have hd := hac t htn
              obtain ⟨x, hx⟩ : ∃ x, x = L.getD t ent0 := ⟨_, rfl⟩
              rw [← hx] at hd
              have HTK := Lib.hid (show I.take (t + 1 + 1) = I.take (t + 1) ++ [x] by rw [take_snoc I (t + 1) ent0 (by rw [HIL.out]; omega), hIb.out t hjt, hx])
              obtain ⟨k1, q1, g1, v1, u1⟩ := x
              simp only at hd
              obtain ⟨d0, d1, d2', d3, d4⟩ := hd
              have i1 : (0 : Int) ≤ (t : Int) := by omega
              have i2 : (t : Int) < (i : Int) := by omega
              clear hac hx
              go_wp2_with (at_builtin; refine wpList_push2 rfl _ _ 24 rfl Try.underlying24 infoRef06 rfl (by decide) rfl _ rfl ?c1 rfl rfl HOW.out ?c2 ?c3 ?c4 ?_)
              case c1 => simp [Value.oneCell']
              case c2 => exact hbel4.size
              case c3 => unfold maxLen; omega
              case c4 => omega
              intro a2 cap2 w6 hown6 _ hb6'
              have hz : w6.ownsRow W3.heap.size 55 5 (.slice a2 (t + 1 + 1) cap2) (t + 1 + 1) (ecells (I.take (t + 1 + 1))) := by rw [HTK.out, ecells_snoc]; exact hown6
              have HZ := Lib.hid hz
              have hb7 := hbel4.trans hb6'
              clear hown6 hz
              go_wp2_with fail
              go_roundw
              case rel => exact ⟨t + 1, a2, cap2, by go_num, by omega, by omega, rfl, HZ.out, hb7⟩
              case measure => simp [intOf]; omega
            · obtain rfl : t = i := by omega
              have HR4 := Lib.hid (HR3.out.below hbel4)
              have f1 := HR4.out.fz 1
              have hcoin := Lib.hid (own_below HOC3.out hbel4)
              have horr := Lib.hid (HOR3.out.trans (Only.of_below hbel4))
              have hbbb := Lib.hid (HBB3.out.trans (hbel4.mono (by omega)))
              go_wp2_with fail
              rw [HP.out]
              have hIt : I.take (t + 1) = I := List.take_of_length_le (by rw [HIL.out]; exact Nat.le_refl _)
              have hown := HOW.out
              rw [hIt] at hown
              refine ⟨by rw [HSE.out]; rfl, ?_, horr.out.set 1 _, hbbb.out.setCell (p := ⟨rb, 1, none⟩) hrb _⟩
              rw [HSE.out]
              show RS _ B rb z I (if (0 : Int) = 0 then size + costE z L.length ⟨k, q, g, v, u⟩ else size)
              rw [if_pos rfl, ← HN.out, ← HCOE.out]
              refine ⟨ca, cc, p2, d2, hrb, ?_, own_setAny hcoin.out HR4.out (by decide) _, ?_⟩
              · rw [HIL.out]; exact HR4.out.setL
              · rw [HIL.out]; exact own_setAny (own_lower hown (by omega)) HR4.out (by decide) _
end Go.Proofs.Ytdhnkalkfipmhaa.Ew
