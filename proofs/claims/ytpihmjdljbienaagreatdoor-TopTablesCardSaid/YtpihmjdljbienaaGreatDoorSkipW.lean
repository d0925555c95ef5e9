/- The walk of Put. -/
import Derived.Test.YtpihmjdljbienaaGreatDoorSkipA
import Derived.Test.YtpihmjdljbienaaGreatDoorSkipN
import Derived.Test.YtpihmjdljbienaaGreatDoorSkipQ
import Derived.BigRegion
namespace Go.Proofs.YtpihmjdljbienaaGreatDoor.Sw
open Ew
open Go.RowKit
open En B
set_option linter.unusedVariables false

def skTs : List TypeId := [105, 106]
/-- the towers behind a put, and the answer -/
def PutR (w : World) (B lb : Nat) (z : List Int) (L : List Ent) (size : Int) (x : Ent) (e : Ending) (w' : World) : Prop :=
  e = .returned (.int .i64 (skE L x).2) ∧ (∃ ns', ns'.map Nd.e = (skE L x).1 ∧ SK w' B lb z ns' (if (skE L x).2 = 0 then size + costE z L.length x else size)) ∧ Below B w w' ∧ Keeps skTs w w'
theorem SK.below {w w' : World} {B lb : Nat} {z : List Int} {ns : List Nd} {size : Int} (h : SK w B lb z ns size) (k : Below w.heap.size w w') : SK w' B lb z ns size := by
  obtain ⟨ha, ca, cc, h1, h2, h3, h4⟩ := h
  exact ⟨ha, ca, cc, h1, h2.below k, h3.below k, own_below h4 k⟩
theorem cut_is {ns : List Nd} {x : Ent} (hs : Sorted (ns.map Nd.e)) : Cut ns x (lessN x (ns.map Nd.e)) := by
  have hl : (ns.map Nd.e).length = ns.length := by simp
  have hm := lessN_le x (ns.map Nd.e)
  refine ⟨by omega, fun i hi => ?_, fun i h1 h2 => ?_⟩
  · rw [← map_getD ns i (by omega)]; exact lessN_lt x _ i hi
  · rw [← map_getD ns i h2]; exact lessN_ge hs h1 (by omega)

theorem place' {w : World} {B lb cn cc ha : Nat} {ca : Option Addr} {cnt size : Int} {ns : List Nd} {V : Nat → Nat → Value} (h : LB w lb ca cn cc ha cnt size) (t : Tower w B ha ns V) {p : Nat} (hp : p ≤ ns.length) :
    w.cell? ⟨(posA lb ns p).block, (posA lb ns p).off + 5, none⟩ = some (.slice (some ⟨arrP ha ns p, 0, none⟩) (hP ns p) (hP ns p)) := by
  obtain ⟨pb, po, h1, h2⟩ := place h t hp
  rw [h1]; exact h2
theorem hP_pos {w : World} {B ha : Nat} {ns : List Nd} {V : Nat → Nat → Value} (t : Tower w B ha ns V) {p : Nat} (hp : p ≤ ns.length) : 1 ≤ hP ns p ∧ hP ns p ≤ 8 := by
  cases p with
  | zero => exact ⟨show 1 ≤ 8 by decide, Nat.le_refl 8⟩
  | succ j => exact t.hs j (by omega)

theorem blk_drewN {w : World} {g n : Nat} {x : Option Obj} (h : w.heap[g]? = x) : (w.drewN n).heap[g]? = x := h
theorem blk_ne {w : World} {g g' : Nat} {cs cs' : Array Value} {t t' : TypeId} {fr fr' : Nat × Nat} (h : w.heap[g]? = some (.cells cs t fr)) (h' : w.heap[g']? = some (.cells cs' t' fr')) (ht : t ≠ t') : g ≠ g' := fun e => by
  subst e
  rw [h] at h'
  simp only [Option.some.injEq, Obj.cells.injEq] at h'
  exact ht h'.2.1
theorem own_setAny {w : World} {B n size : Nat} {e t : TypeId} {v : Value} {xs : List Value} {g k : Nat} {cs : Array Value} {fr : Nat × Nat} (h : w.ownsRow B e size v n xs) (hg : w.heap[g]? = some (.cells cs t fr)) (hne : e ≠ t) (y : Value) : (w.setCell ⟨g, k, none⟩ y).ownsRow B e size v n xs :=
  own_keeps h (Keeps.setCell (ts := [t]) (p := ⟨g, k, none⟩) hg (by simp) y) (by simpa using hne)
/-- what stands in memory in the midst of a put -/
def PS (w wx : World) (B lb ha b8 cc : Nat) (ca : Option Addr) (z : List Int) (ns : List Nd) (V : Nat → Nat → Value) (cnt size : Int) (x : Ent) (A : Nat → Addr) : Prop :=
  EBox wx w.heap.size 45 x ∧ LB wx lb ca z.length cc ha cnt size ∧ Tower wx B ha ns V ∧ wx.ownsRow B 3 1 (.slice ca z.length cc) z.length (z.map (Value.int .i64)) ∧
    wx.heap[b8]? = some (.cells #[.pointer (some (A 0)), .pointer (some (A 1)), .pointer (some (A 2)), .pointer (some (A 3)), .pointer (some (A 4)), .pointer (some (A 5)), .pointer (some (A 6)), .pointer (some (A 7))] 107 (0, 0)) ∧
    Below B w wx ∧ Keeps skTs w wx
theorem PS.below {w wx wy : World} {B lb ha b8 cc : Nat} {ca : Option Addr} {z : List Int} {ns : List Nd} {V : Nat → Nat → Value} {cnt size : Int} {x : Ent} {A : Nat → Addr} (h : PS w wx B lb ha b8 cc ca z ns V cnt size x A) (hB : B ≤ wx.heap.size) (k : Below wx.heap.size wx wy) : PS w wy B lb ha b8 cc ca z ns V cnt size x A := by
  obtain ⟨h1, h2, h3, h4, h5, h6, h7⟩ := h
  exact ⟨h1.below k, h2.below k, h3.below k, own_below h4 k, (k.block b8 (lt_of_block h5)).trans h5, h6.trans (k.mono hB), h7.trans (Keeps.below k)⟩
theorem PS.drewN {w wx : World} {B lb ha b8 cc : Nat} {ca : Option Addr} {z : List Int} {ns : List Nd} {V : Nat → Nat → Value} {cnt size : Int} {x : Ent} {A : Nat → Addr} (h : PS w wx B lb ha b8 cc ca z ns V cnt size x A) (hB : B ≤ wx.heap.size) (n : Nat) : PS w (wx.drewN n) B lb ha b8 cc ca z ns V cnt size x A := h.below hB ⟨rfl, rfl, rfl, Nat.le_refl _, fun _ _ => rfl⟩

theorem PS.congrV {w wx : World} {B lb ha b8 cc : Nat} {ca : Option Addr} {z : List Int} {ns : List Nd} {V U : Nat → Nat → Value} {cnt size : Int} {x : Ent} {A : Nat → Addr} (h : PS w wx B lb ha b8 cc ca z ns V cnt size x A) (hv : ∀ p f, p ≤ ns.length → f < hP ns p → V p f = U p f) : PS w wx B lb ha b8 cc ca z ns U cnt size x A := by
  obtain ⟨h1, h2, h3, h4, h5, h6, h7⟩ := h
  exact ⟨h1, h2, h3.congr hv, h4, h5, h6, h7⟩
/-- what the arrays hold when the new node stands on the first j floors -/
def VJ (ns : List Nd) (x : Nd) (m j p f : Nat) : Value := if f < j ∧ lastIx ns f m = p then ptrV (some x) else VN ns p f
theorem arr8_get {w : World} {g : Nat} {t : TypeId} {A : Nat → Addr} (h : w.heap[g]? = some (.cells #[.pointer (some (A 0)), .pointer (some (A 1)), .pointer (some (A 2)), .pointer (some (A 3)), .pointer (some (A 4)), .pointer (some (A 5)), .pointer (some (A 6)), .pointer (some (A 7))] t (0, 0))) {j : Nat} (hj : j < 8) :
    w.cell? ⟨g, j, none⟩ = some (.pointer (some (A j))) := by
  rw [cell_of_row w g j _ _ _ h]
  match j, hj with
  | 0, _ => rfl
  | 1, _ => rfl
  | 2, _ => rfl
  | 3, _ => rfl
  | 4, _ => rfl
  | 5, _ => rfl
  | 6, _ => rfl
  | 7, _ => rfl

theorem PS.setNew {w wx : World} {B lb ha b8 cc na : Nat} {ca : Option Addr} {z : List Int} {ns : List Nd} {V : Nat → Nat → Value} {cnt size : Int} {x : Ent} {A : Nat → Addr} {cs : Array Value} {fr : Nat × Nat} (h : PS w wx B lb ha b8 cc ca z ns V cnt size x A)
    (hg : wx.heap[na]? = some (.cells cs 106 fr)) (hna : ∀ p, p ≤ ns.length → arrP ha ns p ≠ na) (hB : B ≤ na) (f : Nat) (v : Value) : PS w (wx.setCell ⟨na, f, none⟩ v) B lb ha b8 cc ca z ns V cnt size x A := by
  obtain ⟨h1, h2, h3, h4, h5, h6, h7⟩ := h
  exact ⟨h1.far (p := ⟨na, f, Option.none⟩) (fun e => blk_ne h1 hg (by decide) e) _, h2.keeps (Keeps.setCell (ts := [106]) (p := ⟨na, f, none⟩) hg (by decide) v) (by decide),
    ⟨fun i hi => blk_far (h3.nodes i hi) (fun e => blk_ne (h3.nodes i hi) hg (by decide) e), fun p hp => (h3.arrs p hp).far (p := ⟨na, f, Option.none⟩) (hna p hp) v, h3.inj, h3.lo, h3.hs⟩,
    own_setAny h4 hg (by decide) v, blk_far h5 (fun e => blk_ne h5 hg (by decide) e), h6.setCell (p := ⟨na, f, none⟩) hB v, h7.trans (Keeps.setCell (p := ⟨na, f, none⟩) hg (by decide) v)⟩
theorem PS.setArr {w wx : World} {B lb ha b8 cc : Nat} {ca : Option Addr} {z : List Int} {ns : List Nd} {V : Nat → Nat → Value} {cnt size : Int} {x : Ent} {A : Nat → Addr} (h : PS w wx B lb ha b8 cc ca z ns V cnt size x A)
    {q : Nat} (hq : q ≤ ns.length) (f : Nat) (v : Value) : PS w (wx.setCell ⟨arrP ha ns q, f, none⟩ v) B lb ha b8 cc ca z ns (fun p i => if p = q ∧ i = f then v else V p i) cnt size x A := by
  obtain ⟨h1, h2, h3, h4, h5, h6, h7⟩ := h
  have hg := h3.arrs q hq
  unfold Arr at hg
  exact ⟨h1.far (p := ⟨arrP ha ns q, f, Option.none⟩) (fun e => blk_ne h1 hg (by decide) e) _, h2.keeps (Keeps.setCell (ts := [106]) (p := ⟨arrP ha ns q, f, none⟩) hg (by decide) v) (by decide),
    h3.set hq f v, own_setAny h4 hg (by decide) v, blk_far h5 (fun e => blk_ne h5 hg (by decide) e), h6.setCell (p := ⟨arrP ha ns q, f, none⟩) (h3.lo q hq) v, h7.trans (Keeps.setCell (p := ⟨arrP ha ns q, f, none⟩) hg (by decide) v)⟩
theorem tower_ins {w : World} {B ha m : Nat} {ns : List Nd} {x : Nd} (t : Tower w B ha ns (VJ ns x m x.h)) (hm : m ≤ ns.length) (hx : w.heap[x.b]? = some (.cells (ndCells x) 103 (0, 0)))
    (har : Arr w x.a x.h (VN ns m)) (hne : ∀ p, p ≤ ns.length → arrP ha ns p ≠ x.a) (hB : B ≤ x.a) (hh : 1 ≤ x.h ∧ x.h ≤ 8) : Tower w B ha (ins ns m x) (VN (ins ns m x)) := by
  have hl := ins_len x hm
  have nd : ∀ i, i < ns.length + 1 → (ins ns m x).getD i nd0 = if i < m then ns.getD i nd0 else if i = m then x else ns.getD (i - 1) nd0 := fun i hi => by
    by_cases h1 : i < m
    · rw [if_pos h1, ins_lt x hm h1]
    · rw [if_neg h1]
      by_cases h2 : i = m
      · subst h2; rw [if_pos rfl, ins_at x hm]
      · rw [if_neg h2]
        have := ins_gt x hm (show m ≤ i - 1 by omega)
        rwa [show i - 1 + 1 = i from by omega] at this
  -- which place of the old list (or the new node) a place is
  have pl : ∀ p, p ≤ ns.length + 1 → (p ≤ m ∧ arrP ha (ins ns m x) p = arrP ha ns p ∧ hP (ins ns m x) p = hP ns p) ∨ (p = m + 1 ∧ arrP ha (ins ns m x) p = x.a ∧ hP (ins ns m x) p = x.h) ∨
      (m + 2 ≤ p ∧ arrP ha (ins ns m x) p = arrP ha ns (p - 1) ∧ hP (ins ns m x) p = hP ns (p - 1)) := fun p hp => by
    cases p with
    | zero => exact .inl ⟨by omega, rfl, rfl⟩
    | succ i =>
      rw [arrP_s, hP_s, nd i (by omega)]
      by_cases h1 : i < m
      · rw [if_pos h1]; exact .inl ⟨by omega, rfl, rfl⟩
      · rw [if_neg h1]
        by_cases h2 : i = m
        · rw [if_pos h2]; exact .inr (.inl ⟨by omega, rfl, rfl⟩)
        · rw [if_neg h2]
          obtain ⟨i', rfl⟩ : ∃ i', i = i' + 1 := ⟨i - 1, by omega⟩
          exact .inr (.inr ⟨by omega, rfl, rfl⟩)
  refine ⟨fun i hi => ?_, fun p hp => ?_, fun p q hp hq e => ?_, fun p hp => ?_, fun i hi => ?_⟩
  · rw [hl] at hi
    rw [nd i hi]
    split
    · exact t.nodes i (by omega)
    · split
      · exact hx
      · exact t.nodes (i - 1) (by omega)
  · rw [hl] at hp
    rcases pl p hp with ⟨h1, h2, h3⟩ | ⟨h1, h2, h3⟩ | ⟨h1, h2, h3⟩
    · rw [h2, h3]
      refine (t.arrs p (by omega)).congr fun f hf => ?_
      unfold VJ VN
      rw [ins_next x hm h1 (by
        cases p with
        | zero => exact .inl rfl
        | succ i => exact .inr hf)]
      split <;> rfl
    · subst h1
      rw [h2, h3]
      refine har.congr fun f hf => ?_
      unfold VN
      rw [ins_drop_gt x hm (Nat.le_refl _)]
    · rw [h2, h3]
      obtain ⟨p', rfl⟩ : ∃ p', p = p' + 1 := ⟨p - 1, by omega⟩
      rw [Nat.add_sub_cancel]
      refine (t.arrs p' (by omega)).congr fun f hf => ?_
      unfold VJ VN
      rw [ins_drop_gt x hm (by omega), if_neg (fun hh => by have := lastIx_le ns f m; omega)]
  · rw [hl] at hp hq
    rcases pl p hp with ⟨h1, h2, _⟩ | ⟨h1, h2, _⟩ | ⟨h1, h2, _⟩ <;> rcases pl q hq with ⟨g1, g2, _⟩ | ⟨g1, g2, _⟩ | ⟨g1, g2, _⟩ <;> rw [h2, g2] at e
    · exact t.inj p q (by omega) (by omega) e
    · exact absurd e (hne p (by omega))
    · have := t.inj p (q - 1) (by omega) (by omega) e; omega
    · exact absurd e.symm (hne q (by omega))
    · omega
    · exact absurd e.symm (hne (q - 1) (by omega))
    · have := t.inj (p - 1) q (by omega) (by omega) e; omega
    · exact absurd e (hne (p - 1) (by omega))
    · have := t.inj (p - 1) (q - 1) (by omega) (by omega) e; omega
  · rw [hl] at hp
    rcases pl p hp with ⟨h1, h2, _⟩ | ⟨h1, h2, _⟩ | ⟨h1, h2, _⟩ <;> rw [h2]
    · exact t.lo p (by omega)
    · exact hB
    · exact t.lo (p - 1) (by omega)
  · rw [hl] at hi
    rw [nd i hi]
    split
    · exact t.hs i (by omega)
    · split
      · exact hh
      · exact t.hs (i - 1) (by omega)

set_option maxHeartbeats 3200000 in
set_option maxRecDepth 100000 in
theorem put_any (w : World) (B lb : Nat) (z : List Int) (ns : List Nd) (size : Int) (hB : B ≤ w.heap.size) (hsk : SK w B lb z ns size) (hsrt : Sorted (ns.map Nd.e)) (hnn : ns.length ≤ 100000) (hz9 : z.length ≤ 9223372036854775807) (hzb : I64s z) (hsz : 0 ≤ size ∧ size ≤ 1000000000)
    (k : ByteArray) (q : Int) (g : Bool) (v : ByteArray) (u : Int) :
    Calls Tryz.prog 16 #[.pointer (some ⟨lb, 0, none⟩), .agg #[.string k, .int .i64 q, .bool g, .string v, .int .i64 u]] w (PutR w B lb z (ns.map Nd.e) size ⟨k, q, g, v, u⟩) := by
  obtain ⟨P, hP⟩ : ∃ P, P = PutR w B lb z (ns.map Nd.e) size ⟨k, q, g, v, u⟩ := ⟨_, rfl⟩
  rw [← hP]
  have HP := Lib.hid hP
  have hc := cut_is (x := ⟨k, q, g, v, u⟩) hsrt
  have HGD := Lib.hid (fun W => good_any k q g v u W)
  have HSK := Lib.hid hsk
  have hB0 := below_alloc (Below.refl w.heap.size w) (.cells #[.string k, .int .i64 q, .bool g, .string v, .int .i64 u] 45)
  have hE0 : EBox (w.alloc (.cells #[.string k, .int .i64 q, .bool g, .string v, .int .i64 u] 45)) w.heap.size 45 ⟨k, q, g, v, u⟩ := heap_alloc_new _ _
  have HC := Lib.hid hc
  have HSO := Lib.hid hsrt
  clear hc hsrt hP hsk
  go_enter Tryz.func16, Tryz.ntmps16
  go_wp2_with fail
  generalize hW : World.alloc _ _ = W0
  rw [hW] at hB0 hE0
  clear hW
  refine (HGD.out _).mono ?_
  rintro e w1 ⟨rfl, hb1⟩
  have hB1 := chain hB0 hb1
  have HE1 := Lib.hid (hE0.below hb1)
  clear hb1 hB0 hE0 HGD
  by_cases hg : goodE ⟨k, q, g, v, u⟩ = 0
  case neg =>
    have hsE : skE (ns.map Nd.e) ⟨k, q, g, v, u⟩ = (ns.map Nd.e, goodE ⟨k, q, g, v, u⟩) := by unfold skE; rw [if_pos hg]
    generalize goodE ⟨k, q, g, v, u⟩ = ge at hg hsE
    have HSE := Lib.hid hsE
    have e1 : (ge != 0) = true := nt hg
    have hg9 := Lib.hid hg
    clear hg hsE
    go_wp2_with fail
    rw [HP.out]
    refine ⟨by rw [HSE.out]; rfl, ⟨ns, by rw [HSE.out], ?_⟩, hB1.mono hB, Keeps.below hB1⟩
    rw [HSE.out, if_neg hg9.out]
    exact HSK.out.below hB1
  case pos =>
  obtain ⟨hk64, hv512⟩ := goodE_sz6 hg
  have HG := Lib.hid hg
  rw [hg]
  clear hg
  obtain ⟨i0, i1, i2, i3, i4⟩ := HE1.out.cells
  simp only at i0 i1 i2 i3 i4
  go_wp2_with fail
  obtain ⟨m, hm⟩ : ∃ m, m = lessN ⟨k, q, g, v, u⟩ (ns.map Nd.e) := ⟨_, rfl⟩
  rw [← hm] at HC
  have HM := Lib.hid hm
  clear hm
  obtain ⟨ha, ca, cc, hlb, hLB, hTW, hOW⟩ := HSK.out.below hB1
  refine (ahead_any w1 B lb z.length cc ha ca ns.length size ns hLB hTW k q g v u m HC.out).mono ?_
  rintro e w2 ⟨rfl, hb2⟩
  have hB2 := chain hB1 hb2
  have HE2 := Lib.hid (HE1.out.below hb2)
  have HL2 := Lib.hid (hLB.below hb2)
  have HT2 := Lib.hid (hTW.below hb2)
  have HO2 := Lib.hid (own_below hOW hb2)
  clear hLB hTW hOW hb2 hB1 HE1 i0 i1 i2 i3 i4 HSK
  obtain ⟨A, hA⟩ : ∃ A : Nat → Addr, A = fun f => posA lb ns (lastIx ns f m) := ⟨_, rfl⟩
  have hPA : ∀ f, PA lb ns m f = .pointer (some (A f)) := fun f => by rw [hA]; rfl
  have hml : m ≤ ns.length := HC.out.1
  have hA0 : A 0 = posA lb ns m := by rw [hA]; show posA lb ns (lastIx ns 0 m) = _; rw [lastIx_0 (fun i hi => (HT2.out.hs i hi).1) hml]
  simp only [hPA]
  have HA := Lib.hid hA
  have HPA := Lib.hid hPA
  have hB3 := below_alloc hB2 (.cells #[.pointer (some (A 0)), .pointer (some (A 1)), .pointer (some (A 2)), .pointer (some (A 3)), .pointer (some (A 4)), .pointer (some (A 5)), .pointer (some (A 6)), .pointer (some (A 7))] 107)
  have hbx := below_alloc (Below.refl _ w2) (.cells #[.pointer (some (A 0)), .pointer (some (A 1)), .pointer (some (A 2)), .pointer (some (A 3)), .pointer (some (A 4)), .pointer (some (A 5)), .pointer (some (A 6)), .pointer (some (A 7))] 107)
  have HT3 := Lib.hid (HT2.out.below hbx)
  have HL3 := Lib.hid (HL2.out.below hbx)
  have HPS : Hid (PS w (w2.alloc (.cells #[.pointer (some (A 0)), .pointer (some (A 1)), .pointer (some (A 2)), .pointer (some (A 3)), .pointer (some (A 4)), .pointer (some (A 5)), .pointer (some (A 6)), .pointer (some (A 7))] 107)) B lb ha w2.heap.size cc ca z ns (VN ns) ns.length size ⟨k, q, g, v, u⟩ A) :=
    ⟨HE2.out.below hbx, HL3.out, HT3.out, own_below HO2.out hbx, heap_alloc_new _ _, hB3.mono hB, Keeps.below hB3⟩
  have hcell := place' HL3.out HT3.out hml
  have hcv := (HT3.out.arrs m hml).cell (f := 0) (hP_pos HT3.out hml).1
  rw [← hA0] at hcell
  unfold VN at hcv
  rw [next_0 (fun i hi => (HT2.out.hs i hi).1)] at hcv
  have d2 : (0 : Int) < (hP ns m : Int) := by have := (hP_pos HT3.out hml).1; omega
  have hb8 : w.heap.size < w2.heap.size := lt_of_block HE2.out
  obtain ⟨sn, hsn⟩ : ∃ sn, sn = ptrV (if m < ns.length then some (ns.getD m nd0) else none) := ⟨_, rfl⟩
  rw [← hsn] at hcv
  have HSN := Lib.hid hsn
  have HHS := Lib.hid (fun i (hi : i < ns.length) => (HT2.out.hs i hi).1)
  clear hA hPA hbx HE2 HL2 HT2 HO2 hA0 hsn HT3 HL3
  go_upto_region 8 with fail
  generalize hW : World.alloc w2 _ = W3
  rw [hW] at HPS hcell hcv hB3
  generalize w2.heap.size = b8 at hb8 HPS ⊢
  clear hW hcell hcv hB2
  go_cut [37] (fun s37 wx => s37 = .bool (thereE (ns.map Nd.e) ⟨k, q, g, v, u⟩) ∧ Hid (PS w wx B lb ha b8 cc ca z ns (VN ns) ns.length size ⟨k, q, g, v, u⟩ A))
  case first =>
    have hth := there_is (e := ⟨k, q, g, v, u⟩) HSO.out
    rw [← HM.out, List.length_map] at hth
    by_cases hmn : m < ns.length
    · rw [map_getD ns m hmn] at hth
      have hs := HSN.out
      rw [if_pos hmn] at hs
      simp only [ptrV] at hs
      have hnd := HPS.out.2.2.1.nodes m hmn
      generalize ns.getD m nd0 = x at hth hs hnd
      subst hs
      have hce := cmpE_0 x.e ⟨k, q, g, v, u⟩
      have hb : thereE (ns.map Nd.e) ⟨k, q, g, v, u⟩ = (cmpE x.e ⟨k, q, g, v, u⟩ == 0) := by
        rw [Bool.eq_iff_iff, hth, beq_iff_eq, hce]
        exact ⟨fun h => h.2, fun h => ⟨hmn, h⟩⟩
      clear hce
      have HCE := Lib.hid (fun W : World => compare_any x.e.key x.e.seq x.e.gone x.e.val x.e.til k q g v u W)
      rw [show (⟨x.e.key, x.e.seq, x.e.gone, x.e.val, x.e.til⟩ : Ent) = x.e from rfl] at HCE
      generalize cmpE x.e ⟨k, q, g, v, u⟩ = c at HCE hb
      have HBB := Lib.hid hb
      have H0 : Hid ((W3.cell? ⟨x.b, 0, none⟩ = some (.string x.e.key) ∧ W3.cell? ⟨x.b, 0 + 1, none⟩ = some (.int .i64 x.e.seq) ∧ W3.cell? ⟨x.b, 0 + 2, none⟩ = some (.bool x.e.gone) ∧ W3.cell? ⟨x.b, 0 + 3, none⟩ = some (.string x.e.val) ∧ W3.cell? ⟨x.b, 0 + 4, none⟩ = some (.int .i64 x.e.til)) ∧
        (W3.cell? ⟨w.heap.size, 0, none⟩ = some (.string k) ∧ W3.cell? ⟨w.heap.size, 0 + 1, none⟩ = some (.int .i64 q) ∧ W3.cell? ⟨w.heap.size, 0 + 2, none⟩ = some (.bool g) ∧ W3.cell? ⟨w.heap.size, 0 + 3, none⟩ = some (.string v) ∧ W3.cell? ⟨w.heap.size, 0 + 4, none⟩ = some (.int .i64 u)) ∧ x.b < W3.heap.size ∧ w.heap.size < W3.heap.size) :=
        ⟨nd_cells hnd, HPS.out.1.cells, lt_of_block hnd, lt_of_block HPS.out.1⟩
      clear hth hnd hb
      go_region_held3 (fun w' => (w'.cell? ⟨x.b, 0, none⟩ = some (.string x.e.key) ∧ w'.cell? ⟨x.b, 0 + 1, none⟩ = some (.int .i64 x.e.seq) ∧ w'.cell? ⟨x.b, 0 + 2, none⟩ = some (.bool x.e.gone) ∧ w'.cell? ⟨x.b, 0 + 3, none⟩ = some (.string x.e.val) ∧ w'.cell? ⟨x.b, 0 + 4, none⟩ = some (.int .i64 x.e.til)) ∧
        (w'.cell? ⟨w.heap.size, 0, none⟩ = some (.string k) ∧ w'.cell? ⟨w.heap.size, 0 + 1, none⟩ = some (.int .i64 q) ∧ w'.cell? ⟨w.heap.size, 0 + 2, none⟩ = some (.bool g) ∧ w'.cell? ⟨w.heap.size, 0 + 3, none⟩ = some (.string v) ∧ w'.cell? ⟨w.heap.size, 0 + 4, none⟩ = some (.int .i64 u)) ∧ x.b < w'.heap.size ∧ w.heap.size < w'.heap.size)
        (first | exact H0.out | exact keep10s (W := W3.drew) H0.out hb3)
        (first | (go_at_call 54; refine (HCE.out _).mono ?_; rintro e w3 ⟨rfl, hb3⟩))
      all_goals
        have hz := HPS.out.below (by have := hB3.size; omega) (show Below W3.heap.size W3 w3 from ⟨hb3.os, hb3.tape, hb3.output, hb3.size, hb3.block⟩)
        clear hb3
        go_wp2_with fail
        go_meet
        exact ⟨by rw [HBB.out], hz⟩
    · have hs := HSN.out
      rw [if_neg hmn] at hs
      simp only [ptrV] at hs
      subst hs
      have hb : thereE (ns.map Nd.e) ⟨k, q, g, v, u⟩ = false := by
        cases h : thereE (ns.map Nd.e) ⟨k, q, g, v, u⟩ with
        | false => rfl
        | true => exact absurd (hth.1 h).1 hmn
      have HBB := Lib.hid hb
      clear hth hb
      go_quiet (fail)
      go_wp2_with fail
      go_meet
      exact ⟨by rw [HBB.out], HPS.out.drewN (by have := hB3.size; omega) _⟩
  case rest =>
    obtain ⟨rfl, HPS⟩ := hcut
    have HTH := Lib.hid (show ∀ b, thereE (ns.map Nd.e) ⟨k, q, g, v, u⟩ = b → skE (ns.map Nd.e) ⟨k, q, g, v, u⟩ = if b = true then (ns.map Nd.e, 11) else (insE (ns.map Nd.e) m ⟨k, q, g, v, u⟩, 0) from fun b hb => by
      unfold skE insE
      rw [if_neg (by rw [HG.out]; simp), hb, HM.out])
    have HT9 := HTH.out _ rfl
    clear HSN HG
    clear HTH
    generalize thereE (ns.map Nd.e) ⟨k, q, g, v, u⟩ = th at HT9 ⊢
    cases th with
    | true =>
      have hs := HT9
      clear HT9
      rw [if_pos rfl] at hs
      have HSE := Lib.hid hs
      clear hs
      go_wp2_with fail
      rw [HP.out]
      obtain ⟨_, p2, p3, p4, _, p6, p7⟩ := HPS.out
      refine ⟨by rw [HSE.out]; rfl, ⟨ns, by rw [HSE.out], ?_⟩, p6, p7⟩
      rw [HSE.out]
      show SK wc B lb z ns (if (11 : Int) = 0 then size + costE z (ns.map Nd.e).length ⟨k, q, g, v, u⟩ else size)
      rw [if_neg (by decide)]
      exact ⟨ha, ca, cc, hlb, p2, p3, p4⟩
    | false =>
      have hs := HT9
      clear HT9
      rw [if_neg (by decide)] at hs
      have HSE := Lib.hid hs
      clear hs
      go_wp2_with fail
      obtain ⟨w5, hw5⟩ : ∃ w5, w5 = wc := ⟨_, rfl⟩
      rw [← hw5] at HPS ⊢
      clear hw5
      have hBw : B ≤ w5.heap.size := by have := HPS.out.2.2.2.2.2.1.size; omega
      obtain ⟨co, hco⟩ : ∃ co, co = costE z ns.length ⟨k, q, g, v, u⟩ := ⟨_, rfl⟩
      have hcob : 0 ≤ co ∧ co ≤ 1000 := by
        have := coinH_bd z ns.length
        rw [hco]; unfold costE; simp only; omega
      have HCO := Lib.hid (fun n => cost_any (w5.drewN n) lb z.length cc ha ns.length ca size z (HPS.out.2.1) rfl (by omega) hz9 hzb (coins_row HPS.out.2.2.2.1) k q g v u (by omega) (by omega))
      rw [← hco] at HCO
      have HCOE := Lib.hid hco
      clear hco
      go_cut [] (fun wx => Hid (PS w wx B lb ha b8 cc ca z ns (VN ns) ns.length (size + co) ⟨k, q, g, v, u⟩ A))
      case first =>
        have c8 := HPS.out.2.1.cells.2.2.2
        obtain ⟨i0, i1, i2, i3, i4⟩ := HPS.out.1.cells
        simp only at i0 i1 i2 i3 i4
        have hsum : IntKind.i64.wrap (size + co) = size + co := IntWalk.i64_in _ (by omega)
        go_region_law
          (first
            | (go_simp; go_at_call 55; refine (HCO.out 1).mono ?_; rintro e w6 ⟨rfl, hb6⟩
               have hz6 := HPS.out.below hBw (show Below w5.heap.size w5 w6 from ⟨hb6.os, hb6.tape, hb6.output, hb6.size, hb6.block⟩)
               have c6 := hz6.2.1.cells.2.2.2
               have f6 := hz6.2.1.fz 8
               have HZ6 := Lib.hid hz6
               clear hz6))
        all_goals
          go_wp2_with fail
          go_meet
          obtain ⟨p1, p2, p3, p4, p5, p6, p7⟩ := HZ6.out
          exact ⟨p1.far (p := ⟨lb, 8, Option.none⟩) (fun e => blk_ne p1 p2 (by decide) e) _, p2.setSize _, p3.far p2 (by decide) (by decide) _, own_setAny p4 p2 (by decide) _, blk_far p5 (fun e => blk_ne p5 p2 (by decide) e), p6.setCell (p := ⟨lb, 8, none⟩) hlb _, p7.trans (Keeps.setCell (p := ⟨lb, 8, none⟩) p2 (by decide) _)⟩
      case rest =>
      have HPT := hcut
      clear hcut HPS HCO hBw w5
      obtain ⟨h, hh⟩ : ∃ h : Nat, coinH z ns.length = (h : Int) := ⟨(coinH z ns.length).toNat, by have := coinH_bd z ns.length; omega⟩
      have hh8 : 1 ≤ h ∧ h ≤ 8 := by have := coinH_bd z ns.length; omega
      obtain ⟨w6, hw6⟩ : ∃ w6, w6 = wc := ⟨_, rfl⟩
      rw [← hw6] at HPT
      have hBw : B ≤ w6.heap.size := by have := HPT.out.2.2.2.2.2.1.size; omega
      have HHT := Lib.hid (fun n => height_any (w6.drewN n) lb z.length cc ha ns.length ca (size + co) z (HPT.out.2.1) rfl (by omega) hz9 hzb (coins_row HPT.out.2.2.2.1))
      rw [hh] at HHT
      have hmk : ∀ W : World, (Instr.makeSlice 101 (.int .i64 (h : Int)) (.int .i64 (h : Int))).run Tryz.prog W = .ok (.slice (some ⟨W.heap.size, 0, none⟩) h h) (W.alloc (.cells (madeCells #[.pointer none] h) 106)) := fun W => run_make_row' (P := Tryz.prog) 101 106 (.pointer none) 8 Tryz.underlying101 infoNode rfl .i64 .i64 h (by omega) (by omega) W
      have HHH := Lib.hid hh
      clear hh
      go_wp2_with fail
      rw [← hw6]
      clear hw6
      go_cut [8] (fun s8 wx => ∃ nb na, s8 = .pointer (some ⟨nb, 0, none⟩) ∧ Hid (PS w wx B lb ha b8 cc ca z ns (VN ns) ns.length (size + co) ⟨k, q, g, v, u⟩ A) ∧ Hid (wx.heap[nb]? = some (.cells (ndCells ⟨nb, na, h, ⟨k, q, g, v, u⟩⟩) 103 (0, 0))) ∧ Hid (Arr wx na h (fun _ => .pointer none)) ∧ Hid (∀ p, p ≤ ns.length → arrP ha ns p ≠ na) ∧ B ≤ na)
      case first =>
        have E0 : Hid (w6.heap[w.heap.size]? = some (.cells #[.string k, .int .i64 q, .bool g, .string v, .int .i64 u] 45 (0, 0))) := HPT.out.1
        go_region_held3 (fun w' => w'.cell? ⟨w.heap.size, 0, none⟩ = some (.string k) ∧ w'.cell? ⟨w.heap.size, 1, none⟩ = some (.int .i64 q) ∧ w'.cell? ⟨w.heap.size, 2, none⟩ = some (.bool g) ∧ w'.cell? ⟨w.heap.size, 3, none⟩ = some (.string v) ∧ w'.cell? ⟨w.heap.size, 4, none⟩ = some (.int .i64 u))
          ((refine cells5 (t := 45) ?_; repeat (first | with_reducible exact E0.out | with_reducible refine blk_drew ?_ | with_reducible refine blk_drewN ?_ | with_reducible refine blk_alloc ?_)))
          (first
            | (go_at_call 56; refine (HHT.out 1).mono ?_; rintro e w7 ⟨rfl, nd, rfl⟩))
        all_goals
          have hbz : Below w6.heap.size w6 (((w6.drewN (1 + nd)).alloc (.cells (madeCells #[.pointer none] h) 106)).alloc (.cells #[.string k, .int .i64 q, .bool g, .string v, .int .i64 u, .slice (some ⟨w6.heap.size, 0, none⟩) h h] 103)) := below_alloc (below_alloc (drewN (Below.refl _ _)) _) _
          have hz := HPT.out.below hBw hbz
          go_wp2_with fail
          go_meet
          refine ⟨w6.heap.size + 1, w6.heap.size, rfl, hz, blk_new (by simp), ?_, fun p hp e => ?_, hBw⟩
          · refine blk_alloc ?_
            refine (blk_new (w := w6.drewN (1 + nd)) rfl).trans ?_
            rw [made_range]
          · have h1 := lt_of_block (HPT.out.2.2.1.arrs p hp); omega
      case rest =>
        obtain ⟨nb, na, rfl, HPV, HND, HAR, HNA, hna⟩ := hcut
        clear HPT HHT hmk hBw w6
        have n5 := cell_of_row wc nb 5 _ _ _ HND.out
        simp only [ndCells] at n5
        go_wp2_with fail
        go_loopw [59] (fun sj wr => ∃ j : Nat, sj = .int .i64 j ∧ j ≤ h ∧ Hid (PS w wr B lb ha b8 cc ca z ns (VJ ns ⟨nb, na, h, ⟨k, q, g, v, u⟩⟩ m j) ns.length (size + co) ⟨k, q, g, v, u⟩ A) ∧ Hid (wr.heap[nb]? = some (.cells (ndCells ⟨nb, na, h, ⟨k, q, g, v, u⟩⟩) 103 (0, 0))) ∧
          Hid (Arr wr na h (fun f => if f < j then VN ns m f else .pointer none))) (fun sj _ => h - (intOf sj).toNat)
        case atStart => exact ⟨0, rfl, by omega, HPV.out.congrV (fun p f hp hf => by simp [VJ]), HND.out, HAR.out.congr (fun f hf => by simp)⟩
        case round =>
          obtain ⟨j, rfl, hj, hps, hnd, har⟩ := hrel
          have n5 := cell_of_row wr nb 5 _ _ _ hnd.out
          simp only [ndCells] at n5
          by_cases hjh : j < h
          · obtain ⟨p, hp⟩ : ∃ p, p = lastIx ns j m := ⟨_, rfl⟩
            have hpm : p ≤ m := by rw [hp]; exact lastIx_le ns j m
            have hpl : p ≤ ns.length := by omega
            have hjp : j < hP ns p := by
              rcases lastIx_high (ns := ns) (f := j) (m := m) with h0 | h0
              · rw [← hp] at h0; subst h0; show j < 8; omega
              · rw [← hp] at h0
                cases p with
                | zero => show j < 8; omega
                | succ i => exact h0
            have hAj : A j = posA lb ns p := by rw [HA.out, hp]
            have a8 := arr8_get hps.out.2.2.2.2.1 (show j < 8 by omega)
            have hcell := place' hps.out.2.1 hps.out.2.2.1 hpl
            rw [← hAj] at hcell
            obtain ⟨o, ho⟩ : ∃ o, VN ns p j = .pointer o := by unfold VN; cases nxt (ns.drop p) j with
              | none => exact ⟨_, rfl⟩
              | some y => exact ⟨_, rfl⟩
            have hcv := (hps.out.2.2.1.arrs p hpl).cell hjp
            have hvj : VJ ns ⟨nb, na, h, ⟨k, q, g, v, u⟩⟩ m j p j = .pointer o := by unfold VJ; rw [if_neg (by omega)]; exact ho
            rw [hvj] at hcv
            have hfn := har.out.fz j
            have hcn := har.out.cell hjh
            rw [if_neg (by omega)] at hcn
            have hne : arrP ha ns p ≠ na := HNA.out p hpl
            have hA2 := (hps.out.2.2.1.arrs p hpl).far (p := ⟨na, j, Option.none⟩) hne (.pointer o)
            have hfa := hA2.fz j
            have hca := hA2.cell hjp
            rw [hvj] at hca
            have d1 : (0 : Int) ≤ (j : Int) := by omega
            have d2 : (j : Int) < (h : Int) := by omega
            have d3 : (j : Int) < 8 := by omega
            have d4 : (j : Int) < (hP ns p : Int) := by omega
            have HPP := Lib.hid hp
            have HOO := Lib.hid ho
            have HNE := Lib.hid hne
            clear hvj hA2 hAj hp ho hne
            go_wp2_with fail
            go_region
            all_goals
              have z1 := hps.out.setNew har.out HNA.out hna j (.pointer o)
              have z2 := z1.setArr hpl j (.pointer (some ⟨nb, 0, none⟩))
              have z3 := z2.congrV (U := VJ ns ⟨nb, na, h, ⟨k, q, g, v, u⟩⟩ m (j + 1)) (fun p' f hp' hf => by
                unfold VJ
                by_cases hfj : f = j
                · subst hfj
                  by_cases hpp : p' = p
                  · subst hpp
                    rw [if_pos ⟨rfl, rfl⟩, if_pos ⟨by omega, HPP.out.symm⟩]; rfl
                  · rw [if_neg (fun hh => hpp hh.1), if_neg (fun hh => by omega), if_neg (fun hh => hpp (by rw [HPP.out]; exact hh.2.symm))]
                · rw [if_neg (fun hh => hfj hh.2)]
                  by_cases hlt : f < j
                  · by_cases hl : lastIx ns f m = p'
                    · rw [if_pos ⟨hlt, hl⟩, if_pos ⟨by omega, hl⟩]
                    · rw [if_neg (fun hh => hl hh.2), if_neg (fun hh => hl hh.2)]
                  · rw [if_neg (fun hh => hlt hh.1), if_neg (fun hh => by omega)])
              have HZ := Lib.hid (z3.drewN (by have := z3.2.2.2.2.2.1.size; omega) 1)
              have hga := hps.out.2.2.1.arrs p hpl
              unfold Arr at hga
              have HN2 : Hid ((((wr.setCell ⟨na, j, none⟩ (.pointer o)).setCell ⟨arrP ha ns p, j, none⟩ (.pointer (some ⟨nb, 0, none⟩))).drewN 1).heap[nb]? = some (.cells (ndCells ⟨nb, na, h, ⟨k, q, g, v, u⟩⟩) 103 (0, 0))) :=
                blk_far (blk_far hnd.out (fun e => blk_ne hnd.out har.out (by decide) e)) (fun e => blk_ne hnd.out hga (by decide) e)
              have HA2 : Hid (Arr (((wr.setCell ⟨na, j, none⟩ (.pointer o)).setCell ⟨arrP ha ns p, j, none⟩ (.pointer (some ⟨nb, 0, none⟩))).drewN 1) na h (fun f => if f < j + 1 then VN ns m f else .pointer none)) :=
                ((har.out.set j (.pointer o)).far (p := ⟨arrP ha ns p, j, Option.none⟩) (fun e => HNE.out e.symm) (.pointer (some ⟨nb, 0, none⟩))).congr (fun f hf => by
                  by_cases hfj : f = j
                  · subst hfj
                    rw [if_pos rfl, if_pos (by omega), ← HOO.out, HPP.out]
                    unfold VN; rw [next_last hml]
                  · rw [if_neg hfj]
                    by_cases hlt : f < j
                    · rw [if_pos hlt, if_pos (by omega)]
                    · rw [if_neg hlt, if_neg (by omega)])
              clear z1 z2 z3 hga a8 hcell hcv hcn hfn hfa hca n5
              go_wp2_with fail
              go_roundw
              case rel => exact ⟨j + 1, by go_num, by omega, HZ.out, HN2.out, HA2.out⟩
              case measure => simp [intOf]; omega
          · obtain rfl : j = h := by omega
            obtain ⟨p1, p2, p3, p4, p5, p6, p7⟩ := hps.out
            have c7 := p2.cells.2.2.1
            have f7 := p2.fz 7
            clear p1 p2 p3 p4 p5 p6 p7 n5
            go_wp2_with fail
            rw [HP.out]
            obtain ⟨p1, p2, p3, p4, p5, p6, p7⟩ := hps.out
            have hLL := ins_len (⟨nb, na, j, ⟨k, q, g, v, u⟩⟩ : Nd) hml
            refine ⟨by rw [HSE.out]; rfl, ⟨ins ns m ⟨nb, na, j, ⟨k, q, g, v, u⟩⟩, by rw [HSE.out, map_ins], ?_⟩, p6.setCell (p := ⟨lb, 7, none⟩) hlb _, p7.trans (Keeps.setCell (p := ⟨lb, 7, none⟩) p2 (by decide) _)⟩
            rw [HSE.out]
            show SK _ B lb z _ (if (0 : Int) = 0 then size + costE z (ns.map Nd.e).length ⟨k, q, g, v, u⟩ else size)
            rw [if_pos rfl, List.length_map, ← HCOE.out]
            have q2 := p2.setCount ((ns.length : Int) + 1)
            refine ⟨ha, ca, cc, hlb, ?_, (tower_ins (x := ⟨nb, na, j, ⟨k, q, g, v, u⟩⟩) p3 hml hnd.out (har.out.congr (fun f hf => by rw [if_pos hf])) HNA.out hna hh8).far p2 (by decide) (by decide) _, own_setAny p4 p2 (by decide) _⟩
            rw [hLL]
            exact q2
end Go.Proofs.YtpihmjdljbienaaGreatDoor.Sw
