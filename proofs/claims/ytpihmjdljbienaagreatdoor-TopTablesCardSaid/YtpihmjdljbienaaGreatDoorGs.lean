/- Several texts in one: TopZ, TopX. -/
import Derived.Test.YtpihmjdljbienaaGreatDoorGp
import Derived.Test.YtpihmjdljbienaaGreatDoorGm
import Derived.Test.YtpihmjdljbienaaGreatDoorGo
import Derived.Test.YtpihmjdljbienaaGreatDoorDstE
import Derived.Test.YtpihmjdljbienaaGreatDoorGi
import Derived.Test.YtpihmjdljbienaaGreatDoorGr
import Derived.Test.YtpihmjdljbienaaGreatDoorGq
import Derived.Test.YtpihmjdljbienaaGreatDoorGb
import Derived.Deep.CutBlock
/- Between the steps of the law on tables: the entries that were put; the four lists, and those that were read back, in memory. -/
namespace Go.Proofs.YtpihmjdljbienaaGreatDoor.Dw
open Go.RowKit
open B En
set_option linter.unusedVariables false

theorem goodE_num {e : Ent} (h : goodE e = 0) {q : Int} (hq : 1 ≤ q) : goodE { e with seq := q } = 0 := by
  unfold goodE at h ⊢
  by_cases h1 : 64 < e.key.size ∨ 512 < e.val.size
  · rw [if_pos h1] at h; exact absurd h (by decide)
  rw [if_neg h1] at h
  rw [if_neg (show ¬ (64 < ({ e with seq := q } : Ent).key.size ∨ 512 < ({ e with seq := q } : Ent).val.size) from h1)]
  split at h
  · exact absurd h (by decide)
  · rename_i h2
    rw [if_neg]
    intro h3
    apply h2
    rcases h3 with h3 | h3 | h3 | h3
    · exact .inl h3
    · exact absurd h3 (by simp only; omega)
    · exact .inr (.inr (.inl h3))
    · exact .inr (.inr (.inr h3))
/-- the entries that were put: good ones, in order, numbered from 1 on -/
structure Fine (L : List Ent) (j : Nat) : Prop where
  so : Sorted L
  len : L.length = j
  ok : ∀ e ∈ L, goodE e = 0 ∧ e.seq ≤ j ∧ e.til < 4611686018427387904
theorem fine_0 : Fine [] 0 := ⟨sorted_nil, rfl, fun e he => by cases he⟩
theorem Fine.put {L : List Ent} {j : Nat} (h : Fine L j) {x : Ent} (hg : goodE x = 0) (hq : x.seq = (j : Int) + 1) (ht : x.til < 4611686018427387904) : (skE L x).2 = 0 ∧ Fine (skE L x).1 (j + 1) := by
  have hn : thereE L x = false := by
    unfold thereE
    rw [List.any_eq_false]
    intro y hy
    have := (h.ok y hy).2.1
    simp only [sameK, Bool.and_eq_true, decide_eq_true_eq, not_and]
    intro _ hh
    omega
  have e : skE L x = (insE L (lessN x L) x, 0) := by
    unfold skE
    rw [if_neg (by simp [hg]), if_neg (by simp [hn])]; rfl
  rw [e]
  refine ⟨rfl, sorted_ins h.so hn, by rw [insE_len x (lessN_le x L), h.len], fun y hy => ?_⟩
  simp only [insE, List.mem_append, List.mem_cons] at hy
  rcases hy with hy | rfl | hy
  · obtain ⟨a, b, c⟩ := h.ok y (List.mem_of_mem_take hy); exact ⟨a, by omega, c⟩
  · exact ⟨hg, by omega, ht⟩
  · obtain ⟨a, b, c⟩ := h.ok y (List.mem_of_mem_drop hy); exact ⟨a, by omega, c⟩
theorem Fine.fits {L : List Ent} {j : Nat} (h : Fine L j) (hj : j ≤ 1000) : ∀ e ∈ L, Fits e := fun e he => by
  obtain ⟨a, b, c⟩ := h.ok e he
  have := goodE_0 a
  exact ⟨by omega, by omega, by omega, by omega, by omega, by omega⟩
theorem Fine.key {L : List Ent} {j : Nat} (h : Fine L j) {i : Nat} (hi : i < L.length) : (L.getD i ent0).key.size ≠ 0 := by
  have h1 := goodE_0 (h.ok _ (Tb.mem_getD hi)).1
  omega
/-- a list of some of these -/
theorem Fine.oks {L M : List Ent} {j : Nat} (h : Fine L j) (hs : Sorted M) (hm : ∀ x ∈ M, x ∈ L) : Tb.OKs M :=
  ⟨fun e he => by
    obtain ⟨a, b, c⟩ := h.ok e (hm e he)
    exact ⟨a, by omega⟩, hs⟩

/-- keeps, of the four lists -/
theorem four_keeps {ts : List TypeId} {B gl : Nat} {sl : Nat → Option Addr × Nat × Nat} {Ls : List (List Ent)} {W W' : World} (f : Mg.Four B gl sl Ls W) (k : Keeps ts W W') (h1 : 45 ∉ ts) (h2 : 33 ∉ ts) : Mg.Four B gl sl Ls W' :=
  ⟨k _ _ _ _ f.blk h2, fun j hj => own_keeps (f.own j hj) k h1, f.dis⟩
/-- a slice's parts -/
def slT : Value → Option Addr × Nat × Nat
  | .slice a m c => (a, m, c)
  | _ => (none, 0, 0)
/-- lists in memory as Merge wants them -/
theorem AllR.row {w : World} {B n d : Nat} {p : Option Addr} {ls : List (List Ent)} (h : AllR w B (.slice p n d) ls) (hn : n = ls.length) : ∃ sl, Mg.LsRow w p n sl ls := by
  obtain ⟨sls, ho, hi⟩ := h
  subst hn
  have hl : sls.length = ls.length := by have := ho.1; simpa using this
  refine ⟨fun i => slT (sls.getD i undef), rfl, ?_, fun i hlt => ?_⟩
  · refine (own_row ho).2.congr fun i hlt => ?_
    obtain ⟨a, c, h1, _⟩ := hi i hlt
    have e : sls.getD i undef = .slice a (ls.getD i []).length c := by rw [List.getD_eq_getElem?_getD, h1]; rfl
    simp only [e, slT]
  · obtain ⟨a, c, h1, h2⟩ := hi i hlt
    have e : sls.getD i undef = .slice a (ls.getD i []).length c := by rw [List.getD_eq_getElem?_getD, h1]; rfl
    simp only [e, slT]
    have h3 := Mg.own_inp h2
    exact ⟨trivial, h3.1, h3.2.2⟩
end Go.Proofs.YtpihmjdljbienaaGreatDoor.Dw

/- The walk of the law TopTables. -/
namespace Go.Proofs.YtpihmjdljbienaaGreatDoor.Dw
open Go.RowKit
open B En
set_option linter.unusedVariables false
attribute [local go_sem] Oper.semAt_some

theorem FSt.keeps {ts : List TypeId} {B lb cn cc ha ga gb : Nat} {ca : Option Addr} {cnt size : Int} {key : ByteArray} {ns : List Nd} {W W' : World} (h : FSt B lb cn cc ha ga gb ca cnt size key ns W) (k : Keeps ts W W') (h1 : 105 ∉ ts) (h2 : 106 ∉ ts) (h3 : 103 ∉ ts) (h4 : 48 ∉ ts) (h5 : 9 ∉ ts) :
    FSt B lb cn cc ha ga gb ca cnt size key ns W' :=
  ⟨h.hl.keeps k h1, h.tw.keeps k h2 h3, k _ _ _ _ h.ca_ h4, k _ _ _ _ h.cb_ h5⟩
theorem sk_keeps {ts : List TypeId} {B lb : Nat} {z : List Int} {ns : List Nd} {size : Int} {W W' : World} (h : Sw.SK W B lb z ns size) (k : Keeps ts W W') (h1 : 105 ∉ ts) (h2 : 106 ∉ ts) (h3 : 103 ∉ ts) (h4 : 3 ∉ ts) : Sw.SK W' B lb z ns size := by
  obtain ⟨ha, ca, cc, a, b, c, d⟩ := h
  exact ⟨ha, ca, cc, a, b.keeps k h1, c.keeps k h2 h3, own_keeps d k h4⟩
/-- between the rounds over the list: the first p entries are noted in the box ab -/
structure JR (B lb cn cc ha ga gb ab Br : Nat) (ca : Option Addr) (cnt size : Int) (ns : List Nd) (wl : World) (p : Nat) (W : World) : Prop where
  st : FSt B lb cn cc ha ga gb ca cnt size ⟨#[]⟩ ns W
  row : ∃ pp d, Cell1 W ab 33 (.slice pp p d) ∧ W.ownsRow Br 45 5 (.slice pp p d) p (ecells ((ns.map Nd.e).take p))
  le : p ≤ ns.length
  bel : Below ab wl W
  siz : Br ≤ W.heap.size
theorem jr_bides (B lb cn cc ha ga gb ab Br B' : Nat) (ca : Option Addr) (cnt size : Int) (ns : List Nd) (wl : World) (hab : ab ≤ B') (hw : ab ≤ wl.heap.size) : BidesF B' (JR B lb cn cc ha ga gb ab Br ca cnt size ns wl) where
  drew := by
    rintro p W k ⟨h1, ⟨pp, d, h2, h3⟩, h4, h5, h6⟩
    exact ⟨h1.below (drewN (Below.refl _ _)), ⟨pp, d, h2, own_drewN h3 k⟩, h4, drewN h5, h6⟩
  alloc := by
    rintro p W o ⟨h1, ⟨pp, d, h2, h3⟩, h4, h5, h6⟩
    have hb := below_alloc (Below.refl W.heap.size W) o
    exact ⟨h1.below hb, ⟨pp, d, h2.below hb, own_below h3 hb⟩, h4, h5.trans ((Below.refl ab W).alloc (Nat.le_trans hw h5.size) o), Nat.le_trans h6 hb.size⟩
  put := by
    rintro p W r o o' ⟨h1, ⟨pp, d, h2, h3⟩, h4, h5, h6⟩ hr ho hoc
    have hk := keeps_put ho hoc o'
    exact ⟨h1.keeps hk (by simp) (by simp) (by simp) (by simp) (by simp), ⟨pp, d, hk _ _ _ _ h2 (by simp), own_keeps h3 hk (by simp)⟩, h4, Mg.below_put h5 (Nat.le_trans hw h5.size) (Nat.le_trans hab hr) o', by rw [World.putObj_size]; exact h6⟩

theorem jr_push {B lb cn cc ha ga gb ab Br p d cap5 : Nat} {ca : Option Addr} {cnt size : Int} {ns : List Nd} {wl W w5 : World} {pp a5 : Option Addr} {e : Ent}
    (hst : FSt B lb cn cc ha ga gb ca cnt size ⟨#[]⟩ ns W) (hbox : Cell1 W ab 33 (.slice pp p d)) (hown : W.ownsRow Br 45 5 (.slice pp p d) p (ecells ((ns.map Nd.e).take p))) (hlt : p < ns.length) (he : (ns.getD p nd0).e = e)
    (hbel : Below ab wl W) (hsz : Br ≤ W.heap.size) (hab : ab ≤ Br) (ho5 : w5.ownsRow Br 45 5 (.slice a5 (p + 1) cap5) (p + 1) (ecells ((ns.map Nd.e).take p) ++ e.cells)) (hg5 : W.grownBy w5 (Value.slice pp p d).ownBlock) (hb5 : Below Br W w5) :
    Cell1 w5 ab 33 (.slice pp p d) ∧ JR B lb cn cc ha ga gb ab Br ca cnt size ns wl (p + 1) (w5.setCell ⟨ab, 0, none⟩ (.slice a5 (p + 1) cap5)) ∧ KeptF W (w5.setCell ⟨ab, 0, none⟩ (.slice a5 (p + 1) cap5)) := by
  have hk5 : Keeps [45] W w5 := Keeps.grown (ts := [45]) hown (by simp) hg5
  have hc5 : Cell1 w5 ab 33 (.slice pp p d) := hk5 _ _ _ _ hbox (by decide)
  have hk6 : Keeps [33] w5 (w5.setCell ⟨ab, 0, none⟩ (.slice a5 (p + 1) cap5)) := Keeps.setCell (p := ⟨ab, 0, none⟩) hc5 (by simp) _
  have hk : Keeps [45, 33] W (w5.setCell ⟨ab, 0, none⟩ (.slice a5 (p + 1) cap5)) := (hk5.mono (by decide)).trans (hk6.mono (by decide))
  have hts : (ns.map Nd.e).take (p + 1) = (ns.map Nd.e).take p ++ [e] := by
    rw [take_snoc _ p ent0 (by rw [List.length_map]; exact hlt), map_getD ns p hlt, he]
  refine ⟨hc5, ⟨hst.keeps hk (by decide) (by decide) (by decide) (by decide) (by decide), ⟨a5, cap5, hc5.set _, ?_⟩, hlt, ?_, ?_⟩, ?_, ?_⟩
  · rw [hts, ecells_snoc]
    exact own_keeps ho5 hk6 (by decide)
  · exact (hbel.trans (hb5.mono hab)).setCell (p := ⟨ab, 0, none⟩) (Nat.le_refl _) _
  · rw [Mg.size_set]; exact Nat.le_trans hsz hb5.size
  · rw [Mg.size_set]; exact hb5.size
  · intro g o hg hgo
    have hne : g ≠ ab := fun e' => by
      subst e'
      have hb : W.heap[g]? = _ := hbox
      rw [hg] at hb
      cases hb
      cases hgo
    refine (Below.heap_setCell w5 ⟨ab, 0, none⟩ _ g hne).trans ((hg5.block g (lt_of_block hg) fun e' => ?_).trans hg)
    rcases hown.2 with ⟨hv, _⟩ | ⟨g', c', cur, hv, _, hbk, _⟩
    · rw [hv] at e'; cases e'
    · rw [hv] at e'
      have e2 : g = g' := by simpa [Value.ownBlock] using e'
      subst e2
      rw [hg] at hbk
      cases hbk
      cases hgo

theorem not_less_nil (k : ByteArray) : ¬ cmpK k ⟨#[]⟩ < 0 := by
  unfold cmpK
  show ¬ Lib.compareBytes k.data.toList [] < 0
  cases k.data.toList <;> simp [Lib.compareBytes]
theorem from_nil (e : Ent) : Tb.fromK ⟨#[]⟩ e = true := by
  unfold Tb.fromK
  rw [decide_eq_false (not_less_nil e.key)]; rfl
theorem keepX {W W' : World} {g : Nat} {x y : Value} (h : (W.cell? ⟨g, 0, none⟩ = some x ∧ W.cell? ⟨g, 1, none⟩ = some y) ∧ g < W.heap.size) (k : Below W.heap.size W W') : (W'.cell? ⟨g, 0, none⟩ = some x ∧ W'.cell? ⟨g, 1, none⟩ = some y) ∧ g < W'.heap.size :=
  ⟨⟨(k.cell (p := ⟨g, 0, none⟩) h.2).trans h.1.1, (k.cell (p := ⟨g, 1, none⟩) h.2).trans h.1.2⟩, Nat.lt_of_lt_of_le h.2 k.size⟩
theorem less_nil (x : ByteArray) : Op.bytesLess x.toList (⟨#[]⟩ : ByteArray).toList = false := by
  rw [ByteArray.toList_eq (⟨#[]⟩ : ByteArray)]
  cases x.toList <;> rfl
theorem kept_of_below {W W' : World} (h : Below W.heap.size W W') : KeptF W W' := ⟨h.size, fun k o hk _ => (h.block k (lt_of_block hk)).trans hk⟩
theorem KeptF.trans {A B C : World} (h : KeptF A B) (k : KeptF B C) : KeptF A C := ⟨Nat.le_trans h.size k.size, fun i o hi ho => k.other i o (h.other i o hi ho) ho⟩
set_option maxHeartbeats 6400000 in
set_option maxRecDepth 100000 in
theorem tables_any (la : Option Addr) (ln lcap : Nat) (ls : List Ent) (hl : ls.length = ln) (hnc : ln ≤ lcap) (hln : ln * 56 ≤ 140737488351232) (ca : Option Addr) (cn ccap : Nat) (cz : List Int) (hcl : cz.length = cn) (hcc : cn ≤ ccap) (hcm : ccap ≤ 9223372036854775807) (hcb : cn * 8 ≤ 140737488351232) (hci : ∀ x ∈ cz, -9223372036854775808 ≤ x ∧ x ≤ 9223372036854775807) (x0 x1 : Int)
    (w : World) (hrow : ERow w la ln (fun i => ls.getD i ent0)) (hcr : Row w ca cn (fun i => .int .i64 (cz.getD i 0))) :
    Calls Tryz.prog 4 #[.slice la ln lcap, .slice ca cn ccap, .agg #[.int .i64 x0, .int .i64 x1]] w fun e w' => e = .returned (.bool true) ∧ Below w.heap.size w w' := by
  subst hcl
  have HRW := Lib.hid hrow
  have HCR := Lib.hid hcr
  have HCI := Lib.hid hci
  have HL := Lib.hid hl
  have HS := Lib.hid stirs_any
  clear hrow hcr hci hl
  have hal := below_alloc (Below.refl w.heap.size w) (.cells #[.int .i64 x0, .int .i64 x1] 47)
  have hX0 : (w.alloc (.cells #[.int .i64 x0, .int .i64 x1] 47)).heap[w.heap.size]? = some (.cells #[.int .i64 x0, .int .i64 x1] 47 (0, 0)) := heap_alloc_new _ _
  have hsz0 : (w.alloc (.cells #[.int .i64 x0, .int .i64 x1] 47)).heap.size = w.heap.size + 1 := Array.size_push ..
  generalize hW0 : w.alloc (.cells #[.int .i64 x0, .int .i64 x1] 47) = W0 at hal hX0 hsz0
  have HW0 := Lib.hid hW0
  have HAL := Lib.hid hal
  have HX0 := Lib.hid hX0
  clear hW0 hal hX0
  refine (callsIn_wide (n := 0)).1 (callsIn_of_wp_marks Tryz.func4 rfl trivial ?_ rfl)
  refine wpIn_wide.2 ?_
  simp only [Tryz.ntmps4, List.size_toArray, List.length_cons, List.length_nil, Nat.reduceAdd, Nat.reduceSub, Array.replicate_succ, Array.replicate_zero, List.push_toArray, List.append_toArray, List.nil_append, List.cons_append]
  go_wp2_with fail
  rw [HW0.out]
  refine (HS.out _).mono ?_
  rintro e w2 ⟨rfl, hb2⟩
  have HB2 : Hid (Below w.heap.size w w2) := chain HAL.out hb2
  have HX2 := Lib.hid ((hb2.block w.heap.size (lt_of_block HX0.out)).trans HX0.out)
  have HNW := Lib.hid (Sw.new_any ca cz.length ccap cz rfl hcb w2 (HCR.out.below HB2.out))
  clear hb2 HS HX0
  go_wp2_with fail
  refine HNW.out.mono ?_
  rintro e w3 ⟨lb, rfl, hsk3, hb3⟩
  have HB3 : Hid (Below w.heap.size w w3) := chain HB2.out hb3
  have HX3 := Lib.hid ((hb3.block w.heap.size (lt_of_block HX2.out)).trans HX2.out)
  have HXL : Hid (w.heap.size < w3.heap.size) := lt_of_block HX3.out
  have hal4 := below_alloc (Below.refl w3.heap.size w3) (.cells #[.slice none 0 0] 33)
  have hc4 : Cell1 (w3.alloc (.cells #[.slice none 0 0] 33)) w3.heap.size 33 (.slice none 0 0) := heap_alloc_new _ _
  have hsk4 := hsk3.below hal4
  have hs4 : (w3.alloc (.cells #[.slice none 0 0] 33)).heap.size = w3.heap.size + 1 := Array.size_push ..
  have hx4 := (hal4.block w.heap.size (lt_of_block HX3.out)).trans HX3.out
  generalize hW4 : w3.alloc (.cells #[.slice none 0 0] 33) = w4 at hal4 hc4 hsk4 hs4 hx4
  have HW4 := Lib.hid hW4
  have HB4 : Hid (Below w.heap.size w w4) := chain HB3.out hal4
  have HC4 := Lib.hid hc4
  have HSK4 := Lib.hid hsk4
  have HX4 := Lib.hid hx4
  have HS23 := Lib.hid hb3.size
  have HIT := Lib.hid (items_any la ln lcap ls HL.out hnc hln 60 (by decide) w4 (HRW.out.below HB4.out))
  clear hW4 hal4 hc4 hsk4 hx4 hsk3 hb3 HNW HX2 HX3
  go_wp2_with fail
  rw [HW4.out]
  refine HIT.out.mono ?_
  rintro e w5 ⟨ip, id, rfl, hi5, hb5⟩
  obtain ⟨its, hits⟩ : ∃ its, its = itemsE (ls.take 60) := ⟨_, rfl⟩
  rw [← hits] at hi5 ⊢
  have HME : Hid (∀ e ∈ its, goodE e = 0 ∧ e.til < 4611686018427387904) := fun e he => itemsE_mem (by rw [hits] at he; exact he)
  have hn60 : its.length ≤ 60 := by rw [hits]; exact Nat.le_trans (itemsE_len _) (by rw [List.length_take]; omega)
  have HI5 := Lib.hid hi5
  have HB5 : Hid (Below w.heap.size w w5) := chain HB4.out hb5
  have HC5 := Lib.hid (HC4.out.below hb5)
  have HSK5 := Lib.hid (HSK4.out.below hb5)
  have HX5 := Lib.hid ((hb5.block w.heap.size (lt_of_block HX4.out)).trans HX4.out)
  have hs5 := hb5.size
  obtain ⟨n, hn⟩ : ∃ n, n = its.length := ⟨_, rfl⟩
  have HN := Lib.hid hn
  rw [← hn] at hn60 ⊢
  have HS25 : Hid (w2.heap.size ≤ w5.heap.size) := by have := HS23.out; show _ ≤ _; omega
  have HS35 : Hid (w3.heap.size < w5.heap.size) := by show _ < _; omega
  clear hi5 hb5 hits HIT HC4 HSK4 HX4 hn hs5 hs4 HW4 HB4
  go_wp2_with fail
  go_loopw [37] (fun si wr => ∃ (j : Nat) (ns : List Nd) (size : Int), si = .int .i64 j ∧ j ≤ n ∧ Hid (Sw.SK wr w2.heap.size lb cz ns size) ∧ Hid (Fine (ns.map Nd.e) j) ∧ 0 ≤ size ∧ size ≤ (j : Int) * 1000 ∧ Hid (Below w2.heap.size w5 wr) ∧ Hid (Keeps Sw.skTs w5 wr)) (fun si _ => n - (intOf si).toNat)
  case atStart => exact ⟨0, [], 0, rfl, by omega, HSK5, Lib.hid fine_0, by omega, by omega, Lib.hid (Below.refl _ _), Lib.hid (fun _ _ _ _ h _ => h)⟩
  case round =>
    obtain ⟨j, ns, size, rfl, hj, hsk, hfi, hz0, hz1, hbel, hkp⟩ := hrel
    by_cases hlt : j < n
    · have hit := own_keeps HI5.out hkp.out (by decide)
      obtain ⟨ab, off, rfl, hab, hac⟩ := (own_erow hit).2.2.at (by have := HN.out; omega)
      have hd := hac j (by have := HN.out; omega)
      have hme := HME.out _ (Tb.mem_getD (show j < its.length by have := HN.out; omega))
      generalize its.getD j ent0 = x at hd hme
      obtain ⟨k0, q0, g0, v0, u0⟩ := x
      simp only at hd
      obtain ⟨d0, d1, d2, d3, d4⟩ := hd
      have hgd : goodE ⟨k0, (j : Int) + 1, g0, v0, u0⟩ = 0 := goodE_num hme.1 (by omega)
      obtain ⟨hp0, hfi2⟩ := hfi.out.put hgd rfl hme.2
      have HFI2 := Lib.hid hfi2
      have hb9 := below_alloc (Below.refl wr.heap.size wr) (.cells #[.string k0, .int .i64 ((j : Int) + 1), .bool g0, .string v0, .int .i64 u0] 45)
      have hB9 : w2.heap.size ≤ (wr.alloc (.cells #[.string k0, .int .i64 ((j : Int) + 1), .bool g0, .string v0, .int .i64 u0] 45)).heap.size := by have := hbel.out.size; have := HS25.out; have := hb9.size; omega
      have HPT := Lib.hid (Sw.put_any _ w2.heap.size lb cz ns size hB9 (hsk.out.below hb9) hfi.out.so (by have h1 := hfi.out.len; rw [List.length_map] at h1; omega) (by omega) HCI.out (by omega) k0 ((j : Int) + 1) g0 v0 u0)
      have hcost : 0 ≤ Sw.costE cz (ns.map Nd.e).length ⟨k0, (j : Int) + 1, g0, v0, u0⟩ ∧ Sw.costE cz (ns.map Nd.e).length ⟨k0, (j : Int) + 1, g0, v0, u0⟩ ≤ 1000 := by
        have h1 := Sw.coinH_bd cz (ns.map Nd.e).length
        have h2 := goodE_0 hgd
        unfold Sw.costE
        simp only at h2 ⊢
        omega
      unfold Sw.PutR at HPT
      generalize Sw.costE cz (ns.map Nd.e).length ⟨k0, (j : Int) + 1, g0, v0, u0⟩ = cost at hcost HPT
      have HB9 := Lib.hid hb9
      have i1 : (0 : Int) ≤ (j : Int) := by omega
      have i2 : (j : Int) < (n : Int) := by omega
      have e9 : IntKind.i64.wrap ((j : Int) + 1) = (j : Int) + 1 := IntWalk.i64_in _ (by omega)
      have HP0 := Lib.hid hp0
      clear hac hit hab hme hgd hb9 hp0 hB9 hfi2
      go_wp2_with fail
      refine HPT.out.mono ?_
      rintro e w9 ⟨rfl, ⟨ns', hns, hsk9⟩, hb9, hk9⟩
      rw [HP0.out, if_pos rfl] at hsk9
      rw [HP0.out]
      have hfi9 : Fine (ns'.map Nd.e) (j + 1) := by rw [hns]; exact HFI2.out
      have HBK9 := Lib.hid (And.intro (hbel.out.trans ((HB9.out.mono (by have := hbel.out.size; have := HS25.out; omega)).trans hb9)) ((hkp.out.trans (Keeps.below HB9.out)).trans hk9))
      have HSK9 := Lib.hid hsk9
      have HFI9 := Lib.hid hfi9
      clear hsk9 hfi9 hb9 hk9 hns hkp hbel hfi hsk HPT HP0 d0 d1 d2 d3 d4
      go_wp2_with fail
      go_roundw
      case rel => exact ⟨j + 1, ns', size + cost, by go_num, by omega, HSK9, HFI9, by omega, by omega, Lib.hid HBK9.out.1, Lib.hid HBK9.out.2⟩
      case measure => simp [intOf]; omega
    · obtain rfl : j = n := by omega
      have HC6 : Hid (Cell1 wr w3.heap.size 33 (.slice none 0 0)) := hkp.out _ _ _ _ HC5.out (by decide)
      have HX6 : Hid (wr.heap[w.heap.size]? = some (.cells #[.int .i64 x0, .int .i64 x1] 47 (0, 0))) := hkp.out _ _ _ _ HX5.out (by decide)
      have HS6 : Hid (w3.heap.size < wr.heap.size) := Nat.lt_of_lt_of_le HS35.out hbel.out.size
      have HB6 : Hid (Below w.heap.size w wr) := HB5.out.trans (hbel.out.mono HB2.out.size)
      obtain ⟨ha, cha, chc, hBl, hLB, hTW, _⟩ := hsk.out
      have HFR := Lib.hid (from2_any wr lb ⟨#[]⟩)
      have HLT := Lib.hid (And.intro hLB hTW)
      obtain ⟨R, hR⟩ : ∃ R, R = ns.map Nd.e := ⟨_, rfl⟩
      have HFN : Hid (Fine R j) := by rw [hR]; exact hfi
      have HR := Lib.hid hR
      have HS3 : Hid (w.heap.size ≤ w3.heap.size) := HB3.out.size
      clear hR hsk hfi hkp hbel hLB hTW HC5 HX5 HSK5 HI5 HME HB5 HS25 HS35 hlt hj
      go_wp2_with fail
      refine HFR.out.mono ?_
      rintro e w6 ⟨rfl, hw6⟩
      have hal6 : Below wr.heap.size wr w6 := by rw [hw6]; exact below_alloc (below_alloc (Below.refl _ _) _) _
      have hga : Cell1 w6 wr.heap.size 48 (.pointer (some ⟨lb, 0, none⟩)) := by rw [hw6]; exact blk_alloc (heap_alloc_new _ _)
      have hgb : Cell1 w6 (wr.heap.size + 1) 9 (.string ⟨#[]⟩) := by rw [hw6]; exact blk_new (by simp)
      have HST6 : Hid (FSt w2.heap.size lb cz.length chc ha wr.heap.size (wr.heap.size + 1) cha ns.length size ⟨#[]⟩ ns w6) := ⟨HLT.out.1.below hal6, HLT.out.2.below hal6, hga, hgb⟩
      have HC7 : Hid (Cell1 w6 w3.heap.size 33 (.slice none 0 0)) := HC6.out.below hal6
      have HX7 : Hid (w6.heap[w.heap.size]? = some (.cells #[.int .i64 x0, .int .i64 x1] 47 (0, 0))) := (hal6.block _ (lt_of_block HX6.out)).trans HX6.out
      have HB7 : Hid (Below w.heap.size w w6) := chain HB6.out hal6
      have hs7 : w3.heap.size ≤ w6.heap.size := by have := HS6.out; have := hal6.size; omega
      clear hw6 hal6 hga hgb HLT HC6 HX6 HFR
      go_wp2_with fail
      refine range_from (J := JR w2.heap.size lb cz.length chc ha wr.heap.size (wr.heap.size + 1) w3.heap.size w6.heap.size cha ns.length size ns w6) rfl less_nil (jr_bides _ _ _ _ _ _ _ _ _ _ _ _ _ _ _ hs7 hs7) (fun p W h => h.st)
        ⟨HST6.out, ⟨none, 0, HC7.out, World.ownsRow_nil _ _ _ _⟩, Nat.zero_le _, Below.refl _ _, Nat.le_refl _⟩ ?round ?done
      case round =>
        intro l p W hJ hlt
        obtain ⟨x, hx⟩ : ∃ x, (ns.getD p nd0).e = x := ⟨_, rfl⟩
        rw [hx]
        have HXE := Lib.hid hx
        clear hx
        obtain ⟨k0, q0, g0, v0, u0⟩ := x
        simp only [Ent.v]
        have hb0 := below_alloc (Below.refl W.heap.size W) (.cells #[.string k0, .int .i64 q0, .bool g0, .string v0, .int .i64 u0] 45)
        have hJ1 := Lib.hid ((jr_bides w2.heap.size lb cz.length chc ha wr.heap.size (wr.heap.size + 1) w3.heap.size w6.heap.size w6.heap.size cha ns.length size ns w6 hs7 hs7).alloc p W (.cells #[.string k0, .int .i64 q0, .bool g0, .string v0, .int .i64 u0] 45) hJ)
        have hK1 := Lib.hid (kept_of_below hb0)
        have hE1 : EBox (W.alloc (.cells #[.string k0, .int .i64 q0, .bool g0, .string v0, .int .i64 u0] 45)) W.heap.size 45 ⟨k0, q0, g0, v0, u0⟩ := heap_alloc_new _ _
        have HE1 := Lib.hid hE1
        clear hJ hb0 hE1
        gi_wp2
        refine ⟨hJ1.out, hK1.out, ?_⟩
        intro W' hJ hkk hss
        have hE2 : EBox W' W.heap.size 45 ⟨k0, q0, g0, v0, u0⟩ := hkk _ _ _ _ HE1.out (by simp)
        generalize W.heap.size = eb at hE2 ⊢
        clear hJ1 hK1 HE1 hkk hss
        clear W
        obtain ⟨W, rfl⟩ : ∃ W, W = W' := ⟨_, rfl⟩
        obtain ⟨e0, e1, e2, e3, e4⟩ := hE2.cells
        simp only at e0 e1 e2 e3 e4
        have hp60 : p ≤ 60 := by have h1 := HFN.out.len; rw [HR.out, List.length_map] at h1; omega
        obtain ⟨hst, ⟨pp, d, hbox, hown⟩, hle, hbl, hsz⟩ := hJ
        have HST := Lib.hid hst
        have HBX := Lib.hid hbox
        have HOW := Lib.hid hown
        have HBL := Lib.hid hbl
        have HSZ := Lib.hid hsz
        have l8 := hbox.cell
        have hb2 := below_alloc (Below.refl W.heap.size W) (.cells #[.string k0, .int .i64 q0, .bool g0, .string v0, .int .i64 u0] 45)
        have HB2' := Lib.hid hb2
        have HAN : Hid ((W.alloc (.cells #[.string k0, .int .i64 q0, .bool g0, .string v0, .int .i64 u0] 45)).heap[W.heap.size]? = some (.cells #[.string k0, .int .i64 q0, .bool g0, .string v0, .int .i64 u0] 45 (0, 0))) := heap_alloc_new _ _
        clear hst hbox hown hbl hsz hb2
        gi_wp2_with (gi_at_builtin; refine Mg.wpListIn_pushG rfl _ _ 33 rfl Tryz.underlying33 Ew.infoApi rfl (by decide) rfl #[.string k0, .int .i64 q0, .bool g0, .string v0, .int .i64 u0] rfl ?c1 rfl HAN.out (own_below HOW.out HB2'.out) ?c2 ?c3 ?c4 ?_)
        case c1 => simp [Value.oneCell']
        case c2 => exact Nat.le_trans HSZ.out HB2'.out.size
        case c3 => unfold maxLen; omega
        case c4 => omega
        intro a5 cap5 w5' hown5 hg5 hb5
        obtain ⟨hc5, hjr, hkf⟩ := jr_push (HST.out.below HB2'.out) (HBX.out.below HB2'.out) (own_below HOW.out HB2'.out) hlt HXE.out (HBL.out.trans (HB2'.out.mono (by have := HSZ.out; omega))) (Nat.le_trans HSZ.out HB2'.out.size) hs7 hown5 hg5 hb5
        have s0 := hc5.cell
        have z0 := hc5.fz
        have HJ := Lib.hid (And.intro ((kept_of_below HB2'.out).trans hkf) hjr)
        clear hown5 hg5 hb5 hc5 hjr hkf
        gi_wp2
        exact HJ.out
      case done =>
        intro w7 hJ hD
        obtain ⟨_, ⟨rp, rd, hrc, hro⟩, _, hbl7, hsz7⟩ := hJ
        rw [show (ns.map Nd.e).take ns.length = R by rw [HR.out, List.take_of_length_le (by simp)]] at hro
        have hjl : ns.length = j := by have h1 := HFN.out.len; rw [HR.out, List.length_map] at h1; exact h1
        rw [hjl] at hrc hro
        have HRC := Lib.hid hrc
        have HRO := Lib.hid hro
        have HD7 := Lib.hid hD
        have HX8 := Lib.hid ((hbl7.block w.heap.size HXL.out).trans HX7.out)
        have HB8 : Hid (Below w.heap.size w w7) := HB7.out.trans (hbl7.mono HS3.out)
        have HKL : Hid (w6.heap.size < w7.heap.size) := lt_of_block hD
        have HW6 : Hid (w.heap.size ≤ w6.heap.size) := HB7.out.size
        generalize w6.heap.size = kd at HD7 HKL HW6 HRO ⊢
        clear hrc hro hD hbl7 hsz7 hjl HST6 HC7 HX7 HB7 hs7 HR w6
        have HN7 := Lib.hid (new_any 1099511627776 (by decide) w7)
        have HAL3 : Hid (w3.heap.size < w7.heap.size) := HRC.out.lt
        go_wp2_with fail
        refine HN7.out.mono ?_
        rintro e w8 ⟨db, rfl, hd8, hb8⟩
        have hmk : ∀ W : World, (Instr.makeSlice 31 (.int .i64 4) (.int .i64 4)).run Tryz.prog W = .ok (.slice (some ⟨W.heap.size, 0, none⟩) 4 4) (W.alloc (.cells (madeCells #[.slice none 0 0] 4) 33)) := fun W => run_make_row' (P := Tryz.prog) 31 33 (.slice none 0 0) 24 Tryz.underlying31 infoSl rfl .i64 .i64 4 (by omega) (by omega) W
        have hb9 := below_alloc (Below.refl w8.heap.size w8) (.cells #[.pointer (some ⟨db, 0, none⟩)] 25)
        have hc9 : Cell1 (w8.alloc (.cells #[.pointer (some ⟨db, 0, none⟩)] 25)) w8.heap.size 25 (.pointer (some ⟨db, 0, none⟩)) := heap_alloc_new _ _
        have hs9 : (w8.alloc (.cells #[.pointer (some ⟨db, 0, none⟩)] 25)).heap.size = w8.heap.size + 1 := Array.size_push ..
        have HT9 := Lib.hid ((DT.of_new hd8).below hb9)
        have hb79 : Below w7.heap.size w7 (w8.alloc (.cells #[.pointer (some ⟨db, 0, none⟩)] 25)) := chain hb8 hb9
        have HRC9 := Lib.hid (HRC.out.below hb79)
        have HRO9 := Lib.hid (own_below HRO.out hb79)
        have HX9 := Lib.hid ((hb79.block w.heap.size (lt_of_block HX8.out)).trans HX8.out)
        have HD9 := Lib.hid ((hb79.block kd HKL.out).trans HD7.out)
        have HB79 := Lib.hid hb79
        have HC9 := Lib.hid hc9
        generalize hE9 : w8.alloc (.cells #[.pointer (some ⟨db, 0, none⟩)] 25) = w9 at hb9 hs9 HT9 HRC9 HRO9 HX9 HD9 HC9 hb79 HB79
        have HE9 := Lib.hid hE9
        have hb10 := below_alloc (Below.refl w9.heap.size w9) (.cells (madeCells #[.slice none 0 0] 4) 33)
        have hF0 : Mg.Four (w8.heap.size + 1) (w8.heap.size + 1) (fun _ => (none, 0, 0)) [[], [], [], []] (w9.alloc (.cells (madeCells #[.slice none 0 0] 4) 33)) := Mg.four_0 (by
          rw [show madeCells #[Value.slice none 0 0] 4 = #[Value.slice none 0 0, .slice none 0 0, .slice none 0 0, .slice none 0 0] from by kernel_rfl, ← hs9]; exact heap_alloc_new _ _)
        have l8 : (w9.alloc (.cells (madeCells #[.slice none 0 0] 4) 33)).cell? ⟨w3.heap.size, 0, none⟩ = some (.slice rp j rd) := (HRC9.out.below hb10).cell
        have HF0 := Lib.hid hF0
        have HB10 : Hid (Below (w8.heap.size + 1) w9 (w9.alloc (.cells (madeCells #[.slice none 0 0] 4) 33))) := by rw [← hs9]; exact hb10
        have HS9 := Lib.hid hs9
        have HS78 := Lib.hid hb8.size
        rw [← hE9] at l8
        clear hd8 hb8 hb9 hc9 hb79 hE9 hb10 hF0 hs9 HN7 HX8 HD7 HRC HRO
        go_wp2_with fail
        rw [HE9.out]
        clear l8
        go_loopw [61] (fun si wq => ∃ (i : Nat) (sl : Nat → Option Addr × Nat × Nat) (Ls : List (List Ent)), si = .int .i64 i ∧ i ≤ j ∧ Hid (Mg.Four (w8.heap.size + 1) (w8.heap.size + 1) sl Ls wq) ∧ Hid (Dealt R i Ls) ∧ Hid (Below (w8.heap.size + 1) w9 wq)) (fun si _ => j - (intOf si).toNat)
        case atStart => exact ⟨0, _, _, rfl, by omega, HF0, Lib.hid (dealt_0 R), HB10⟩
        case round =>
          clear hmk
          obtain ⟨i, sl, Ls, rfl, hi, hfo, hde, hbel⟩ := hrel
          have hb9q : Below w9.heap.size w9 wr := by rw [HS9.out]; exact hbel.out
          by_cases hlt : i < j
          · obtain ⟨b, off, hbe, hb, hc⟩ := (own_erow (own_below HRO9.out hb9q)).2.2.at (by omega)
            have hd := hc i hlt
            have HLS := Lib.hid hde.out.len
            have HDE : Hid (∀ k, k < 4 → (Ls.getD k []).length ≤ i) := fun k hk => by
              have h1 := hde.out.tot
              rw [flat_at (j := k) (by rw [hde.out.len]; exact hk)] at h1
              simp only [List.length_append] at h1
              omega
            have HSTP := Lib.hid (fun k hk => Dealt.step (k := k) hde.out HFN.out.so (by have := HFN.out.len; omega) hk)
            generalize R.getD i ent0 = x at hd HSTP
            obtain ⟨k0, q0, g0, v0, u0⟩ := x
            simp only at hd
            obtain ⟨y0, y1, y2, y3, y4⟩ := hd
            subst hbe
            have i1 : (0 : Int) ≤ (i : Int) := by omega
            have i2 : (i : Int) < (j : Int) := by omega
            have hE0 : EBox (wr.alloc (.cells #[.string k0, .int .i64 q0, .bool g0, .string v0, .int .i64 u0] 45)) wr.heap.size 45 ⟨k0, q0, g0, v0, u0⟩ := heap_alloc_new _ _
            have hbx := below_alloc (Below.refl wr.heap.size wr) (.cells #[.string k0, .int .i64 q0, .bool g0, .string v0, .int .i64 u0] 45)
            clear hc
            go_upto_if 69 with fail
            generalize hW : World.alloc _ _ = W1
            rw [hW] at hbx hE0
            generalize hg7 : wr.heap.size = g7 at hE0 ⊢
            have HF1 := Lib.hid (hfo.out.below hbx)
            have HB1 : Hid (Below (w8.heap.size + 1) w9 W1) := hbel.out.trans (hbx.mono (by have := hbel.out.size; have := HS9.out; omega))
            have HE1 := Lib.hid hE0
            have HZ1 := Lib.hid (HCR.out.below (chain (chain HB8.out HB79.out) (hb9q.trans (hbx.mono hb9q.size))))
            clear hW hbx hE0 hfo hbel y0 y1 y2 y3 y4 hb hg7 hb9q
            go_cut [16] from 62 to 86 (fun s10 wx => ∃ k : Nat, s10 = .int .i64 k ∧ k < 4 ∧ wx = W1)
            case first =>
              by_cases hs : i < cz.length
              · obtain ⟨ab, ao, rfl, hab, hac⟩ := HZ1.out.at (by omega)
                have hq := hac i hs
                generalize cz.getD i 0 = cv at hq
                have s1 : (i : Int) < (cz.length : Int) := by omega
                clear hac
                go_wp2_with fail
                all_goals go_meet
                all_goals exact ⟨(max 0 cv % 4).toNat, by rw [Int.toNat_of_nonneg (by omega)], by omega, rfl⟩
              · have s1 : ¬ (i : Int) < (cz.length : Int) := by omega
                go_wp2_with fail
                go_meet
                exact ⟨0, rfl, by omega, rfl⟩
            case rest =>
            obtain ⟨k, rfl, hk, hwc⟩ := hcut
            subst hwc
            obtain ⟨k0', q0', g0', v0', u0'⟩ := HE1.out.cells
            simp only at k0' q0' g0' v0' u0'
            have hg7l := lt_of_block HE1.out
            have hwz1 : w8.heap.size + 1 ≤ wc.heap.size := by have := HB1.out.size; have := HS9.out; omega
            have ck := HF1.out.cell k hk
            have cf := HF1.out.fz k
            have cl := lt_of_block HF1.out.blk
            have k1 : (0 : Int) ≤ (k : Int) := by omega
            have k2 : (k : Int) < 4 := by omega
            obtain ⟨⟨pk, mk, dk⟩, hsk⟩ : ∃ s, s = sl k := ⟨_, rfl⟩
            have HSK := Lib.hid hsk
            have hmk : mk ≤ i := by
              have h1 := (own_erow (HF1.out.own k hk)).2.1
              have h2 := (HDE.out k hk)
              rw [← hsk] at h1
              simp only at h1
              omega
            rw [← hsk] at ck
            simp only [Mg.sv] at ck
            have HOK := HF1.out.own k hk
            rw [← hsk] at HOK
            simp only [Mg.sv] at HOK
            have HOK := Lib.hid HOK
            clear hsk
            go_upto_region 23 with fail
            refine wp_region_noPanic ?_
            go_region_law
              (refine Mg.step_pushF (B := w8.heap.size + 1) (n := mk) (xs := ecells (Ls.getD k [])) (v := .slice pk mk dk) (by rfl) _ _ 33 (by rfl) Tryz.underlying33 Ew.infoApi rfl (by decide) (by rfl) #[.string k0, .int .i64 q0, .bool g0, .string v0, .int .i64 u0] rfl (by simp [Value.oneCell']) (by rfl) ?_ ?_ ?_ (by unfold maxLen; omega) (by omega) ?_
               · repeat (first | ((with_reducible refine blk_new ?_); (focus (simp; done))) | with_reducible refine blk_drew ?_ | with_reducible refine blk_alloc ?_)
               · repeat (first | with_reducible exact HOK.out | with_reducible refine own_drew ?_ | with_reducible refine World.ownsRow.alloc ?_ _)
               · refine Nat.le_trans (Nat.le_of_eq HS9.out.symm) (Below.size (B := w8.heap.size + 1) (w := w9) ?_)
                 repeat (first | with_reducible exact HB1.out | with_reducible refine Below.drew ?_ | with_reducible refine Below.alloc ?_ hwz1 _)
               intro g5 c5 w5 hq hgr hb hln
               obtain ⟨⟨ck5, cf5⟩, hf5⟩ := Mg.Four.put2 (e := ⟨k0, q0, g0, v0, u0⟩) HF1.out HLS.out hk HSK.out hq hgr hln (by repeat (first | with_reducible exact Below.refl _ _ | with_reducible refine Below.drew ?_ | with_reducible refine below_alloc ?_ _))
               have HF5 := Lib.hid hf5
               have HB5 : Hid (Below (w8.heap.size + 1) w9 w5) := Below.trans (by repeat (first | with_reducible exact HB1.out | with_reducible refine Below.drew ?_ | with_reducible refine Below.alloc ?_ hwz1 _)) hb
               clear hq hgr hb hln hf5)
            all_goals refine NoPanic.normal ?_
            all_goals go_wp2_with fail
            all_goals
              go_roundw
              case rel => exact ⟨i + 1, _, _, by go_num, by omega, HF5, Lib.hid (HSTP.out k hk), Lib.hid (HB5.out.setCell (p := ⟨w8.heap.size + 1, k, none⟩) (Nat.le_refl _) _)⟩
              case measure => simp [intOf]; omega
          · obtain rfl : j = i := by omega
            obtain ⟨wp, hwp⟩ : ∃ wp : World, wp = wr := ⟨_, rfl⟩
            rw [← hwp] at hb9q hfo hbel ⊢
            have HT := Lib.hid (HT9.out.below hb9q)
            have HCD := Lib.hid (HC9.out.below hb9q)
            have HRC := Lib.hid (HRC9.out.below hb9q)
            have HRO := Lib.hid (own_below HRO9.out hb9q)
            have HX := Lib.hid ((hb9q.block w.heap.size (lt_of_block HX9.out)).trans HX9.out)
            have HDF := Lib.hid ((hb9q.block kd (lt_of_block HD9.out)).trans HD9.out)
            have HB7P : Hid (Below w7.heap.size w7 wp) := chain HB79.out hb9q
            have HLL := Lib.hid hde.out.len
            have HSOL := Lib.hid hde.out.so
            have HSUB := Lib.hid hde.out.sub
            have HTOT := Lib.hid hde.out.tot
            have HDN := Lib.hid (hde.out.done HFN.out.so HFN.out.len.symm)
            have HFP := Lib.hid hfo.out
            clear hwp hb9q hfo hbel hde hlt hi HT9 HC9 HRC9 HRO9 HX9 HD9 HB79 HF0 HB10 HE9 wr
            have HDB : Hid (w7.heap.size ≤ w8.heap.size) := HS78.out
            go_wp2_with fail
            go_loopw [17, 89] (fun s17 si wq => ∃ (k : Nat) (fs : List Fd), si = .int .i64 k ∧ k ≤ 4 ∧ Hid (AllR wq wp.heap.size s17 (Ls.take k)) ∧ Hid (DT w7.heap.size db 1099511627776 fs wq) ∧ Hid (fs.map Fd.nm = (List.range k).map nmT) ∧ usedF fs ≤ k * 1000000 ∧ Hid (Below w7.heap.size w7 wq) ∧ Hid (Keeps dts wp wq) ∧ wp.heap.size ≤ wq.heap.size) (fun _ si _ => 4 - (intOf si).toNat)
            case atStart => exact ⟨0, [], rfl, by omega, AllR.nil _ _, HT, Lib.hid rfl, by decide, HB7P, Lib.hid (fun _ _ _ _ h _ => h), Nat.le_refl _⟩
            case round =>
              obtain ⟨k, fs, rfl, hk4, hall, hdt, hnm, hus, hbel, hkp, hwpr⟩ := hrel
              by_cases hlt : k < 4
              · have hbw : w7.heap.size ≤ wr.heap.size := hbel.out.size
                obtain ⟨L, hL⟩ : ∃ L, L = Ls.getD k [] := ⟨_, rfl⟩
                have hso := HSOL.out k hlt
                have hsub := HSUB.out k hlt
                rw [← hL] at hso hsub
                have hLn : L.length ≤ 60 := by
                  have h1 := HTOT.out
                  rw [flat_at (j := k) (by rw [HLL.out]; exact hlt), ← hL] at h1
                  simp only [List.length_append] at h1
                  omega
                have hmem : ∀ x ∈ L, x ∈ R := fun x hx => List.mem_of_mem_take (hsub x hx)
                have hfit : ∀ e ∈ L, Fits e := fun e he => HFN.out.fits (by omega) e (hmem e he)
                obtain ⟨T, cs, f, hT, hBT, hT1, hT2⟩ := Tb.tab_small (HFN.out.oks hso hmem) hfit (by omega) (1 + k * 9) (1 + k) (by omega) (by omega) (by omega) (by omega)
                have hop := hBT.opens
                have hal := hBT.all ⟨#[]⟩
                have hogd := Tw.open_good (s := str T) (z := (T.length : Int)) (by rw [hop])
                rw [hop] at hogd
                rw [show L.filter (Tb.fromK ⟨#[]⟩) = L from List.filter_eq_self.2 fun e _ => from_nil e] at hal
                have hsT : (str T).size = T.length := str_size T
                have hF4 := four_keeps HFP.out hkp.out (by decide) (by decide)
                have hck := hF4.cell k hlt
                have hok := hF4.own k hlt
                obtain ⟨⟨pk, mk, dk⟩, hsk⟩ : ∃ s, s = sl k := ⟨_, rfl⟩
                rw [← hsk] at hck hok
                simp only [Mg.sv] at hck hok
                rw [← hL] at hok
                have hmk := (own_erow hok).2.1
                subst hmk
                obtain ⟨hcap1, hcap2, hrow⟩ := Mg.own_inp hok
                have hk1 : (0 : Int) ≤ (k : Int) := by omega
                have hk2 : (k : Int) < 4 := by omega
                obtain ⟨sz, hsz⟩ : ∃ sz : Nat, sz = 1 + k * 9 := ⟨_, rfl⟩
                obtain ⟨bt, hbt⟩ : ∃ bt : Nat, bt = 1 + k := ⟨_, rfl⟩
                obtain ⟨s, hs⟩ : ∃ s, s = str T := ⟨_, rfl⟩
                obtain ⟨sp, hsp⟩ : ∃ sp, sp = Tb.spOf cs 0 := ⟨_, rfl⟩
                obtain ⟨f2, hf2⟩ : ∃ f2, f2 = str f := ⟨_, rfl⟩
                obtain ⟨nm, hnme⟩ : ∃ nm, nm = nmT k := ⟨_, rfl⟩
                have hFI := fileT k hlt wr
                have hTB := fun W h => Tw.tbuild_any pk L.length dk L rfl hcap1 hcap2 hfit ((1 + k * 9 : Nat) : Int) ((1 + k : Nat) : Int) W h
                rw [hT] at hTB
                unfold Tw.retB at hTB
                simp only at hTB
                have htl : s.data.toList = T := by rw [hs]; rfl
                rw [← hs] at hTB hop hal hsT
                rw [← hsp] at hop hal hogd
                rw [← hf2] at hop
                rw [← hsz, ← hbt] at hTB
                rw [← hnme] at hFI
                rw [← hsT] at hop hT1 hT2
                have e99 : IntKind.i64.wrap ((k : Int) * 9) = (k : Int) * 9 := IntWalk.i64_in _ (by omega)
                have e100 : IntKind.i64.wrap (1 + (k : Int) * 9) = (sz : Int) := by rw [IntWalk.i64_in _ (by omega)]; omega
                have e102 : IntKind.i64.wrap (1 + (k : Int)) = (bt : Int) := by rw [IntWalk.i64_in _ (by omega)]; omega
                have hnsz : nm.size = 14 := by rw [hnme]; rfl
                have hnin : nm ∉ fs.map Fd.nm := by
                  rw [hnm.out, hnme]
                  intro h
                  obtain ⟨i', hi', he⟩ := List.mem_map.1 h
                  rw [List.mem_range] at hi'
                  have := nmT_inj (by omega) (by omega) he
                  omega
                have hfl : fs.length = k := by have := congrArg List.length hnm.out; simpa using this
                have HFI := Lib.hid hFI
                have HTB := Lib.hid hTB
                have HOPN := Lib.hid hop
                have HALL := Lib.hid hal
                have HOG := Lib.hid hogd
                have HTL := Lib.hid htl
                have HROW := Lib.hid hrow
                have HNIN := Lib.hid hnin
                have HNME := Lib.hid hnme
                have HNSZ := Lib.hid hnsz
                have HLK := Lib.hid hL
                clear hL hso hsub hmem hfit hT hBT hop hal hogd hF4 hok hsk hFI hTB htl hrow hnin hs hsp hf2 hsz hbt hnme hnsz hsT
                go_wp2_with fail
                refine HFI.out.mono ?_
                rintro e w1 ⟨rfl, hb1⟩
                have hb12 := below_alloc (Below.refl w1.heap.size w1) (.cells #[.string nm] 9)
                have hnc : Cell1 (w1.alloc (.cells #[.string nm] 9)) w1.heap.size 9 (.string nm) := heap_alloc_new _ _
                have hb2 : Below wr.heap.size wr (w1.alloc (.cells #[.string nm] 9)) := chain hb1 hb12
                generalize hE2 : w1.alloc (.cells #[.string nm] 9) = w2' at hb12 hnc hb2
                have HE2 := Lib.hid hE2
                have HTB2 := Lib.hid (HTB.out w2' (HROW.out.below hb2))
                have HB2' := Lib.hid hb2
                have HNC := Lib.hid hnc
                clear hE2 hb12 hnc hb2 hb1 HFI
                go_wp2_with fail
                rw [HE2.out]
                refine HTB2.out.mono ?_
                rintro e w3' ⟨rfl, hb3⟩
                have hbq3 : Below wr.heap.size wr w3' := chain HB2'.out hb3
                have hd3 := hdt.out.below hbq3
                have hcdr : Cell1 wr w8.heap.size 25 (.pointer (some ⟨db, 0, none⟩)) := hkp.out _ _ _ _ HCD.out (by decide)
                have hcd3 := hcdr.below hbq3
                have hnc3 := HNC.out.below hb3
                have HCR3 := Lib.hid (createT w7.heap.size db 1099511627776 fs nm (by have := HNSZ.out; omega) (by have := HNSZ.out; omega) w3' hd3 HNIN.out (by omega) (Nat.le_trans hbw hbq3.size))
                have HBQ3 := Lib.hid hbq3
                have HCD3 := Lib.hid hcd3
                have HNC3 := Lib.hid hnc3
                have q1 := hcd3.cell
                have q2 := hnc3.cell
                clear hb3 hbq3 hd3 hcd3 hnc3 HTB2
                go_wp2_with fail
                refine HCR3.out.mono ?_
                rintro e w4' ⟨rfl, ⟨fb, hd4⟩, hb4, hk4'⟩
                have hcd4 : Cell1 w4' w8.heap.size 25 (.pointer (some ⟨db, 0, none⟩)) := hk4' _ _ _ _ HCD3.out (by decide)
                have hnc4 : Cell1 w4' w1.heap.size 9 (.string nm) := hk4' _ _ _ _ HNC3.out (by decide)
                have HAP4 := Lib.hid (appendT w7.heap.size db 1099511627776 fs nm fb s w4' hd4 (Nat.le_trans hbw (Nat.le_trans HBQ3.out.size hb4.size)) (by omega) (by omega) (by omega) (by omega) (by omega))
                have HCD4 := Lib.hid hcd4
                have HNC4 := Lib.hid hnc4
                have HBK4 := Lib.hid (And.intro hb4 hk4')
                have r1 := hcd4.cell
                have r2 := hnc4.cell
                clear hd4 hb4 hk4' hcd4 hnc4 HCR3 q1 q2
                go_wp2_with fail
                refine HAP4.out.mono ?_
                rintro e w5' ⟨rfl, hd5, hb5, hk5'⟩
                have hcd5 : Cell1 w5' w8.heap.size 25 (.pointer (some ⟨db, 0, none⟩)) := hk5' _ _ _ _ HCD4.out (by decide)
                have hnc5 : Cell1 w5' w1.heap.size 9 (.string nm) := hk5' _ _ _ _ HNC4.out (by decide)
                have hsrc : SrcI w7.heap.size db 1099511627776 w8.heap.size w1.heap.size (fs ++ [⟨nm, fb, s.data.toList⟩]) ⟨nm, fb, s.data.toList⟩ s w5' := ⟨hd5, by simp, rfl, by omega, hcd5, hnc5⟩
                have HOP5 : Hid (Calls Tryz.prog 22 #[.func (.func 23) #[] #[.pointer (some ⟨w8.heap.size, 0, none⟩), .pointer (some ⟨w1.heap.size, 0, none⟩)], .int .i64 s.size] w5' (Tw.GotO w5' (srcT w7.heap.size db 1099511627776 w8.heap.size w1.heap.size (fs ++ [(⟨nm, fb, s.data.toList⟩ : Fd)]) (⟨nm, fb, s.data.toList⟩ : Fd)) s ⟨sp, f2, 0⟩)) := by
                  have h := Tw.open_any (srcT w7.heap.size db 1099511627776 w8.heap.size w1.heap.size (fs ++ [(⟨nm, fb, s.data.toList⟩ : Fd)]) (⟨nm, fb, s.data.toList⟩ : Fd)) s (by omega) (s.size : Int) (by omega) w5' hsrc
                  rw [HOPN.out] at h
                  exact h
                have HBK5 : Hid (Below w7.heap.size wr w5' ∧ Keeps dts wr w5') := ⟨((HBQ3.out.mono hbw).trans HBK4.out.1).trans hb5, ((Keeps.below HBQ3.out).trans HBK4.out.2).trans hk5'⟩
                have HD5 := Lib.hid hd5
                have hmf : ∀ (fn : Fn) (first cap : Array Value) (w : World), (Instr.makeFunc fn first cap).run Tryz.prog w = .ok (.func fn first cap) w := fun _ _ _ _ => rfl
                clear hd5 hb5 hk5' hcd5 hnc5 hsrc HAP4 HBK4 HCD4 HNC4 HCD3 HNC3 HBQ3 r1 r2
                go_wp2_with fail
                refine HOP5.out.mono ?_
                rintro e w6' ⟨hb6, ⟨_, tb, rfl, htb⟩ | ⟨h0, _⟩⟩
                case inr => exact absurd rfl h0
                have HAL6 := Lib.hid (Tw.all_any tb _ s f2 (by omega) sp HOG.out.1 HOG.out.2 ⟨#[]⟩ w6' htb)
                rw [HALL.out] at HAL6
                have HB6' := Lib.hid hb6
                clear hb6 htb HOP5 hmf
                go_wp2_with fail
                refine HAL6.out.mono ?_
                rintro e w7' ⟨qp, qd, rfl, hq7, hb7'⟩
                simp only at hq7
                have hb57 : Below w5'.heap.size w5' w7' := chain HB6'.out hb7'
                have hbk7 : Below w7.heap.size wr w7' ∧ Keeps dts wr w7' := ⟨HBK5.out.1.trans (hb57.mono (Nat.le_trans hbw HBK5.out.1.size)), HBK5.out.2.trans (Keeps.below hb57)⟩
                have HD7 := Lib.hid (HD5.out.below hb57)
                have hwpz : wp.heap.size ≤ w6'.heap.size := Nat.le_trans hwpr (Nat.le_trans HBK5.out.1.size HB6'.out.size)
                obtain ⟨sls, hoA, hiA⟩ := hall.out.keeps hbk7.2 (by decide) (by decide)
                have hlA : (Ls.take k).length = k := by rw [List.length_take, HLL.out]; omega
                rw [hlA] at hoA hiA
                obtain ⟨p1, d1, rfl, _⟩ := own_form hoA
                have HOA := Lib.hid hoA
                have HIA := Lib.hid hiA
                have HQ7 := Lib.hid (own_base hq7 hwpz)
                have HBK7 := Lib.hid hbk7
                have hwp7 : wp.heap.size ≤ w7'.heap.size := Nat.le_trans hwpz hb7'.size
                clear hq7 hb7' hb57 hbk7 hoA hiA HAL6 HD5 HBK5 hwpz
                go_wp2_with (at_builtin; refine wpList_push rfl _ _ 31 rfl Tryz.underlying31 infoSl rfl (by decide) rfl #[.slice qp L.length qd] rfl ?c1 rfl HOA.out ?c2 ?c3 ?c4 ?_)
                case c1 => simp [Value.oneCell']
                case c2 => exact hwp7
                case c3 => unfold maxLen; omega
                case c4 => omega
                intro a8 cap8 w8' hown8 hgr8 hb8'
                obtain ⟨hkp8, hkm8⟩ := keeps_from HOA.out (Below.refl _ _) hgr8
                have hts : Ls.take (k + 1) = Ls.take k ++ [L] := by rw [take_snoc Ls k [] (by rw [HLL.out]; omega), HLK.out]
                have hlj : (Ls.take k).length = k := by rw [List.length_take, HLL.out]; omega
                have hlm : (Ls.take (k + 1)).length = k + 1 := by rw [List.length_take, HLL.out]; omega
                have hA8 : AllR w8' wp.heap.size (.slice a8 (k + 1) cap8) (Ls.take (k + 1)) := by
                  refine ⟨sls ++ [.slice qp L.length qd], ?_, fun i hi => ?_⟩
                  · rw [hlm]; exact hown8
                  · rw [hlm] at hi
                    have hsl : sls.length = k := by simpa using HOA.out.1
                    by_cases hij : i < k
                    · obtain ⟨p0, d0, e0, o0⟩ := HIA.out i hij
                      have hg : (Ls.take (k + 1)).getD i [] = (Ls.take k).getD i [] := by
                        rw [hts, List.getD_eq_getElem?_getD, List.getD_eq_getElem?_getD, List.getElem?_append_left (by rw [hlj]; exact hij)]
                      rw [hg]
                      exact ⟨p0, d0, by rw [List.getElem?_append_left (by omega)]; exact e0, own_keeps o0 hkp8 (by decide)⟩
                    · obtain rfl : i = k := by omega
                      have hg : (Ls.take (i + 1)).getD i [] = L := by
                        rw [hts, List.getD_eq_getElem?_getD, List.getElem?_append_right (by rw [hlj]; exact Nat.le_refl _), hlj, Nat.sub_self]; rfl
                      rw [hg]
                      exact ⟨qp, qd, by rw [List.getElem?_append_right (by omega), hsl, Nat.sub_self]; rfl, own_keeps HQ7.out hkp8 (by decide)⟩
                have hD8 := HD7.out.keeps hkp8 hkm8 (by decide)
                have hk8 : Keeps dts wp w8' := by
                  intro g cs t fr hg ht
                  have h7 := (hkp.out.trans HBK7.out.2) g cs t fr hg ht
                  refine (hgr8.block g (lt_of_block h7) fun e' => ?_).trans h7
                  have := (HOA.out.lt g e'.symm).1
                  have := lt_of_block hg
                  omega
                have hb8 : Below w7.heap.size w7 w8' := (hbel.out.trans HBK7.out.1).trans (hb8'.mono (Nat.le_trans HB7P.out.size (Nat.le_refl _)))
                have hnm8 : (fs ++ [(⟨nm, fb, s.data.toList⟩ : Fd)]).map Fd.nm = (List.range (k + 1)).map nmT := by
                  rw [List.map_append, hnm.out, List.range_succ, List.map_append]
                  simp only [List.map_cons, List.map_nil]
                  rw [HNME.out]
                have hus8 : usedF (fs ++ [(⟨nm, fb, s.data.toList⟩ : Fd)]) ≤ (k + 1) * 1000000 := by
                  rw [usedF_snoc]
                  simp only [Array.length_toList]
                  have : s.data.size = s.size := rfl
                  omega
                have hsz8 : wp.heap.size ≤ w8'.heap.size := Nat.le_trans hwp7 hb8'.size
                have HZ8 := Lib.hid (And.intro hA8 (And.intro hD8 (And.intro hk8 (And.intro hb8 hnm8))))
                clear hown8 hgr8 hb8' hkp8 hkm8 hts hlj hlm hA8 hD8 hk8 hb8 hnm8 hlA HIA HQ7 HOA
                go_wp2_with fail
                go_roundw
                case rel => exact ⟨k + 1, fs ++ [⟨nm, fb, s.data.toList⟩], by go_num, by omega, Lib.hid HZ8.out.1, Lib.hid HZ8.out.2.1, Lib.hid HZ8.out.2.2.2.2, hus8, Lib.hid HZ8.out.2.2.2.1, Lib.hid HZ8.out.2.2.1, hsz8⟩
                case measure => simp [intOf]; omega
              · obtain rfl : k = 4 := by omega
                have hal4 := hall.out
                rw [List.take_of_length_le (by rw [HLL.out]; exact Nat.le_refl _)] at hal4
                obtain ⟨p4, d4, rfl, _⟩ := own_form hal4.choose_spec.1
                obtain ⟨sl4, hls4⟩ := AllR.row hal4 rfl
                rw [HLL.out] at hls4 ⊢
                have hx4 : wr.heap[w.heap.size]? = some (.cells #[.int .i64 x0, .int .i64 x1] 47 (0, 0)) := hkp.out _ _ _ _ HX.out (by decide)
                have hrc4 : Cell1 wr w3.heap.size 33 (.slice rp j rd) := hkp.out _ _ _ _ HRC.out (by decide)
                have hro4 := own_keeps HRO.out hkp.out (by decide)
                have hd4 : wr.heap[kd]? = some (.deferred (some [])) := (hbel.out.block kd HKL.out).trans ((HB7P.out.block kd HKL.out).symm.trans HDF.out)
                have hb4 : Below w.heap.size w wr := HB8.out.trans (hbel.out.mono HB8.out.size)
                have hfl4 : Ls.flatten.length * 56 ≤ 140737488351232 := by rw [HTOT.out]; omega
                have HMG := Lib.hid (Mg.merge_any p4 4 d4 sl4 Ls wr.drew (hls4.below ((Below.refl wr.heap.size wr).drew)) (by omega) hfl4 (fun i hi => HSOL.out i (by rw [← HLL.out]; exact hi)))
                rw [HDN.out] at HMG
                have HRL : Hid (R.length = j) := HFN.out.len
                have HVS : Hid (∀ pm dm W, W.ownsRow wr.drew.heap.size 45 5 (.slice pm R.length dm) R.length (ecells R) → Calls Tryz.prog 26 #[.slice pm R.length dm, .int .i64 x0, .int .i64 x1] W (Mg.OwnR W.heap.size 45 (visE R x0 x1) W)) := fun pm dm W ho => by
                  obtain ⟨g1, g2, g3⟩ := Mg.own_inp ho
                  exact Mg.vis_any pm R.length dm R rfl g1 g2 (by rw [HRL.out]; omega) HFN.out.so W g3 x0 x1
                have HXC : Hid ((wr.cell? ⟨w.heap.size, 0, none⟩ = some (.int .i64 x0) ∧ wr.cell? ⟨w.heap.size, 1, none⟩ = some (.int .i64 x1)) ∧ w.heap.size < wr.heap.size) := ⟨⟨cell_of_row wr w.heap.size 0 _ _ _ hx4, cell_of_row wr w.heap.size 1 _ _ _ hx4⟩, lt_of_block hx4⟩
                have HRC4 := Lib.hid hrc4
                have HRO4 := Lib.hid hro4
                have HD4 := Lib.hid hd4
                have HB4 := Lib.hid hb4
                have hj60 : j ≤ 60 := by omega
                clear hal4 hls4 hx4 hrc4 hro4 hd4 hb4 hfl4 hall hdt hnm hus hbel hkp hwpr
                go_upto_region 41 with fail
                go_region_held3 (fun w' => (w'.cell? ⟨w.heap.size, 0, none⟩ = some (.int .i64 x0) ∧ w'.cell? ⟨w.heap.size, 1, none⟩ = some (.int .i64 x1)) ∧ w.heap.size < w'.heap.size)
                  (first | exact HXC.out | exact keepX (W := wr.drew) HXC.out hbm | exact keepX (keepX (W := wr.drew) HXC.out hbm) hbv)
                  (first
                    | (go_at_call 27; (with_reducible refine HMG.out.mono ?_); rintro e wm ⟨pm, dm, rfl, hom, hbm⟩)
                    | (go_at_call 26; (with_reducible refine (HVS.out _ _ _ hom).mono ?_); rintro e wv ⟨pv, dv, rfl, hov, hbv⟩))
                all_goals
                  have hzv : Below wr.heap.size wr wv := (Below.refl wr.heap.size wr).drew.trans (chain hbm hbv)
                  obtain ⟨V, hV⟩ : ∃ V, V = visE R x0 x1 := ⟨_, rfl⟩
                  rw [← hV] at hov ⊢
                  have HV := Lib.hid hV
                  have HOV := Lib.hid hov
                  have HXV := Lib.hid (keepX (W := wr) HXC.out hzv)
                  have HRCV := Lib.hid (HRC4.out.below hzv)
                  have HROV := Lib.hid (own_below HRO4.out hzv)
                  have HDV := Lib.hid ((hzv.block kd (lt_of_block HD4.out)).trans HD4.out)
                  have HBV : Hid (Below w.heap.size w wv) := chain HB4.out hzv
                  have hvl : V.length ≤ 60 := by have h1 := vis_len R x0 x1; rw [← hV] at h1; have := HRL.out; omega
                  have l8v := HRCV.out.cell
                  clear hzv hbm hbv hom hov hV HXC HRC4 HRO4 HD4 HB4 HMG HVS
                  go_wp2_with fail
                  go_loopw [26, 27, 151] (fun s26 s27 si wq => ∃ (i at_ : Nat) (last : ByteArray), si = .int .i64 i ∧ i ≤ j ∧ s26 = .int .i64 at_ ∧ Hid (at_ = ((R.take i).filter (fun x => topB R x0 x && aliveE x x1)).length) ∧ s27 = .string last ∧ Hid (LastI R x0 i last) ∧ Hid (Below wv.heap.size wv wq)) (fun _ _ si _ => j - (intOf si).toNat)
                  case atStart => exact ⟨0, 0, ⟨#[]⟩, rfl, by omega, rfl, rfl, rfl, Lib.hid (last_0 R x0 rfl), Lib.hid (Below.refl _ _)⟩
                  case round =>
                    obtain ⟨i, at_, last, rfl, hi, rfl, hat, rfl, hla, hbq⟩ := hrel
                    by_cases hlt : i < j
                    · have hRi : i < R.length := by have := HRL.out; omega
                      have hkey := HFN.out.key hRi
                      have hstep := filter_take_succ (fun x => topB R x0 x && aliveE x x1) R i hRi
                      have htold := told_iff HFN.out.so hRi hla.out hkey
                      have hfa := filter_at (fun x => topB R x0 x && aliveE x x1) R hRi
                      rw [← hat.out, show R.filter (fun x => topB R x0 x && aliveE x x1) = V from HV.out.symm] at hfa
                      have hlate := fun h => last_late (i := i) hla.out h
                      have hsame := fun h => last_same (i := i) hla.out h hkey
                      have hnew := @last_new R x0 i
                      have hi0 : (R.getD i ent0).key = last → 0 < i := fun h => by
                        rcases hla.out with ⟨h0, _⟩ | ⟨j', hj', _⟩
                        · rw [h] at hkey; exact absurd h0 hkey
                        · omega
                      obtain ⟨b, off, rfl, hab, hac⟩ := (own_erow (own_below HROV.out hbq.out)).2.2.at (by omega)
                      have hd := hac i hlt
                      generalize R.getD i ent0 = x at hd hkey hstep htold hfa hlate hsame hnew hi0
                      obtain ⟨k0, q0, g0, v0, u0⟩ := x
                      simp only at hd htold hlate hsame hnew hi0
                      obtain ⟨y0, y1, y2, y3, y4⟩ := hd
                      have i1 : (0 : Int) ≤ (i : Int) := by omega
                      have i2 : (i : Int) < (j : Int) := by omega
                      have HSTEP := Lib.hid hstep
                      have HTOLD := Lib.hid htold
                      have HFA := Lib.hid hfa
                      have HLATE := Lib.hid hlate
                      have HSAME := Lib.hid hsame
                      have HNEW := Lib.hid hnew
                      have hE0 : EBox (wr.alloc (.cells #[.string k0, .int .i64 q0, .bool g0, .string v0, .int .i64 u0] 45)) wr.heap.size 45 ⟨k0, q0, g0, v0, u0⟩ := heap_alloc_new _ _
                      have hbx := below_alloc (Below.refl wr.heap.size wr) (.cells #[.string k0, .int .i64 q0, .bool g0, .string v0, .int .i64 u0] 45)
                      clear hac hab hkey hstep htold hfa hlate hsame hnew hla
                      go_upto_region 47 with fail
                      generalize hW : World.alloc _ _ = W1
                      rw [hW] at hbx hE0
                      generalize hg7 : wr.heap.size = g7 at hE0 ⊢
                      have HBQ : Hid (Below wv.heap.size wv W1) := chain hbq.out (by rw [← hg7] at *; exact hbx)
                      obtain ⟨⟨xa, xb⟩, xl⟩ := keepX HXV.out HBQ.out
                      obtain ⟨e0, e1, e2, e3, e4⟩ := hE0.cells
                      simp only at e0 e1 e2 e3 e4
                      clear hW hbx hE0 y0 y1 y2 y3 y4 hg7 hbq
                      clear wr
                      have hAT := hat
                      by_cases hkl : k0 = last
                      · have d1 : decide ((0 : Int) < (i : Int)) = true := dt (by have := hi0 hkl; omega)
                        have d1n : decide (0 < i) = true := dt (hi0 hkl)
                        have d1p : 0 < i := hi0 hkl
                        have d2 : (k0.toList == last.toList) = true := by rw [hkl]; exact beq_self_eq_true _
                        have hPf : Hid (at_ = ((R.take (i + 1)).filter (fun x => topB R x0 x && aliveE x x1)).length) := by
                          have ht : topB R x0 ⟨k0, q0, g0, v0, u0⟩ = false := by
                            rw [Bool.eq_false_iff]
                            exact fun h => (HTOLD.out.1 h).2 hkl
                          refine Lib.hid ?_
                          rw [HSTEP.out, if_neg (by simp [ht]), List.append_nil]; exact hat.out
                        have hL2 := Lib.hid (HSAME.out hkl)
                        clear hi0 hkl
                        go_wp2_with fail
                        go_roundw
                        case rel => exact ⟨i + 1, at_, last, by go_num, by omega, rfl, hPf, rfl, hL2, HBQ⟩
                        case measure => simp [intOf]; omega
                      · have d2 : (k0.toList == last.toList) = false := beq_eq_false_iff_ne.2 fun e => hkl (Ew.toList_inj e)
                        obtain ⟨b0, d1, d1n⟩ : ∃ b0 : Bool, decide ((0 : Int) < (i : Int)) = b0 ∧ decide (0 < i) = b0 := ⟨_, rfl, by simp⟩
                        by_cases hq : x0 < q0
                        · have d3 : decide (x0 < q0) = true := dt hq
                          have hPf : Hid (at_ = ((R.take (i + 1)).filter (fun x => topB R x0 x && aliveE x x1)).length) := by
                            have ht : topB R x0 ⟨k0, q0, g0, v0, u0⟩ = false := by
                              rw [Bool.eq_false_iff]
                              exact fun h => absurd (HTOLD.out.1 h).1 (by omega)
                            refine Lib.hid ?_
                            rw [HSTEP.out, if_neg (by simp [ht]), List.append_nil]; exact hat.out
                          have hL2 := Lib.hid (HLATE.out hq)
                          clear hi0 hkl hq
                          cases b0
                          all_goals
                            go_wp2_with fail
                            go_roundw
                            case rel => exact ⟨i + 1, at_, last, by go_num, by omega, rfl, hPf, rfl, hL2, HBQ⟩
                            case measure => simp [intOf]; omega
                        · have d3 : decide (x0 < q0) = false := df hq
                          have ht : topB R x0 ⟨k0, q0, g0, v0, u0⟩ = true := HTOLD.out.2 ⟨by omega, hkl⟩
                          have HTT := Lib.hid ht
                          have hL2 := Lib.hid (HNEW.out (by omega))
                          clear hi0 hkl hq ht
                          cases b0
                          all_goals
                            by_cases hg : g0 = true
                            · subst hg
                              have ha : aliveE ⟨k0, q0, true, v0, u0⟩ x1 = false := rfl
                              have hPf : Hid (at_ = ((R.take (i + 1)).filter (fun x => topB R x0 x && aliveE x x1)).length) := by
                                refine Lib.hid ?_
                                rw [HSTEP.out, if_neg (by simp [ha]), List.append_nil]; exact hat.out
                              clear ha
                              go_wp2_with fail
                              go_roundw
                              case rel => exact ⟨i + 1, at_, k0, by go_num, by omega, rfl, hPf, rfl, hL2, HBQ⟩
                              case measure => simp [intOf]; omega
                            · obtain rfl : g0 = false := by simpa using hg
                              clear hg
                              by_cases hu : u0 = 0
                              · have hPt : (topB R x0 ⟨k0, q0, false, v0, u0⟩ && aliveE ⟨k0, q0, false, v0, u0⟩ x1) = true := by rw [HTT.out]; simp [aliveE, hu]
                                have u1 : (u0 != 0) = false := nf hu
                                clear hu
                                obtain ⟨hvl1, hvg⟩ := HFA.out hPt
                                have hPf : Hid (at_ + 1 = ((R.take (i + 1)).filter (fun x => topB R x0 x && aliveE x x1)).length) := by
                                  refine Lib.hid ?_
                                  rw [HSTEP.out, if_pos hPt, List.length_append, ← hat.out]; rfl
                                obtain ⟨vb, vo, rfl, hvb, hvc⟩ := (own_erow (own_below HOV.out HBQ.out)).2.2.at (by omega)
                                have hvd := hvc at_ hvl1
                                rw [hvg] at hvd
                                simp only at hvd
                                obtain ⟨z0, z1, z2, z3, z4⟩ := hvd
                                have hne : ∀ W : World, (binOp .neq 45 (.agg #[.string k0, .int .i64 q0, .bool false, .string v0, .int .i64 u0]) (.agg #[.string k0, .int .i64 q0, .bool false, .string v0, .int .i64 u0])).run Tryz.prog W = .ok (.bool false) W := fun W => by rw [Ew.neq_api, Ew.eqE_refl]; rfl
                                have a1 : (0 : Int) ≤ (at_ : Int) := by omega
                                have a2 : (at_ : Int) < (V.length : Int) := by omega
                                have a3 : decide ((V.length : Int) ≤ (at_ : Int)) = false := df (by omega)
                                have a4 : decide (V.length ≤ at_) = false := df (by omega)
                                clear hvc hvg hPt hvb
                                go_wp2_with fail
                                go_quiet (fail)
                                go_wp2_with fail
                                go_roundw
                                case rel => exact ⟨i + 1, at_ + 1, k0, by go_num, by omega, by go_num, hPf, rfl, hL2, Lib.hid (drewN HBQ.out)⟩
                                case measure => simp [intOf]; omega
                              · have u1 : (u0 != 0) = true := nt hu
                                by_cases hux : u0 < x1
                                · have ha : aliveE ⟨k0, q0, false, v0, u0⟩ x1 = false := by simp [aliveE, hu]; omega
                                  have u2 : decide (u0 < x1) = true := dt hux
                                  clear hu hux
                                  have hPf : Hid (at_ = ((R.take (i + 1)).filter (fun x => topB R x0 x && aliveE x x1)).length) := by
                                    refine Lib.hid ?_
                                    rw [HSTEP.out, if_neg (by simp [ha]), List.append_nil]; exact hat.out
                                  clear ha
                                  go_wp2_with fail
                                  go_roundw
                                  case rel => exact ⟨i + 1, at_, k0, by go_num, by omega, rfl, hPf, rfl, hL2, HBQ⟩
                                  case measure => simp [intOf]; omega
                                · have hPt : (topB R x0 ⟨k0, q0, false, v0, u0⟩ && aliveE ⟨k0, q0, false, v0, u0⟩ x1) = true := by rw [HTT.out]; simp [aliveE]; omega
                                  have u2 : decide (u0 < x1) = false := df hux
                                  clear hu hux
                                  obtain ⟨hvl1, hvg⟩ := HFA.out hPt
                                  have hPf : Hid (at_ + 1 = ((R.take (i + 1)).filter (fun x => topB R x0 x && aliveE x x1)).length) := by
                                    refine Lib.hid ?_
                                    rw [HSTEP.out, if_pos hPt, List.length_append, ← hat.out]; rfl
                                  obtain ⟨vb, vo, rfl, hvb, hvc⟩ := (own_erow (own_below HOV.out HBQ.out)).2.2.at (by omega)
                                  have hvd := hvc at_ hvl1
                                  rw [hvg] at hvd
                                  simp only at hvd
                                  obtain ⟨z0, z1, z2, z3, z4⟩ := hvd
                                  have hne : ∀ W : World, (binOp .neq 45 (.agg #[.string k0, .int .i64 q0, .bool false, .string v0, .int .i64 u0]) (.agg #[.string k0, .int .i64 q0, .bool false, .string v0, .int .i64 u0])).run Tryz.prog W = .ok (.bool false) W := fun W => by rw [Ew.neq_api, Ew.eqE_refl]; rfl
                                  have a1 : (0 : Int) ≤ (at_ : Int) := by omega
                                  have a2 : (at_ : Int) < (V.length : Int) := by omega
                                  have a3 : decide ((V.length : Int) ≤ (at_ : Int)) = false := df (by omega)
                                  have a4 : decide (V.length ≤ at_) = false := df (by omega)
                                  clear hvc hvg hPt hvb
                                  go_wp2_with fail
                                  go_quiet (fail)
                                  go_wp2_with fail
                                  go_roundw
                                  case rel => exact ⟨i + 1, at_ + 1, k0, by go_num, by omega, by go_num, hPf, rfl, hL2, Lib.hid (drewN HBQ.out)⟩
                                  case measure => simp [intOf]; omega
                    · obtain rfl : j = i := by omega
                      have hdq := Lib.hid ((hbq.out.block kd (lt_of_block HDV.out)).trans HDV.out)
                      have hav : at_ = V.length := by
                        rw [hat.out, List.take_of_length_le (by rw [HRL.out]; exact Nat.le_refl _), HV.out]; rfl
                      have hbf : Below w.heap.size w wr := chain HBV.out hbq.out
                      subst hav
                      have HBF := Lib.hid hbf
                      clear hbf
                      go_wp2_with fail
                      refine ⟨by simp, .inl ⟨_, _, rfl, run_takeDeferred hdq.out, ?_⟩⟩
                      exact ⟨_, results_tmp rfl _ _ _, rfl, Mg.below_put HBF.out HBF.out.size HW6.out _⟩
end Go.Proofs.YtpihmjdljbienaaGreatDoor.Dw
