/- A law's slice of entries, opened: five cells each; what its weights bound. -/
import Derived.Test.YtajfalffpcamhaaOpen
import Derived.Test.YtajfalffpcamhaaGa
import Derived.Deep.Slices
import Derived.Deep.Fields
namespace Go.Proofs.Ytajfalffpcamhaa.Op
open Go.ChangeShapes Go.WideShapes Go.ChangeAt Go.RowKit Go.Deep
open B En
set_option linter.unusedVariables false

/-- an entry as a datum -/
def entD {H : Type} (e : Ent) : DataW H := .agg [.lit (.string e.key.data.toList), .lit (.int .i64 e.seq), .lit (.bool e.gone), .lit (.string e.val.data.toList), .lit (.int .i64 e.til)]
structure EntT (P : Program) (e : TypeId) (fs : Array Field) : Prop where
  st : P.underlying e = some (.struct fs)
  one : oneCellFields P fs = true
  cells : P.cellsOf e = 5
  f0 : ∃ f, fs[0]? = some f ∧ P.underlying f.type = some .string
  f1 : ∃ f, fs[1]? = some f ∧ P.underlying f.type = some (.int .i64)
  f2 : ∃ f, fs[2]? = some f ∧ P.underlying f.type = some .bool
  f3 : ∃ f, fs[3]? = some f ∧ P.underlying f.type = some .string
  f4 : ∃ f, fs[4]? = some f ∧ P.underlying f.type = some (.int .i64)
  size : fs.size = 5

section
variable {H : Type} {enc : TypeId × Value → H} {P : Program} {w : World} {b0 base : Nat} {sp : Nat → Bool} {held : Bool} {r : Reach}

theorem ent_of {e : TypeId} {fs : Array Field} (T : EntT P e fs) {n : Nat} {cs : List Value} {y : DataW H × List MemPlace} (h : DataW.trod enc P w base sp held n e cs = some y) :
    ∃ x : Ent, cs = x.cells ∧ y.1 = entD x ∧ y.2 = [] ∧ x.key.size ≤ maxLen ∧ x.val.size ≤ maxLen ∧ (Lit.int .i64 x.seq).wf = true ∧ (Lit.int .i64 x.til).wf = true := by
  obtain ⟨ys, n', _, hy, hlen, hyl, hf⟩ := DataW.trod_struct T.st h
  rw [T.cells] at hlen
  rw [T.size] at hyl
  obtain ⟨f0, g0, u0⟩ := T.f0
  obtain ⟨f1, g1, u1⟩ := T.f1
  obtain ⟨f2, g2, u2⟩ := T.f2
  obtain ⟨f3, g3, u3⟩ := T.f3
  obtain ⟨f4, g4, u4⟩ := T.f4
  have h0 := hf 0 f0 g0
  have h1 := hf 1 f1 g1
  have h2 := hf 2 f2 g2
  have h3 := hf 3 f3 g3
  have h4 := hf 4 f4 g4
  rw [(hone_of T.one 0 f0 g0).1, (hone_of T.one 0 f0 g0).2] at h0
  rw [(hone_of T.one 1 f1 g1).1, (hone_of T.one 1 f1 g1).2] at h1
  rw [(hone_of T.one 2 f2 g2).1, (hone_of T.one 2 f2 g2).2] at h2
  rw [(hone_of T.one 3 f3 g3).1, (hone_of T.one 3 f3 g3).2] at h3
  rw [(hone_of T.one 4 f4 g4).1, (hone_of T.one 4 f4 g4).2] at h4
  match cs, hlen, ys, hyl with
  | [c0, c1, c2, c3, c4], _, [y0, y1, y2, y3, y4], _ =>
    simp only [List.drop_zero, List.take_succ_cons, List.take_zero, List.drop_succ_cons, List.getElem?_cons_zero, List.getElem?_cons_succ] at h0 h1 h2 h3 h4
    obtain ⟨s0, e0, rfl, k0⟩ := DataW.trod_string u0 h0
    obtain ⟨s1, e1, rfl, k1⟩ := DataW.trod_int u1 h1
    obtain ⟨s2, e2, rfl⟩ := DataW.trod_bool u2 h2
    obtain ⟨s3, e3, rfl, k3⟩ := DataW.trod_string u3 h3
    obtain ⟨s4, e4, rfl, k4⟩ := DataW.trod_int u4 h4
    simp only [List.cons.injEq, and_true] at e0 e1 e2 e3 e4
    subst e0 e1 e2 e3 e4
    subst hy
    exact ⟨⟨s0, s1, s2, s3, s4⟩, rfl, rfl, rfl, k0, k3, k1, k4⟩

theorem weights_ents {e : TypeId} {fs : Array Field} (T : EntT P e fs) (x : Ent) : x.key.size ∈ DataW.weights P e (entD (H := H) x) ∧ x.val.size ∈ DataW.weights P e (entD (H := H) x) := by
  have hs := T.size
  have ht := T.st
  simp only [entD, DataW.weights, ht]
  obtain ⟨l⟩ := fs
  match l, hs with
  | [a, b, c, d, f], _ =>
    simp [DataW.weightsEach, DataW.weights]
theorem weightsAll_mem {e : TypeId} {D : DataW H} {n : Nat} : ∀ {l : List (DataW H)}, D ∈ l → n ∈ D.weights P e → n ∈ DataW.weightsAll P e l
  | [], h, _ => by cases h
  | x :: r, h, hn => by
    simp only [DataW.weightsAll, List.mem_append]
    rcases List.mem_cons.1 h with rfl | h
    · exact .inl hn
    · exact .inr (weightsAll_mem h hn)
theorem bulk_ent (x : Ent) : Rows.uptoBulk (entD (H := H) x) = x.key.size + x.val.size + 6 := by
  simp [entD, Rows.uptoBulk, Rows.uptoBulkAll]; omega
theorem bulk_ents : ∀ (l : List Ent), Rows.uptoBulkAll (l.map (entD (H := H))) = (l.map fun x => x.key.size + x.val.size + 6).sum
  | [] => by simp [Rows.uptoBulkAll]
  | x :: t => by simp only [List.map_cons, Rows.uptoBulkAll, bulk_ent, bulk_ents t, List.sum_cons]

/-- an entry by itself -/
theorem ent1 {e : TypeId} {fs : Array Field} (T : EntT P e fs) {v : Value} {d : DataW H} {p : List MemPlace} (hv : Value.okWide P w r b0 e v) (h : DataW.Trod enc P w base sp held e v d p) :
    ∃ x : Ent, v = x.v ∧ (x.key.size ≤ maxLen ∧ x.val.size ≤ maxLen ∧ (Lit.int .i64 x.seq).wf = true ∧ (Lit.int .i64 x.til).wf = true) ∧ (∀ b, (∀ m ∈ d.weights P e, m ≤ b) → x.key.size ≤ b ∧ x.val.size ≤ b) := by
  obtain ⟨cs, rfl, _⟩ := okWide_struct T.st hv
  obtain ⟨fuel, hf⟩ := h
  obtain ⟨x, hc, hd, _, hw⟩ := ent_of T hf
  refine ⟨x, ?_, hw, fun b hb => ?_⟩
  · have h1 : cs.toList = x.cells := by simpa [Value.cells] using hc
    have h2 : cs = x.cells.toArray := by rw [← h1]
    rw [h2]; rfl
  · simp only at hd
    rw [hd] at hb
    exact ⟨hb _ (weights_ents T x).1, hb _ (weights_ents T x).2⟩
/-- a slice of entries -/
theorem ents1 {t e : TypeId} {fs : Array Field} (T : EntT P e fs) {v : Value} {d : DataW H} {p : List MemPlace} (ht : P.underlying t = some (.slice e))
    (hv : Value.okWide P w r b0 t v) (h : DataW.Trod enc P w base sp held t v d p) :
    ∃ (a : Option Addr) (n cap : Nat) (l : List Ent), v = .slice a n cap ∧ l.length = n ∧ ERow w a n (fun i => l.getD i ent0) ∧ n ≤ cap ∧ cap ≤ maxLen ∧
      (∀ x ∈ l, x.key.size ≤ maxLen ∧ x.val.size ≤ maxLen ∧ (Lit.int .i64 x.seq).wf = true ∧ (Lit.int .i64 x.til).wf = true) ∧
      (∀ b, (∀ m ∈ d.weights P t, m ≤ b) → (∀ x ∈ l, x.key.size ≤ b ∧ x.val.size ≤ b) ∧ n * P.bytesOf e ≤ b) ∧ (l.map fun x => x.key.size + x.val.size + 6).sum + 1 ≤ Rows.uptoBulk d := by
  obtain ⟨a, n, cap, rfl⟩ := okWide_slice ht hv
  obtain ⟨fuel, hf⟩ := h
  rcases open_slice ht hf with ⟨hcs, hx⟩ | ⟨ad, len, cap', m, k, D, Pl, hcs, _, hl, hm, hmm, hx, hi⟩
  · simp [Value.cells] at hcs
    obtain ⟨rfl, rfl, rfl⟩ := hcs
    simp only [Prod.mk.injEq] at hx
    obtain ⟨rfl, rfl⟩ := hx
    exact ⟨none, 0, 0, [], rfl, rfl, .inl rfl, by omega, by unfold maxLen; omega, by simp, fun b _ => ⟨by simp, by omega⟩, by simpa using one_le _⟩
  · simp [Value.cells] at hcs
    obtain ⟨rfl, rfl, rfl⟩ := hcs
    simp only [Prod.mk.injEq] at hx
    obtain ⟨rfl, rfl⟩ := hx
    have hnm : n ≤ m := by rw [hmm]; split <;> omega
    letI : Inhabited Ent := ⟨ent0⟩
    obtain ⟨F, hF⟩ := choose_lt (α := Ent) (n := m) (p := fun i x => (∀ j, j < 5 → w.cell? (ad.add (i * 5 + j)) = x.cells[j]?) ∧ D i = entD x ∧ x.key.size ≤ maxLen ∧ x.val.size ≤ maxLen ∧ (Lit.int .i64 x.seq).wf = true ∧ (Lit.int .i64 x.til).wf = true) (fun i him => by
      obtain ⟨cs', hc, ht'⟩ := hi i him
      rw [T.cells] at hc
      obtain ⟨x, rfl, hd, _, hw⟩ := ent_of T ht'
      obtain ⟨_, _, hat⟩ := World.cells?_some hc
      refine ⟨x, fun j hj => ?_, hd, hw⟩
      rw [← Go.Deep.add_add]
      exact hat j hj)
    have hmap : (List.range n).map D = ((List.range n).map F).map entD := by
      rw [List.map_map]
      refine List.map_congr_left fun i hi' => ?_
      exact (hF i (by have := List.mem_range.1 hi'; omega)).2.1
    have hget : ∀ i, i < n → ((List.range n).map F).getD i ent0 = F i := by
      intro i hi'
      simp [List.getD_eq_getElem?_getD, List.getElem?_range hi']
    refine ⟨some ad, n, cap, (List.range n).map F, rfl, by simp, ?_, hl, hm, ?_, fun b hb => ⟨?_, ?_⟩, ?_⟩
    · by_cases h0 : n = 0
      · exact .inl h0
      · have ha0 : ad.add 0 = ad := by simp [Addr.add]
        have hc0 := (hF 0 (by omega)).1 0 (by omega)
        simp only [Nat.zero_mul, Nat.add_zero] at hc0
        rw [ha0] at hc0
        have hs := World.cell?_spot (v := .string (F 0).key) hc0
        obtain ⟨b, off, spot⟩ := ad
        subst hs
        refine .inr ⟨b, off, rfl, block_lt_of_cell (a := ⟨b, off, none⟩) (v := .string (F 0).key) hc0, fun i hi' => ?_⟩
        have hgi := hget i hi'
        simp only [hgi]
        have hc := (hF i (by omega)).1
        have hadd : ∀ q, (⟨b, off, none⟩ : Addr).add q = ⟨b, off + q, none⟩ := by intro q; unfold Addr.add; split <;> simp_all
        refine ⟨?_, ?_, ?_, ?_, ?_⟩
        · have := hc 0 (by omega); rw [hadd] at this; exact this
        · have := hc 1 (by omega); rw [hadd] at this; exact this
        · have := hc 2 (by omega); rw [hadd] at this; exact this
        · have := hc 3 (by omega); rw [hadd] at this; exact this
        · have := hc 4 (by omega); rw [hadd] at this; exact this
    · intro x hx
      obtain ⟨i, hi', rfl⟩ := List.mem_map.1 hx
      exact (hF i (by have := List.mem_range.1 hi'; omega)).2.2
    · intro x hx
      have hin : entD (H := H) x ∈ ((List.range n).map F).map entD := List.mem_map_of_mem hx
      have key : ∀ q, q ∈ DataW.weights P e (entD (H := H) x) → q ≤ b := by
        intro q hq
        refine hb _ ?_
        simp only [DataW.weights, ht]
        refine List.mem_cons_of_mem _ (List.mem_append.2 (.inl ?_))
        rw [hmap]
        exact weightsAll_mem hin hq
      exact ⟨key _ (weights_ents T x).1, key _ (weights_ents T x).2⟩
    · have := hb ((((List.range n).map D).length + ((List.range (m - n)).map fun j => D (n + j)).length) * P.bytesOf e) (by simp only [DataW.weights, ht]; exact List.mem_cons_self)
      refine Nat.le_trans (Nat.mul_le_mul_right _ ?_) this
      simp
    · simp only [Rows.uptoBulk, hmap, bulk_ents]
      omega
end
end Go.Proofs.Ytajfalffpcamhaa.Op
