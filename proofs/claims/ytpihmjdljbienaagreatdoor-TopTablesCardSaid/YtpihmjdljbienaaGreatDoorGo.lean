/- Several texts in one: DstA, DstB, DstC, DstD. -/
import Derived.Test.YtpihmjdljbienaaGreatDoorGk
import Derived.Test.YtpihmjdljbienaaGreatDoorGd
import Derived.Test.YtpihmjdljbienaaGreatDoorGl
/- A disk of many files in memory; Used. -/
namespace Go.Proofs.YtpihmjdljbienaaGreatDoor.Dw
open Go.RowKit
open B En
set_option linter.unusedVariables false

/-- a file: its name, its block, its bytes -/
structure Fd where
  nm : ByteArray
  b : Nat
  dat : List UInt8
/-- a file in memory; one without bytes has no row -/
def FOk (B : Nat) (w : World) (f : Fd) : Prop :=
  B ≤ f.b ∧ ∃ a c, w.heap[f.b]? = some (.cells #[.slice a f.dat.length c, .int .i64 0] 135 (0, 0)) ∧ Rd w a f.dat ∧ (f.dat = [] → a = none ∧ c = 0) ∧ f.dat.length ≤ c ∧ c ≤ 9223372036854775807
def fnb (f : Fd) : ByteArray × Nat := (f.nm, f.b)
/-- a disk of many files, of which none was made to last; no trap is laid -/
structure DT (B db : Nat) (room : Nat) (fs : List Fd) (w : World) : Prop where
  ex : ∃ fa fc mb lb qa qn qc qs, DRow w db room (.slice fa fs.length fc) mb lb (.slice qa qn qc) 0 0 (.slice none 0 0) false ∧
    w.ownsRow B 129 1 (.slice fa fs.length fc) fs.length (fs.map fun f => .pointer (some ⟨f.b, 0, none⟩)) ∧
    w.ownsRow B 177 1 (.slice qa qn qc) qn qs ∧ qn ≤ fs.length ∧ MapN w mb (fs.map fnb) ∧ B ≤ mb
  files : ∀ f ∈ fs, FOk B w f
  names : (fs.map Fd.nm).Nodup
  blks : (fs.map Fd.b).Nodup
  few : fs.length ≤ 1000
  db_ : B ≤ db

/-- maps of names stay -/
def KM (w w' : World) : Prop := ∀ (b : Nat) (l : List (ByteArray × Nat)), MapN w b l → w'.heap[b]? = w.heap[b]?
theorem KM.of_below {w w' : World} (k : Below w.heap.size w w') : KM w w' := fun b l h => k.block b h.lt
theorem KM.trans {a b c : World} (h : KM a b) (k : KM b c) : KM a c := fun x l hx => (k x l (hx.blk (h x l hx))).trans (h x l hx)
theorem keeps_heap {ts : List TypeId} {w w' : World} (k : Keeps ts w w') {g : Nat} {cs : Array Value} {t : TypeId} {fr : Nat × Nat} (h : w.heap[g]? = some (.cells cs t fr)) (ht : t ∉ ts) : w'.heap[g]? = w.heap[g]? := (k g cs t fr h ht).trans h.symm
theorem rd_keeps {ts : List TypeId} {w w' : World} (k : Keeps ts w w') (ht : 5 ∉ ts) {a : Option Addr} {l : List UInt8} (h : Rd w a l) : Rd w' a l := by
  rcases h with h | ⟨g, rest, fr, h1, h2⟩
  · exact .inl h
  · exact .inr ⟨g, rest, fr, h1, k g _ _ _ h2 ht⟩
theorem FOk.keeps {ts : List TypeId} {B : Nat} {w w' : World} {f : Fd} (h : FOk B w f) (k : Keeps ts w w') (h1 : 5 ∉ ts) (h2 : 135 ∉ ts) : FOk B w' f := by
  obtain ⟨hb, a, c, hf, hr, h3⟩ := h
  exact ⟨hb, a, c, k _ _ _ _ hf h2, rd_keeps k h1 hr, h3⟩
/-- a disk stays where none of its blocks turns -/
theorem DT.keeps {ts : List TypeId} {B db room : Nat} {fs : List Fd} {w w' : World} (h : DT B db room fs w) (k : Keeps ts w w') (km : KM w w') (ht : ∀ t ∈ dts, t ∉ ts) : DT B db room fs w' := by
  obtain ⟨fa, fc, mb, lb, qa, qn, qc, qs, h1, h2, h3, h4, h5, h6⟩ := h.ex
  exact ⟨⟨fa, fc, mb, lb, qa, qn, qc, qs, k _ _ _ _ h1 (ht _ (by decide)), own_keeps h2 k (ht _ (by decide)), own_keeps h3 k (ht _ (by decide)), h4, h5.blk (km mb _ h5), h6⟩, fun f hf => (h.files f hf).keeps k (ht _ (by decide)) (ht _ (by decide)), h.names, h.blks, h.few, h.db_⟩
theorem DT.below {B db room : Nat} {fs : List Fd} {w w' : World} (h : DT B db room fs w) (k : Below w.heap.size w w') : DT B db room fs w' := h.keeps (ts := []) (Keeps.below k) (KM.of_below k) (by simp)
theorem DT.drew {B db room : Nat} {fs : List Fd} {w : World} (h : DT B db room fs w) : DT B db room fs w.drew := ⟨h.ex, h.files, h.names, h.blks, h.few, h.db_⟩
theorem DT.of_new {B db room : Nat} {w : World} (h : DNew B db room w) : DT B db room [] w := by
  obtain ⟨mb, lb, h1, h2, h3, h4, h5, h6, h7⟩ := h.ex
  exact ⟨⟨none, 0, mb, lb, none, 0, 0, [], h1, World.ownsRow_nil _ _ _ _, World.ownsRow_nil _ _ _ _, Nat.le_refl _, h2, h5⟩, by simp, by simp, by simp, by simp, h4⟩
theorem DT.in_map {B db room : Nat} {fs : List Fd} {w : World} (h : DT B db room fs w) {f : Fd} (hf : f ∈ fs) : (f.nm, f.b) ∈ fs.map fnb ∧ ∀ p ∈ fs.map fnb, p.1 = f.nm → p.2 = f.b := by
  refine ⟨List.mem_map.2 ⟨f, hf, rfl⟩, fun p hp he => ?_⟩
  obtain ⟨g, hg, rfl⟩ := List.mem_map.1 hp
  have hn := h.names
  have key : ∀ l : List Fd, (l.map Fd.nm).Nodup → f ∈ l → g ∈ l → f.nm = g.nm → f = g := fun l => by
    induction l with
    | nil => intro _ h1; cases h1
    | cons x t ih =>
      intro hn h1 h2 he
      rw [List.map_cons, List.nodup_cons] at hn
      rcases List.mem_cons.1 h1 with k1 | k1
      · rcases List.mem_cons.1 h2 with k2 | k2
        · rw [k1, k2]
        · exact absurd (List.mem_map.2 ⟨g, k2, by rw [← he, k1]⟩) hn.1
      · rcases List.mem_cons.1 h2 with k2 | k2
        · exact absurd (List.mem_map.2 ⟨f, k1, by rw [he, k2]⟩) hn.1
        · exact ih hn.2 k1 k2 he
  rw [key fs hn hf hg he.symm]; rfl

/-! the entries that were handed out -/
def seenW (f : MapEntry → Nat) : List MapEntry → Array Nat → Nat
  | [], _ => 0
  | x :: l, seen => (if seen.contains x.born then f x else 0) + seenW f l seen
theorem seenW_nil (f : MapEntry → Nat) : ∀ l : List MapEntry, seenW f l #[] = 0
  | [] => rfl
  | x :: l => by simp [seenW, seenW_nil f l]
theorem seenW_other (f : MapEntry → Nat) (seen : Array Nat) (b : Nat) : ∀ (es : List MapEntry), b ∉ es.map (·.born) → seenW f es (seen.push b) = seenW f es seen
  | [], _ => rfl
  | x :: l, h => by
    have hx : (x.born == b) = false := by
      cases hc : x.born == b with
      | false => rfl
      | true => exact absurd (List.mem_cons.2 (Or.inl (beq_iff_eq.1 hc).symm)) h
    have ih := seenW_other f seen b l (fun e => h (List.mem_cons.2 (Or.inr e)))
    simp only [seenW, contains_push, hx, Bool.or_false, ih]
theorem seenW_push (f : MapEntry → Nat) (seen : Array Nat) (e : MapEntry) (hs : seen.contains e.born = false) : ∀ (es : List MapEntry), (es.map (·.born)).Nodup → e ∈ es → seenW f es (seen.push e.born) = seenW f es seen + f e
  | x :: l, hn, he => by
    have hn' : x.born ∉ l.map (·.born) ∧ (l.map (·.born)).Nodup := List.nodup_cons.1 hn
    rcases List.mem_cons.1 he with rfl | h
    · rw [seenW, seenW, seenW_other f seen _ l hn'.1, hs, contains_push, hs]
      simp; omega
    · have hx : (x.born == e.born) = false := by
        cases hc : x.born == e.born with
        | false => rfl
        | true => exact absurd (by rw [beq_iff_eq.1 hc]; exact List.mem_map.2 ⟨e, h, rfl⟩) hn'.1
      have ih := seenW_push f seen e hs l hn'.2 h
      rw [seenW, seenW, ih, contains_push, hx, Bool.or_false]
      omega
theorem seenW_all (f : MapEntry → Nat) (seen : Array Nat) : ∀ (es : List MapEntry), (∀ x ∈ es, seen.contains x.born = true) → seenW f es seen = (es.map f).sum
  | [], _ => rfl
  | x :: l, h => by
    rw [seenW, h x (by simp), seenW_all f seen l fun y hy => h y (by simp [hy])]
    simp
theorem seenW_le (f : MapEntry → Nat) (seen : Array Nat) : ∀ (es : List MapEntry), seenW f es seen ≤ (es.map f).sum
  | [] => Nat.le_refl _
  | x :: l => by
    have := seenW_le f seen l
    rw [seenW, List.map_cons, List.sum_cons]
    split <;> omega
/-- all bytes of all files -/
def usedF (fs : List Fd) : Nat := (fs.map fun f => f.dat.length).sum
/-- a file's length by its block -/
def lenAt (fs : List Fd) (b : Nat) : Nat := ((fs.find? fun f => decide (f.b = b)).map fun f => f.dat.length).getD 0
theorem lenAt_of {fs : List Fd} (hn : (fs.map Fd.b).Nodup) {f : Fd} (hf : f ∈ fs) : lenAt fs f.b = f.dat.length := by
  induction fs with
  | nil => cases hf
  | cons x t ih =>
    rw [List.map_cons, List.nodup_cons] at hn
    unfold lenAt
    rw [List.find?_cons]
    rcases List.mem_cons.1 hf with rfl | hf
    · simp
    · have hne : ¬ x.b = f.b := fun e => hn.1 (List.mem_map.2 ⟨f, hf, e.symm⟩)
      rw [decide_eq_false hne]
      exact ih hn.2 hf
def ptrN : Value → Nat | .pointer (some ⟨b, _, _⟩) => b | _ => 0
theorem AllN.mem {es : List MapEntry} {l : List (ByteArray × Nat)} (h : AllN es l) {e : MapEntry} (he : e ∈ es) : ∃ p ∈ l, isN p e := by
  induction h with
  | nil => cases he
  | cons a _ ih =>
    rcases List.mem_cons.1 he with rfl | he
    · exact ⟨_, by simp, a⟩
    · obtain ⟨p, hp, h⟩ := ih he; exact ⟨p, by simp [hp], h⟩
theorem AllN.sum {es : List MapEntry} {fs : List Fd} (L : Nat → Nat) (h : AllN es (fs.map fnb)) : (es.map fun e => L (ptrN e.val)).sum = (fs.map fun f => L f.b).sum := by
  induction fs generalizing es with
  | nil => cases h; rfl
  | cons f t ih =>
    cases h with
    | cons a h2 => rw [List.map_cons, List.map_cons, List.sum_cons, List.sum_cons, ih h2, a.2]; rfl
theorem used_sum {es : List MapEntry} {fs : List Fd} (hn : (fs.map Fd.b).Nodup) (h : AllN es (fs.map fnb)) : (es.map fun e => lenAt fs (ptrN e.val)).sum = usedF fs := by
  rw [AllN.sum (lenAt fs) h]
  unfold usedF
  congr 1
  exact List.map_congr_left fun f hf => lenAt_of hn hf

/-- how many bytes the file behind an entry has -/
def lenE (fs : List Fd) (e : MapEntry) : Nat := lenAt fs (ptrN e.val)
theorem below_setB {w W : World} {B b : Nat} (h : Below B w W) (hb : B ≤ b) (o : Obj) : Below B w (setB W b o) := setB_below h hb o
set_option maxHeartbeats 1600000 in
set_option maxRecDepth 100000 in
theorem usedT_any (B db room : Nat) (fs : List Fd) (w : World) (h : DT B db room fs w) (hu : usedF fs ≤ 1099511627776) :
    Calls Tryz.prog 74 #[.pointer (some ⟨db, 0, none⟩)] w fun e w' => e = .returned (.int .i64 (usedF fs : Nat)) ∧ Below w.heap.size w w' := by
  obtain ⟨fa, fc, mb, lb, qa, qn, qc, qs, hd, ho, hq, hqn, hm, hBm⟩ := h.ex
  obtain ⟨es, ck, hmb, hma, hnd, hlt⟩ := hm
  have HFI := Lib.hid h.files
  have HBL := Lib.hid h.blks
  have HSUM := Lib.hid (used_sum h.blks hma)
  have HMA := Lib.hid hma
  have HND := Lib.hid hnd
  have HLT := Lib.hid hlt
  have hmr := run_range_map (P := Tryz.prog) w 65 9 129 mb es ck Tryz.underlying65 hmb
  have HMB := Lib.hid hmb
  have HB0 := Lib.hid ((Below.refl _ w).alloc (Nat.le_refl _) (.mapIter (some mb) ck #[] ck))
  have HR0 := Lib.hid (heap_alloc_new w (.mapIter (some mb) ck #[] ck))
  have x2 := hd.c2
  clear h hd ho hq hqn hma hnd hlt hmb
  generalize w.alloc (.mapIter (some mb) ck #[] ck) = W1 at hmr HB0 HR0
  go_enter Tryz.func74, Tryz.ntmps74
  go_wp2_with fail
  go_loopw [3] (fun sx wr => ∃ (x : Nat) (seen : Array Nat) (c0 : Nat), sx = .int .i64 x ∧ Hid (x = seenW (lenE fs) es.toList seen) ∧ ck ≤ c0 ∧ Hid (Below w.heap.size w wr) ∧ Hid (wr.heap[w.heap.size]? = some (.mapIter (some mb) ck seen c0))) (fun _ wr => (leftOf es (wr.iterSeen w.heap.size)).size)
  case atStart => exact ⟨0, #[], ck, rfl, (seenW_nil _ _).symm, Nat.le_refl _, HB0.out, HR0.out⟩
  case round =>
    obtain ⟨x, seen, c0, rfl, hx, hc0, hb, hr⟩ := hrel
    have hmb : wr.heap[mb]? = some (.map es ck) := (hb.out.block mb (lt_of_block HMB.out)).trans HMB.out
    rcases run_next_at (P := Tryz.prog) wr 0 w.heap.size mb ck c0 seen es ck hr.out hmb HLT.out hc0 with ⟨h0, hrun⟩ | ⟨e, he, w1, hw1, hrun⟩
    · have hnx : ∀ ty, (Instr.next (.pointer (some ⟨w.heap.size, 0, none⟩)) false ty).run Tryz.prog wr = _ := fun _ => hrun
      have hall : ∀ y ∈ es.toList, seen.contains y.born = true := fun y hy => by
        cases hc : seen.contains y.born with
        | true => rfl
        | false =>
          have : y ∈ (leftOf es seen).toList := by
            unfold leftOf
            rw [Array.toList_filter, List.mem_filter]
            exact ⟨hy, by rw [hc]; rfl⟩
          rw [← Array.length_toList] at h0
          rw [List.eq_nil_of_length_eq_zero h0] at this
          cases this
      have hxx : x = usedF fs := by rw [hx.out, seenW_all _ _ _ hall]; exact HSUM.out
      clear hrun hmb hr hx h0 hall
      go_wp2_with fail
      go_ret
      refine ⟨?_, hb.out⟩
      rw [← hxx]
      rfl
    · obtain ⟨hem, hes⟩ := mem_left he
      obtain ⟨p, hp, hpe⟩ := HMA.out.mem hem
      obtain ⟨f, hf, rfl⟩ := List.mem_map.1 hp
      have hl9 := lenAt_of HBL.out hf
      obtain ⟨hfB, a, c, hfb, _, _, hac, hc9⟩ := HFI.out f hf
      have hw1b : Below w.heap.size w w1 := by 
        rcases hw1 with rfl | rfl
        · exact hb.out
        · exact hb.out.drew
      have hval : e.val = .pointer (some ⟨f.b, 0, none⟩) := hpe.2
      rw [hpe.1, hval] at hrun
      have hb2 : Below w.heap.size w (setB w1 w.heap.size (.mapIter (some mb) ck (seen.push e.born) ck)) := setB_below hw1b (Nat.le_refl _) _
      have hr1 : w.heap.size < w1.heap.size := by rcases hw1 with rfl | rfl <;> exact lt_of_block hr.out
      have hr2 : (setB w1 w.heap.size (.mapIter (some mb) ck (seen.push e.born) ck)).heap[w.heap.size]? = some (.mapIter (some mb) ck (seen.push e.born) ck) := setB_same _ hr1
      change _ = Result.ok _ (setB _ _ _) at hrun
      generalize hW2 : setB w1 w.heap.size (.mapIter (some mb) ck (seen.push e.born) ck) = W2 at hb2 hr2 hrun
      have hnx : ∀ ty, (Instr.next (.pointer (some ⟨w.heap.size, 0, none⟩)) false ty).run Tryz.prog wr = _ := fun _ => hrun
      have hm2 : W2.heap[mb]? = some (.map es ck) := (hb2.block mb (lt_of_block HMB.out)).trans HMB.out
      have hen := run_entry_at (P := Tryz.prog) W2 w.heap.size mb ck seen es ck e hr2 hm2 hem HND.out
      rw [hpe.1, hval] at hen
      have hf2 := (hb2.block f.b (lt_of_block hfb)).trans hfb
      have q0 := cell_of_row W2 f.b 0 _ _ _ hf2
      simp at q0
      have hpush : x + f.dat.length = seenW (lenE fs) es.toList (seen.push e.born) := by
        rw [seenW_push _ seen e hes es.toList HND.out hem, hx.out]
        congr 1
        unfold lenE
        rw [hval]
        exact hl9.symm
      have hle : x + f.dat.length ≤ 1099511627776 := by
        rw [hpush]
        refine Nat.le_trans (seenW_le _ _ _) ?_
        have := HSUM.out
        unfold lenE
        omega
      have hwr : IntKind.i64.wrap ((x : Int) + (f.dat.length : Int)) = ((x + f.dat.length : Nat) : Int) := by rw [IntWalk.i64_in _ (by omega)]; omega
      have hshr := left_shrinks es seen e he
      have hs1 : wr.iterSeen w.heap.size = seen := by unfold World.iterSeen; rw [hr.out]
      have hs2 : W2.iterSeen w.heap.size = seen.push e.born := by unfold World.iterSeen; rw [hr2]
      have HP := Lib.hid hpush
      have HB2 := Lib.hid hb2
      have HR2 := Lib.hid hr2
      clear hrun hW2 hb2 hr2 hm2 hf2 hfb hpush hle hx hr hmb hw1b hw1 he hem hes hp hpe hval hr1 hl9 hb
      go_wp2_with fail
      go_roundw
      case rel => exact ⟨x + f.dat.length, seen.push e.born, ck, by first | rfl | go_num, HP.out, Nat.le_refl _, HB2.out, HR2.out⟩
      case measure => rw [hs1, hs2]; exact hshr
end Go.Proofs.YtpihmjdljbienaaGreatDoor.Dw

/- A disk of many files: Create. -/
namespace Go.Proofs.YtpihmjdljbienaaGreatDoor.Dw
open Go.RowKit
open B En
set_option linter.unusedVariables false

theorem keeps_from {W V w5 : World} {B n : Nat} {v : Value} {e : TypeId} {xs : List Value} (hO : W.ownsRow B e 1 v n xs) (hb : Below W.heap.size W V) (hg : V.grownBy w5 v.ownBlock) : Keeps [e] W w5 ∧ KM W w5 := by
  constructor
  · intro g cs t fr hgb ht
    have hl := lt_of_block hgb
    refine ((hg.block g (Nat.lt_of_lt_of_le hl hb.size) fun e' => ?_).trans (hb.block g hl)).trans hgb
    rcases hO.2 with ⟨hv, _⟩ | ⟨g', c', cur, hv, _, hbk, _⟩
    · rw [hv] at e'; cases e'
    · rw [hv] at e'; cases e'
      rw [hgb] at hbk; cases hbk
      exact ht (by simp)
  · intro b l hm
    exact (hg.block b (Nat.lt_of_lt_of_le hm.lt hb.size) fun e' => hm.neOwn hO e'.symm).trans (hb.block b hm.lt)
theorem km_set {w : World} {p : Addr} {cs : Array Value} {t : TypeId} {fr : Nat × Nat} (hg : w.heap[p.block]? = some (.cells cs t fr)) (v : Value) : KM w (w.setCell p v) := fun b l hm => Below.heap_setCell w p v b (hm.ne hg)
theorem KM.drew (w : World) : KM w w.drew := fun _ _ _ => rfl

set_option maxHeartbeats 400000 in
set_option maxRecDepth 100000 in
theorem doT (mb cb : Nat) (l : List (ByteArray × Nat)) (nm : ByteArray) (fb : Nat) (w : World) (hm : MapN w mb l) (hn : ∀ p ∈ l, p.1 ≠ nm) (hc : w.heap[cb]? = some (.cells #[.string nm, .pointer (some ⟨fb, 0, none⟩)] 138 (0, 0))) :
    Calls Tryz.prog 99 #[.map (some mb), .slice (some ⟨cb, 0, none⟩) 1 1] w fun e w' => e = .returned (.tuple #[]) ∧ ∃ o, w' = setB (w.alloc (.cells #[.string nm, .pointer (some ⟨fb, 0, none⟩)] 138)) mb o ∧ MapN w' mb (l ++ [(nm, fb)]) := by
  have c0 := cell_of_row w cb 0 _ _ _ hc
  have c1 := cell_of_row w cb 1 _ _ _ hc
  simp at c0 c1
  have hm2 := hm.below (below_alloc (Below.refl w.heap.size w) (.cells #[.string nm, .pointer (some ⟨fb, 0, none⟩)] 138))
  obtain ⟨o, hrun, hmo, _⟩ := hm2.put nm fb hn
  clear hm hm2 hc hn
  go_enter Tryz.func99, Tryz.ntmps99
  go_wp2_with fail
  refine wp_loop_rounds 2 ?_
  repeat (rw [rounds_succ]; go_wp2_with fail)
  go_end0
  exact ⟨rfl, o, rfl, hmo⟩

set_option maxHeartbeats 800000 in
set_option maxRecDepth 100000 in
theorem renameT (B db cb : Nat) (l : List (ByteArray × Nat)) (nm : ByteArray) (fb : Nat) (room : Int) (fv : Value) (mb lb : Nat) (qa : Option Addr) (qn qc : Nat) (qs : List Value) (w : World) (hd : DRow w db room fv mb lb (.slice qa qn qc) 0 0 (.slice none 0 0) false) (hq : w.ownsRow B 177 1 (.slice qa qn qc) qn qs) (hqn : qn ≤ 1000) (hm : MapN w mb l) (hn : ∀ p ∈ l, p.1 ≠ nm) (hB : B ≤ mb) (hBd : B ≤ db) (hBw : B ≤ w.heap.size)
    (hc : w.heap[cb]? = some (.cells #[.string nm, .pointer (some ⟨fb, 0, none⟩)] 138 (0, 0))) :
    Calls Tryz.prog 73 #[.pointer (some ⟨db, 0, none⟩), .slice (some ⟨cb, 0, none⟩) 1 1] w fun e w' => e = .returned (.tuple #[]) ∧ (∃ qa' qc' qs', DRow w' db room fv mb lb (.slice qa' (qn + 1) qc') 0 0 (.slice none 0 0) false ∧ w'.ownsRow B 177 1 (.slice qa' (qn + 1) qc') (qn + 1) qs') ∧ MapN w' mb (l ++ [(nm, fb)]) ∧ Below B w w' ∧ Keeps [71, 177] w w' := by
  have HDO := Lib.hid (doT mb cb l nm fb w hm hn hc)
  have hmd : db ≠ mb := fun e => hm.ne hd e.symm
  have c2 := hd.c2
  have HD := Lib.hid hd
  have HM := Lib.hid hm
  have HQ := Lib.hid hq
  clear hc hm hn hq
  go_enter Tryz.func73, Tryz.ntmps73
  go_wp2_with fail
  refine HDO.out.mono ?_
  rintro e w1 ⟨rfl, o, hw1, hm1⟩
  have hal := below_alloc (Below.refl w.heap.size w) (.cells #[.string nm, .pointer (some ⟨fb, 0, none⟩)] 138)
  have hd1 : DRow w1 db room fv mb lb (.slice qa qn qc) 0 0 (.slice none 0 0) false := by rw [hw1]; exact (HD.out.below hal).setB hmd o
  have hq1 : w1.ownsRow B 177 1 (.slice qa qn qc) qn qs := by rw [hw1]; exact own_setB (own_below HQ.out hal) ((HM.out.below hal).neOwn (own_below HQ.out hal)) o
  have hb1 : Below B w w1 := by rw [hw1]; exact setB_below ((Below.refl B w).alloc hBw _) hB o
  have hk1 : Keeps [71, 177] w w1 := by rw [hw1]; exact (keeps_alloc0 w _).trans (keeps_map (HM.out.below hal) o)
  have HD1 := Lib.hid hd1
  have HQ1 := Lib.hid hq1
  have HB1 := Lib.hid hb1
  have HK1 := Lib.hid hk1
  have HM1 := Lib.hid hm1
  have c4 := hd1.c4
  have f4 := hd1.fz 4
  have hs1 := hb1.size
  clear hw1 hd1 hb1 hk1 hm1 hal hd c2 HDO hq1
  go_wp2_with (at_builtin; refine Tw.wpList_pushL rfl _ _ 67 rfl Tryz.underlying67 infoStep rfl (by decide) rfl #[.slice (some ⟨cb, 0, none⟩) 1 1] rfl ?c1 rfl ?c0 HQ1.out ?c2 ?c3 ?c4 ?_)
  case c0 => rfl
  case c1 => simp [Value.oneCell']
  case c2 => exact Nat.le_trans hBw hs1
  case c3 => unfold maxLen; omega
  case c4 => first | omega | simp
  intro g7 cap7 w7 hO7 hg7 hb7 hn7
  obtain ⟨hk17, hkm17⟩ := keeps_from HQ1.out (Below.refl _ _) hg7
  have hd7 : DRow w7 db room fv mb lb (.slice qa qn qc) 0 0 (.slice none 0 0) false := hk17 _ _ _ _ HD1.out (by decide)
  have hm7 : MapN w7 mb (l ++ [(nm, fb)]) := HM1.out.blk (hkm17 mb _ HM1.out)
  have HD7 := Lib.hid hd7
  have HM7 := Lib.hid hm7
  have HO7 := Lib.hid hO7
  have HK7 := Lib.hid (HK1.out.trans (hk17.mono (us := [71, 177]) (by decide)))
  have HB7 := Lib.hid (HB1.out.trans hb7)
  have c47 := hd7.c4
  have f47 := hd7.fz 4
  clear hO7 hg7 hb7 hn7 hd7 hm7 hk17 hkm17 c4 f4
  go_wp2_with fail
  go_end0
  refine ⟨rfl, ⟨_, _, _, HD7.out.s4 _, own_same HO7.out (fun g cs fr _ hbk => Below.heap_setCell w7 ⟨db, 4, none⟩ _ g (blk_types hbk HD7.out (by decide)))⟩, HM7.out.set (p := ⟨db, 4, none⟩) HD7.out _, HB7.out.setCell (p := ⟨db, 4, none⟩) hBd _, HK7.out.trans (Keeps.setCell (p := ⟨db, 4, none⟩) HD7.out (by decide) _)⟩

set_option maxHeartbeats 1600000 in
set_option maxRecDepth 100000 in
theorem createT1 (B db room : Nat) (fs : List Fd) (nm : ByteArray) (dc nc : Nat) (w : World) (h : DT B db room fs w) (hn : nm ∉ fs.map Fd.nm) (hfew : fs.length < 1000)
    (hdc : Cell1 w dc 25 (.pointer (some ⟨db, 0, none⟩))) (hnc : Cell1 w nc 9 (.string nm)) (hBw : B ≤ w.heap.size) :
    Calls Tryz.prog 72 #[.pointer (some ⟨dc, 0, none⟩), .pointer (some ⟨nc, 0, none⟩)] w fun e w' => e = .returned (.tuple #[]) ∧ (∃ fb, DT B db room (fs ++ [⟨nm, fb, []⟩]) w') ∧ Below B w w' ∧ Keeps dts w w' := by
  have H := Lib.hid h
  have HN := Lib.hid hn
  have hal := below_alloc (Below.refl w.heap.size w) (.cells #[.slice none 0 0, .int .i64 0] 135)
  have hf0 : (w.alloc (.cells #[.slice none 0 0, .int .i64 0] 135)).heap[w.heap.size]? = some (.cells #[.slice none 0 0, .int .i64 0] 135 (0, 0)) := heap_alloc_new _ _
  have hT1 := h.below hal
  have hdc1 := hdc.below hal
  have hnc1 := hnc.below hal
  have hc1 := hdc.cell
  have hc2 := hnc.cell
  have hb1 : Below B w (w.alloc (.cells #[.slice none 0 0, .int .i64 0] 135)) := (Below.refl B w).alloc hBw _
  have hk1 : Keeps dts w (w.alloc (.cells #[.slice none 0 0, .int .i64 0] 135)) := keeps_alloc0 w _
  have hold : Hid (∀ f ∈ fs, f.b < w.heap.size) := fun f hf => by
    obtain ⟨_, a, c, hfb, _⟩ := h.files f hf
    exact lt_of_block hfb
  have hfB : B ≤ w.heap.size := hBw
  have hB1 := h.db_
  clear h hal hdc hnc hn
  generalize hW : w.alloc (.cells #[.slice none 0 0, .int .i64 0] 135) = W at hf0 hT1 hdc1 hnc1 hb1 hk1
  have HW := Lib.hid hW
  generalize hfb : w.heap.size = fb at hf0 hfB hold
  have HFB := Lib.hid hfb
  have hwz : B ≤ W.heap.size := Nat.le_trans hBw hb1.size
  clear hfb
  obtain ⟨fa, fc, mb, lb, qa, qn, qc, qs, hd1, ho1, hq1, hqn, hm1, hBm⟩ := hT1.ex
  have HF0 := Lib.hid hf0
  have HD1 := Lib.hid hd1
  have HO1 := Lib.hid ho1
  have HQ1 := Lib.hid hq1
  have HM1 := Lib.hid hm1
  have HT1 := Lib.hid hT1
  have HN1 := Lib.hid hnc1
  have HC1 := Lib.hid hdc1
  have HB1 := Lib.hid hb1
  have HK1 := Lib.hid hk1
  have x1 := hd1.c1
  have y1 := hd1.fz 1
  have z1 := hdc1.cell
  have z2 := hnc1.cell
  have x1a : ∀ C, (W.alloc C).cell? ⟨db, 1, none⟩ = some (.slice fa fs.length fc) := fun C => (hd1.below (below_alloc (Below.refl _ _) C)).c1
  have z1a : ∀ C, (W.alloc C).cell? ⟨dc, 0, none⟩ = some (.pointer (some ⟨db, 0, none⟩)) := fun C => (hdc1.below (below_alloc (Below.refl _ _) C)).cell
  clear hf0 hd1 ho1 hq1 hm1 hT1 hnc1 hdc1 hb1 hk1 hc1 hc2
  go_enter Tryz.func72, Tryz.ntmps72
  go_wp2_with fail
  rw [HFB.out]
  clear hW
  refine wp_region_noPanic ?_
  go_region_law
    (refine step_pushG (B := B) (n := fs.length) (xs := fs.map fun f => .pointer (some ⟨f.b, 0, none⟩)) (v := .slice fa fs.length fc) (by rfl) _ _ 66 (by rfl) Tryz.underlying66 infoFile rfl (by decide) (by rfl) #[.pointer (some ⟨fb, 0, none⟩)] rfl (by simp [Value.oneCell']) (by rfl) ?_ ?_ ?_ (by unfold maxLen; omega) (by omega) ?_
     · repeat (first | ((with_reducible refine blk_new ?_); (focus (simp; done))) | with_reducible refine blk_drew ?_ | with_reducible refine blk_alloc ?_)
     · repeat (first | with_reducible exact HO1.out | with_reducible refine own_drew ?_ | with_reducible refine World.ownsRow.alloc ?_ _)
     · refine Nat.le_trans hwz (Below.size (B := W.heap.size) (w := W) ?_)
       repeat (first | with_reducible exact Below.refl _ _ | with_reducible refine Below.drew ?_ | with_reducible refine below_alloc ?_ _)
     intro a1 c1 w5 hq hgr hb
     have hkk := keeps_from (W := W) HO1.out (by repeat (first | with_reducible exact Below.refl _ _ | with_reducible refine Below.drew ?_ | with_reducible refine below_alloc ?_ _)) hgr
     have hd5 : DRow w5 db room (.slice fa fs.length fc) mb lb (.slice qa qn qc) 0 0 (.slice none 0 0) false := hkk.1 _ _ _ _ HD1.out (by decide)
     have x15 := hd5.c1
     have y15 := hd5.fz 1
     have hc5 : Cell1 w5 dc 25 (.pointer (some ⟨db, 0, none⟩)) := hkk.1 _ _ _ _ HC1.out (by decide)
     have z15 := hc5.cell
     clear hc5
     have HQ5 := Lib.hid hq
     have HB5 : Hid (Below B W w5) := Below.trans (by repeat (first | with_reducible exact Below.refl _ _ | with_reducible refine Below.drew ?_ | with_reducible refine Below.alloc ?_ hwz _)) hb
     have HKK5 := Lib.hid hkk
     have HD5 := Lib.hid hd5
     clear hq hgr hb hkk hd5)
  all_goals
    refine NoPanic.normal ?_
    have hd6 := HD5.out.s1 (.slice a1 (fs.length + 1) c1)
    have hk56 : Keeps [71] w5 (w5.setCell ⟨db, 1, none⟩ (.slice a1 (fs.length + 1) c1)) := Keeps.setCell (p := ⟨db, 1, none⟩) HD5.out (by decide) _
    have hm6 : MapN (w5.setCell ⟨db, 1, none⟩ (.slice a1 (fs.length + 1) c1)) mb (fs.map fnb) := (HM1.out.blk (HKK5.out.2 mb _ HM1.out)).set (p := ⟨db, 1, none⟩) HD5.out _
    have hc5 : Cell1 w5 dc 25 (.pointer (some ⟨db, 0, none⟩)) := HKK5.out.1 _ _ _ _ HC1.out (by decide)
    have hn5 : Cell1 w5 nc 9 (.string nm) := HKK5.out.1 _ _ _ _ HN1.out (by decide)
    have hc6 : Cell1 (w5.setCell ⟨db, 1, none⟩ (.slice a1 (fs.length + 1) c1)) dc 25 (.pointer (some ⟨db, 0, none⟩)) := hk56 _ _ _ _ hc5 (by decide)
    have hn6 : Cell1 (w5.setCell ⟨db, 1, none⟩ (.slice a1 (fs.length + 1) c1)) nc 9 (.string nm) := hk56 _ _ _ _ hn5 (by decide)
    have ho6 := own_keeps HQ5.out hk56 (by decide)
    have hq6 := own_keeps (own_keeps HQ1.out HKK5.out.1 (by decide)) hk56 (by decide)
    have hb6 : Below B w (w5.setCell ⟨db, 1, none⟩ (.slice a1 (fs.length + 1) c1)) := (HB1.out.trans HB5.out).setCell (p := ⟨db, 1, none⟩) hB1 _
    have hk6 : Keeps [129, 71, 177] W (w5.setCell ⟨db, 1, none⟩ (.slice a1 (fs.length + 1) c1)) := (HKK5.out.1.mono (by decide)).trans (hk56.mono (by decide))
    clear x15 y15 z15 x1 y1 z1 z2 x1a z1a HD5 HB5 HQ5 hc5 hn5 hk56 HKK5
    generalize (w5.setCell ⟨db, 1, none⟩ (.slice a1 (fs.length + 1) c1)) = W6 at *
    have hbw6 : B ≤ W6.heap.size := Nat.le_trans hBw hb6.size
    have hal7 := below_alloc (Below.refl W6.heap.size W6) (.cells #[.string nm, .pointer (some ⟨fb, 0, none⟩)] 138)
    have hnn : ∀ p ∈ fs.map fnb, p.1 ≠ nm := fun p hp => by
      obtain ⟨f, hf, rfl⟩ := List.mem_map.1 hp
      exact fun e => HN.out (List.mem_map.2 ⟨f, hf, e⟩)
    have HRN := Lib.hid (renameT B db W6.heap.size (fs.map fnb) nm fb room (.slice a1 (fs.length + 1) c1) mb lb qa qn qc qs (W6.alloc (.cells #[.string nm, .pointer (some ⟨fb, 0, none⟩)] 138)) (hd6.below hal7) (own_below hq6 hal7) (by omega) (hm6.below hal7) hnn hBm hB1 (Nat.le_trans hbw6 hal7.size) (heap_alloc_new _ _))
    have ho7 := own_below ho6 hal7
    have hb7 := hb6.trans ((Below.refl B W6).alloc hbw6 (.cells #[.string nm, .pointer (some ⟨fb, 0, none⟩)] 138))
    have hk7 := hk6.trans (keeps_alloc0 (ts := [129, 71, 177]) W6 (.cells #[.string nm, .pointer (some ⟨fb, 0, none⟩)] 138))
    have HZ := Lib.hid (And.intro ho7 (And.intro hb7 hk7))
    have q1 := hc6.cell
    have q2 := hn6.cell
    clear ho7 hb7 hk7 hd6 hm6 hc6 hn6 ho6 hq6 hb6 hk6 hal7 hnn
    go_wp2_with fail
    refine HRN.out.mono ?_
    rintro e w8 ⟨rfl, ⟨qa', qc', qs', hd8, hq8⟩, hm8, hb8, hk8⟩
    have HH := Lib.hid (And.intro hd8 (And.intro hq8 (And.intro hm8 (And.intro hb8 hk8))))
    clear hd8 hq8 hm8 hb8 hk8 q1 q2
    go_wp2_with fail
    go_end0
    obtain ⟨hd8, hq8, hm8, hb8, hk8⟩ := HH.out
    obtain ⟨ho7, hb7, hk7⟩ := HZ.out
    have hk : Keeps [129, 71, 177] W w8 := hk7.trans (hk8.mono (by decide))
    refine ⟨rfl, ⟨fb, ⟨⟨a1, c1, mb, lb, qa', qn + 1, qc', qs', ?_, ?_, hq8, ?_, ?_, hBm⟩, ?_, ?_, ?_, ?_, hB1⟩⟩, hb7.trans hb8, HK1.out.trans (hk.mono (by decide))⟩
    · rw [List.length_append]; exact hd8
    · have := own_keeps ho7 hk8 (by decide)
      rw [List.length_append, List.map_append]; exact this
    · rw [List.length_append, List.length_singleton]; omega
    · rw [List.map_append]; exact hm8
    · intro f hf
      rcases List.mem_append.1 hf with hf | hf
      · exact (HT1.out.files f hf).keeps hk (by decide) (by decide)
      · rw [List.mem_singleton] at hf
        subst hf
        exact ⟨hfB, none, 0, hk _ _ _ _ HF0.out (by decide), .inl rfl, fun _ => ⟨rfl, rfl⟩, Nat.le_refl _, by omega⟩
    · rw [List.map_append, List.nodup_append]
      refine ⟨H.out.names, by simp, ?_⟩
      intro x hx y hy
      simp only [List.map_cons, List.map_nil, List.mem_singleton] at hy
      subst hy
      exact fun e => HN.out (e ▸ hx)
    · rw [List.map_append, List.nodup_append]
      refine ⟨H.out.blks, by simp, ?_⟩
      intro x hx y hy
      simp only [List.map_cons, List.map_nil, List.mem_singleton] at hy
      subst hy
      obtain ⟨f, hf, rfl⟩ := List.mem_map.1 hx
      have := hold.out f hf
      omega
    · rw [List.length_append, List.length_singleton]; omega

set_option maxHeartbeats 800000 in
set_option maxRecDepth 100000 in
theorem createT (B db room : Nat) (fs : List Fd) (nm : ByteArray) (h0 : nm.size ≠ 0) (h1 : nm.size ≤ 64) (w : World) (h : DT B db room fs w) (hn : nm ∉ fs.map Fd.nm) (hfew : fs.length < 1000) (hBw : B ≤ w.heap.size) :
    Calls Tryz.prog 20 #[.pointer (some ⟨db, 0, none⟩), .string nm] w fun e w' => e = .returned (.int .i64 0) ∧ (∃ fb, DT B db room (fs ++ [⟨nm, fb, []⟩]) w') ∧ Below B w w' ∧ Keeps dts w w' := by
  have hal := below_alloc (below_alloc (Below.refl w.heap.size w) (.cells #[.pointer (some ⟨db, 0, none⟩)] 25)) (.cells #[.string nm] 9)
  have hd1 := h.below hal
  have hc1 : Cell1 ((w.alloc (.cells #[.pointer (some ⟨db, 0, none⟩)] 25)).alloc (.cells #[.string nm] 9)) w.heap.size 25 (.pointer (some ⟨db, 0, none⟩)) := blk_alloc (heap_alloc_new _ _)
  have hn1 : Cell1 ((w.alloc (.cells #[.pointer (some ⟨db, 0, none⟩)] 25)).alloc (.cells #[.string nm] 9)) (w.heap.size + 1) 9 (.string nm) := blk_new (by simp)
  have hb1 : Below B w ((w.alloc (.cells #[.pointer (some ⟨db, 0, none⟩)] 25)).alloc (.cells #[.string nm] 9)) := ((Below.refl B w).alloc hBw _).alloc (by simp; omega) _
  have hk1 : Keeps dts w ((w.alloc (.cells #[.pointer (some ⟨db, 0, none⟩)] 25)).alloc (.cells #[.string nm] 9)) := Keeps.below hal
  generalize hW : (w.alloc (.cells #[.pointer (some ⟨db, 0, none⟩)] 25)).alloc (.cells #[.string nm] 9) = W at hd1 hc1 hn1 hb1 hk1
  have HW := Lib.hid hW
  have hbW : B ≤ W.heap.size := Nat.le_trans hBw hb1.size
  obtain ⟨fa, fc, mb, lb, qa, qn, qc, qs, hd, ho, hq, hqn, hm, hBm⟩ := hd1.ex
  have hnn : ∀ p ∈ fs.map fnb, p.1 ≠ nm := fun p hp => by
    obtain ⟨f, hf, rfl⟩ := List.mem_map.1 hp
    exact fun e => hn (List.mem_map.2 ⟨f, hf, e⟩)
  have HFI := Lib.hid (find_no db mb (fs.map fnb) nm hnn W hd.c11 hd.c2 hm)
  have HGO := Lib.hid (good_any nm h0 h1 W)
  have HLN := fun ty => hm.len_ ty
  rw [List.length_map] at HLN
  have d96 : ((fs.length : Int) == 4096) = false := ef (by omega)
  have d97 : (fs.length == 4096) = false := by simp; omega
  have c2 := hd.c2
  have q1 := hc1.cell
  have q2 := hn1.cell
  have HCH := Lib.hid (change_pass db 72 #[.pointer (some ⟨w.heap.size, 0, none⟩), .pointer (some ⟨w.heap.size + 1, 0, none⟩)] true 0 (by omega) (by omega) (fun w' => (∃ fb, DT B db room (fs ++ [⟨nm, fb, []⟩]) w') ∧ Below B W w' ∧ Keeps dts W w') W hd.c5 hd.c8 (hd.fz 5)
    (fun W => call_enter Tryz.func72 rfl rfl _ W)
    (fun V hV => by
      rcases hV with ⟨rfl, _⟩ | ⟨_, h⟩
      · exact (createT1 B db room fs nm w.heap.size (w.heap.size + 1) W.drew hd1.drew hn hfew hc1 hn1 hbW).mono fun e w' ⟨h1, h2, h3, h4⟩ => ⟨h1, h2, ⟨h3.os, h3.tape, h3.output, h3.size, h3.block⟩, h4⟩
      · exact absurd rfl h))
  have HBK := Lib.hid (And.intro hb1 hk1)
  have hmf : ∀ (fn : Fn) (first cap : Array Value) (w : World), (Instr.makeFunc fn first cap).run Tryz.prog w = .ok (.func fn first cap) w := fun _ _ _ _ => rfl
  clear hd ho hq hm hd1 hc1 hn1 hb1 hk1 h hal hnn hn
  go_enter Tryz.func20, Tryz.ntmps20
  go_wp2_with fail
  refine HFI.out.mono ?_
  rintro e w1 ⟨rfl, hw1⟩
  subst hw1
  go_wp2_with fail
  refine HGO.out.mono ?_
  rintro e w2 ⟨rfl, hw2⟩
  subst hw2
  go_wp2_with fail
  refine HCH.out.mono ?_
  rintro e w3 ⟨rfl, hf3, hb3, hk3⟩
  have HZ := Lib.hid (And.intro hf3 (And.intro (HBK.out.1.trans hb3) (HBK.out.2.trans hk3)))
  clear hf3 hb3 hk3
  go_wp2_with fail
  go_ret
  exact ⟨rfl, HZ.out.1, HZ.out.2.1, HZ.out.2.2⟩
end Go.Proofs.YtpihmjdljbienaaGreatDoor.Dw

/- A disk of many files: the first Append to a file; Part. -/
namespace Go.Proofs.YtpihmjdljbienaaGreatDoor.Dw
open Go.RowKit
open B En Tb
set_option linter.unusedVariables false

theorem usedF_snoc (fs : List Fd) (f : Fd) : usedF (fs ++ [f]) = usedF fs + f.dat.length := by unfold usedF; simp
/-- the bytes are laid into the last file -/
theorem DT.lay {B db room fb c1 : Nat} {fs : List Fd} {nm : ByteArray} {a1 : Option Addr} {l : List UInt8} {w w5 : World} (h : DT B db room (fs ++ [⟨nm, fb, []⟩]) w) (hold : ∀ g, g < w.heap.size → w5.heap[g]? = w.heap[g]?)
    (hq : w5.ownsRow B 5 1 (.slice a1 l.length c1) l.length (l.map bv)) (hl : l ≠ []) (hc1 : l.length ≤ c1) (hc2 : c1 ≤ 9223372036854775807) :
    DT B db room (fs ++ [⟨nm, fb, l⟩]) (w5.setCell ⟨fb, 0, none⟩ (.slice a1 l.length c1)) ∧ Keeps [135] w (w5.setCell ⟨fb, 0, none⟩ (.slice a1 l.length c1)) := by
  obtain ⟨hfB, a, c, hf, _, hz, _⟩ := h.files ⟨nm, fb, []⟩ (by simp)
  obtain ⟨rfl, rfl⟩ := hz rfl
  simp only [List.length_nil] at hf
  have hfl := lt_of_block hf
  have hf5 : w5.heap[fb]? = some (.cells #[.slice none 0 0, .int .i64 0] 135 (0, 0)) := (hold fb hfl).trans hf
  have hk5 : Keeps [] w w5 := keeps_old hold
  have hk6 : Keeps [135] w5 (w5.setCell ⟨fb, 0, none⟩ (.slice a1 l.length c1)) := Keeps.setCell (p := ⟨fb, 0, none⟩) hf5 (by decide) _
  have hk : Keeps [135] w (w5.setCell ⟨fb, 0, none⟩ (.slice a1 l.length c1)) := (hk5.mono (by simp)).trans hk6
  have far : ∀ g, g ≠ fb → g < w.heap.size → (w5.setCell ⟨fb, 0, none⟩ (.slice a1 l.length c1)).heap[g]? = w.heap[g]? := fun g h1 h2 => (Below.heap_setCell w5 ⟨fb, 0, none⟩ _ g h1).trans (hold g h2)
  have h6 : (w5.setCell ⟨fb, 0, none⟩ (.slice a1 l.length c1)).heap[fb]? = some (.cells #[.slice a1 l.length c1, .int .i64 0] 135 (0, 0)) := by rw [heap_setCell_same w5 fb 0 _ _ _ hf5]; rfl
  have hq6 := own_keeps hq hk6 (by decide)
  obtain ⟨fa, fc, mb, lb, qa, qn, qc, qs, h1, h2, h3, h4, h5, h9⟩ := h.ex
  simp only [List.length_append, List.length_singleton, List.map_append, List.map_cons, List.map_nil, fnb] at h1 h2 h4 h5
  have hbl := h.blks
  rw [List.map_append, List.nodup_append] at hbl
  refine ⟨⟨⟨fa, fc, mb, lb, qa, qn, qc, qs, ?_, ?_, own_keeps h3 hk (by decide), ?_, ?_, h9⟩, ?_, ?_, ?_, ?_, h.db_⟩, hk⟩
  · simp only [List.length_append, List.length_singleton]; exact hk _ _ _ _ h1 (by decide)
  · simp only [List.length_append, List.length_singleton, List.map_append, List.map_cons, List.map_nil]; exact own_keeps h2 hk (by decide)
  · simp only [List.length_append, List.length_singleton]; exact h4
  · simp only [List.map_append, List.map_cons, List.map_nil, fnb]; exact h5.blk (far _ (h5.ne hf) h5.lt)
  · intro f hfm
    rcases List.mem_append.1 hfm with hfm | hfm
    · obtain ⟨gB, a', c', gf, gr, g4⟩ := h.files f (List.mem_append_left _ hfm)
      have hne : f.b ≠ fb := fun e => hbl.2.2 f.b (List.mem_map.2 ⟨f, hfm, rfl⟩) fb (by simp) e
      exact ⟨gB, a', c', (far _ hne (lt_of_block gf)).trans gf, rd_keeps hk (by decide) gr, g4⟩
    · rw [List.mem_singleton] at hfm
      subst hfm
      exact ⟨hfB, a1, c1, h6, Rd.of_own hq6, fun e => absurd e hl, hc1, hc2⟩
  · have := h.names; simp only [List.map_append, List.map_cons, List.map_nil] at this ⊢; exact this
  · have := h.blks; simp only [List.map_append, List.map_cons, List.map_nil] at this ⊢; exact this
  · have := h.few; simp only [List.length_append, List.length_singleton] at this ⊢; exact this

set_option maxHeartbeats 1600000 in
set_option maxRecDepth 100000 in
theorem appendT1 (B db room : Nat) (fs : List Fd) (nm : ByteArray) (fb fc sc : Nat) (sb : ByteArray) (w : World) (h : DT B db room (fs ++ [⟨nm, fb, []⟩]) w)
    (hfc : Cell1 w fc 129 (.pointer (some ⟨fb, 0, none⟩))) (hsc : Cell1 w sc 9 (.string sb)) (hBw : B ≤ w.heap.size) (hlen : sb.size ≤ 1048576) (hs0 : sb.size ≠ 0) :
    Calls Tryz.prog 75 #[.pointer (some ⟨fc, 0, none⟩), .pointer (some ⟨sc, 0, none⟩)] w fun e w' => e = .returned (.tuple #[]) ∧ DT B db room (fs ++ [⟨nm, fb, sb.data.toList⟩]) w' ∧ Below B w w' ∧ Keeps dts w w' := by
  obtain ⟨hfB, a, c, hf, _, hz, _⟩ := h.files ⟨nm, fb, []⟩ (by simp)
  obtain ⟨rfl, rfl⟩ := hz rfl
  simp only [List.length_nil] at hf
  have q1 := hfc.cell
  have q2 := hsc.cell
  have q3 := cell_of_row w fb 0 _ _ _ hf
  simp at q3
  have HF := Lib.hid hfc
  have HFB := Lib.hid hf
  have H := Lib.hid h
  have HO0 := Lib.hid (World.ownsRow_nil w.drew B 5 1)
  clear hf h hfc hsc hz
  go_enter Tryz.func75, Tryz.ntmps75
  go_wp2_with fail
  refine wp_region_noPanic ?_
  go_region_law
    (refine step_str (B := B) (by rfl) _ _ 80 9 (by rfl) Tryz.underlying80 Tryz.underlying9 infoByte (by rfl) sb (by rfl) HO0.out hBw (by omega) ?_
     intro a1 c1 w5 hq hgr hb hc1 hc2
     have hold : ∀ g, g < w.heap.size → w5.heap[g]? = w.heap[g]? := fun g hg => hgr.block g hg (by simp [Value.ownBlock])
     have hf5 := (hold fb (lt_of_block HFB.out)).trans HFB.out
     have hfc5 : Cell1 w5 fc 129 (.pointer (some ⟨fb, 0, none⟩)) := (hold fc HF.out.lt).trans HF.out
     have x5 := cell_of_row w5 fb 0 _ _ _ hf5
     have y5 := hfc5.cell
     have z5 : w5.frozen? ⟨fb, 0, none⟩ = false := by simp [World.frozen?, hf5]
     simp at x5
     have HW := Lib.hid (And.intro hq (And.intro hold (And.intro hb (And.intro hc1 hc2))))
     clear hq hgr hb hc1 hc2 hf5 hfc5 hold)
  all_goals
    refine NoPanic.normal ?_
    go_end0
    obtain ⟨hq, hold, hb, hc1, hc2⟩ := HW.out
    have hsl : sb.data.toList.length = sb.size := by simp
    have hq' : w5.ownsRow B 5 1 (.slice a1 sb.data.toList.length c1) sb.data.toList.length (sb.data.toList.map bv) := by
      rw [hsl]
      rw [Nat.zero_add, List.nil_append] at hq
      exact hq
    obtain ⟨h1, h2⟩ := H.out.lay hold hq' (fun e => hs0 (by rw [← hsl, e]; rfl)) (by omega) hc2
    rw [hsl] at h1 h2
    first
      | exact ⟨rfl, h1, (Below.trans (⟨hb.os, hb.tape, hb.output, hb.size, hb.block⟩ : Below B w w5) (Below.refl B w5)).setCell (p := ⟨fb, 0, none⟩) hfB _, h2.mono (by decide)⟩
      | (rw [Nat.zero_add]; exact ⟨rfl, h1, (Below.trans (⟨hb.os, hb.tape, hb.output, hb.size, hb.block⟩ : Below B w w5) (Below.refl B w5)).setCell (p := ⟨fb, 0, none⟩) hfB _, h2.mono (by decide)⟩)

set_option maxHeartbeats 1600000 in
set_option maxRecDepth 100000 in
theorem appendT (B db room : Nat) (fs : List Fd) (nm : ByteArray) (fb : Nat) (sb : ByteArray) (w : World) (h : DT B db room (fs ++ [⟨nm, fb, []⟩]) w) (hBw : B ≤ w.heap.size)
    (hlen : sb.size ≤ 1048576) (hs0 : sb.size ≠ 0) (hroom : usedF fs + sb.size ≤ room) (hu : usedF fs ≤ 1099511627776) (hr9 : room ≤ 9223372036854775807) :
    Calls Tryz.prog 21 #[.pointer (some ⟨db, 0, none⟩), .string nm, .string sb] w fun e w' => e = .returned (.int .i64 0) ∧ DT B db room (fs ++ [⟨nm, fb, sb.data.toList⟩]) w' ∧ Below B w w' ∧ Keeps dts w w' := by
  have hal := below_alloc (Below.refl w.heap.size w) (.cells #[.string sb] 9)
  have h1 := h.below hal
  have hs1 : Cell1 (w.alloc (.cells #[.string sb] 9)) w.heap.size 9 (.string sb) := heap_alloc_new _ _
  have hwB := hBw
  generalize hsc : w.heap.size = sc at *
  generalize hW1 : w.alloc (.cells #[.string sb] 9) = W1 at *
  have HW1 := Lib.hid hW1
  have HSC := Lib.hid hsc
  clear h hsc
  obtain ⟨fa, fcap, mb, lb, qa, qn, qc, qs, hd, ho, hq, hqn, hm, hBm⟩ := h1.ex
  obtain ⟨hfB, a, c, hf, _, hz, _⟩ := h1.files ⟨nm, fb, []⟩ (by simp)
  obtain ⟨rfl, rfl⟩ := hz rfl
  simp only [List.length_nil] at hf
  obtain ⟨hin, huq⟩ := h1.in_map (f := ⟨nm, fb, []⟩) (by simp)
  have HFY := Lib.hid (find_yes db mb _ nm fb hin huq W1 hd.c11 hd.c2 hm)
  have hal2 := below_alloc (Below.refl W1.heap.size W1) (.cells #[.pointer (some ⟨fb, 0, none⟩)] 129)
  have h2 := h1.below hal2
  have hs2 := hs1.below hal2
  have hf2 : Cell1 (W1.alloc (.cells #[.pointer (some ⟨fb, 0, none⟩)] 129)) W1.heap.size 129 (.pointer (some ⟨fb, 0, none⟩)) := heap_alloc_new _ _
  have hb2 := hal.trans (hal2.mono (by have := hal.size; have := HSC.out; omega))
  have hd2 := hd.below hal2
  have hff2 := (hal2.block fb (lt_of_block hf)).trans hf
  clear hd ho hm hf h1 hs1 hal hal2 hz hin huq hq
  generalize hfc : W1.heap.size = fc at *
  generalize hW2 : W1.alloc (.cells #[.pointer (some ⟨fb, 0, none⟩)] 129) = W2 at *
  have HFC := Lib.hid hfc
  have HW2 := Lib.hid hW2
  have e1 := hf2.cell
  have e2 := cell_of_row W2 fb 0 _ _ _ hff2
  have e3 := hs2.cell
  have e4 := hd2.c0
  simp at e2
  have H0 : Hid ((W2.cell? ⟨fc, 0, none⟩ = some (.pointer (some ⟨fb, 0, none⟩)) ∧ W2.cell? ⟨fb, 0, none⟩ = some (.slice none 0 0) ∧ W2.cell? ⟨sc, 0, none⟩ = some (.string sb) ∧ W2.cell? ⟨db, 0, none⟩ = some (.int .i64 room)) ∧ fc < W2.heap.size ∧ fb < W2.heap.size ∧ sc < W2.heap.size ∧ db < W2.heap.size) :=
    ⟨⟨e1, e2, e3, e4⟩, lt_of_block hf2, lt_of_block hff2, lt_of_block hs2, hd2.lt⟩
  have hus : usedF (fs ++ [⟨nm, fb, []⟩]) = usedF fs := by rw [usedF_snoc]; rfl
  have HU := Lib.hid (usedT_any B db room _ W2.drew h2.drew (by rw [hus]; exact hu))
  rw [hus] at HU
  have HZ := Lib.hid (And.intro h2 (And.intro hf2 (And.intro hs2 hb2)))
  generalize usedF fs = un at *
  obtain ⟨m, hmm⟩ : ∃ m, un + sb.size = m := ⟨_, rfl⟩
  have ew0 : IntKind.i64.wrap ((0 : Int) + (sb.size : Int)) = (sb.size : Int) := by rw [IntWalk.i64_in _ (by omega)]; omega
  have ew1 : IntKind.i64.wrap ((un : Int) + (sb.size : Int)) = (m : Int) := by rw [IntWalk.i64_in _ (by omega)]; omega
  have ew2 : IntKind.i64.wrap (sb.size : Int) = (sb.size : Int) := IntWalk.i64_in _ (by omega)
  have d1 : decide ((1048576 : Int) < (sb.size : Int)) = false := decide_eq_false (by omega)
  have d2 : decide (1048576 < sb.size) = false := decide_eq_false (by omega)
  have d3 : decide ((room : Int) < (m : Int)) = false := decide_eq_false (by omega)
  have d4 : decide (room < m) = false := decide_eq_false (by omega)
  clear h2 hf2 hs2 hb2 hd2 hff2 e1 e2 e3 e4 hfc hW1 hW2 hmm hus
  go_enter Tryz.func21, Tryz.ntmps21
  go_wp2_with fail
  rw [HW1.out, HSC.out]
  refine HFY.out.mono ?_
  rintro e w1 ⟨rfl, hw1⟩
  subst hw1
  go_upto_region 4 with fail
  rw [HW2.out, HFC.out]
  go_region_held3 (fun w' => (w'.cell? ⟨fc, 0, none⟩ = some (.pointer (some ⟨fb, 0, none⟩)) ∧ w'.cell? ⟨fb, 0, none⟩ = some (.slice none 0 0) ∧ w'.cell? ⟨sc, 0, none⟩ = some (.string sb) ∧ w'.cell? ⟨db, 0, none⟩ = some (.int .i64 room)) ∧ fc < w'.heap.size ∧ fb < w'.heap.size ∧ sc < w'.heap.size ∧ db < w'.heap.size)
    (first | exact H0.out | exact keepC (W := W2.drew) H0.out hb3)
    (first | (go_at_call 74; (with_reducible refine HU.out.mono ?_); rintro e w3 ⟨rfl, hb3⟩))
  have hb4 : Below W2.heap.size W2 w3 := ⟨hb3.os, hb3.tape, hb3.output, hb3.size, hb3.block⟩
  obtain ⟨h2, hf2, hs2, hb2⟩ := HZ.out
  have h3 := h2.below hb4
  have hf3 := hf2.below hb4
  have hs3 := hs2.below hb4
  have hbw3 : Below w.heap.size w w3 := by rw [HSC.out]; exact hb2.trans (hb4.mono (by have := hb2.size; have := HSC.out; omega))
  have hBw3 : B ≤ w3.heap.size := by have := hbw3.size; have := HSC.out; omega
  obtain ⟨fa3, fcap3, mb3, lb3, qa3, qn3, qc3, qs3, hd3, _⟩ := h3.ex
  have HX := Lib.hid (change_pass db 75 #[.pointer (some ⟨fc, 0, none⟩), .pointer (some ⟨sc, 0, none⟩)] true 0 (by omega) (by omega) (fun w' => DT B db room (fs ++ [⟨nm, fb, sb.data.toList⟩]) w' ∧ Below B w w' ∧ Keeps dts w w') w3 hd3.c5 hd3.c8 (hd3.fz 5)
    (fun W => call_enter Tryz.func75 rfl rfl _ W)
    (fun V hV => by
      rcases hV with ⟨rfl, _⟩ | ⟨_, h⟩
      · exact (appendT1 B db room fs nm fb fc sc sb w3.drew h3.drew hf3 hs3 hBw3 hlen hs0).mono fun e w' ⟨h1, h2, h4, h5⟩ => ⟨h1, h2, ((hbw3.mono (by have := HSC.out; omega)).drew).trans h4, (show Keeps dts w w3.drew from (Keeps.below hbw3 : Keeps dts w w3)).trans h5⟩
      · exact absurd rfl h))
  have hmf : ∀ (fn : Fn) (first cap : Array Value) (w : World), (Instr.makeFunc fn first cap).run Tryz.prog w = .ok (.func fn first cap) w := fun _ _ _ _ => rfl
  clear h2 hf2 hs2 hb2 hb3 hb4 h3 hf3 hs3 hbw3 hBw3 hd3
  go_wp2_with fail
  refine HX.out.mono ?_
  rintro e w4 ⟨rfl, hq⟩
  have HQ := Lib.hid hq
  clear hq
  go_wp2_with fail
  go_ret
  exact ⟨rfl, HQ.out⟩

/-! Part -/
theorem rd_at {w : World} {a : Option Addr} {l : List UInt8} (h : Rd w a l) (hl : l ≠ []) : ∃ g rest fr, a = some ⟨g, 0, none⟩ ∧ w.heap[g]? = some (.cells (l.map bv ++ rest).toArray 5 fr) := by
  rcases h with h | h
  · exact absurd h hl
  · exact h
set_option maxHeartbeats 1600000 in
set_option maxRecDepth 100000 in
theorem partT (B db room : Nat) (fs : List Fd) (f : Fd) (hf : f ∈ fs) (s : ByteArray) (hs : f.dat = s.data.toList) (hs0 : s.size ≠ 0) (hs1 : s.size ≤ 4611686018427387904) (a n : Int) (w : World) (h : DT B db room fs w) :
    Calls Tryz.prog 24 #[.pointer (some ⟨db, 0, none⟩), .string f.nm, .int .i64 a, .int .i64 n] w fun e w' => e = Tw.retS (partB s a n) ∧ Below w.heap.size w w' := by
  obtain ⟨fa, fcap, mb, lb, qa, qn, qc, qs, hd, ho, hq, hqn, hm, hBm⟩ := h.ex
  obtain ⟨hfB, p, c, hfb, hrd, _, hac, hc9⟩ := h.files f hf
  obtain ⟨hin, huq⟩ := h.in_map hf
  have HFY := Lib.hid (find_yes db mb _ f.nm f.b hin huq w hd.c11 hd.c2 hm)
  have hsl : f.dat.length = s.size := by rw [hs]; simp
  have q0 := cell_of_row w f.b 0 _ _ _ hfb
  simp at q0
  rw [hsl] at q0 hac
  obtain ⟨g, rest, fr, rfl, hg⟩ := rd_at hrd (fun e => hs0 (by rw [← hsl, e]; rfl))
  obtain ⟨fn, fbk⟩ : ∃ x : ByteArray × Nat, x = (f.nm, f.b) := ⟨_, rfl⟩
  generalize f.nm = nm at *
  generalize f.b = fb at *
  have HG := Lib.hid hg
  have HS := Lib.hid hs
  clear h hd ho hq hm hfb hrd hin huq hg hs
  by_cases hbad : a < 0 ∨ n < 0 ∨ (s.size : Int) < a ∨ (s.size : Int) - a < n
  · have hfin : partB s a n = ⟨str [], 2⟩ := if_pos hbad
    have HX := Lib.hid hfin
    clear hfin
    by_cases h1 : a < 0
    · have d1 : decide (a < 0) = true := dt h1
      clear hbad
      go_enter Tryz.func24, Tryz.ntmps24
      go_wp2_with fail
      refine HFY.out.mono ?_
      rintro e w1 ⟨rfl, hw1⟩
      subst hw1
      go_wp2_with fail
      go_ret2
      exact ⟨by rw [HX.out]; rfl, Below.refl _ _⟩
    · have d1 : decide (a < 0) = false := df h1
      by_cases h2 : n < 0
      · have d2 : decide (n < 0) = true := dt h2
        clear hbad h1
        go_enter Tryz.func24, Tryz.ntmps24
        go_wp2_with fail
        refine HFY.out.mono ?_
        rintro e w1 ⟨rfl, hw1⟩
        subst hw1
        go_wp2_with fail
        go_ret2
        exact ⟨by rw [HX.out]; rfl, Below.refl _ _⟩
      · have d2 : decide (n < 0) = false := df h2
        by_cases h3 : (s.size : Int) < a
        · have d3 : decide ((s.size : Int) < a) = true := dt h3
          clear hbad h1 h2
          go_enter Tryz.func24, Tryz.ntmps24
          go_wp2_with fail
          refine HFY.out.mono ?_
          rintro e w1 ⟨rfl, hw1⟩
          subst hw1
          go_wp2_with fail
          go_ret2
          exact ⟨by rw [HX.out]; rfl, Below.refl _ _⟩
        · have d3 : decide ((s.size : Int) < a) = false := df h3
          have d4 : decide ((s.size : Int) - a < n) = true := dt (by omega)
          have e4 : IntKind.i64.wrap ((s.size : Int) - a) = (s.size : Int) - a := by rw [IntKind.wrap_i64]; omega
          clear hbad
          go_enter Tryz.func24, Tryz.ntmps24
          go_wp2_with fail
          refine HFY.out.mono ?_
          rintro e w1 ⟨rfl, hw1⟩
          subst hw1
          go_wp2_with fail
          go_ret2
          exact ⟨by rw [HX.out]; rfl, Below.refl _ _⟩
  · have hfin : partB s a n = ⟨s.extract a.toNat (a.toNat + n.toNat), 0⟩ := if_neg hbad
    have HX := Lib.hid hfin
    clear hfin
    obtain ⟨x, rfl⟩ := Int.eq_ofNat_of_zero_le (show 0 ≤ a by omega)
    obtain ⟨y, rfl⟩ := Int.eq_ofNat_of_zero_le (show 0 ≤ n by omega)
    have hxy : x + y ≤ s.size := by omega
    have d1 : decide ((x : Int) < 0) = false := df (by omega)
    have d2 : decide ((y : Int) < 0) = false := df (by omega)
    have d3 : decide (s.size < x) = false := df (by omega)
    have d3' : decide ((s.size : Int) < (x : Int)) = false := df (by omega)
    have d4 : decide ((s.size : Int) - (x : Int) < (y : Int)) = false := df (by omega)
    have e4 : IntKind.i64.wrap ((s.size : Int) - (x : Int)) = (s.size : Int) - (x : Int) := by rw [IntKind.wrap_i64]; omega
    have e5 : IntKind.i64.wrap ((x : Int) + (y : Int)) = ((x + y : Nat) : Int) := by rw [IntKind.wrap_i64]; omega
    have hcv : ∀ (cp : Nat), (convert 80 9 (.slice (some ⟨g, x, none⟩) y cp)).run Tryz.prog w = .ok (.string (s.extract x (x + y))) w := fun cp => by
      have hl : ((f.dat.drop x).take y).length = y := by rw [List.length_take, List.length_drop, hsl]; omega
      have h9 := run_convert_bytes_back (P := Tryz.prog) w 80 9 5 ⟨g, x, none⟩ cp ((f.dat.drop x).take y) Tryz.underlying80 Tryz.underlying5 Tryz.underlying9 (fun j hj => by
        rw [hl] at hj
        have h8 := cell_of_row w g (x + j) _ _ _ HG.out
        rw [Addr.add_lit, h8]
        have h6 : x + j < f.dat.length := by omega
        simp [List.getElem?_append_left, h6, bv])
      rw [hl] at h9
      rw [h9, HS.out]
      congr 2
      rw [extract_str, Nat.add_sub_cancel_left]
      rfl
    have hcv0 : y = 0 → ∀ (ad : Addr) (cp : Nat), (convert 80 9 (.slice (some ad) 0 cp)).run Tryz.prog w = .ok (.string (s.extract x (x + y))) w := fun hy ad cp => by
      have h9 := run_convert_bytes_back (P := Tryz.prog) w 80 9 5 ad cp [] Tryz.underlying80 Tryz.underlying5 Tryz.underlying9 (fun j hj => by simp at hj)
      simp only [List.length_nil] at h9
      rw [h9]
      congr 2
      rw [extract_str]
      subst hy
      simp [str]
    have hxc : x ≤ c := by omega
    rcases (show c = x ∨ x < c by omega) with hcx | hcx
    · subst hcx
      obtain rfl : y = 0 := by omega
      have hc0 := hcv0 rfl
      have hx9 : s.extract c (c + 0) = s.extract ((c : Int).toNat) ((c : Int).toNat + (0 : Int).toNat) := rfl
      have HCV0 := Lib.hid hc0
      have i1 : (0 : Int) ≤ (c : Int) := by omega
      have hcc := hc0 ⟨g, 0, none⟩ 0
      clear hcv hcv0 hc0 hx9 hcc
      have hcc := HCV0.out ⟨g, 0, none⟩ 0
      have hcd := HCV0.out ⟨g, c, none⟩ 0
      generalize hr : s.extract c (c + 0) = r at hcc hcd HCV0
      have HR := Lib.hid hr
      clear hr
      go_enter Tryz.func24, Tryz.ntmps24
      go_wp2_with fail
      refine HFY.out.mono ?_
      rintro e w1 ⟨rfl, hw1⟩
      subst hw1
      go_wp2_with fail
      go_ret2
      exact ⟨by rw [HX.out, ← HR.out]; rfl, Below.refl _ _⟩
    · have i1 : (0 : Int) ≤ (x : Int) := by omega
      have i2 : (x : Int) ≤ ((x + y : Nat) : Int) := by omega
      have i3 : ((x + y : Nat) : Int) ≤ (c : Int) := by omega
      have i4 : x + y ≤ c := by omega
      have i5 : x ≤ x + y := by omega
      have i6 : x + y - x = y := by omega
      have HY := Lib.hid (show s.extract x (x + y) = s.extract ((x : Int).toNat) ((x : Int).toNat + (y : Int).toNat) from rfl)
      clear hcv0
      go_enter Tryz.func24, Tryz.ntmps24
      go_wp2_with fail
      refine HFY.out.mono ?_
      rintro e w1 ⟨rfl, hw1⟩
      subst hw1
      go_wp2_with fail
      go_ret2
      exact ⟨by rw [HX.out]; rfl, Below.refl _ _⟩
end Go.Proofs.YtpihmjdljbienaaGreatDoor.Dw

/- The names of the law's tables; a disk's file as a table's source. -/
namespace Go.Proofs.YtpihmjdljbienaaGreatDoor.Dw
open Go.RowKit
open B En Tb
set_option linter.unusedVariables false

/-- the name of the table i -/
def nmT (i : Nat) : ByteArray := ⟨#[116, 97, 98, 108, 101, 45, 48, 48, 48, 48, 48, 48, 48, UInt8.ofNat (48 + i)]⟩
theorem trim_table (w : World) : Calls Tryz.prog 58 #[.string ⟨#[116, 97, 98, 108, 101]⟩, .string lowers] w fun e w' => e = .returned (.string ⟨#[]⟩) ∧ Below w.heap.size w w' := by
  have h := trim_any ⟨#[116, 97, 98, 108, 101]⟩ (by decide) w
  have e : (⟨(Lib.trimS [116, 97, 98, 108, 101] lowers.data.toList).toArray⟩ : ByteArray) = ⟨#[]⟩ := by decide +kernel
  rw [show (⟨#[116, 97, 98, 108, 101]⟩ : ByteArray).data.toList = [116, 97, 98, 108, 101] from rfl, e] at h
  exact h
set_option maxHeartbeats 800000 in
set_option maxRecDepth 100000 in
theorem fileT (i : Nat) (hi : i < 4) (w : World) : Calls Tryz.prog 18 #[.string ⟨#[116, 97, 98, 108, 101]⟩, .int .i64 i] w fun e w' => e = .returned (.string (nmT i)) ∧ Below w.heap.size w w' := by
  have HT := Lib.hid (trim_table w)
  have HF := Lib.hid (format_any i (by omega))
  have HR := Lib.hid repeat7
  have h : i = 0 ∨ i = 1 ∨ i = 2 ∨ i = 3 := by omega
  rcases h with rfl | rfl | rfl | rfl
  all_goals
    go_enter Tryz.func18, Tryz.ntmps18
    go_wp2_with fail
    refine HT.out.mono ?_
    rintro e w1 ⟨rfl, hb1⟩
    have HB := Lib.hid hb1
    clear hb1
    go_wp2_with fail
    refine (HF.out _).mono ?_
    rintro e w2 ⟨rfl, hw2⟩
    subst hw2
    go_wp2_with fail
    refine (HR.out _).mono ?_
    rintro e w3 ⟨rfl, hw3⟩
    subst hw3
    go_wp2_with fail
    go_ret
    exact ⟨rfl, HB.out⟩
theorem nmT_size (i : Nat) : (nmT i).size = 14 := rfl
theorem nmT_inj {i j : Nat} (hi : i < 10) (hj : j < 10) (h : nmT i = nmT j) : i = j := by
  have h1 := congrArg (fun s : ByteArray => s.data.toList.getD 13 0) h
  have h2 : UInt8.ofNat (48 + i) = UInt8.ofNat (48 + j) := h1
  have h3 := congrArg UInt8.toNat h2
  simp at h3
  omega

/-- the law's source: a part of a disk's file -/
structure SrcI (B db room dc nc : Nat) (fs : List Fd) (f : Fd) (s : ByteArray) (w : World) : Prop where
  disk : DT B db room fs w
  mem : f ∈ fs
  dat : f.dat = s.data.toList
  ne : s.size ≠ 0
  d : Cell1 w dc 25 (.pointer (some ⟨db, 0, none⟩))
  n : Cell1 w nc 9 (.string f.nm)
set_option maxHeartbeats 400000 in
theorem src1_any (B db room dc nc : Nat) (fs : List Fd) (f : Fd) (s : ByteArray) (a n : Int) (w : World) (hs : s.size ≤ 4611686018427387904) (h : SrcI B db room dc nc fs f s w) :
    Calls Tryz.prog 23 #[.int .i64 a, .int .i64 n, .pointer (some ⟨dc, 0, none⟩), .pointer (some ⟨nc, 0, none⟩)] w fun e w' => e = Tw.retS (partB s a n) ∧ Below w.heap.size w w' := by
  have HP := Lib.hid (partT B db room fs f h.mem s h.dat h.ne hs a n w h.disk)
  have q1 := h.d.cell
  have q2 := h.n.cell
  generalize f.nm = nm at *
  generalize partB s a n = r at HP
  clear h
  go_enter Tryz.func23, Tryz.ntmps23
  go_wp2_with fail
  refine HP.out.mono ?_
  rintro e w1 ⟨rfl, hb⟩
  simp only [Tw.retS]
  go_wp2_with fail
  go_ret2
  exact ⟨rfl, hb⟩
/-- a disk's file as a source -/
def srcT (B db room dc nc : Nat) (fs : List Fd) (f : Fd) : Tw.Src where
  f := 23
  caps := #[.pointer (some ⟨dc, 0, none⟩), .pointer (some ⟨nc, 0, none⟩)]
  I := SrcI B db room dc nc fs f
  enter := fun args W => call_enter Tryz.func23 rfl rfl args W
  below := fun h k => ⟨h.disk.below k, h.mem, h.dat, h.ne, h.d.below k, h.n.below k⟩
  call := fun s a n w hs h => src1_any B db room dc nc fs f s a n w hs h
end Go.Proofs.YtpihmjdljbienaaGreatDoor.Dw
