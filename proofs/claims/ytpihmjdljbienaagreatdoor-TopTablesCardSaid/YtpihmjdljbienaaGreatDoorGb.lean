/- Several texts in one: Infos, Two, Only, Push, SetE, EqE. -/
import Derived.Test.YtpihmjdljbienaaGreatDoorRows
import Derived.Test.YtpihmjdljbienaaGreatDoorGa
import Derived.Deep.RegionHeld3
import Derived.Deep.AppendLies
import Derived.Deep.DeepCutAuto
import Derived.Deep.QuietTactic
import Derived.BigQuiet
import Derived.Laws.OwnMore
import Derived.Laws.StructEq
/- What the program tells of the entries' types; what a law's lists are. -/
namespace Go.Proofs.YtpihmjdljbienaaGreatDoor.Ew
open Go.RowKit
open En B
set_option linter.unusedVariables false

theorem infoApi : (Tryz.prog.info? 45).map (fun i => (i.zero, i.size, i.bytes)) = some (some (.agg #[.string ⟨#[]⟩, .int .i64 0, .bool false, .string ⟨#[]⟩, .int .i64 0]), 5, 56) := by kernel_rfl
end Go.Proofs.YtpihmjdljbienaaGreatDoor.Ew

/- Appends in a region that draws its order. -/
namespace Go.Proofs.YtpihmjdljbienaaGreatDoor.B
open Go.RowKit
set_option linter.unusedVariables false

theorem own_keeps {w w' : World} {B n size : Nat} {e : TypeId} {v : Value} {xs : List Value} {ts : List TypeId} (h : w.ownsRow B e size v n xs) (k : Keeps ts w w') (he : e ∉ ts) : w'.ownsRow B e size v n xs := by
  refine ⟨h.1, ?_⟩
  rcases h.2 with hv | ⟨g, cap, cur, hv, hB, hb, hr⟩
  · exact .inl hv
  · exact .inr ⟨g, cap, cur, hv, hB, k g cur e (0, 0) hb he, hr⟩
theorem own_drew {w : World} {B n size : Nat} {e : TypeId} {v : Value} {xs : List Value} (h : w.ownsRow B e size v n xs) : w.drew.ownsRow B e size v n xs := h
theorem blk_drew {w : World} {g : Nat} {x : Option Obj} (h : w.heap[g]? = x) : w.drew.heap[g]? = x := h
theorem blk_alloc {w : World} {g : Nat} {o x : Obj} (h : w.heap[g]? = some x) : (w.alloc o).heap[g]? = some x := (Below.heap_alloc w o g (lt_of_block h)).trans h
theorem blk_new {w : World} {g : Nat} {o : Obj} (h : w.heap.size = g) : (w.alloc o).heap[g]? = some o := by subst h; exact heap_alloc_new w o
theorem cells5 {w : World} {g : Nat} {t : TypeId} {c0 c1 c2 c3 c4 : Value} (h : w.heap[g]? = some (.cells #[c0, c1, c2, c3, c4] t (0, 0))) :
    w.cell? ⟨g, 0, none⟩ = some c0 ∧ w.cell? ⟨g, 1, none⟩ = some c1 ∧ w.cell? ⟨g, 2, none⟩ = some c2 ∧ w.cell? ⟨g, 3, none⟩ = some c3 ∧ w.cell? ⟨g, 4, none⟩ = some c4 :=
  ⟨cell_of_row w g 0 _ _ _ h, cell_of_row w g 1 _ _ _ h, cell_of_row w g 2 _ _ _ h, cell_of_row w g 3 _ _ _ h, cell_of_row w g 4 _ _ _ h⟩
theorem keep_blk {ts : List TypeId} {w w' : World} {g : Nat} {cs : Array Value} {t : TypeId} {fr : Nat × Nat} (k : Keeps ts w w') (h : w.heap[g]? = some (.cells cs t fr)) (ht : t ∉ ts) : w'.heap[g]? = some (.cells cs t fr) := k g cs t fr h ht
theorem keeps_drew {ts : List TypeId} {a b : World} (h : Keeps ts a b) : Keeps ts a b.drew := h
theorem keeps_drewN {ts : List TypeId} {a b : World} (n : Nat) (h : Keeps ts a b) : Keeps ts a (b.drewN n) := h
theorem keeps_alloc {ts : List TypeId} {a b : World} (h : Keeps ts a b) (o : Obj) : Keeps ts a (b.alloc o) := h.trans (Keeps.below ((Below.refl _ _).alloc (Nat.le_refl _) _))

theorem below_alloc {w a : World} (h : Below w.heap.size w a) (o : Obj) : Below w.heap.size w (a.alloc o) := h.alloc h.size o

theorem step_push {P : Program} {ops : Array Oper} {o : Oper} {a : Act} {K : Act → World → Prop} {Q : Exit → Act → World → Prop} {E : Prop} (hgd : o.guard = none) (s x : Operand) (t : TypeId)
    (ho : o.op = .call { callee := .builtin .append, args := #[s, x], argTypes := #[t, t] }) {e : TypeId} {z : Value} {size bytes : Nat} (ht : P.underlying t = some (.slice e))
    (hinfo : (P.info? e).map (fun i => (i.zero, i.size, i.bytes)) = some (some z, size, bytes)) (hzs : z.cells.size = size) (hsz : 0 < size) {w : World} {B n c g : Nat} {xs : List Value} {v : Value} (hs : a.eval s = v)
    (cs : Array Value) (hcs : cs.size = size) (h1 : ∀ u ∈ cs.toList, u.oneCell' = true) (hx : a.eval x = .slice (some ⟨g, 0, none⟩) 1 c) (hg : w.heap[g]? = some (.cells cs e (0, 0))) (hown : w.ownsRow B e size v n xs) (hbase : B ≤ w.heap.size)
    (h63 : n + 1 ≤ maxLen) (hbytes : (n + 1) * bytes ≤ 140737488355328)
    (h : ∀ a' cap w', w'.ownsRow B e size (.slice a' (n + 1) cap) (n + 1) (xs ++ cs.toList) → Keeps [e] w w' → Below B w w' → K (a.put o.dst (.slice a' (n + 1) cap)) w') :
    if Region.wanted o (yielded ops a.tmps) = true then Oper.wp P o a w K Q else E := by
  obtain ⟨i0, hi, hz0, hz1, hz2⟩ := info_parts hinfo
  refine step_append_lies w hgd s x t ho B e i0 z size bytes ht hi hz0 hz1 hz2 hzs hsz v n xs hs hown ⟨g, 0, none⟩ 1 c cs.toList hx (by simp [hcs]) (World.news_of_block hg) h1 (by omega) h63 hbytes hbase _ rfl ?_
  intro g' cap w' hown' hgr _ _
  exact h _ _ _ hown' (Keeps.grown hown (by simp) hgr) ((Below.refl B w).grown hgr hbase (fun k hk => (hown.lt k hk).1))
end Go.Proofs.YtpihmjdljbienaaGreatDoor.B

/- What is turned but for one block; panics that leave a function. -/
namespace Go.Proofs.YtpihmjdljbienaaGreatDoor.B
open Go.RowKit
set_option linter.unusedVariables false

/-- among the elder blocks only block g may have turned -/
def Only (g : Nat) (w w' : World) : Prop := w.grownBy w' (some g)
theorem Only.refl (g : Nat) (w : World) : Only g w w := World.grownBy.refl w _
theorem Only.trans {g : Nat} {a b c : World} (h : Only g a b) (k : Only g b c) : Only g a c :=
  ⟨k.os.trans h.os, k.tape.trans h.tape, k.output.trans h.output, Nat.le_trans h.size k.size, fun i hi hn => (k.block i (Nat.lt_of_lt_of_le hi h.size) hn).trans (h.block i hi hn)⟩
theorem Only.of_below {g : Nat} {a b : World} (h : Below a.heap.size a b) : Only g a b := ⟨h.os, h.tape, h.output, h.size, fun i hi _ => h.block i hi⟩
theorem Only.drew {g : Nat} {a b : World} (h : Only g a b) : Only g a b.drew := ⟨h.os, h.tape, h.output, h.size, h.block⟩
theorem Only.drewN {g : Nat} {a b : World} (h : Only g a b) (n : Nat) : Only g a (b.drewN n) := ⟨h.os, h.tape, h.output, h.size, h.block⟩
theorem Only.set {g : Nat} {a b : World} (h : Only g a b) (o : Nat) (v : Value) : Only g a (b.setCell ⟨g, o, none⟩ v) :=
  ⟨h.os, h.tape, h.output, by simpa [World.setCell] using h.size, fun i hi hn => (Below.heap_setCell b ⟨g, o, none⟩ v i (fun e => hn (by rw [e]))).trans (h.block i hi hn)⟩
theorem Only.new {g : Nat} {a b : World} (h : Only g a b) {p : Addr} (hp : a.heap.size ≤ p.block) (v : Value) : Only g a (b.setCell p v) :=
  ⟨h.os, h.tape, h.output, by simpa [World.setCell] using h.size, fun i hi hn => (Below.heap_setCell b p v i (fun e => by omega)).trans (h.block i hi hn)⟩
theorem Only.blk {g b : Nat} {w w' : World} (h : Only g w w') {x : Obj} (hb : w.heap[b]? = some x) (hne : b ≠ g) : w'.heap[b]? = some x := (h.block b (lt_of_block hb) (fun e => hne (Option.some.inj e))).trans hb
theorem Only.below {g B : Nat} {w0 a b : World} (h : Below B w0 a) (k : Only g a b) (hg : B ≤ g) (hB : B ≤ a.heap.size) : Below B w0 b :=
  ⟨k.os.trans h.os, k.tape.trans h.tape, k.output.trans h.output, Nat.le_trans h.size k.size, fun i hi => (k.block i (by omega) (fun e => by have := Option.some.inj e; omega)).trans (h.block i hi)⟩
theorem Only.own {g : Nat} {w w' : World} {B n size : Nat} {e : TypeId} {v : Value} {xs : List Value} (h : w.ownsRow B e size v n xs) (k : Only g w w') (hne : v.ownBlock ≠ some g) : w'.ownsRow B e size v n xs :=
  h.kept k (.inr hne)

/-- a variable: a block of one cell -/
def Cell1 (w : World) (g : Nat) (t : TypeId) (v : Value) : Prop := w.heap[g]? = some (.cells #[v] t (0, 0))
theorem Cell1.cell {w : World} {g : Nat} {t : TypeId} {v : Value} (h : Cell1 w g t v) : w.cell? ⟨g, 0, none⟩ = some v := cell_of_row w g 0 _ _ _ h
theorem Cell1.fz {w : World} {g : Nat} {t : TypeId} {v : Value} (h : Cell1 w g t v) : w.frozen? ⟨g, 0, none⟩ = false := by
  unfold Cell1 at h; simp [World.frozen?, h]
theorem Cell1.set {w : World} {g : Nat} {t : TypeId} {v : Value} (h : Cell1 w g t v) (u : Value) : Cell1 (w.setCell ⟨g, 0, none⟩ u) g t u := by
  unfold Cell1 at h ⊢; rw [heap_setCell_same w g 0 _ _ _ h]; rfl
theorem Cell1.far {w : World} {g : Nat} {t : TypeId} {v : Value} (h : Cell1 w g t v) {p : Addr} (hp : g ≠ p.block) (u : Value) : Cell1 (w.setCell p u) g t v := (Below.heap_setCell w p u g hp).trans h
theorem Cell1.only {w w' : World} {g b : Nat} {t : TypeId} {v : Value} (h : Cell1 w g t v) (k : Only b w w') (hne : g ≠ b) : Cell1 w' g t v := k.blk h hne
theorem Cell1.below {w w' : World} {g : Nat} {t : TypeId} {v : Value} (h : Cell1 w g t v) (k : Below w.heap.size w w') : Cell1 w' g t v := (k.block g (lt_of_block h)).trans h
theorem Cell1.keeps {w w' : World} {g : Nat} {t : TypeId} {v : Value} {ts : List TypeId} (h : Cell1 w g t v) (k : Keeps ts w w') (ht : t ∉ ts) : Cell1 w' g t v := k _ _ _ _ h ht
theorem Cell1.lt {w : World} {g : Nat} {t : TypeId} {v : Value} (h : Cell1 w g t v) : g < w.heap.size := lt_of_block h

theorem quiet_add_left {P : Program} {f : FuncId} {args : Array Value} {w : World} {n : Nat} {v : Value} (h : Calls P f args (w.drewN n) fun e w' => e = .returned v ∧ w.drewN n = w') :
    Calls P f args (w.drewN n) fun e w'' => e = .returned v ∧ ∃ m, w'' = w.drewN m := h.mono fun _ _ ⟨he, hm⟩ => ⟨he, n, hm.symm⟩
/-- a panic with a value of a type of the program's own -/
abbrev pan (t : TypeId) (n : Int) : Ending := .panicked [{ v := .iface t (.int .i64 n), recovered := false }]
end Go.Proofs.YtpihmjdljbienaaGreatDoor.B

/- An append in a region that draws its order: all blocks but the row's own stay. -/
namespace Go.Proofs.YtpihmjdljbienaaGreatDoor.B
open Go.RowKit
set_option linter.unusedVariables false

theorem step_pushG {P : Program} {ops : Array Oper} {o : Oper} {a : Act} {K : Act → World → Prop} {Q : Exit → Act → World → Prop} {E : Prop} (hgd : o.guard = none) (s x : Operand) (t : TypeId)
    (ho : o.op = .call { callee := .builtin .append, args := #[s, x], argTypes := #[t, t] }) {e : TypeId} {z : Value} {size bytes : Nat} (ht : P.underlying t = some (.slice e))
    (hinfo : (P.info? e).map (fun i => (i.zero, i.size, i.bytes)) = some (some z, size, bytes)) (hzs : z.cells.size = size) (hsz : 0 < size) {w : World} {B n c g : Nat} {xs : List Value} {v : Value} (hs : a.eval s = v)
    (cs : Array Value) (hcs : cs.size = size) (h1 : ∀ u ∈ cs.toList, u.oneCell' = true) (hx : a.eval x = .slice (some ⟨g, 0, none⟩) 1 c) (hg : w.heap[g]? = some (.cells cs e (0, 0))) (hown : w.ownsRow B e size v n xs) (hbase : B ≤ w.heap.size)
    (h63 : n + 1 ≤ maxLen) (hbytes : (n + 1) * bytes ≤ 140737488355328)
    (h : ∀ a' cap w', w'.ownsRow B e size (.slice a' (n + 1) cap) (n + 1) (xs ++ cs.toList) → w.grownBy w' v.ownBlock → Below B w w' → K (a.put o.dst (.slice a' (n + 1) cap)) w') :
    if Region.wanted o (yielded ops a.tmps) = true then Oper.wp P o a w K Q else E := by
  obtain ⟨i0, hi, hz0, hz1, hz2⟩ := info_parts hinfo
  refine step_append_lies w hgd s x t ho B e i0 z size bytes ht hi hz0 hz1 hz2 hzs hsz v n xs hs hown ⟨g, 0, none⟩ 1 c cs.toList hx (by simp [hcs]) (World.news_of_block hg) h1 (by omega) h63 hbytes hbase _ rfl ?_
  intro g' cap w' hown' hgr _ _
  exact h _ _ _ hown' hgr ((Below.refl B w).grown hgr hbase (fun k hk => (hown.lt k hk).1))
theorem blk_grown {w w' : World} {r : Option Nat} {g : Nat} {x : Obj} (k : w.grownBy w' r) (h : w.heap[g]? = some x) (hne : r ≠ some g) : w'.heap[g]? = some x := (k.block g (lt_of_block h) (fun e => hne e.symm)).trans h
theorem blk_far {w : World} {g : Nat} {x : Option Obj} {p : Addr} {v : Value} (h : w.heap[g]? = x) (hne : g ≠ p.block) : (w.setCell p v).heap[g]? = x := (Below.heap_setCell w p v g hne).trans h
theorem own_new {w : World} {B n size : Nat} {e : TypeId} {v : Value} {xs : List Value} (h : w.ownsRow B e size v n xs) {g : Nat} (hg : w.heap.size ≤ g) : v.ownBlock ≠ some g := fun e' => by have := (h.lt g e').2; omega
end Go.Proofs.YtpihmjdljbienaaGreatDoor.B

/- An entry stored into a row of the call's own. -/
namespace Go.Proofs.YtpihmjdljbienaaGreatDoor.En
open Go.RowKit
open B
set_option linter.unusedVariables false

theorem ecells_cons (e : Ent) (t : List Ent) : ecells (e :: t) = .string e.key :: .int .i64 e.seq :: .bool e.gone :: .string e.val :: .int .i64 e.til :: ecells t := rfl
theorem ecells_set (x : Ent) : ∀ (l : List Ent) (i : Nat), i < l.length →
    ((((((ecells l).set (i * 5) (.string x.key)).set (i * 5 + 1) (.int .i64 x.seq)).set (i * 5 + 2) (.bool x.gone)).set (i * 5 + 3) (.string x.val)).set (i * 5 + 4) (.int .i64 x.til)) = ecells (l.set i x)
  | [], i, h => by simp at h
  | e :: t, 0, _ => rfl
  | e :: t, i + 1, h => by
    have ih := ecells_set x t i (by simpa using h)
    rw [List.set_cons_succ, ecells_cons, ecells_cons, ← ih]
    rw [show (i + 1) * 5 = i * 5 + 5 from by omega]
    rfl
theorem own_at5 {w : World} {B n g cap : Nat} {e : TypeId} {l : List Ent} (h : w.ownsRow B e 5 (.slice (some ⟨g, 0, none⟩) n cap) n (ecells l)) (i : Nat) (hi : i < l.length) :
    w.cell? ⟨g, i * 5, none⟩ = some (.string (l.getD i ent0).key) ∧ w.cell? ⟨g, i * 5 + 1, none⟩ = some (.int .i64 (l.getD i ent0).seq) ∧ w.cell? ⟨g, i * 5 + 2, none⟩ = some (.bool (l.getD i ent0).gone) ∧
    w.cell? ⟨g, i * 5 + 3, none⟩ = some (.string (l.getD i ent0).val) ∧ w.cell? ⟨g, i * 5 + 4, none⟩ = some (.int .i64 (l.getD i ent0).til) := by
  have hn := (own_erow h).2.1
  rcases (own_erow h).2.2 with h9 | ⟨b3, o3, e3, _, hc3⟩
  · omega
  · cases e3
    have := hc3 i (by omega)
    rw [Nat.zero_add] at this
    exact this
theorem own_fz5 {w : World} {B n g cap : Nat} {e : TypeId} {l : List Ent} (h : w.ownsRow B e 5 (.slice (some ⟨g, 0, none⟩) n cap) n (ecells l)) (k : Nat) :
    w.frozen? ⟨g, k, none⟩ = false ∧ w.frozen? ⟨g, k + 1, none⟩ = false ∧ w.frozen? ⟨g, k + 2, none⟩ = false ∧ w.frozen? ⟨g, k + 3, none⟩ = false ∧ w.frozen? ⟨g, k + 4, none⟩ = false :=
  ⟨h.frozenAt _, h.frozenAt _, h.frozenAt _, h.frozenAt _, h.frozenAt _⟩
theorem EBox.fz {w : World} {g : Nat} {t : TypeId} {e : Ent} (h : EBox w g t e) (k : Nat) : w.frozen? ⟨g, k, none⟩ = false := by
  unfold EBox at h
  simp [World.frozen?, h]
theorem EBox.set2 {w : World} {g : Nat} {t : TypeId} {e : Ent} (h : EBox w g t e) (b : Bool) : EBox (w.setCell ⟨g, 2, none⟩ (.bool b)) g t { e with gone := b } := by
  unfold EBox at h ⊢; rw [heap_setCell_same w g 2 _ _ _ h]; rfl
theorem EBox.set3 {w : World} {g : Nat} {t : TypeId} {e : Ent} (h : EBox w g t e) (b : ByteArray) : EBox (w.setCell ⟨g, 3, none⟩ (.string b)) g t { e with val := b } := by
  unfold EBox at h ⊢; rw [heap_setCell_same w g 3 _ _ _ h]; rfl
theorem EBox.set4 {w : World} {g : Nat} {t : TypeId} {e : Ent} (h : EBox w g t e) (b : Int) : EBox (w.setCell ⟨g, 4, none⟩ (.int .i64 b)) g t { e with til := b } := by
  unfold EBox at h ⊢; rw [heap_setCell_same w g 4 _ _ _ h]; rfl
theorem EBox.far {w : World} {g : Nat} {t : TypeId} {e : Ent} (h : EBox w g t e) {p : Addr} (hp : g ≠ p.block) (v : Value) : EBox (w.setCell p v) g t e := (Below.heap_setCell w p v g hp).trans h
theorem EBox.only {w w' : World} {g b : Nat} {t : TypeId} {e : Ent} (h : EBox w g t e) (k : Only b w w') (hne : g ≠ b) : EBox w' g t e := k.blk h hne
/-- the five stores -/
def set5 (w : World) (g k : Nat) (x : Ent) : World :=
  ((((w.setCell ⟨g, k, none⟩ (.string x.key)).setCell ⟨g, k + 1, none⟩ (.int .i64 x.seq)).setCell ⟨g, k + 2, none⟩ (.bool x.gone)).setCell ⟨g, k + 3, none⟩ (.string x.val)).setCell ⟨g, k + 4, none⟩ (.int .i64 x.til)
theorem own_set5 {w : World} {B n g cap : Nat} {e : TypeId} {l : List Ent} (h : w.ownsRow B e 5 (.slice (some ⟨g, 0, none⟩) n cap) n (ecells l)) (i : Nat) (hi : i < l.length) (x : Ent) :
    (set5 w g (i * 5) x).ownsRow B e 5 (.slice (some ⟨g, 0, none⟩) n cap) n (ecells (l.set i x)) := by
  have h1 := (h.stored (i * 5) (.string x.key)).1
  have h2 := (h1.stored (i * 5 + 1) (.int .i64 x.seq)).1
  have h3 := (h2.stored (i * 5 + 2) (.bool x.gone)).1
  have h4 := (h3.stored (i * 5 + 3) (.string x.val)).1
  have h5 := (h4.stored (i * 5 + 4) (.int .i64 x.til)).1
  rw [ecells_set x l i hi] at h5
  exact h5
theorem own_far {w : World} {B n g cap : Nat} {e : TypeId} {xs : List Value} (h : w.ownsRow B e 5 (.slice (some ⟨g, 0, none⟩) n cap) n xs) {p : Addr} (hp : g ≠ p.block) (v : Value) : (w.setCell p v).ownsRow B e 5 (.slice (some ⟨g, 0, none⟩) n cap) n xs := by
  refine ⟨h.1, ?_⟩
  rcases h.2 with hv | ⟨g', cap', cur, hv, hB, hb, hr⟩
  · exact .inl hv
  · refine .inr ⟨g', cap', cur, hv, hB, ?_, hr⟩
    cases hv
    exact (Below.heap_setCell w p v g hp).trans hb
theorem EBox.set5 {w : World} {g : Nat} {t : TypeId} {e : Ent} (h : EBox w g t e) (x : Ent) : EBox (En.set5 w g 0 x) g t x := by
  unfold EBox at h ⊢
  unfold En.set5
  have h1 := heap_setCell_same w g 0 _ t (.string x.key) h
  have h2 := heap_setCell_same _ g 1 _ t (.int .i64 x.seq) h1
  have h3 := heap_setCell_same _ g 2 _ t (.bool x.gone) h2
  have h4 := heap_setCell_same _ g 3 _ t (.string x.val) h3
  have h5 := heap_setCell_same _ g 4 _ t (.int .i64 x.til) h4
  exact h5
theorem below_set5 {w a : World} {B g k : Nat} (h : Below B w a) (hg : B ≤ g) (x : Ent) : Below B w (set5 a g k x) :=
  ((((h.setCell (p := ⟨g, k, none⟩) hg _).setCell (p := ⟨g, k + 1, none⟩) hg _).setCell (p := ⟨g, k + 2, none⟩) hg _).setCell (p := ⟨g, k + 3, none⟩) hg _).setCell (p := ⟨g, k + 4, none⟩) hg _
end Go.Proofs.YtpihmjdljbienaaGreatDoor.En

/- Two entries held against each other. -/
namespace Go.Proofs.YtpihmjdljbienaaGreatDoor.Ew
open Go.RowKit
open En B
set_option linter.unusedVariables false

def eqE (x y : Ent) : Bool := x.key.toList == y.key.toList && (x.seq == y.seq && (x.gone == y.gone && (x.val.toList == y.val.toList && x.til == y.til)))
theorem eqE_refl (x : Ent) : eqE x x = true := by simp [eqE]
theorem toList_inj {a b : ByteArray} (h : a.toList = b.toList) : a = b := by
  rw [ByteArray.toList_eq, ByteArray.toList_eq] at h
  obtain ⟨⟨x⟩⟩ := a
  obtain ⟨⟨y⟩⟩ := b
  simp at h
  rw [h]
theorem eqE_iff (x y : Ent) : eqE x y = true ↔ x = y := by
  constructor
  · intro h
    simp only [eqE, Bool.and_eq_true, beq_iff_eq] at h
    obtain ⟨h1, h2, h3, h4, h5⟩ := h
    obtain ⟨k, q, g, v, u⟩ := x
    obtain ⟨k', q', g', v', u'⟩ := y
    simp only at h1 h2 h3 h4 h5
    rw [toList_inj h1, h2, h3, toList_inj h4, h5]
  · rintro rfl; exact eqE_refl _

theorem pick5 {k k' : ByteArray} {q q' : Int} {g g' : Bool} {v v' : ByteArray} {u u' : Int} (_ _ _ _ _ : Unit) (W : World) :
    (if k.toList = k'.toList then if q = q' then if g = g' then if v.toList = v'.toList then if u = u' then Result.ok true W else Result.ok false W else Result.ok false W else Result.ok false W else Result.ok false W else Result.ok false W) =
    Result.ok (eqE ⟨k, q, g, v, u⟩ ⟨k', q', g', v', u'⟩) W := by
  by_cases h1 : k.toList = k'.toList <;> by_cases h2 : q = q' <;> by_cases h3 : g = g' <;> by_cases h4 : v.toList = v'.toList <;> by_cases h5 : u = u' <;> simp [eqE, h1, h2, h3, h4, h5]

theorem eqIn_api (k : ByteArray) (q : Int) (g : Bool) (v : ByteArray) (u : Int) (k' : ByteArray) (q' : Int) (g' : Bool) (v' : ByteArray) (u' : Int) (W : World) :
    (Op.equalIn 10000 45 (.agg #[.string k, .int .i64 q, .bool g, .string v, .int .i64 u]) (.agg #[.string k', .int .i64 q', .bool g', .string v', .int .i64 u'])).run Tryz.prog W = .ok (eqE ⟨k, q, g, v, u⟩ ⟨k', q', g', v', u'⟩) W := by
  rw [run_equalIn_agg W 9999 45 _ _ (by kernel_rfl) (by kernel_rfl)]
  go_simp
  exact pick5 () () () () () W
theorem eql_api (k : ByteArray) (q : Int) (g : Bool) (v : ByteArray) (u : Int) (k' : ByteArray) (q' : Int) (g' : Bool) (v' : ByteArray) (u' : Int) (W : World) :
    (binOp .eql 45 (.agg #[.string k, .int .i64 q, .bool g, .string v, .int .i64 u]) (.agg #[.string k', .int .i64 q', .bool g', .string v', .int .i64 u'])).run Tryz.prog W = .ok (.bool (eqE ⟨k, q, g, v, u⟩ ⟨k', q', g', v', u'⟩)) W := by
  rw [run_eql_struct, eqIn_api]; rfl
theorem neq_api (k : ByteArray) (q : Int) (g : Bool) (v : ByteArray) (u : Int) (k' : ByteArray) (q' : Int) (g' : Bool) (v' : ByteArray) (u' : Int) (W : World) :
    (binOp .neq 45 (.agg #[.string k, .int .i64 q, .bool g, .string v, .int .i64 u]) (.agg #[.string k', .int .i64 q', .bool g', .string v', .int .i64 u'])).run Tryz.prog W = .ok (.bool (!(eqE ⟨k, q, g, v, u⟩ ⟨k', q', g', v', u'⟩))) W := by
  rw [run_neq_struct, eqIn_api]; rfl

end Go.Proofs.YtpihmjdljbienaaGreatDoor.Ew
