/- Several texts in one: SkipT, SkipH. -/
import Derived.Test.YtpihmjdljbienaaGreatDoorGa
import Derived.Test.YtpihmjdljbienaaGreatDoorGb
import Derived.Test.YtpihmjdljbienaaGreatDoorRows
import Derived.Deep.RegionHeld3
/- Towers in memory. -/
namespace Go.Proofs.YtpihmjdljbienaaGreatDoor.Sw
open Ew
open Go.RowKit
open En B
set_option linter.unusedVariables false

def ptrV : Option Nd → Value
  | some n => .pointer (some ⟨n.b, 0, none⟩)
  | none => .pointer none
def ndCells (n : Nd) : Array Value := #[.string n.e.key, .int .i64 n.e.seq, .bool n.e.gone, .string n.e.val, .int .i64 n.e.til, .slice (some ⟨n.a, 0, none⟩) n.h n.h]
/-- the array of a place's next ones, how many, and where the place stands (0: the head) -/
def arrP (ha : Nat) (ns : List Nd) (p : Nat) : Nat := if p = 0 then ha else (ns.getD (p - 1) nd0).a
def hP (ns : List Nd) (p : Nat) : Nat := if p = 0 then 8 else (ns.getD (p - 1) nd0).h
def posA (lb : Nat) (ns : List Nd) (p : Nat) : Addr := if p = 0 then ⟨lb, 1, none⟩ else ⟨(ns.getD (p - 1) nd0).b, 0, none⟩
theorem posA_0 (lb : Nat) (ns : List Nd) : posA lb ns 0 = ⟨lb, 1, none⟩ := rfl
theorem posA_s (lb : Nat) (ns : List Nd) (j : Nat) : posA lb ns (j + 1) = ⟨(ns.getD j nd0).b, 0, none⟩ := rfl
theorem hP_s (ns : List Nd) (j : Nat) : hP ns (j + 1) = (ns.getD j nd0).h := rfl
theorem arrP_s (ha : Nat) (ns : List Nd) (j : Nat) : arrP ha ns (j + 1) = (ns.getD j nd0).a := rfl

/-- pointers to nodes -/
def Arr (w : World) (a h : Nat) (V : Nat → Value) : Prop := w.heap[a]? = some (.cells ((List.range h).map V).toArray 106 (0, 0))
theorem Arr.cell {w : World} {a h : Nat} {V : Nat → Value} (k : Arr w a h V) {f : Nat} (hf : f < h) : w.cell? ⟨a, f, none⟩ = some (V f) := by
  rw [cell_of_row w a f _ _ _ k]; simp [hf]
theorem Arr.fz {w : World} {a h : Nat} {V : Nat → Value} (k : Arr w a h V) (f : Nat) : w.frozen? ⟨a, f, none⟩ = false := by
  unfold Arr at k; simp [World.frozen?, k]
theorem Arr.congr {w : World} {a h : Nat} {V U : Nat → Value} (k : Arr w a h V) (hv : ∀ f, f < h → V f = U f) : Arr w a h U := by
  unfold Arr at k ⊢
  rw [k, List.map_congr_left (fun f hf => hv f (List.mem_range.1 hf))]
theorem Arr.set {w : World} {a h : Nat} {V : Nat → Value} (k : Arr w a h V) (f : Nat) (v : Value) : Arr (w.setCell ⟨a, f, none⟩ v) a h (fun i => if i = f then v else V i) := by
  unfold Arr at k ⊢
  rw [heap_setCell_same w a f _ _ _ k]
  congr 2
  apply Array.ext'
  rw [Array.toList_setIfInBounds]
  apply List.ext_getElem?
  intro i
  rw [List.getElem?_set]
  by_cases hi : f = i
  · subst hi
    by_cases hl : f < h
    · simp [hl]
    · simp [hl]
  · rw [if_neg hi]
    by_cases hl : i < h
    · simp [hl, Ne.symm hi]
    · simp [hl]
theorem Arr.far {w : World} {a h : Nat} {V : Nat → Value} (k : Arr w a h V) {p : Addr} (hp : a ≠ p.block) (v : Value) : Arr (w.setCell p v) a h V := blk_far k hp
theorem Arr.below {w w' : World} {a h : Nat} {V : Nat → Value} (k : Arr w a h V) (b : Below w.heap.size w w') : Arr w' a h V := (b.block a (lt_of_block k)).trans k
theorem Arr.keeps {w w' : World} {a h : Nat} {V : Nat → Value} {ts : List TypeId} (k : Arr w a h V) (b : Keeps ts w w') (ht : 106 ∉ ts) : Arr w' a h V := b _ _ _ _ k ht

structure Tower (w : World) (B ha : Nat) (ns : List Nd) (V : Nat → Nat → Value) : Prop where
  nodes : ∀ i, i < ns.length → w.heap[(ns.getD i nd0).b]? = some (.cells (ndCells (ns.getD i nd0)) 103 (0, 0))
  arrs : ∀ p, p ≤ ns.length → Arr w (arrP ha ns p) (hP ns p) (V p)
  inj : ∀ p q, p ≤ ns.length → q ≤ ns.length → arrP ha ns p = arrP ha ns q → p = q
  lo : ∀ p, p ≤ ns.length → B ≤ arrP ha ns p
  hs : ∀ i, i < ns.length → 1 ≤ (ns.getD i nd0).h ∧ (ns.getD i nd0).h ≤ 8
theorem Tower.below {w w' : World} {B ha : Nat} {ns : List Nd} {V : Nat → Nat → Value} (t : Tower w B ha ns V) (k : Below w.heap.size w w') : Tower w' B ha ns V :=
  ⟨fun i hi => (k.block _ (lt_of_block (t.nodes i hi))).trans (t.nodes i hi), fun p hp => (t.arrs p hp).below k, t.inj, t.lo, t.hs⟩
theorem Tower.keeps {w w' : World} {B ha : Nat} {ns : List Nd} {V : Nat → Nat → Value} {ts : List TypeId} (t : Tower w B ha ns V) (k : Keeps ts w w') (h1 : 106 ∉ ts) (h2 : 103 ∉ ts) : Tower w' B ha ns V :=
  ⟨fun i hi => k _ _ _ _ (t.nodes i hi) h2, fun p hp => (t.arrs p hp).keeps k h1, t.inj, t.lo, t.hs⟩
theorem Tower.congr {w : World} {B ha : Nat} {ns : List Nd} {V U : Nat → Nat → Value} (t : Tower w B ha ns V) (h : ∀ p f, p ≤ ns.length → f < hP ns p → V p f = U p f) : Tower w B ha ns U :=
  ⟨t.nodes, fun p hp => (t.arrs p hp).congr (fun f hf => h p f hp hf), t.inj, t.lo, t.hs⟩
/-- a store into an array of the towers -/
theorem Tower.set {w : World} {B ha : Nat} {ns : List Nd} {V : Nat → Nat → Value} (t : Tower w B ha ns V) {q : Nat} (hq : q ≤ ns.length) (f : Nat) (v : Value) :
    Tower (w.setCell ⟨arrP ha ns q, f, none⟩ v) B ha ns (fun p i => if p = q ∧ i = f then v else V p i) := by
  refine ⟨fun i hi => ?_, fun p hp => ?_, t.inj, t.lo, t.hs⟩
  · refine blk_far (t.nodes i hi) fun e => ?_
    have h1 := t.nodes i hi
    have h2 := t.arrs q hq
    unfold Arr at h2
    rw [e] at h1
    rw [show (⟨arrP ha ns q, f, none⟩ : Addr).block = arrP ha ns q from rfl, h2] at h1
    simp only [Option.some.injEq, Obj.cells.injEq] at h1
    exact absurd h1.2.1 (by decide)
  · by_cases hpq : p = q
    · subst hpq
      exact ((t.arrs p hp).set f v).congr (fun i _ => by simp)
    · exact ((t.arrs p hp).far (p := ⟨arrP ha ns q, f, none⟩) (fun e => hpq (t.inj p q hp hq e)) v).congr (fun i _ => by simp [hpq])
/-- a store into a block of another type -/
theorem Tower.far {w : World} {B ha : Nat} {ns : List Nd} {V : Nat → Nat → Value} (t : Tower w B ha ns V) {g k : Nat} {cs : Array Value} {ty : TypeId} {fr : Nat × Nat} (hg : w.heap[g]? = some (.cells cs ty fr)) (h1 : ty ≠ 106) (h2 : ty ≠ 103) (v : Value) :
    Tower (w.setCell ⟨g, k, none⟩ v) B ha ns V :=
  t.keeps (ts := [ty]) (Keeps.setCell (p := ⟨g, k, none⟩) hg (by simp) v) (by simp; exact fun e => h1 e.symm) (by simp; exact fun e => h2 e.symm)

/-- the list's own block -/
def LB (w : World) (lb : Nat) (ca : Option Addr) (cn cc ha : Nat) (cnt size : Int) : Prop :=
  w.heap[lb]? = some (.cells #[.slice ca cn cc, .string ⟨#[]⟩, .int .i64 0, .bool false, .string ⟨#[]⟩, .int .i64 0, .slice (some ⟨ha, 0, none⟩) 8 8, .int .i64 cnt, .int .i64 size] 105 (0, 0))
theorem LB.below {w w' : World} {lb cn cc ha : Nat} {ca : Option Addr} {cnt size : Int} (h : LB w lb ca cn cc ha cnt size) (k : Below w.heap.size w w') : LB w' lb ca cn cc ha cnt size := (k.block lb (lt_of_block h)).trans h
theorem LB.keeps {w w' : World} {lb cn cc ha : Nat} {ca : Option Addr} {cnt size : Int} {ts : List TypeId} (h : LB w lb ca cn cc ha cnt size) (k : Keeps ts w w') (ht : 105 ∉ ts) : LB w' lb ca cn cc ha cnt size := k _ _ _ _ h ht
theorem LB.fz {w : World} {lb cn cc ha : Nat} {ca : Option Addr} {cnt size : Int} (h : LB w lb ca cn cc ha cnt size) (k : Nat) : w.frozen? ⟨lb, k, none⟩ = false := by
  unfold LB at h; simp [World.frozen?, h]
theorem LB.cells {w : World} {lb cn cc ha : Nat} {ca : Option Addr} {cnt size : Int} (h : LB w lb ca cn cc ha cnt size) :
    w.cell? ⟨lb, 0, none⟩ = some (.slice ca cn cc) ∧ w.cell? ⟨lb, 6, none⟩ = some (.slice (some ⟨ha, 0, none⟩) 8 8) ∧ w.cell? ⟨lb, 7, none⟩ = some (.int .i64 cnt) ∧ w.cell? ⟨lb, 8, none⟩ = some (.int .i64 size) :=
  ⟨cell_of_row w lb 0 _ _ _ h, cell_of_row w lb 6 _ _ _ h, cell_of_row w lb 7 _ _ _ h, cell_of_row w lb 8 _ _ _ h⟩
theorem LB.setSize {w : World} {lb cn cc ha : Nat} {ca : Option Addr} {cnt size : Int} (h : LB w lb ca cn cc ha cnt size) (s : Int) : LB (w.setCell ⟨lb, 8, none⟩ (.int .i64 s)) lb ca cn cc ha cnt s := by
  unfold LB at h ⊢; rw [heap_setCell_same w lb 8 _ _ _ h]; rfl
theorem LB.setCount {w : World} {lb cn cc ha : Nat} {ca : Option Addr} {cnt size : Int} (h : LB w lb ca cn cc ha cnt size) (s : Int) : LB (w.setCell ⟨lb, 7, none⟩ (.int .i64 s)) lb ca cn cc ha s size := by
  unfold LB at h ⊢; rw [heap_setCell_same w lb 7 _ _ _ h]; rfl
/-- what a place's next ones are read by -/
theorem place {w : World} {B lb cn cc ha : Nat} {ca : Option Addr} {cnt size : Int} {ns : List Nd} {V : Nat → Nat → Value} (h : LB w lb ca cn cc ha cnt size) (t : Tower w B ha ns V) {p : Nat} (hp : p ≤ ns.length) :
    ∃ pb po, posA lb ns p = ⟨pb, po, none⟩ ∧ w.cell? ⟨pb, po + 5, none⟩ = some (.slice (some ⟨arrP ha ns p, 0, none⟩) (hP ns p) (hP ns p)) := by
  cases p with
  | zero => exact ⟨lb, 1, rfl, h.cells.2.1⟩
  | succ j => exact ⟨_, 0, rfl, cell_of_row w _ 5 _ _ _ (t.nodes j (by omega))⟩
theorem nd_cells {w : World} {n : Nd} {ty : TypeId} (h : w.heap[n.b]? = some (.cells (ndCells n) ty (0, 0))) :
    w.cell? ⟨n.b, 0, none⟩ = some (.string n.e.key) ∧ w.cell? ⟨n.b, 1, none⟩ = some (.int .i64 n.e.seq) ∧ w.cell? ⟨n.b, 2, none⟩ = some (.bool n.e.gone) ∧ w.cell? ⟨n.b, 3, none⟩ = some (.string n.e.val) ∧ w.cell? ⟨n.b, 4, none⟩ = some (.int .i64 n.e.til) :=
  ⟨cell_of_row w _ 0 _ _ _ h, cell_of_row w _ 1 _ _ _ h, cell_of_row w _ 2 _ _ _ h, cell_of_row w _ 3 _ _ _ h, cell_of_row w _ 4 _ _ _ h⟩
/-- what the arrays hold -/
def VN (ns : List Nd) (p f : Nat) : Value := ptrV (nxt (ns.drop p) f)
end Go.Proofs.YtpihmjdljbienaaGreatDoor.Sw

/- The walks of height and of Cost, and of the reference's Cost. -/
namespace Go.Proofs.YtpihmjdljbienaaGreatDoor.Sw
open Ew
open Go.RowKit
open En B
set_option linter.unusedVariables false

def coin (c : Int) : Int := if c < 0 then -(c + 1) else c
/-- the height of the next tower -/
def coinH (z : List Int) (k : Nat) : Int := if z.length = 0 then 1 else 1 + coin (z.getD (k % z.length) 0) % 8
def costE (z : List Int) (k : Nat) (e : Ent) : Int := 40 + 8 * coinH z k + e.key.size + e.val.size
def I64s (z : List Int) : Prop := ∀ x ∈ z, -9223372036854775808 ≤ x ∧ x ≤ 9223372036854775807
theorem coinH_bd (z : List Int) (k : Nat) : 1 ≤ coinH z k ∧ coinH z k ≤ 8 := by
  unfold coinH; split <;> omega

set_option maxHeartbeats 800000 in
set_option maxRecDepth 100000 in
theorem height_any (w : World) (lb cn cc ha k : Nat) (ca : Option Addr) (size : Int) (z : List Int) (hl : LB w lb ca cn cc ha k size) (hz : z.length = cn) (hk : k ≤ 1000000) (hn : cn ≤ 9223372036854775807) (hb : I64s z) (hr : Row w ca cn (fun i => .int .i64 (z.getD i 0))) :
    Calls Tryz.prog 56 #[.pointer (some ⟨lb, 0, none⟩)] w fun e w' => e = .returned (.int .i64 (coinH z k)) ∧ ∃ n, w' = w.drewN n := by
  obtain ⟨l0, _, l7, _⟩ := hl.cells
  obtain ⟨r, hrr⟩ : ∃ r, r = coinH z k := ⟨_, rfl⟩
  rw [← hrr]
  unfold coinH at hrr
  by_cases h0 : cn = 0
  · rw [if_pos (by omega)] at hrr
    subst hrr h0
    go_enter Tryz.func56, Tryz.ntmps56
    go_wp2_with fail
    go_ret
    exact ⟨rfl, 0, rfl⟩
  · rw [if_neg (by omega)] at hrr
    obtain ⟨b, off, rfl, hbl, hc⟩ := hr.at (by omega)
    rw [hz] at hrr
    have hjl : k % cn < cn := Nat.mod_lt _ (by omega)
    have hj := hc (k % cn) hjl
    obtain ⟨j, hjj⟩ : ∃ j, j = k % cn := ⟨_, rfl⟩
    have hmod : (k : Int) % (cn : Int) = (j : Int) := by rw [hjj]; omega
    rw [← hjj] at hj hrr hjl
    have hx : -9223372036854775808 ≤ z.getD j 0 ∧ z.getD j 0 ≤ 9223372036854775807 := by
      rw [List.getD_eq_getElem?_getD, List.getElem?_eq_getElem (by omega)]
      exact hb _ (List.getElem_mem _)
    generalize z.getD j 0 = c at hj hrr hx
    have HR := Lib.hid hrr
    have d1 : (0 : Int) ≤ (j : Int) := by omega
    have d2 : (j : Int) < (cn : Int) := by omega
    have e0 : ((cn : Int) == 0) = false := ef (by omega)
    have hcn1 : 1 ≤ cn := by omega
    clear hrr hjj hc hb hr hz l0
    have l0 := hl.cells.1
    unfold coin at HR
    by_cases hc0 : c < 0
    · rw [if_pos hc0] at HR
      obtain ⟨x, hx9⟩ : ∃ x : Nat, -(c + 1) = (x : Int) := ⟨(-(c + 1)).toNat, by omega⟩
      have hx8 : (x : Int) ≤ 9223372036854775807 := by omega
      rw [hx9] at HR
      go_enter Tryz.func56, Tryz.ntmps56
      go_wp2_with fail
      go_quiet (fail)
      go_wp2_with fail
      go_ret
      rw [HR.out]
      exact ⟨rfl, _, rfl⟩
    · rw [if_neg hc0] at HR
      go_enter Tryz.func56, Tryz.ntmps56
      go_wp2_with fail
      go_quiet (fail)
      go_wp2_with fail
      go_ret
      rw [HR.out]
      exact ⟨rfl, _, rfl⟩

set_option maxHeartbeats 800000 in
set_option maxRecDepth 100000 in
theorem cost_any (w : World) (lb cn cc ha c : Nat) (ca : Option Addr) (size : Int) (z : List Int) (hl : LB w lb ca cn cc ha c size) (hz : z.length = cn) (hk : c ≤ 1000000) (hn : cn ≤ 9223372036854775807) (hb : I64s z) (hr : Row w ca cn (fun i => .int .i64 (z.getD i 0)))
    (k : ByteArray) (q : Int) (g : Bool) (v : ByteArray) (u : Int) (hk1 : k.size ≤ 140737488351232) (hv1 : v.size ≤ 140737488351232) :
    Calls Tryz.prog 55 #[.pointer (some ⟨lb, 0, none⟩), .agg #[.string k, .int .i64 q, .bool g, .string v, .int .i64 u]] w fun e w' => e = .returned (.int .i64 (costE z c ⟨k, q, g, v, u⟩)) ∧ Below w.heap.size w w' := by
  have hB0 := below_alloc (Below.refl w.heap.size w) (.cells #[.string k, .int .i64 q, .bool g, .string v, .int .i64 u] 45)
  have hE0 : EBox (w.alloc (.cells #[.string k, .int .i64 q, .bool g, .string v, .int .i64 u] 45)) w.heap.size 45 ⟨k, q, g, v, u⟩ := heap_alloc_new _ _
  have HH := Lib.hid (fun n => height_any (World.drewN (w.alloc (.cells #[.string k, .int .i64 q, .bool g, .string v, .int .i64 u] 45)) n) lb cn cc ha c ca size z (hl.below (drewN hB0)) hz hk hn hb (hr.below (drewN hB0)))
  obtain ⟨r, hrr⟩ : ∃ r, r = costE z c ⟨k, q, g, v, u⟩ := ⟨_, rfl⟩
  rw [← hrr]
  have hbd := coinH_bd z c
  unfold costE at hrr
  generalize coinH z c = h at HH hrr hbd
  have HR := Lib.hid hrr
  clear hrr hr hb hz hl
  go_enter Tryz.func55, Tryz.ntmps55
  go_wp2_with fail
  generalize hW : World.alloc _ _ = W0
  rw [hW] at HH hE0 hB0
  clear hW
  have H0 : Hid (W0.cell? ⟨w.heap.size, 0, none⟩ = some (.string k) ∧ W0.cell? ⟨w.heap.size, 3, none⟩ = some (.string v)) := ⟨hE0.cells.1, hE0.cells.2.2.2.1⟩
  clear hE0
  have hw1 : IntKind.i64.wrap (8 * h) = 8 * h := IntWalk.i64_in _ (by omega)
  have hw2 : IntKind.i64.wrap (40 + 8 * h) = 40 + 8 * h := IntWalk.i64_in _ (by omega)
  have hw3 : IntKind.i64.wrap (40 + 8 * h + k.size) = 40 + 8 * h + k.size := IntWalk.i64_in _ (by omega)
  have hw4 : IntKind.i64.wrap (40 + 8 * h + k.size + v.size) = 40 + 8 * h + k.size + v.size := IntWalk.i64_in _ (by omega)
  go_region_held3 (fun w' => w'.cell? ⟨w.heap.size, 0, none⟩ = some (.string k) ∧ w'.cell? ⟨w.heap.size, 3, none⟩ = some (.string v))
    (first | exact H0.out)
    (first | (go_at_call 56; refine (HH.out 1).mono ?_; rintro e w3 ⟨rfl, nd, rfl⟩))
  all_goals
    go_wp2_with fail
    go_ret
    rw [HR.out]
    exact ⟨rfl, drewN hB0⟩
end Go.Proofs.YtpihmjdljbienaaGreatDoor.Sw
