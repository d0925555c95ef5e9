/- Several texts in one: DskL, DskM, DskA, DskB, DskC, DskF, DskG, DskH, DskI, DskJ, DskK. -/
import Derived.Test.YtpihmjdljbienaaGreatDoorGa
import Derived.Shelf.Strings.SlTrimAscii
import Derived.Shelf.SlMaps.Clone
import Derived.Test.YtpihmjdljbienaaGreatDoorGb
import Derived.Laws.IdiomRangeMap
import Derived.Maps.RangeRun
import Derived.Deep.RegionHeld3
import Derived.Deep.QuietTactic
import Derived.BigQuiet
import Derived.StillTailTactics
import Derived.Test.YtpihmjdljbienaaGreatDoorGr
import Derived.BigRegion
import Derived.Deep.RegionLawGrows
import Derived.Deep.DeepCutAuto
import Derived.Lib.AppendStr
import Derived.Deep.AppendLies
/- What files' names and disks need of Go's library: Trim, FormatInt, Repeat, maps.Clone. -/
namespace Go.Proofs.YtpihmjdljbienaaGreatDoor.Dw
open Go.Proofs
open Go.Shelf
open Go.RowKit B
set_option linter.unusedVariables false

def lays160_ren : Go.Shelf.Ren := ⟨fun | 160 => 58 | 232 => 108 | 231 => 107 | 227 => 109 | 234 => 111 | 233 => 110 | 236 => 113 | 235 => 112 | 228 => 142 | 271 => 145 | 151 => 144 | 197 => 143 | 120 => 159 | 152 => 158 | 260 => 157 | 137 => 166 | 119 => 167 | 224 => 168 | 225 => 169 | 217 => 172 | 266 => 173 | n => n, fun | 9 => 9 | 4 => 4 | 3 => 3 | 5 => 5 | 117 => 190 | 116 => 189 | 0 => 0 | 124 => 193 | 21 => 21 | 105 => 225 | 46 => 168 | 119 => 248 | 139 => 251 | 138 => 250 | n => n, fun | 3 => 2 | 4 => 3 | n => n⟩
theorem lays160 : Go.Proofs.Lays.n160 Tryz.prog lays160_ren := {
  mixed := by kernel_rfl
  f119 := Tryz.func167.trans (congrArg some (by kernel_rfl))
  f120 := Tryz.func159.trans (congrArg some (by kernel_rfl))
  f137 := Tryz.func166.trans (congrArg some (by kernel_rfl))
  f151 := Tryz.func144.trans (congrArg some (by kernel_rfl))
  f152 := Tryz.func158.trans (congrArg some (by kernel_rfl))
  f160 := Tryz.func58.trans (congrArg some (by kernel_rfl))
  f197 := Tryz.func143.trans (congrArg some (by kernel_rfl))
  f217 := Tryz.func172.trans (congrArg some (by kernel_rfl))
  f224 := Tryz.func168.trans (congrArg some (by kernel_rfl))
  f225 := Tryz.func169.trans (congrArg some (by kernel_rfl))
  f227 := Tryz.func109.trans (congrArg some (by kernel_rfl))
  f228 := Tryz.func142.trans (congrArg some (by kernel_rfl))
  f231 := Tryz.func107.trans (congrArg some (by kernel_rfl))
  f232 := Tryz.func108.trans (congrArg some (by kernel_rfl))
  f233 := Tryz.func110.trans (congrArg some (by kernel_rfl))
  f234 := Tryz.func111.trans (congrArg some (by kernel_rfl))
  f235 := Tryz.func112.trans (congrArg some (by kernel_rfl))
  f236 := Tryz.func113.trans (congrArg some (by kernel_rfl))
  f260 := Tryz.func157.trans (congrArg some (by kernel_rfl))
  f266 := Tryz.func173.trans (congrArg some (by kernel_rfl))
  f271 := Tryz.func145.trans (congrArg some (by kernel_rfl))
  t0 := Tryz.underlying0
  a0 := Tryz.isAgg0
  z0 := Tryz.sizeOf0
  v0 := Tryz.zeroValue0
  t3 := Tryz.underlying3
  a3 := Tryz.isAgg3
  z3 := Tryz.sizeOf3
  v3 := Tryz.zeroValue3
  t4 := Tryz.underlying4
  a4 := Tryz.isAgg4
  z4 := Tryz.sizeOf4
  v4 := Tryz.zeroValue4
  t5 := Tryz.underlying5
  a5 := Tryz.isAgg5
  z5 := Tryz.sizeOf5
  v5 := Tryz.zeroValue5
  t9 := Tryz.underlying9
  a9 := Tryz.isAgg9
  z9 := Tryz.sizeOf9
  v9 := Tryz.zeroValue9
  t21 := Tryz.underlying21
  a21 := Tryz.isAgg21
  z21 := Tryz.sizeOf21
  v21 := Tryz.zeroValue21
  t46 := Tryz.underlying168
  a46 := Tryz.isAgg168
  z46 := Tryz.sizeOf168
  v46 := Tryz.zeroValue168
  t105 := Tryz.underlying225
  a105 := Tryz.isAgg225
  z105 := Tryz.sizeOf225
  v105 := Tryz.zeroValue225
  t116 := Tryz.underlying189
  a116 := Tryz.isAgg189
  z116 := Tryz.sizeOf189
  t117 := Tryz.underlying190
  a117 := Tryz.isAgg190
  z117 := Tryz.sizeOf190
  v117 := Tryz.zeroValue190
  t119 := Tryz.underlying248
  a119 := Tryz.isAgg248
  z119 := Tryz.sizeOf248
  t124 := Tryz.underlying193
  a124 := Tryz.isAgg193
  z124 := Tryz.sizeOf193
  v124 := Tryz.zeroValue193
  t138 := Tryz.underlying250
  a138 := Tryz.isAgg250
  z138 := Tryz.sizeOf250
  v138 := Tryz.zeroValue250
  t139 := Tryz.underlying251
  a139 := Tryz.isAgg251
  z139 := Tryz.sizeOf251
  v139 := Tryz.zeroValue251
  g3 := by kernel_rfl
  g4 := by kernel_rfl }
def lw5_ren : Go.Shelf.Ren := ⟨fun | 5 => 94 | 7 => 138 | n => n, fun | 23 => 65 | 25 => 9 | 3 => 129 | 4 => 4 | 20 => 20 | n => n, fun n => n⟩
theorem lw5 : Go.Proofs.SlLaysW.n5 Tryz.prog lw5_ren := {
  mixed := by kernel_rfl
  f5 := ⟨ "maps.Clone[map[string]*oxbow/disk.file,string,*oxbow/disk.file]", of_decide_eq_true (by kernel_rfl), Tryz.func94.trans (congrArg some (by kernel_rfl))⟩
  f7 := Tryz.func138.trans (congrArg some (by kernel_rfl))
  t4 := Tryz.underlying4
  a4 := Tryz.isAgg4
  z4 := Tryz.sizeOf4
  v4 := Tryz.zeroValue4
  t20 := Tryz.underlying20
  a20 := Tryz.isAgg20
  z20 := Tryz.sizeOf20
  v20 := Tryz.zeroValue20
  t23 := Tryz.underlying65
  a23 := Tryz.isAgg65
  z23 := Tryz.sizeOf65
  v23 := Tryz.zeroValue65 }

theorem clone_any (b : Nat) (es : Array MapEntry) (ck : Nat) (w : World) (hb : w.heap[b]? = some (.map es ck)) :
    Calls Tryz.prog 94 #[.map (some b)] w fun e w' => e = .returned (.map (some w.heap.size)) ∧ w' = w.alloc (.map es ck) := AnyW.maps_Clone lw5 b es ck w hb

/-- the small letters -/
def lowers : ByteArray := ⟨#[97, 98, 99, 100, 101, 102, 103, 104, 105, 106, 107, 108, 109, 110, 111, 112, 113, 114, 115, 116, 117, 118, 119, 120, 121, 122]⟩
theorem trim_any (s : ByteArray) (hs : s.size ≤ 64) (w : World) :
    Calls Tryz.prog 58 #[.string s, .string lowers] w fun e w' => e = .returned (.string ⟨(Lib.trimS s.data.toList lowers.data.toList).toArray⟩) ∧ Below w.heap.size w w' :=
  Any.strings_Trim_laid lays160 (by kernel_rfl) s lowers w (by omega) (by decide) (ascii_of_all (by decide))

set_option maxHeartbeats 400000 in
set_option maxRecDepth 100000 in
theorem format_any (i : Nat) (hi : i < 10) (w : World) :
    Calls Tryz.prog 59 #[.int .i64 i, .int .i64 10] w fun e w' => e = .returned (.string ⟨#[UInt8.ofNat (48 + i)]⟩) ∧ w = w' := by
  have h : i = 0 ∨ i = 1 ∨ i = 2 ∨ i = 3 ∨ i = 4 ∨ i = 5 ∨ i = 6 ∨ i = 7 ∨ i = 8 ∨ i = 9 := by omega
  rcases h with rfl | rfl | rfl | rfl | rfl | rfl | rfl | rfl | rfl | rfl
  all_goals
    go_enter Tryz.func59, Tryz.ntmps59
    go_wp2
    go_ret
    exact ⟨by rfl, rfl⟩

set_option maxHeartbeats 400000 in
theorem mul17 (w : World) : Calls Tryz.prog 115 #[.int .u64 1, .int .u64 7] w fun e w' => e = .returned (.tuple #[.int .u64 0, .int .u64 7]) ∧ w = w' := by
  go_enter Tryz.func115, Tryz.ntmps115
  go_wp2
  go_ret2
  exact ⟨by rfl, rfl⟩
set_option maxRecDepth 100000 in
set_option maxHeartbeats 400000 in
theorem prefix0 (z s : ByteArray) (h1 : s.size = 1) (h2 : s.toList = [48]) (b : Bool) (hz : 1 ≤ z.size) (hb : (z.data.toList.headD 0 == 48) = b) (w : World) : Calls Tryz.prog 116 #[.string z, .string s] w fun e w' => e = .returned (.bool b) ∧ w = w' := by
  have h : ((z.extract 0 1).toList == s.toList) = b := by
    rw [h2, ByteArray.toList_eq, extract0, toList_str, ← hb]
    have hl : 1 ≤ z.data.toList.length := by simpa using hz
    generalize z.data.toList = l at hl
    cases l with
    | nil => simp at hl
    | cons x t => simp [List.take]
  have i1 : decide ((s.size : Int) ≤ (z.size : Int)) = true := decide_eq_true (by omega)
  have i2 : decide (s.size ≤ z.size) = true := decide_eq_true (by omega)
  have i3 : (s.size : Int) = 1 := by omega
  have i4 : (1 : Int) ≤ (z.size : Int) := by omega
  clear h2 hb
  go_enter Tryz.func116, Tryz.ntmps116
  go_wp2
  all_goals go_ret
  all_goals exact ⟨by rfl, rfl⟩
set_option maxHeartbeats 1600000 in
set_option maxRecDepth 100000 in
theorem repeat7_in (s : ByteArray) (h1 : s.size = 1) (h2 : bn s 0 = 48) (h3 : s.toList = [48]) (w : World) :
    Calls Tryz.prog 60 #[.string s, .int .i64 7] w fun e w' => e = .returned (.string ⟨#[48, 48, 48, 48, 48, 48, 48]⟩) ∧ w = w' := by
  have hx : (⟨#[48, 48, 48, 48, 48, 48, 48, 48, 48, 48, 48, 48, 48, 48, 48, 48, 48, 48, 48, 48, 48, 48, 48, 48, 48, 48, 48, 48, 48, 48, 48, 48, 48, 48, 48, 48, 48, 48, 48, 48, 48, 48, 48, 48, 48, 48, 48, 48, 48, 48, 48, 48, 48, 48, 48, 48, 48, 48, 48, 48, 48, 48, 48, 48]⟩ : ByteArray).extract 0 7 = ⟨#[48, 48, 48, 48, 48, 48, 48]⟩ := by rw [extract0]; rfl
  have hg : ∀ (n : Nat) (h : n < s.size), (s[n]'h).toNat = bn s n := get_bn s
  have HP := Lib.hid (fun z b hz hb W => prefix0 z s h1 h3 b hz hb W)
  have i1 : (0 : Int) < (s.size : Int) := by omega
  have i2 : 0 < s.size := by omega
  have i3 : (s.size : Int) = 1 := by omega
  clear h3
  go_enter Tryz.func60, Tryz.ntmps60
  go_wp2_with (first
    | (go_at_call 115; refine (mul17 _).mono ?_; rintro e w' ⟨rfl, rfl⟩)
    | (go_at_call 116; refine (HP.out _ false (by decide) (by decide) _).mono ?_; rintro e w' ⟨rfl, rfl⟩)
    | (go_at_call 116; refine (HP.out _ true (by decide) (by decide) _).mono ?_; rintro e w' ⟨rfl, rfl⟩)
    | go_in)
  go_ret
  exact ⟨by rfl, rfl⟩
theorem repeat7 (w : World) :
    Calls Tryz.prog 60 #[.string ⟨#[48]⟩, .int .i64 7] w fun e w' => e = .returned (.string ⟨#[48, 48, 48, 48, 48, 48, 48]⟩) ∧ w = w' :=
  repeat7_in ⟨#[48]⟩ rfl rfl (by rw [ByteArray.toList_eq]) w
end Go.Proofs.YtpihmjdljbienaaGreatDoor.Dw

/- A map of names to files in memory: look-ups, a name more, its copy, its range. -/
namespace Go.Proofs.YtpihmjdljbienaaGreatDoor.Dw
open Go.RowKit
open B En
set_option linter.unusedVariables false

/-- an entry of a map of names: this name's, this file's -/
def isN (p : ByteArray × Nat) (e : MapEntry) : Prop := e.key = .string p.1 ∧ e.val = .pointer (some ⟨p.2, 0, none⟩)
/-- entries, and what they are, one by one -/
inductive AllN : List MapEntry → List (ByteArray × Nat) → Prop
  | nil : AllN [] []
  | cons {e es p l} : isN p e → AllN es l → AllN (e :: es) (p :: l)
theorem AllN.snoc {es : List MapEntry} {l : List (ByteArray × Nat)} (h : AllN es l) {e : MapEntry} {p : ByteArray × Nat} (hp : isN p e) : AllN (es ++ [e]) (l ++ [p]) := by
  induction h with
  | nil => exact .cons hp .nil
  | cons a _ ih => exact .cons a ih
theorem AllN.len {es : List MapEntry} {l : List (ByteArray × Nat)} (h : AllN es l) : es.length = l.length := by
  induction h with
  | nil => rfl
  | cons _ _ ih => simp [ih]
theorem ba_beq (a b : ByteArray) : (a == b) = decide (a = b) := by
  rcases a with ⟨a⟩; rcases b with ⟨b⟩
  show (a == b) = _
  by_cases h : a = b <;> simp [h]
theorem sameStr (a b : ByteArray) : Instr.sameNow .string (.string a) (.string b) = some (a == b) := rfl
theorem find_none {es : List MapEntry} {l : List (ByteArray × Nat)} (h : AllN es l) (k : ByteArray) (hn : ∀ p ∈ l, p.1 ≠ k) (i : Nat) : Instr.findNow .string (.string k) es i = some none := by
  induction h generalizing i with
  | nil => rfl
  | cons a ha ih =>
    rename_i e es p l
    unfold Instr.findNow
    rw [a.1, sameStr]
    have hne : (k == p.1) = false := by
      have := hn p (by simp)
      rw [ba_beq]; exact decide_eq_false fun hh => this hh.symm
    rw [hne]
    exact ih (fun q hq => hn q (by simp [hq])) (i + 1)
theorem find_some {es : List MapEntry} {l : List (ByteArray × Nat)} (h : AllN es l) (k : ByteArray) (f : Nat) (hm : (k, f) ∈ l) (hu : ∀ p ∈ l, p.1 = k → p.2 = f) (i : Nat) :
    ∃ j, Instr.findNow .string (.string k) es i = some (some (j, .pointer (some ⟨f, 0, none⟩))) := by
  induction h generalizing i with
  | nil => simp at hm
  | cons a ha ih =>
    rename_i e es p l
    unfold Instr.findNow
    rw [a.1, sameStr]
    by_cases hp : k = p.1
    · have he : (k == p.1) = true := by rw [ba_beq]; exact decide_eq_true hp
      rw [he]
      exact ⟨i, by rw [a.2, hu p (by simp) hp.symm]⟩
    · have hne : (k == p.1) = false := by rw [ba_beq]; exact decide_eq_false hp
      rw [hne]
      refine ih ?_ (fun q hq => hu q (by simp [hq])) (i + 1)
      rcases List.mem_cons.1 hm with h1 | h1
      · exact absurd (by rw [← h1]) hp
      · exact h1

/-- block b is a map of just these names -/
def MapN (w : World) (b : Nat) (l : List (ByteArray × Nat)) : Prop :=
  ∃ es ck, w.heap[b]? = some (.map es ck) ∧ AllN es.toList l ∧ (es.toList.map (·.born)).Nodup ∧ ∀ x ∈ es.toList, x.born < ck
theorem MapN.new (w : World) : MapN (w.alloc (.map #[] 0)) w.heap.size [] := ⟨#[], 0, heap_alloc_new _ _, .nil, by simp, by simp⟩
theorem MapN.lt {w : World} {b : Nat} {l : List (ByteArray × Nat)} (h : MapN w b l) : b < w.heap.size := by
  obtain ⟨es, ck, h, _⟩ := h; exact lt_of_block h
theorem MapN.blk {w w' : World} {b : Nat} {l : List (ByteArray × Nat)} (h : MapN w b l) (hb : w'.heap[b]? = w.heap[b]?) : MapN w' b l := by
  obtain ⟨es, ck, h, h2⟩ := h; exact ⟨es, ck, hb.trans h, h2⟩
theorem MapN.below {w w' : World} {b : Nat} {l : List (ByteArray × Nat)} (h : MapN w b l) (k : Below w.heap.size w w') : MapN w' b l := h.blk (k.block b h.lt)
theorem MapN.ne {w : World} {b g : Nat} {l : List (ByteArray × Nat)} {cs : Array Value} {t : TypeId} {fr : Nat × Nat} (h : MapN w b l) (hg : w.heap[g]? = some (.cells cs t fr)) : b ≠ g := fun e => by
  obtain ⟨es, ck, h, _⟩ := h
  subst e
  rw [h] at hg; cases hg
theorem MapN.set {w : World} {b : Nat} {p : Addr} {l : List (ByteArray × Nat)} {cs : Array Value} {t : TypeId} {fr : Nat × Nat} (h : MapN w b l) (hg : w.heap[p.block]? = some (.cells cs t fr)) (v : Value) : MapN (w.setCell p v) b l :=
  h.blk (Below.heap_setCell w p v b (h.ne hg))
theorem MapN.grown {w w' : World} {b : Nat} {r : Option Nat} {l : List (ByteArray × Nat)} (h : MapN w b l) (hg : w.grownBy w' r) (hr : r ≠ some b) : MapN w' b l := h.blk (hg.block b h.lt (fun e => hr e.symm))
theorem MapN.none_ {w : World} {b : Nat} {l : List (ByteArray × Nat)} (h : MapN w b l) (k : ByteArray) (hn : ∀ p ∈ l, p.1 ≠ k) :
    (Instr.lookup 65 (.map (some b)) (.string k) true).run Tryz.prog w = .ok (.tuple #[.pointer none, .bool false]) w := by
  obtain ⟨es, ck, hb, ha, _⟩ := h
  have hk := Tryz.underlying9
  have hf := find_none ha k hn 0
  have hc : (Instr.checkKey es.isEmpty 10000 9 (.string k)).run Tryz.prog w = .ok () w := MapKept.run_checkKey (k := .string k) hk (by simp [MapKept.IsKey]) _ 9999
  simp [Instr.lookup, run_underlying Tryz.underlying65, MapKept.run_getObj_map hb, hc, MapKept.run_findKey hk hf, Tryz.zeroValue129, Result.andThen]
theorem MapN.some_ {w : World} {b : Nat} {l : List (ByteArray × Nat)} (h : MapN w b l) (k : ByteArray) (f : Nat) (hm : (k, f) ∈ l) (hu : ∀ p ∈ l, p.1 = k → p.2 = f) :
    (Instr.lookup 65 (.map (some b)) (.string k) true).run Tryz.prog w = .ok (.tuple #[.pointer (some ⟨f, 0, none⟩), .bool true]) w := by
  obtain ⟨es, ck, hb, ha, _⟩ := h
  have hk := Tryz.underlying9
  obtain ⟨j, hf⟩ := find_some ha k f hm hu 0
  have hc : (Instr.checkKey es.isEmpty 10000 9 (.string k)).run Tryz.prog w = .ok () w := MapKept.run_checkKey (k := .string k) hk (by simp [MapKept.IsKey]) _ 9999
  simp [Instr.lookup, run_underlying Tryz.underlying65, MapKept.run_getObj_map hb, hc, MapKept.run_findKey hk hf, Result.andThen]
/-- a block that is another -/
def setB (w : World) (b : Nat) (o : Obj) : World := { w with heap := w.heap.setIfInBounds b o }
theorem setB_same {w : World} {b : Nat} (o : Obj) (h : b < w.heap.size) : (setB w b o).heap[b]? = some o := by simp [setB, h]
theorem setB_other (w : World) (b g : Nat) (o : Obj) (h : g ≠ b) : (setB w b o).heap[g]? = w.heap[g]? := by
  simp only [setB]
  rw [Array.getElem?_setIfInBounds_ne (fun e => h e.symm)]
theorem setB_size (w : World) (b : Nat) (o : Obj) : (setB w b o).heap.size = w.heap.size := by simp [setB]
theorem setB_below {w a : World} {B b : Nat} (h : Below B w a) (hb : B ≤ b) (o : Obj) : Below B w (setB a b o) :=
  ⟨h.os, h.tape, h.output, by rw [setB_size]; exact h.size, fun i hi => (setB_other a b i o (by omega)).trans (h.block i hi)⟩
theorem setB_keeps {ts : List TypeId} {w : World} {b : Nat} {es : Array MapEntry} {ck : Nat} (h : w.heap[b]? = some (.map es ck)) (o : Obj) : Keeps ts w (setB w b o) := by
  intro g cs t fr hg _
  rw [setB_other]
  · exact hg
  · rintro rfl; rw [h] at hg; cases hg
theorem MapN.put {w : World} {b : Nat} {l : List (ByteArray × Nat)} (h : MapN w b l) (k : ByteArray) (f : Nat) (hn : ∀ p ∈ l, p.1 ≠ k) :
    ∃ o, (Instr.mapUpdate 65 (.map (some b)) (.string k) (.pointer (some ⟨f, 0, none⟩))).run Tryz.prog w = .ok () (setB w b o) ∧ MapN (setB w b o) b (l ++ [(k, f)]) ∧ Keeps [] w (setB w b o) := by
  obtain ⟨es, ck, hb, ha, hd, hl⟩ := h
  have hk := Tryz.underlying9
  have hf := find_none ha k hn 0
  have hc : (Instr.checkKey false 10000 9 (.string k)).run Tryz.prog w = .ok () w := MapKept.run_checkKey (k := .string k) hk (by simp [MapKept.IsKey]) _ 9999
  refine ⟨.map (es.push ⟨.string k, .pointer (some ⟨f, 0, none⟩), ck⟩) (ck + 1), ?_, ⟨_, _, setB_same _ (lt_of_block hb), ?_, ?_, ?_⟩, setB_keeps hb _⟩
  · simp [Instr.mapUpdate, run_underlying Tryz.underlying65, MapKept.run_getObj_map hb, hc, MapKept.run_findKey hk hf, MapKept.run_setObj_map _ hb, Result.andThen, setB]
  · rw [Array.toList_push]; exact ha.snoc ⟨rfl, rfl⟩
  · rw [Array.toList_push, List.map_append, List.nodup_append]
    refine ⟨hd, by simp, ?_⟩
    intro x hx y hy
    obtain ⟨e, he, rfl⟩ := List.mem_map.1 hx
    have := hl e he
    simp at hy
    subst hy
    omega
  · intro x hx
    rw [Array.toList_push, List.mem_append, List.mem_singleton] at hx
    rcases hx with hx | rfl
    · have := hl x hx; omega
    · exact Nat.lt_succ_self _
theorem MapN.len_ {w : World} {b : Nat} {l : List (ByteArray × Nat)} (h : MapN w b l) (ty : TypeId) :
    (Builtin.len_ #[65] ty #[.map (some b)]).run Tryz.prog w = .ok (.int .i64 l.length) w := by
  obtain ⟨es, ck, hb, ha, _⟩ := h
  have hs : es.size = l.length := by rw [← ha.len]; simp
  simp [Builtin.len_, run_underlying Tryz.underlying65, MapKept.run_getObj_map hb, hs, goInt, Result.andThen]
end Go.Proofs.YtpihmjdljbienaaGreatDoor.Dw

/- The walks of a disk's small functions: rest, spring, may, find, good, change. -/
namespace Go.Proofs.YtpihmjdljbienaaGreatDoor.Dw
open Go.RowKit
open B En
set_option linter.unusedVariables false

/-- the cells of a disk -/
def dcells (room : Int) (fv : Value) (mb lb : Nat) (qv : Value) (left cn : Int) (cv : Value) (off : Bool) : Array Value :=
  #[.int .i64 room, fv, .map (some mb), .map (some lb), qv, .int .i64 left, .int .i64 cn, cv, .int .i64 0, .int .i64 0, .slice none 0 0, .bool off]
def DRow (w : World) (db : Nat) (room : Int) (fv : Value) (mb lb : Nat) (qv : Value) (left cn : Int) (cv : Value) (off : Bool) : Prop :=
  w.heap[db]? = some (.cells (dcells room fv mb lb qv left cn cv off) 71 (0, 0))
section
variable {w : World} {db : Nat} {room : Int} {fv : Value} {mb lb : Nat} {qv : Value} {left cn : Int} {cv : Value} {off : Bool}
theorem DRow.c0 (h : DRow w db room fv mb lb qv left cn cv off) : w.cell? ⟨db, 0, none⟩ = some (.int .i64 room) := cell_of_row w db 0 _ _ _ h
theorem DRow.c1 (h : DRow w db room fv mb lb qv left cn cv off) : w.cell? ⟨db, 1, none⟩ = some fv := cell_of_row w db 1 _ _ _ h
theorem DRow.c2 (h : DRow w db room fv mb lb qv left cn cv off) : w.cell? ⟨db, 2, none⟩ = some (.map (some mb)) := cell_of_row w db 2 _ _ _ h
theorem DRow.c3 (h : DRow w db room fv mb lb qv left cn cv off) : w.cell? ⟨db, 3, none⟩ = some (.map (some lb)) := cell_of_row w db 3 _ _ _ h
theorem DRow.c4 (h : DRow w db room fv mb lb qv left cn cv off) : w.cell? ⟨db, 4, none⟩ = some qv := cell_of_row w db 4 _ _ _ h
theorem DRow.c5 (h : DRow w db room fv mb lb qv left cn cv off) : w.cell? ⟨db, 5, none⟩ = some (.int .i64 left) := cell_of_row w db 5 _ _ _ h
theorem DRow.c6 (h : DRow w db room fv mb lb qv left cn cv off) : w.cell? ⟨db, 6, none⟩ = some (.int .i64 cn) := cell_of_row w db 6 _ _ _ h
theorem DRow.c7 (h : DRow w db room fv mb lb qv left cn cv off) : w.cell? ⟨db, 7, none⟩ = some cv := cell_of_row w db 7 _ _ _ h
theorem DRow.c8 (h : DRow w db room fv mb lb qv left cn cv off) : w.cell? ⟨db, 8, none⟩ = some (.int .i64 0) := cell_of_row w db 8 _ _ _ h
theorem DRow.c9 (h : DRow w db room fv mb lb qv left cn cv off) : w.cell? ⟨db, 9, none⟩ = some (.int .i64 0) := cell_of_row w db 9 _ _ _ h
theorem DRow.c10 (h : DRow w db room fv mb lb qv left cn cv off) : w.cell? ⟨db, 10, none⟩ = some (.slice none 0 0) := cell_of_row w db 10 _ _ _ h
theorem DRow.c11 (h : DRow w db room fv mb lb qv left cn cv off) : w.cell? ⟨db, 11, none⟩ = some (.bool off) := cell_of_row w db 11 _ _ _ h
theorem DRow.fz (h : DRow w db room fv mb lb qv left cn cv off) (k : Nat) : w.frozen? ⟨db, k, none⟩ = false := by
  unfold DRow at h
  simp [World.frozen?, h]
theorem DRow.lt (h : DRow w db room fv mb lb qv left cn cv off) : db < w.heap.size := lt_of_block h
theorem DRow.s1 (h : DRow w db room fv mb lb qv left cn cv off) (x : Value) : DRow (w.setCell ⟨db, 1, none⟩ x) db room x mb lb qv left cn cv off := by
  unfold DRow at h ⊢; rw [heap_setCell_same w db 1 _ _ _ h]; rfl
theorem DRow.s2 (h : DRow w db room fv mb lb qv left cn cv off) (x : Nat) : DRow (w.setCell ⟨db, 2, none⟩ (.map (some x))) db room fv x lb qv left cn cv off := by
  unfold DRow at h ⊢; rw [heap_setCell_same w db 2 _ _ _ h]; rfl
theorem DRow.s3 (h : DRow w db room fv mb lb qv left cn cv off) (x : Nat) : DRow (w.setCell ⟨db, 3, none⟩ (.map (some x))) db room fv mb x qv left cn cv off := by
  unfold DRow at h ⊢; rw [heap_setCell_same w db 3 _ _ _ h]; rfl
theorem DRow.s4 (h : DRow w db room fv mb lb qv left cn cv off) (x : Value) : DRow (w.setCell ⟨db, 4, none⟩ x) db room fv mb lb x left cn cv off := by
  unfold DRow at h ⊢; rw [heap_setCell_same w db 4 _ _ _ h]; rfl
theorem DRow.s5 (h : DRow w db room fv mb lb qv left cn cv off) (x : Int) : DRow (w.setCell ⟨db, 5, none⟩ (.int .i64 x)) db room fv mb lb qv x cn cv off := by
  unfold DRow at h ⊢; rw [heap_setCell_same w db 5 _ _ _ h]; rfl
theorem DRow.s6 (h : DRow w db room fv mb lb qv left cn cv off) (x : Int) : DRow (w.setCell ⟨db, 6, none⟩ (.int .i64 x)) db room fv mb lb qv left x cv off := by
  unfold DRow at h ⊢; rw [heap_setCell_same w db 6 _ _ _ h]; rfl
theorem DRow.s7 (h : DRow w db room fv mb lb qv left cn cv off) (x : Value) : DRow (w.setCell ⟨db, 7, none⟩ x) db room fv mb lb qv left cn x off := by
  unfold DRow at h ⊢; rw [heap_setCell_same w db 7 _ _ _ h]; rfl
theorem DRow.s8 (h : DRow w db room fv mb lb qv left cn cv off) : DRow (w.setCell ⟨db, 8, none⟩ (.int .i64 0)) db room fv mb lb qv left cn cv off := by
  unfold DRow at h ⊢; rw [heap_setCell_same w db 8 _ _ _ h]; rfl
theorem DRow.s9 (h : DRow w db room fv mb lb qv left cn cv off) : DRow (w.setCell ⟨db, 9, none⟩ (.int .i64 0)) db room fv mb lb qv left cn cv off := by
  unfold DRow at h ⊢; rw [heap_setCell_same w db 9 _ _ _ h]; rfl
theorem DRow.s10 (h : DRow w db room fv mb lb qv left cn cv off) : DRow (w.setCell ⟨db, 10, none⟩ (.slice none 0 0)) db room fv mb lb qv left cn cv off := by
  unfold DRow at h ⊢; rw [heap_setCell_same w db 10 _ _ _ h]; rfl
theorem DRow.s11 (h : DRow w db room fv mb lb qv left cn cv off) (x : Bool) : DRow (w.setCell ⟨db, 11, none⟩ (.bool x)) db room fv mb lb qv left cn cv x := by
  unfold DRow at h ⊢; rw [heap_setCell_same w db 11 _ _ _ h]; rfl
theorem DRow.below {w' : World} (h : DRow w db room fv mb lb qv left cn cv off) (k : Below w.heap.size w w') : DRow w' db room fv mb lb qv left cn cv off := (k.block db h.lt).trans h
theorem DRow.far {p : Addr} (h : DRow w db room fv mb lb qv left cn cv off) (hp : db ≠ p.block) (v : Value) : DRow (w.setCell p v) db room fv mb lb qv left cn cv off := (Below.heap_setCell w p v db hp).trans h
theorem DRow.blk {w' : World} (h : DRow w db room fv mb lb qv left cn cv off) (hb : w'.heap[db]? = w.heap[db]?) : DRow w' db room fv mb lb qv left cn cv off := hb.trans h
end

/-- the remainder, also of numbers below 0 -/
def restN (n : Int) (m : Nat) : Nat := ((if n < 0 then -(n + 1) else n) % (m : Int)).toNat
theorem restN_lt (n : Int) (m : Nat) (h : 0 < m) : restN n m < m := by
  unfold restN
  have := Int.emod_nonneg (if n < 0 then -(n + 1) else n) (b := (m : Int)) (by omega)
  have := Int.emod_lt_of_pos (if n < 0 then -(n + 1) else n) (b := (m : Int)) (by omega)
  omega
set_option maxHeartbeats 400000 in
theorem rest_any (n : Int) (m : Nat) (hm : 0 < m) (hm2 : m ≤ 9223372036854775807) (h0 : -9223372036854775808 ≤ n) (h1 : n ≤ 9223372036854775807) (w : World) :
    Calls Tryz.prog 98 #[.int .i64 n, .int .i64 m] w fun e w' => e = .returned (.int .i64 (restN n m : Nat)) ∧ w = w' := by
  by_cases h : n < 0
  · have d1 : decide (n < 0) = true := dt h
    have e1 : IntKind.i64.wrap (n + 1) = n + 1 := IntWalk.i64_in _ (by omega)
    have e2 : IntKind.i64.wrap (-(n + 1)) = -(n + 1) := IntWalk.i64_in _ (by omega)
    have hr : ((-(n + 1)) % (m : Int)) = (restN n m : Int) := by
      unfold restN; rw [if_pos h, Int.toNat_of_nonneg (Int.emod_nonneg _ (by omega))]
    have hr2 : (-(n + 1)).tmod (m : Int) = (restN n m : Int) := by rw [Int.tmod_eq_emod_of_nonneg (by omega)]; exact hr
    have hm3 : ((m : Int) == 0) = false := ef (by omega)
    have hm4 : (m == 0) = false := by simp; omega
    have hm5 : ¬ ((m : Int) = 0) := by omega
    have hm6 : ¬ (m = 0) := by omega
    generalize restN n m = r at hr hr2 ⊢
    go_enter Tryz.func98, Tryz.ntmps98
    go_wp2_with fail
    go_ret
    exact ⟨by first | rfl | (rw [hr2]) | (rw [hr]), rfl⟩
  · have d1 : decide (n < 0) = false := df h
    have hr : n % (m : Int) = (restN n m : Int) := by
      unfold restN; rw [if_neg h, Int.toNat_of_nonneg (Int.emod_nonneg _ (by omega))]
    have hr2 : n.tmod (m : Int) = (restN n m : Int) := by rw [Int.tmod_eq_emod_of_nonneg (by omega)]; exact hr
    have hm3 : ((m : Int) == 0) = false := ef (by omega)
    have hm4 : (m == 0) = false := by simp; omega
    have hm5 : ¬ ((m : Int) = 0) := by omega
    have hm6 : ¬ (m = 0) := by omega
    generalize restN n m = r at hr hr2 ⊢
    go_enter Tryz.func98, Tryz.ntmps98
    go_wp2_with fail
    go_ret
    exact ⟨by first | rfl | (rw [hr2]) | (rw [hr]), rfl⟩

theorem spring_0 (b o : Nat) (w : World) (h : w.cell? ⟨b, o, none⟩ = some (.int .i64 0)) :
    Calls Tryz.prog 122 #[.pointer (some ⟨b, o, none⟩)] w fun e w' => e = .returned (.bool false) ∧ w = w' := by
  go_enter Tryz.func122, Tryz.ntmps122
  go_wp2_with fail
  go_ret
  exact ⟨rfl, rfl⟩
theorem spring_k (b o : Nat) (k : Nat) (hk : 0 < k) (hk2 : k ≤ 9223372036854775807) (w : World) (h : w.cell? ⟨b, o, none⟩ = some (.int .i64 k)) (hz : w.frozen? ⟨b, o, none⟩ = false) (x : Bool) (hx : decide (k = 1) = x) :
    Calls Tryz.prog 122 #[.pointer (some ⟨b, o, none⟩)] w fun e w' => e = .returned (.bool x) ∧ w' = w.setCell ⟨b, o, none⟩ (.int .i64 ((k - 1 : Nat) : Int)) := by
  obtain ⟨j, rfl⟩ : ∃ j, k = j + 1 := ⟨k - 1, by omega⟩
  have d1 : (((j + 1 : Nat) : Int) == 0) = false := ef (by omega)
  have e1 : IntKind.i64.wrap (((j + 1 : Nat) : Int) - 1) = (j : Int) := by rw [IntWalk.i64_in _ (by omega)]; omega
  have hx2 : ((j : Int) == 0) = x := by
    rw [← hx]
    by_cases h9 : j = 0
    · subst h9; rfl
    · rw [ef (by omega), decide_eq_false (by omega)]
  have hg : (w.setCell ⟨b, o, none⟩ (.int .i64 (j : Int))).cell? ⟨b, o, none⟩ = some (.int .i64 (j : Int)) := World.cell?_setCell_same _ _ _ h
  generalize hj : ((j + 1 : Nat) : Int) = j1 at *
  clear hx hj
  go_enter Tryz.func122, Tryz.ntmps122
  go_wp2_with fail
  go_ret
  exact ⟨rfl, by simp⟩

theorem may_on (db : Nat) (w : World) (h : w.cell? ⟨db, 11, none⟩ = some (.bool false)) :
    Calls Tryz.prog 92 #[.pointer (some ⟨db, 0, none⟩)] w fun e w' => e = .returned (.int .i64 0) ∧ w = w' := by
  go_enter Tryz.func92, Tryz.ntmps92
  go_wp2_with fail
  go_ret
  exact ⟨rfl, rfl⟩
theorem find_no (db mb : Nat) (l : List (ByteArray × Nat)) (k : ByteArray) (hn : ∀ p ∈ l, p.1 ≠ k) (w : World) (h : w.cell? ⟨db, 11, none⟩ = some (.bool false)) (h2 : w.cell? ⟨db, 2, none⟩ = some (.map (some mb))) (hm : MapN w mb l) :
    Calls Tryz.prog 69 #[.pointer (some ⟨db, 0, none⟩), .string k] w fun e w' => e = .returned (.tuple #[.pointer none, .int .i64 10]) ∧ w = w' := by
  have hl := hm.none_ k hn
  have HM := Lib.hid (may_on db w h)
  clear hm hn
  go_enter Tryz.func69, Tryz.ntmps69
  go_wp2_with fail
  refine HM.out.mono ?_
  rintro e w1 ⟨rfl, rfl⟩
  go_wp2_with fail
  go_ret2
  exact ⟨rfl, rfl⟩
theorem find_yes (db mb : Nat) (l : List (ByteArray × Nat)) (k : ByteArray) (f : Nat) (hf : (k, f) ∈ l) (hu : ∀ p ∈ l, p.1 = k → p.2 = f) (w : World) (h : w.cell? ⟨db, 11, none⟩ = some (.bool false)) (h2 : w.cell? ⟨db, 2, none⟩ = some (.map (some mb))) (hm : MapN w mb l) :
    Calls Tryz.prog 69 #[.pointer (some ⟨db, 0, none⟩), .string k] w fun e w' => e = .returned (.tuple #[.pointer (some ⟨f, 0, none⟩), .int .i64 0]) ∧ w = w' := by
  have hl := hm.some_ k f hf hu
  have HM := Lib.hid (may_on db w h)
  clear hm hf hu
  go_enter Tryz.func69, Tryz.ntmps69
  go_wp2_with fail
  refine HM.out.mono ?_
  rintro e w1 ⟨rfl, rfl⟩
  go_wp2_with fail
  go_ret2
  exact ⟨rfl, rfl⟩
theorem good_any (k : ByteArray) (h0 : k.size ≠ 0) (h1 : k.size ≤ 64) (w : World) :
    Calls Tryz.prog 70 #[.string k] w fun e w' => e = .returned (.bool true) ∧ w = w' := by
  have hk : k.toList.isEmpty = false := toList_ne h0
  have hk2 : (k.toList == []) = false := by cases hh : k.toList with | nil => rw [hh] at hk; cases hk | cons _ _ => rfl
  have d1 : decide (k.size ≤ 64) = true := dt h1
  have d2 : decide ((k.size : Int) ≤ 64) = true := dt (by omega)
  go_enter Tryz.func70, Tryz.ntmps70
  go_wp2_with fail
  go_ret
  exact ⟨rfl, rfl⟩

/-! a call that changes -/
theorem keepS5 {W : World} {db : Nat} {v : Value} (h : W.cell? ⟨db, 8, none⟩ = some (.int .i64 0)) : (W.setCell ⟨db, 5, none⟩ v).cell? ⟨db, 8, none⟩ = some (.int .i64 0) :=
  (World.cell?_setCell_other _ _ _ _ (fun e => by have := congrArg Addr.off e; simp at this)).trans h
set_option maxHeartbeats 800000 in
set_option maxRecDepth 100000 in
/-- no trap's turn: what it does is done -/
theorem change_pass (db fid : Nat) (caps : Array Value) (atCut : Bool) (k : Nat) (hk : k ≠ 1) (hk2 : k ≤ 9223372036854775807) (Q : World → Prop) (w : World)
    (h5 : w.cell? ⟨db, 5, none⟩ = some (.int .i64 k)) (h8 : w.cell? ⟨db, 8, none⟩ = some (.int .i64 0)) (hz : w.frozen? ⟨db, 5, none⟩ = false)
    (hcall : ∀ W, Sem.run Tryz.prog (callFunc fid caps) W = .ok (.enter fid caps) W)
    (HACT : ∀ W, (W = w.drew ∧ k = 0) ∨ (W = (w.setCell ⟨db, 5, none⟩ (.int .i64 ((k - 1 : Nat) : Int))).drew ∧ k ≠ 0) → Calls Tryz.prog fid caps W fun e w' => e = .returned (.tuple #[]) ∧ Q w') :
    Calls Tryz.prog 71 #[.pointer (some ⟨db, 0, none⟩), .bool atCut, .func (.func fid) #[] caps] w fun e w' => e = .returned (.int .i64 0) ∧ Q w' := by
  by_cases h0 : k = 0
  · subst h0
    have HA := Lib.hid (HACT w.drew (.inl ⟨rfl, rfl⟩))
    have HS5 := Lib.hid (spring_0 db 5 w.drew h5)
    have HS8 := Lib.hid (spring_0 db 8 w.drew h8)
    clear HACT h5 h8 hz
    go_enter Tryz.func71, Tryz.ntmps71
    go_wp2_with fail
    go_region_held3 (fun w' => True) (first | trivial)
      (first
        | (go_at_call 122; (with_reducible refine HS5.out.mono ?_); rintro e w3 ⟨rfl, rfl⟩)
        | (go_at_call 122; (with_reducible refine HS8.out.mono ?_); rintro e w4 ⟨rfl, rfl⟩))
    go_wp2_with fail
    refine HA.out.mono ?_
    rintro e w5 ⟨rfl, hQ⟩
    go_wp2_with fail
    go_ret
    exact ⟨rfl, hQ⟩
  · have HA := Lib.hid (HACT ((w.setCell ⟨db, 5, none⟩ (.int .i64 ((k - 1 : Nat) : Int))).drew) (.inr ⟨rfl, h0⟩))
    have HS5 := Lib.hid (spring_k db 5 k (by omega) hk2 w.drew h5 hz false (decide_eq_false hk))
    have HS8 := Lib.hid (spring_0 db 8 ((w.setCell ⟨db, 5, none⟩ (.int .i64 ((k - 1 : Nat) : Int))).drew) (keepS5 h8))
    clear HACT h5 h8 hz
    go_enter Tryz.func71, Tryz.ntmps71
    go_wp2_with fail
    go_region_held3 (fun w' => True) (first | trivial)
      (first
        | (go_at_call 122; (with_reducible refine HS5.out.mono ?_); rintro e w3 ⟨rfl, rfl⟩)
        | (go_at_call 122; (with_reducible refine HS8.out.mono ?_); rintro e w4 ⟨rfl, rfl⟩))
    go_wp2_with fail
    refine HA.out.mono ?_
    rintro e w5 ⟨rfl, hQ⟩
    go_wp2_with fail
    go_ret
    exact ⟨rfl, hQ⟩

set_option maxHeartbeats 800000 in
set_option maxRecDepth 100000 in
/-- the power fails at this call -/
theorem change_cut (db fid : Nat) (caps : Array Value) (atCut : Bool) (cn : Int) (ca : Option Addr) (cl cc : Nat) (Q R : World → Prop) (w : World)
    (h5 : w.cell? ⟨db, 5, none⟩ = some (.int .i64 ((1 : Nat) : Int))) (h8 : w.cell? ⟨db, 8, none⟩ = some (.int .i64 0)) (hz : w.frozen? ⟨db, 5, none⟩ = false)
    (hcall : ∀ W, Sem.run Tryz.prog (callFunc fid caps) W = .ok (.enter fid caps) W)
    (HACT : atCut = true → Calls Tryz.prog fid caps ((w.setCell ⟨db, 5, none⟩ (.int .i64 0)).drew) fun e w' => e = .returned (.tuple #[]) ∧ Q w')
    (hQ0 : atCut = false → Q ((w.setCell ⟨db, 5, none⟩ (.int .i64 0)).drew))
    (hQ6 : ∀ W, Q W → W.cell? ⟨db, 6, none⟩ = some (.int .i64 cn) ∧ W.cell? ⟨db, 7, none⟩ = some (.slice ca cl cc))
    (HF : ∀ W, Q W → Calls Tryz.prog 46 #[.pointer (some ⟨db, 0, none⟩), .int .i64 cn, .slice ca cl cc] W.drew fun e w' => e = .returned (.tuple #[]) ∧ R w')
    (hR : ∀ W, R W → (∃ x, W.cell? ⟨db, 11, none⟩ = some (.bool x)) ∧ W.frozen? ⟨db, 11, none⟩ = false) :
    Calls Tryz.prog 71 #[.pointer (some ⟨db, 0, none⟩), .bool atCut, .func (.func fid) #[] caps] w fun e w' => e = .returned (.int .i64 13) ∧ ∃ W, R W ∧ w' = W.setCell ⟨db, 11, none⟩ (.bool true) := by
  have HS5 := Lib.hid (spring_k db 5 1 (by omega) (by omega) w.drew h5 hz true rfl)
  have HS8 := Lib.hid (spring_0 db 8 ((w.setCell ⟨db, 5, none⟩ (.int .i64 0)).drew) (keepS5 h8))
  have HFF := Lib.hid HF
  have HR := Lib.hid hR
  have HQ6 := Lib.hid hQ6
  have HA := Lib.hid HACT
  have HQ0 := Lib.hid hQ0
  clear HACT h5 h8 hz HF hR hQ6 hQ0
  have hmain : ∀ (W : World), Q W → True := fun _ _ => trivial
  cases atCut with
  | true =>
    have HA2 := Lib.hid (HA.out rfl)
    go_enter Tryz.func71, Tryz.ntmps71
    go_wp2_with fail
    go_region_held3 (fun w' => True) (first | trivial)
      (first
        | (go_at_call 122; (with_reducible refine HS5.out.mono ?_); rintro e w3 ⟨rfl, rfl⟩)
        | (go_at_call 122; (with_reducible refine HS8.out.mono ?_); rintro e w4 ⟨rfl, rfl⟩))
    go_wp2_with fail
    refine HA2.out.mono ?_
    rintro e w5 ⟨rfl, hQ⟩
    obtain ⟨q6, q7⟩ := HQ6.out _ hQ
    have HFW := Lib.hid (HFF.out _ hQ)
    clear hQ
    go_wp2_with fail
    go_still_tail 11, (by kernel_rfl)
    change wpList _ _ _ _ _ w5.drew
    clear q6 q7
    go_wp2_with fail
    refine HFW.out.mono ?_
    rintro e w6 ⟨rfl, hR6⟩
    obtain ⟨⟨x, r11⟩, rz⟩ := HR.out _ hR6
    go_wp2_with fail
    go_ret
    exact ⟨rfl, w6, hR6, rfl⟩
  | false =>
    have hQ := HQ0.out rfl
    obtain ⟨q6, q7⟩ := HQ6.out _ hQ
    have HFW := Lib.hid (HFF.out _ hQ)
    clear hQ
    have p6 : (w.setCell ⟨db, 5, none⟩ (.int .i64 0)).cell? ⟨db, 6, none⟩ = some (.int .i64 cn) := q6
    have p7 : (w.setCell ⟨db, 5, none⟩ (.int .i64 0)).cell? ⟨db, 7, none⟩ = some (.slice ca cl cc) := q7
    have HP := Lib.hid (And.intro p6 p7)
    clear p6 p7 q6 q7
    go_enter Tryz.func71, Tryz.ntmps71
    go_wp2_with fail
    go_region_held3 (fun w' => True) (first | trivial)
      (first
        | (go_at_call 122; (with_reducible refine HS5.out.mono ?_); rintro e w3 ⟨rfl, rfl⟩)
        | (go_at_call 122; (with_reducible refine HS8.out.mono ?_); rintro e w4 ⟨rfl, rfl⟩))
    generalize hW : ((w.setCell ⟨db, 5, none⟩ (.int .i64 0)).drew) = w5 at HFW ⊢
    have q6 : w5.cell? ⟨db, 6, none⟩ = some (.int .i64 cn) := by rw [← hW]; exact HP.out.1
    have q7 : w5.cell? ⟨db, 7, none⟩ = some (.slice ca cl cc) := by rw [← hW]; exact HP.out.2
    clear hW HS5 HS8 HQ0 HP
    go_wp2_with fail
    go_still_tail 11, (by kernel_rfl)
    change wpList _ _ _ _ _ w5.drew
    clear q6 q7
    go_wp2_with fail
    refine HFW.out.mono ?_
    rintro e w6 ⟨rfl, hR6⟩
    obtain ⟨⟨x, r11⟩, rz⟩ := HR.out _ hR6
    go_wp2_with fail
    go_ret
    exact ⟨rfl, w6, hR6, rfl⟩
end Go.Proofs.YtpihmjdljbienaaGreatDoor.Dw

/- The walks of a disk of one file: New, Create, SyncDir. -/
namespace Go.Proofs.YtpihmjdljbienaaGreatDoor.Dw
open Go.RowKit
open B En
set_option linter.unusedVariables false

/-- the types of a disk's blocks -/
def dts : List TypeId := [71, 135, 5, 129, 177, 138]
/-- a new disk -/
structure DNew (B db : Nat) (room : Nat) (w : World) : Prop where
  ex : ∃ mb lb, DRow w db room (.slice none 0 0) mb lb (.slice none 0 0) 0 0 (.slice none 0 0) false ∧ MapN w mb [] ∧ MapN w lb [] ∧ B ≤ db ∧ B ≤ mb ∧ B ≤ lb ∧ mb ≠ lb
set_option maxHeartbeats 400000 in
set_option maxRecDepth 100000 in
theorem new_any (room : Nat) (hr : room ≤ 9223372036854775807) (w : World) :
    Calls Tryz.prog 5 #[.int .i64 room] w fun e w' => ∃ db, e = .returned (.pointer (some ⟨db, 0, none⟩)) ∧ DNew w.heap.size db room w' ∧ Below w.heap.size w w' := by
  have hm : max (0 : Int) (room : Int) = (room : Int) := Int.max_eq_right (by omega)
  have hmk : ∀ W : World, (Instr.makeMap 65 none).run Tryz.prog W = .ok (.map (some W.heap.size)) (W.alloc (.map #[] 0)) := fun W => rfl
  go_enter Tryz.func5, Tryz.ntmps5
  go_wp2_with fail
  go_ret
  refine ⟨_, rfl, ⟨w.heap.size, w.heap.size + 1, ?_, ?_, ?_, ?_, ?_, ?_, ?_⟩, ?_⟩
  · exact blk_new (by simp)
  · exact ((MapN.new w).below (below_alloc (Below.refl _ _) _)).below (below_alloc (Below.refl _ _) _)
  · have h := MapN.new (w.alloc (.map #[] 0))
    rw [show (w.alloc (.map #[] 0)).heap.size = w.heap.size + 1 from Array.size_push ..] at h
    exact h.below (below_alloc (Below.refl _ _) _)
  · first | exact Nat.le_refl _ | (simp; done) | omega
  · first | exact Nat.le_refl _ | (simp; done) | omega
  · first | exact Nat.le_refl _ | (simp; done) | omega
  · first | (simp; done) | omega
  · exact below_alloc (below_alloc (below_alloc (Below.refl _ _) _) _) _

theorem infoFile : (Tryz.prog.info? 129).map (fun i => (i.zero, i.size, i.bytes)) = some (some (.pointer none), 1, 8) := by kernel_rfl
theorem infoStep : (Tryz.prog.info? 177).map (fun i => (i.zero, i.size, i.bytes)) = some (some (.slice none 0 0), 1, 24) := by kernel_rfl

/-- a disk with one file, not yet made to last -/
structure D0 (B db fb : Nat) (nm : ByteArray) (room : Nat) (w : World) : Prop where
  ex : ∃ fa fc mb lb qv, DRow w db room (.slice fa 1 fc) mb lb qv 0 0 (.slice none 0 0) false ∧ w.ownsRow B 129 1 (.slice fa 1 fc) 1 [.pointer (some ⟨fb, 0, none⟩)] ∧ MapN w mb [(nm, fb)] ∧ MapN w lb [] ∧
    w.heap[fb]? = some (.cells #[.slice none 0 0, .int .i64 0] 135 (0, 0)) ∧ B ≤ db ∧ B ≤ mb ∧ B ≤ lb ∧ mb ≠ lb ∧ B ≤ fb

/-! rename, do -/
set_option maxHeartbeats 400000 in
set_option maxRecDepth 100000 in
theorem do_one (B mb cb : Nat) (nm : ByteArray) (fb : Nat) (w : World) (hm : MapN w mb []) (hB : B ≤ mb) (hc : w.heap[cb]? = some (.cells #[.string nm, .pointer (some ⟨fb, 0, none⟩)] 138 (0, 0))) :
    Calls Tryz.prog 99 #[.map (some mb), .slice (some ⟨cb, 0, none⟩) 1 1] w fun e w' => e = .returned (.tuple #[]) ∧ ∃ o, w' = setB (w.alloc (.cells #[.string nm, .pointer (some ⟨fb, 0, none⟩)] 138)) mb o ∧ MapN w' mb [(nm, fb)] := by
  have c0 := cell_of_row w cb 0 _ _ _ hc
  have c1 := cell_of_row w cb 1 _ _ _ hc
  simp at c0 c1
  have hm2 := hm.below (below_alloc (Below.refl w.heap.size w) (.cells #[.string nm, .pointer (some ⟨fb, 0, none⟩)] 138))
  obtain ⟨o, hrun, hmo, _⟩ := hm2.put nm fb (by simp)
  clear hm hm2 hc
  go_enter Tryz.func99, Tryz.ntmps99
  go_wp2_with fail
  refine wp_loop_rounds 2 ?_
  repeat (rw [rounds_succ]; go_wp2_with fail)
  go_end0
  exact ⟨rfl, o, rfl, hmo⟩

theorem keeps_alloc0 {ts : List TypeId} (w : World) (o : Obj) : Keeps ts w (w.alloc o) := Keeps.below ((Below.refl _ _).alloc (Nat.le_refl _) _)
theorem keeps_map {ts : List TypeId} {w : World} {b : Nat} {l : List (ByteArray × Nat)} (h : MapN w b l) (o : Obj) : Keeps ts w (setB w b o) := by
  obtain ⟨es, ck, hb, _⟩ := h
  exact setB_keeps hb o
theorem DRow.setB {w : World} {db b : Nat} {room : Int} {fv : Value} {mb lb : Nat} {qv : Value} {left cn : Int} {cv : Value} {off : Bool} (h : DRow w db room fv mb lb qv left cn cv off) (hne : db ≠ b) (o : Obj) : DRow (Dw.setB w b o) db room fv mb lb qv left cn cv off :=
  (setB_other w b db o hne).trans h
theorem blk_setB {w : World} {g b : Nat} {x : Option Obj} (h : w.heap[g]? = x) (hne : g ≠ b) (o : Obj) : (setB w b o).heap[g]? = x := (setB_other w b g o hne).trans h
theorem own_setB {w : World} {B n size b : Nat} {e : TypeId} {v : Value} {xs : List Value} (h : w.ownsRow B e size v n xs) (hne : v.ownBlock ≠ some b) (o : Obj) : (setB w b o).ownsRow B e size v n xs := by
  refine ⟨h.1, ?_⟩
  rcases h.2 with hv | ⟨g, c, cur, hv, hg, hb, hr⟩
  · exact .inl hv
  · refine .inr ⟨g, c, cur, hv, hg, ?_, hr⟩
    rw [hv] at hne
    exact blk_setB hb (fun e => hne (by rw [e]; rfl)) o
theorem MapN.neOwn {w : World} {b : Nat} {l : List (ByteArray × Nat)} (h : MapN w b l) {B n size : Nat} {e : TypeId} {v : Value} {xs : List Value} (k : w.ownsRow B e size v n xs) : v.ownBlock ≠ some b := by
  rcases k.2 with ⟨hv, _⟩ | ⟨g, c, cur, hv, hg, hb, hr⟩
  · rw [hv]; simp [Value.ownBlock]
  · rw [hv]
    intro e
    have e2 : g = b := by simpa [Value.ownBlock] using e
    exact h.ne hb e2.symm

set_option maxHeartbeats 800000 in
set_option maxRecDepth 100000 in
theorem rename_one (B db cb : Nat) (nm : ByteArray) (fb : Nat) (room : Int) (fv : Value) (mb lb : Nat) (w : World) (hd : DRow w db room fv mb lb (.slice none 0 0) 0 0 (.slice none 0 0) false) (hm : MapN w mb []) (hB : B ≤ mb) (hBd : B ≤ db) (hBw : B ≤ w.heap.size)
    (hc : w.heap[cb]? = some (.cells #[.string nm, .pointer (some ⟨fb, 0, none⟩)] 138 (0, 0))) :
    Calls Tryz.prog 73 #[.pointer (some ⟨db, 0, none⟩), .slice (some ⟨cb, 0, none⟩) 1 1] w fun e w' => e = .returned (.tuple #[]) ∧ (∃ qv, DRow w' db room fv mb lb qv 0 0 (.slice none 0 0) false) ∧ MapN w' mb [(nm, fb)] ∧ Below B w w' ∧ Keeps dts w w' ∧ (∀ g, g ≠ db → g ≠ mb → g < w.heap.size → w'.heap[g]? = w.heap[g]?) := by
  have HDO := Lib.hid (do_one B mb cb nm fb w hm hB hc)
  have hmd : db ≠ mb := fun e => hm.ne hd e.symm
  have c2 := hd.c2
  have HD := Lib.hid hd
  have HM := Lib.hid hm
  clear hc hm
  go_enter Tryz.func73, Tryz.ntmps73
  go_wp2_with fail
  refine HDO.out.mono ?_
  rintro e w1 ⟨rfl, o, hw1, hm1⟩
  have hal := below_alloc (Below.refl w.heap.size w) (.cells #[.string nm, .pointer (some ⟨fb, 0, none⟩)] 138)
  have hd1 : DRow w1 db room fv mb lb (.slice none 0 0) 0 0 (.slice none 0 0) false := by rw [hw1]; exact (HD.out.below hal).setB hmd o
  have hb1 : Below B w w1 := by rw [hw1]; exact setB_below ((Below.refl B w).alloc hBw _) hB o
  have hk1 : Keeps dts w w1 := by rw [hw1]; exact (keeps_alloc0 w _).trans (keeps_map (HM.out.below hal) o)
  have hg1 : ∀ g, g ≠ mb → g < w.heap.size → w1.heap[g]? = w.heap[g]? := fun g h1 h2 => by rw [hw1]; exact (setB_other _ _ _ _ h1).trans (hal.block g h2)
  have HD1 := Lib.hid hd1
  have HB1 := Lib.hid hb1
  have HK1 := Lib.hid hk1
  have HG1 := Lib.hid hg1
  have HM1 := Lib.hid hm1
  have c4 := hd1.c4
  have f4 := hd1.fz 4
  have hs1 := hb1.size
  clear hw1 hd1 hb1 hk1 hg1 hm1 hal hd c2 HDO
  have HO0 := Lib.hid (World.ownsRow_nil w1 B 177 1)
  go_wp2_with (at_builtin; refine Tw.wpList_pushL rfl _ _ 67 rfl Tryz.underlying67 infoStep rfl (by decide) rfl #[.slice (some ⟨cb, 0, none⟩) 1 1] rfl ?c1 rfl ?c0 HO0.out ?c2 ?c3 ?c4 ?_)
  case c0 => rfl
  case c1 => simp [Value.oneCell']
  case c2 => exact Nat.le_trans hBw hs1
  case c3 => unfold maxLen; omega
  case c4 => first | omega | simp
  intro g7 cap7 w7 hO7 hg7 hb7 hn7
  have hd7 : DRow w7 db room fv mb lb (.slice none 0 0) 0 0 (.slice none 0 0) false := HD1.out.blk (hg7.block db HD1.out.lt (by simp [Value.ownBlock]))
  have hm7 : MapN w7 mb [(nm, fb)] := HM1.out.grown hg7 (by simp [Value.ownBlock])
  have hk7 : Keeps dts w w7 := HK1.out.trans (Keeps.grown HO0.out (by decide) hg7)
  have hg7' : ∀ g, g ≠ mb → g < w.heap.size → w7.heap[g]? = w.heap[g]? := fun g h1 h2 => (hg7.block g (by omega) (by simp [Value.ownBlock])).trans (HG1.out g h1 h2)
  have HD7 := Lib.hid hd7
  have HM7 := Lib.hid hm7
  have HK7 := Lib.hid hk7
  have HG7 := Lib.hid hg7'
  have HB7 := Lib.hid (HB1.out.trans hb7)
  have c47 := hd7.c4
  have f47 := hd7.fz 4
  clear hO7 hg7 hb7 hn7 hd7 hm7 hk7 hg7' c4 f4
  go_wp2_with fail
  go_end0
  refine ⟨rfl, ⟨_, HD7.out.s4 _⟩, HM7.out.set (p := ⟨db, 4, none⟩) HD7.out _, HB7.out.setCell (p := ⟨db, 4, none⟩) hBd _, HK7.out.trans (Keeps.setCell (p := ⟨db, 4, none⟩) HD7.out (by decide) _), fun g h1 h2 h3 => ?_⟩
  exact (Below.heap_setCell w7 ⟨db, 4, none⟩ _ g h1).trans (HG7.out g h2 h3)

theorem own_same {w w' : World} {B n size : Nat} {e : TypeId} {v : Value} {xs : List Value} (h : w.ownsRow B e size v n xs) (hb : ∀ g cs fr, v.ownBlock = some g → w.heap[g]? = some (.cells cs e fr) → w'.heap[g]? = w.heap[g]?) : w'.ownsRow B e size v n xs := by
  refine ⟨h.1, ?_⟩
  rcases h.2 with hv | ⟨g, c, cur, hv, hg, hbk, hr⟩
  · exact .inl hv
  · exact .inr ⟨g, c, cur, hv, hg, (hb g _ _ (by rw [hv]; rfl) hbk).trans hbk, hr⟩
theorem keeps_old {ts : List TypeId} {w w' : World} (h : ∀ g, g < w.heap.size → w'.heap[g]? = w.heap[g]?) : Keeps ts w w' := fun g cs t fr hg _ => (h g (lt_of_block hg)).trans hg
theorem blk_types {w : World} {g h : Nat} {cs cs' : Array Value} {t t' : TypeId} {fr fr' : Nat × Nat} (h1 : w.heap[g]? = some (.cells cs t fr)) (h2 : w.heap[h]? = some (.cells cs' t' fr')) (hne : t ≠ t') : g ≠ h := fun e => by
  subst e; rw [h1] at h2; cases h2; exact hne rfl
/-- what the closure of Create needs -/
structure PreC (B db : Nat) (nm : ByteArray) (room : Nat) (dc nc : Nat) (w : World) : Prop where
  dn : DNew B db room w
  d : Cell1 w dc 25 (.pointer (some ⟨db, 0, none⟩))
  n : Cell1 w nc 9 (.string nm)
  Bw : B ≤ w.heap.size
theorem DNew.below {B db room : Nat} {w w' : World} (h : DNew B db room w) (k : Below w.heap.size w w') : DNew B db room w' := by
  obtain ⟨mb, lb, h1, h2, h3, h4⟩ := h.ex
  exact ⟨mb, lb, h1.below k, h2.below k, h3.below k, h4⟩
set_option maxHeartbeats 1600000 in
set_option maxRecDepth 100000 in
theorem create1_any (B db : Nat) (nm : ByteArray) (room dc nc : Nat) (w : World) (h : PreC B db nm room dc nc w) :
    Calls Tryz.prog 72 #[.pointer (some ⟨dc, 0, none⟩), .pointer (some ⟨nc, 0, none⟩)] w fun e w' => e = .returned (.tuple #[]) ∧ (∃ fb, D0 B db fb nm room w') ∧ Below B w w' ∧ Keeps dts w w' := by
  obtain ⟨mb, lb, hd, hm, hl, hB1, hB2, hB3, hne⟩ := h.dn.ex
  have hc1 := h.d.cell
  have hc2 := h.n.cell
  have H := Lib.hid h
  have hal := below_alloc (Below.refl w.heap.size w) (.cells #[.slice none 0 0, .int .i64 0] 135)
  have hf0 : (w.alloc (.cells #[.slice none 0 0, .int .i64 0] 135)).heap[w.heap.size]? = some (.cells #[.slice none 0 0, .int .i64 0] 135 (0, 0)) := heap_alloc_new _ _
  have hd1 := hd.below hal
  have hm1 := hm.below hal
  have hl1 := hl.below hal
  have hdc1 := H.out.d.below hal
  have hnc1 := H.out.n.below hal
  have hb1 : Below B w (w.alloc (.cells #[.slice none 0 0, .int .i64 0] 135)) := (Below.refl B w).alloc H.out.Bw _
  have hk1 : Keeps dts w (w.alloc (.cells #[.slice none 0 0, .int .i64 0] 135)) := keeps_alloc0 w _
  have hfB : B ≤ w.heap.size := H.out.Bw
  clear hd hm hl hal h
  generalize hW : w.alloc (.cells #[.slice none 0 0, .int .i64 0] 135) = W at hf0 hd1 hm1 hl1 hdc1 hnc1 hb1 hk1
  have HW := Lib.hid hW
  generalize hfb : w.heap.size = fb at hf0 hfB
  have HFB := Lib.hid hfb
  have hwz : B ≤ W.heap.size := Nat.le_trans H.out.Bw hb1.size
  clear hfb
  have HF0 := Lib.hid hf0
  have HD1 := Lib.hid hd1
  have HM1 := Lib.hid hm1
  have HL1 := Lib.hid hl1
  have HN1 := Lib.hid hnc1
  have HC1 := Lib.hid hdc1
  have HB1 := Lib.hid hb1
  have HK1 := Lib.hid hk1
  have HO1 := Lib.hid (World.ownsRow_nil W B 129 1)
  have x1 := hd1.c1
  have y1 := hd1.fz 1
  have z1 := hdc1.cell
  have z2 := hnc1.cell
  have x1a : ∀ C, (W.alloc C).cell? ⟨db, 1, none⟩ = some (.slice none 0 0) := fun C => (hd1.below (below_alloc (Below.refl _ _) C)).c1
  have z1a : ∀ C, (W.alloc C).cell? ⟨dc, 0, none⟩ = some (.pointer (some ⟨db, 0, none⟩)) := fun C => (hdc1.below (below_alloc (Below.refl _ _) C)).cell
  clear hf0 hd1 hm1 hl1 hnc1 hdc1 hb1 hk1 hc1 hc2
  go_enter Tryz.func72, Tryz.ntmps72
  go_wp2_with fail
  rw [HFB.out]
  clear hW
  refine wp_region_noPanic ?_
  go_region_law
    (refine step_pushG (B := B) (n := 0) (xs := []) (v := .slice none 0 0) (by rfl) _ _ 66 (by rfl) Tryz.underlying66 infoFile rfl (by decide) (by rfl) #[.pointer (some ⟨fb, 0, none⟩)] rfl (by simp [Value.oneCell']) (by rfl) ?_ ?_ ?_ (by unfold maxLen; omega) (by omega) ?_
     · repeat (first | ((with_reducible refine blk_new ?_); (focus (simp; done))) | with_reducible refine blk_drew ?_ | with_reducible refine blk_alloc ?_)
     · repeat (first | with_reducible exact HO1.out | with_reducible refine own_drew ?_ | with_reducible refine World.ownsRow.alloc ?_ _)
     · refine Nat.le_trans hwz (Below.size (B := W.heap.size) (w := W) ?_)
       repeat (first | with_reducible exact Below.refl _ _ | with_reducible refine Below.drew ?_ | with_reducible refine below_alloc ?_ _)
     intro a1 c1 w5 hq hgr hb
     have hal5 : ∀ g, g < W.heap.size → w5.heap[g]? = W.heap[g]? := fun g hg => (hgr.block g (Nat.lt_of_lt_of_le hg (Below.size (B := W.heap.size) (w := W) (by repeat (first | with_reducible exact Below.refl _ _ | with_reducible refine Below.drew ?_ | with_reducible refine below_alloc ?_ _)))) (by simp [Value.ownBlock])).trans (Below.block (B := W.heap.size) (w := W) (by repeat (first | with_reducible exact Below.refl _ _ | with_reducible refine Below.drew ?_ | with_reducible refine below_alloc ?_ _)) g hg)
     have hd5 := HD1.out.blk (hal5 db HD1.out.lt)
     have x15 := hd5.c1
     have y15 := hd5.fz 1
     have hc5 : Cell1 w5 dc 25 (.pointer (some ⟨db, 0, none⟩)) := (hal5 dc HC1.out.lt).trans HC1.out
     have z15 := hc5.cell
     clear hc5
     have HQ5 := Lib.hid hq
     have HB5 : Hid (Below B W w5) := Below.trans (by repeat (first | with_reducible exact Below.refl _ _ | with_reducible refine Below.drew ?_ | with_reducible refine Below.alloc ?_ hwz _)) hb
     have HAL5 := Lib.hid hal5
     have HD5 := Lib.hid hd5
     clear hq hgr hb hal5 hd5)
  all_goals
    refine NoPanic.normal ?_
    have hd6 := HD5.out.s1 (.slice a1 1 c1)
    have hm6 : MapN (w5.setCell ⟨db, 1, none⟩ (.slice a1 1 c1)) mb [] := (HM1.out.blk (HAL5.out mb HM1.out.lt)).set (p := ⟨db, 1, none⟩) HD5.out _
    have hl6 : MapN (w5.setCell ⟨db, 1, none⟩ (.slice a1 1 c1)) lb [] := (HL1.out.blk (HAL5.out lb HL1.out.lt)).set (p := ⟨db, 1, none⟩) HD5.out _
    have hf5 : w5.heap[fb]? = some (.cells #[.slice none 0 0, .int .i64 0] 135 (0, 0)) := (HAL5.out fb (lt_of_block HF0.out)).trans HF0.out
    have hf6 : (w5.setCell ⟨db, 1, none⟩ (.slice a1 1 c1)).heap[fb]? = some (.cells #[.slice none 0 0, .int .i64 0] 135 (0, 0)) := (Below.heap_setCell w5 ⟨db, 1, none⟩ _ fb (blk_types hf5 HD5.out (by decide))).trans hf5
    have hc5 : Cell1 w5 dc 25 (.pointer (some ⟨db, 0, none⟩)) := (HAL5.out dc HC1.out.lt).trans HC1.out
    have hn5 : Cell1 w5 nc 9 (.string nm) := (HAL5.out nc HN1.out.lt).trans HN1.out
    have hc6 := hc5.far (p := ⟨db, 1, none⟩) (blk_types hc5 HD5.out (by decide)) (.slice a1 1 c1)
    have hn6 := hn5.far (p := ⟨db, 1, none⟩) (blk_types hn5 HD5.out (by decide)) (.slice a1 1 c1)
    have ho6 : (w5.setCell ⟨db, 1, none⟩ (.slice a1 1 c1)).ownsRow B 129 1 (.slice a1 1 c1) 1 [.pointer (some ⟨fb, 0, none⟩)] := own_same HQ5.out (fun g cs fr _ hbk => Below.heap_setCell w5 ⟨db, 1, none⟩ _ g (blk_types hbk HD5.out (by decide)))
    have hb6 : Below B w (w5.setCell ⟨db, 1, none⟩ (.slice a1 1 c1)) := (HB1.out.trans HB5.out).setCell (p := ⟨db, 1, none⟩) hB1 _
    have hk6 : Keeps dts w (w5.setCell ⟨db, 1, none⟩ (.slice a1 1 c1)) := (HK1.out.trans (keeps_old HAL5.out)).trans (Keeps.setCell (p := ⟨db, 1, none⟩) HD5.out (by decide) _)
    clear x15 y15 z15 x1 y1 z1 z2 x1a z1a HD5 HAL5 HB5 HQ5 hf5 hc5 hn5
    generalize (w5.setCell ⟨db, 1, none⟩ (.slice a1 1 c1)) = W6 at *
    have hbw6 : B ≤ W6.heap.size := Nat.le_trans H.out.Bw hb6.size
    have hal7 := below_alloc (Below.refl W6.heap.size W6) (.cells #[.string nm, .pointer (some ⟨fb, 0, none⟩)] 138)
    have HRN := Lib.hid (rename_one B db W6.heap.size nm fb room (.slice a1 1 c1) mb lb (W6.alloc (.cells #[.string nm, .pointer (some ⟨fb, 0, none⟩)] 138)) (hd6.below hal7) (hm6.below hal7) hB2 hB1 (Nat.le_trans hbw6 hal7.size) (heap_alloc_new _ _))
    have hl7 := hl6.below hal7
    have hf7 := blk_alloc (o := .cells #[.string nm, .pointer (some ⟨fb, 0, none⟩)] 138) hf6
    have ho7 := ho6.alloc (.cells #[.string nm, .pointer (some ⟨fb, 0, none⟩)] 138)
    have hd7 := hd6.below hal7
    have hm7 := hm6.below hal7
    have hb7 := hb6.trans ((Below.refl B W6).alloc hbw6 (.cells #[.string nm, .pointer (some ⟨fb, 0, none⟩)] 138))
    have hk7 := hk6.trans (keeps_alloc0 (ts := dts) W6 (.cells #[.string nm, .pointer (some ⟨fb, 0, none⟩)] 138))
    have HZ := Lib.hid (And.intro hl7 (And.intro hf7 (And.intro ho7 (And.intro hd7 (And.intro hm7 (And.intro hb7 hk7))))))
    have q1 := hc6.cell
    have q2 := hn6.cell
    clear hl7 hf7 ho7 hd7 hm7 hb7 hk7 hd6 hm6 hl6 hf6 hc6 hn6 ho6 hb6 hk6 hal7
    go_wp2_with fail
    refine HRN.out.mono ?_
    rintro e w8 ⟨rfl, ⟨qv, hd8⟩, hm8, hb8, hk8, hg8⟩
    obtain ⟨hl7, hf7, ho7, hd7, hm7, hb7, hk7⟩ := HZ.out
    have hl8 : MapN w8 lb [] := hl7.blk (hg8 lb (fun e => hl7.ne hd7 e) (fun e => hne e.symm) hl7.lt)
    have hf8 : w8.heap[fb]? = some (.cells #[.slice none 0 0, .int .i64 0] 135 (0, 0)) := (hg8 fb (blk_types hf7 hd7 (by decide)) (fun e => hm7.ne hf7 e.symm) (lt_of_block hf7)).trans hf7
    have ho8 : w8.ownsRow B 129 1 (.slice a1 1 c1) 1 [.pointer (some ⟨fb, 0, none⟩)] := own_same ho7 (fun g cs fr _ hbk => hg8 g (blk_types hbk hd7 (by decide)) (fun e => hm7.ne hbk e.symm) (lt_of_block hbk))
    have HH := Lib.hid (And.intro hl8 (And.intro hf8 (And.intro ho8 (And.intro hd8 (And.intro hm8 (And.intro (hb7.trans hb8) (hk7.trans hk8)))))))
    clear hl8 hf8 ho8 hd8 hm8 hb8 hk8 hg8 hl7 hf7 ho7 hd7 hm7 hb7 hk7 q1 q2
    go_wp2_with fail
    go_end0
    obtain ⟨hl8, hf8, ho8, hd8, hm8, hb8, hk8⟩ := HH.out
    exact ⟨rfl, ⟨fb, ⟨a1, c1, mb, lb, qv, hd8, ho8, hm8, hl8, hf8, hB1, hB2, hB3, hne, hfB⟩⟩, hb8, hk8⟩
end Go.Proofs.YtpihmjdljbienaaGreatDoor.Dw

/- The walks of a disk of one file: Create, SyncDir, Cut. -/
namespace Go.Proofs.YtpihmjdljbienaaGreatDoor.Dw
open Go.RowKit
open B En
set_option linter.unusedVariables false

theorem call_enter {P : Program} {f : FuncId} {fn : Func} {c : Code} (hf : P.funcs[f]? = some fn) (hname : (fn.name == "runtime.NumGoroutine") = false) (hb : fn.body = some c) (args : Array Value) (w : World) :
    Sem.run P (callFunc f args) w = .ok (.enter f args) w := by
  have h1 : fn.name ≠ "runtime.NumGoroutine" := by simpa using hname
  simp [callFunc, hf, h1, hb]
theorem DNew.drew {B db room : Nat} {w : World} (h : DNew B db room w) : DNew B db room w.drew := ⟨h.ex⟩
set_option maxHeartbeats 800000 in
set_option maxRecDepth 100000 in
theorem create_any (B db : Nat) (nm : ByteArray) (h0 : nm.size ≠ 0) (h1 : nm.size ≤ 64) (room : Nat) (w : World) (h : DNew B db room w) (hBw : B ≤ w.heap.size) :
    Calls Tryz.prog 20 #[.pointer (some ⟨db, 0, none⟩), .string nm] w fun e w' => e = .returned (.int .i64 0) ∧ (∃ fb, D0 B db fb nm room w') ∧ Below B w w' ∧ Keeps dts w w' := by
  have hal := below_alloc (below_alloc (Below.refl w.heap.size w) (.cells #[.pointer (some ⟨db, 0, none⟩)] 25)) (.cells #[.string nm] 9)
  have hd1 := h.below hal
  have hc1 : Cell1 ((w.alloc (.cells #[.pointer (some ⟨db, 0, none⟩)] 25)).alloc (.cells #[.string nm] 9)) w.heap.size 25 (.pointer (some ⟨db, 0, none⟩)) := blk_alloc (heap_alloc_new _ _)
  have hn1 : Cell1 ((w.alloc (.cells #[.pointer (some ⟨db, 0, none⟩)] 25)).alloc (.cells #[.string nm] 9)) (w.heap.size + 1) 9 (.string nm) := blk_new (by simp)
  have hb1 : Below B w ((w.alloc (.cells #[.pointer (some ⟨db, 0, none⟩)] 25)).alloc (.cells #[.string nm] 9)) := ((Below.refl B w).alloc hBw _).alloc (by simp; omega) _
  have hk1 : Keeps dts w ((w.alloc (.cells #[.pointer (some ⟨db, 0, none⟩)] 25)).alloc (.cells #[.string nm] 9)) := Keeps.below hal
  generalize hW : (w.alloc (.cells #[.pointer (some ⟨db, 0, none⟩)] 25)).alloc (.cells #[.string nm] 9) = W at hd1 hc1 hn1 hb1 hk1
  have HW := Lib.hid hW
  have hbW : B ≤ W.heap.size := Nat.le_trans hBw hb1.size
  obtain ⟨mb, lb, hd, hm, hl, hB1, hB2, hB3, hne⟩ := hd1.ex
  have HFI := Lib.hid (find_no db mb [] nm (by simp) W hd.c11 hd.c2 hm)
  have HGO := Lib.hid (good_any nm h0 h1 W)
  have HLN := fun ty => hm.len_ ty
  have c2 := hd.c2
  have q1 := hc1.cell
  have q2 := hn1.cell
  have HCH := Lib.hid (change_pass db 72 #[.pointer (some ⟨w.heap.size, 0, none⟩), .pointer (some ⟨w.heap.size + 1, 0, none⟩)] true 0 (by omega) (by omega) (fun w' => (∃ fb, D0 B db fb nm room w') ∧ Below B W w' ∧ Keeps dts W w') W hd.c5 hd.c8 (hd.fz 5)
    (fun W => call_enter Tryz.func72 rfl rfl _ W)
    (fun V hV => by
      rcases hV with ⟨rfl, _⟩ | ⟨_, h⟩
      · exact (create1_any B db nm room w.heap.size (w.heap.size + 1) W.drew ⟨hd1.drew, hc1, hn1, hbW⟩).mono fun e w' ⟨h1, h2, h3, h4⟩ => ⟨h1, h2, ⟨h3.os, h3.tape, h3.output, h3.size, h3.block⟩, h4⟩
      · exact absurd rfl h))
  have HBK := Lib.hid (And.intro hb1 hk1)
  have hmf : ∀ (fn : Fn) (first cap : Array Value) (w : World), (Instr.makeFunc fn first cap).run Tryz.prog w = .ok (.func fn first cap) w := fun _ _ _ _ => rfl
  clear hd hm hl hd1 hc1 hn1 hb1 hk1 h hal
  go_enter Tryz.func20, Tryz.ntmps20
  go_wp2_with fail
  refine HFI.out.mono ?_
  rintro e w1 ⟨rfl, hw1⟩
  subst hw1
  go_wp2_with fail
  refine HGO.out.mono ?_
  rintro e w2 ⟨rfl, hw2⟩
  subst hw2
  go_wp2_with fail
  refine HCH.out.mono ?_
  rintro e w3 ⟨rfl, hf3, hb3, hk3⟩
  have HZ := Lib.hid (And.intro hf3 (And.intro (HBK.out.1.trans hb3) (HBK.out.2.trans hk3)))
  clear hf3 hb3 hk3
  go_wp2_with fail
  go_ret
  exact ⟨rfl, HZ.out.1, HZ.out.2.1, HZ.out.2.2⟩

/-- bytes that can be read -/
def Rd (w : World) (a : Option Addr) (l : List UInt8) : Prop := l = [] ∨ ∃ g rest fr, a = some ⟨g, 0, none⟩ ∧ w.heap[g]? = some (.cells (l.map bv ++ rest).toArray 5 fr)
theorem Rd.below {w w' : World} {a : Option Addr} {l : List UInt8} (h : Rd w a l) (k : Below w.heap.size w w') : Rd w' a l := by
  rcases h with h | ⟨g, rest, fr, h1, h2⟩
  · exact .inl h
  · exact .inr ⟨g, rest, fr, h1, (k.block g (lt_of_block h2)).trans h2⟩
theorem Rd.take {w : World} {a : Option Addr} {l : List UInt8} (h : Rd w a l) (k : Nat) : Rd w a (l.take k) := by
  rcases h with h | ⟨g, rest, fr, h1, h2⟩
  · subst h; simp [Rd]
  · refine .inr ⟨g, (l.drop k).map bv ++ rest, fr, h1, ?_⟩
    rw [h2, ← List.append_assoc, ← List.map_append, List.take_append_drop]
theorem Rd.of_own {w : World} {B n c : Nat} {a : Option Addr} {l : List UInt8} (h : w.ownsRow B 5 1 (.slice a n c) n (l.map bv)) : Rd w a l := by
  have hl := h.1
  simp at hl
  rcases h.2 with ⟨hv, h0⟩ | ⟨g, cap, cur, hv, hg, hb, hn, hm, hs, ht⟩
  · cases hv
    exact .inl (List.eq_nil_of_length_eq_zero (by omega))
  · cases hv
    refine .inr ⟨g, cur.toList.drop n, (0, 0), rfl, ?_⟩
    rw [hb]
    congr 2
    have h9 : cur.toList.take n = l.map bv := by simpa using ht
    rw [← h9, List.take_append_drop]
/-- numbers that can be read -/
def Rw (w : World) (a : Option Addr) (l : List Int) : Prop := l = [] ∨ ∃ g cs fr, a = some ⟨g, 0, none⟩ ∧ w.heap[g]? = some (.cells cs 3 fr) ∧ (∀ i, i < l.length → w.cell? ⟨g, i, none⟩ = some (.int .i64 (l.getD i 0)))
theorem Rw.blk {w w' : World} {a : Option Addr} {l : List Int} (h : Rw w a l) (hb : ∀ (g : Nat) (cs : Array Value) (fr : Nat × Nat), w.heap[g]? = some (Obj.cells cs 3 fr) → w'.heap[g]? = w.heap[g]?) : Rw w' a l := by
  rcases h with h | ⟨g, cs, fr, h1, h2, h3⟩
  · exact .inl h
  · have e := hb g cs fr h2
    refine .inr ⟨g, cs, fr, h1, e.trans h2, fun i hi => ?_⟩
    rw [← h3 i hi]
    simp only [World.cell?, e]
theorem Rw.below {w w' : World} {a : Option Addr} {l : List Int} (h : Rw w a l) (k : Below w.heap.size w w') : Rw w' a l := h.blk fun g _ _ hg => k.block g (lt_of_block hg)
theorem Rw.row {w : World} {a : Option Addr} {l : List Int} (h : Rw w a l) : Row w a l.length (fun i => .int .i64 (l.getD i 0)) := by
  rcases h with h | ⟨g, cs, fr, h1, h2, h3⟩
  · subst h; exact .inl rfl
  · refine .inr ⟨g, 0, h1, by simpa using lt_of_block h2, fun i hi => ?_⟩
    rw [Nat.zero_add]; exact h3 i hi
theorem Rw.ne {w : World} {a : Option Addr} {l : List Int} (h : Rw w a l) {b o : Nat} (ha : a = some ⟨b, o, none⟩) (hl : 0 < l.length) {g : Nat} {cs : Array Value} {t : TypeId} {fr : Nat × Nat} (hg : w.heap[g]? = some (.cells cs t fr)) (ht : 3 ≠ t) : b ≠ g := by
  rcases h with h | ⟨g', cs', fr', h1, h2, h3⟩
  · subst h; simp at hl
  · rw [h1] at ha; cases ha
    exact blk_types h2 hg ht
/-- a disk with one file, which lasts under its name -/
structure D1 (B db fb : Nat) (nm : ByteArray) (room : Nat) (data : List UInt8) (lasts left : Nat) (cn : Int) (cb : List Int) (off own : Bool) (w : World) : Prop where
  ex : ∃ fa fc mb lb ca cc a c, DRow w db room (.slice fa 1 fc) mb lb (.slice none 0 0) left cn (.slice ca cb.length cc) off ∧ w.ownsRow B 129 1 (.slice fa 1 fc) 1 [.pointer (some ⟨fb, 0, none⟩)] ∧ MapN w mb [(nm, fb)] ∧ MapN w lb [(nm, fb)] ∧
    w.heap[fb]? = some (.cells #[.slice a data.length c, .int .i64 lasts] 135 (0, 0)) ∧ Rd w a data ∧ (own = true → w.ownsRow B 5 1 (.slice a data.length c) data.length (data.map bv)) ∧ data.length ≤ c ∧ c ≤ 9223372036854775807 ∧ Rw w ca cb
  db_ : B ≤ db
  fb_ : B ≤ fb
  le : lasts ≤ data.length

theorem D0.blk0 {B db fb room : Nat} {nm : ByteArray} {w w' : World} (h : D0 B db fb nm room w) (k : Below w.heap.size w w') : D0 B db fb nm room w' := by
  obtain ⟨fa, fc, mb, lb, qv, h1, h2, h3, h4, h5, h6⟩ := h.ex
  exact ⟨fa, fc, mb, lb, qv, h1.below k, own_below h2 k, h3.below k, h4.below k, (k.block fb (lt_of_block h5)).trans h5, h6⟩
theorem keep2Dr {W : World} {p q : Addr} {x y : Value} (h : W.cell? p = some x ∧ W.cell? q = some y) : W.drew.cell? p = some x ∧ W.drew.cell? q = some y := h
theorem keep2S {W : World} {dc db o : Nat} {x y v : Value} (h : W.cell? ⟨dc, 0, none⟩ = some x ∧ W.cell? ⟨db, 2, none⟩ = some y) (h1 : dc ≠ db) (h2 : o ≠ 2) :
    (W.setCell ⟨db, o, none⟩ v).cell? ⟨dc, 0, none⟩ = some x ∧ (W.setCell ⟨db, o, none⟩ v).cell? ⟨db, 2, none⟩ = some y := by
  refine ⟨(World.cell?_setCell_other _ _ _ _ ?_).trans h.1, (World.cell?_setCell_other _ _ _ _ ?_).trans h.2⟩
  · intro e; have := congrArg Addr.block e; simp at this; omega
  · intro e; have := congrArg Addr.off e; simp at this; omega
set_option maxHeartbeats 1600000 in
set_option maxRecDepth 100000 in
theorem syncdir1_any (B db fb : Nat) (nm : ByteArray) (room dc : Nat) (w : World) (h : D0 B db fb nm room w) (hc : Cell1 w dc 25 (.pointer (some ⟨db, 0, none⟩))) (hBw : B ≤ w.heap.size) :
    Calls Tryz.prog 93 #[.pointer (some ⟨dc, 0, none⟩)] w fun e w' => e = .returned (.tuple #[]) ∧ D1 B db fb nm room [] 0 0 0 [] false true w' ∧ Below B w w' ∧ Keeps dts w w' := by
  obtain ⟨fa, fc, mb, lb, qv, hd, ho, hm, hl, hf, hB1, hB2, hB3, hne, hB4⟩ := h.ex
  obtain ⟨es, ck, hmb, hma⟩ := hm
  have hb1 : Below w.heap.size w (w.alloc (.map es ck)) := below_alloc (Below.refl _ _) _
  have hd5 := hd.below hb1
  have ho5 := ho.alloc (.map es ck)
  have hm5 : MapN (w.alloc (.map es ck)) mb [(nm, fb)] := ⟨es, ck, blk_alloc hmb, hma⟩
  have hn5 : MapN (w.alloc (.map es ck)) w.heap.size [(nm, fb)] := ⟨es, ck, heap_alloc_new _ _, hma⟩
  have hf5 := blk_alloc (o := .map es ck) hf
  have hc5 := hc.below hb1
  have HD5 := Lib.hid hd5
  have HO5 := Lib.hid ho5
  have HM5 := Lib.hid hm5
  have HN5 := Lib.hid hn5
  have HF5 := Lib.hid hf5
  have HB := Lib.hid (And.intro ((Below.refl B w).alloc hBw (.map es ck)) (keeps_alloc0 (ts := dts) w (.map es ck)))
  have HCL := Lib.hid (clone_any mb es ck w.drew hmb)
  have hcd : dc ≠ db := blk_types hc hd (by decide)
  have HS0 : Hid (w.drew.cell? ⟨dc, 0, none⟩ = some (.pointer (some ⟨db, 0, none⟩)) ∧ w.drew.cell? ⟨db, 2, none⟩ = some (.map (some mb))) := ⟨hc.cell, hd.c2⟩
  have HS5 : Hid ((w.alloc (.map es ck)).cell? ⟨dc, 0, none⟩ = some (.pointer (some ⟨db, 0, none⟩)) ∧ (w.alloc (.map es ck)).cell? ⟨db, 2, none⟩ = some (.map (some mb))) := ⟨hc5.cell, hd5.c2⟩
  have x0 := hc.cell
  have x2 := hd.c2
  have y0 := hc5.cell
  have y3 := hd5.c3
  have y4 := hd5.c4
  have y3f := hd5.fz 3
  have y4f := hd5.fz 4
  clear hd ho hl hf hc hmb hma hd5 ho5 hm5 hn5 hf5 hc5 hb1 h
  go_enter Tryz.func93, Tryz.ntmps93
  go_wp2_with fail
  go_region_held3 (fun w' => w'.cell? ⟨dc, 0, none⟩ = some (.pointer (some ⟨db, 0, none⟩)) ∧ w'.cell? ⟨db, 2, none⟩ = some (.map (some mb)))
    (repeat (first | with_reducible exact HS0.out | with_reducible exact HS5.out | with_reducible refine keep2Dr ?_ | with_reducible refine keep2S ?_ hcd (by decide)))
    (first | (go_at_call 94; (with_reducible refine HCL.out.mono ?_); rintro e w5 ⟨rfl, rfl⟩))
  go_end0
  have hd6 := (HD5.out.s3 w.heap.size).s4 (.slice none 0 0)
  have hg6 : ∀ g, g ≠ db → (((w.alloc (.map es ck)).setCell ⟨db, 3, none⟩ (.map (some w.heap.size))).setCell ⟨db, 4, none⟩ (.slice none 0 0)).heap[g]? = (w.alloc (.map es ck)).heap[g]? := fun g hg => (Below.heap_setCell _ ⟨db, 4, none⟩ _ g hg).trans (Below.heap_setCell _ ⟨db, 3, none⟩ _ g hg)
  refine ⟨rfl, ⟨⟨fa, fc, mb, w.heap.size, none, 0, none, 0, hd6, own_same HO5.out (fun g cs fr _ hbk => hg6 g (blk_types hbk HD5.out (by decide))), HM5.out.blk (hg6 mb (fun e => HM5.out.ne HD5.out e)), HN5.out.blk (hg6 _ (fun e => HN5.out.ne HD5.out e)), (hg6 fb (blk_types HF5.out HD5.out (by decide))).trans HF5.out, .inl rfl, fun _ => World.ownsRow_nil _ _ _ _, by simp, by omega, .inl rfl⟩, hB1, hB4, by simp⟩, ?_, ?_⟩
  · exact ((HB.out.1.setCell (p := ⟨db, 3, none⟩) hB1 _).setCell (p := ⟨db, 4, none⟩) hB1 _).drew
  · exact HB.out.2.trans ((Keeps.setCell (p := ⟨db, 3, none⟩) HD5.out (by decide) _).trans (Keeps.setCell (p := ⟨db, 4, none⟩) (HD5.out.s3 _) (by decide) _))

set_option maxHeartbeats 800000 in
set_option maxRecDepth 100000 in
theorem syncdir_any (B db fb : Nat) (nm : ByteArray) (room : Nat) (w : World) (h : D0 B db fb nm room w) (hBw : B ≤ w.heap.size) :
    Calls Tryz.prog 32 #[.pointer (some ⟨db, 0, none⟩)] w fun e w' => e = .returned (.int .i64 0) ∧ D1 B db fb nm room [] 0 0 0 [] false true w' ∧ Below B w w' ∧ Keeps dts w w' := by
  have hal := below_alloc (Below.refl w.heap.size w) (.cells #[.pointer (some ⟨db, 0, none⟩)] 25)
  have hd1 := h.blk0 hal
  have hc1 : Cell1 (w.alloc (.cells #[.pointer (some ⟨db, 0, none⟩)] 25)) w.heap.size 25 (.pointer (some ⟨db, 0, none⟩)) := heap_alloc_new _ _
  have hb1 : Below B w (w.alloc (.cells #[.pointer (some ⟨db, 0, none⟩)] 25)) := (Below.refl B w).alloc hBw _
  have hk1 : Keeps dts w (w.alloc (.cells #[.pointer (some ⟨db, 0, none⟩)] 25)) := Keeps.below hal
  generalize hW : w.alloc (.cells #[.pointer (some ⟨db, 0, none⟩)] 25) = W at hd1 hc1 hb1 hk1
  have HW := Lib.hid hW
  have hbW : B ≤ W.heap.size := Nat.le_trans hBw hb1.size
  obtain ⟨fa, fc, mb, lb, qv, hd, _⟩ := hd1.ex
  have HMY := Lib.hid (may_on db W hd.c11)
  have q1 := hc1.cell
  have HCH := Lib.hid (change_pass db 93 #[.pointer (some ⟨w.heap.size, 0, none⟩)] false 0 (by omega) (by omega) (fun w' => D1 B db fb nm room [] 0 0 0 [] false true w' ∧ Below B W w' ∧ Keeps dts W w') W hd.c5 hd.c8 (hd.fz 5)
    (fun W => call_enter Tryz.func93 rfl rfl _ W)
    (fun V hV => by
      rcases hV with ⟨rfl, _⟩ | ⟨_, h⟩
      · exact (syncdir1_any B db fb nm room w.heap.size W.drew ⟨hd1.ex⟩ hc1 hbW).mono fun e w' ⟨h1, h2, h3, h4⟩ => ⟨h1, h2, ⟨h3.os, h3.tape, h3.output, h3.size, h3.block⟩, h4⟩
      · exact absurd rfl h))
  have HBK := Lib.hid (And.intro hb1 hk1)
  have hmf : ∀ (fn : Fn) (first cap : Array Value) (w : World), (Instr.makeFunc fn first cap).run Tryz.prog w = .ok (.func fn first cap) w := fun _ _ _ _ => rfl
  clear hd hd1 hc1 hb1 hk1 h hal
  go_enter Tryz.func32, Tryz.ntmps32
  go_wp2_with fail
  refine HMY.out.mono ?_
  rintro e w1 ⟨rfl, hw1⟩
  subst hw1
  go_wp2_with fail
  refine HCH.out.mono ?_
  rintro e w3 ⟨rfl, hf3, hb3, hk3⟩
  have HZ := Lib.hid (And.intro hf3 (And.intro (HBK.out.1.trans hb3) (HBK.out.2.trans hk3)))
  clear hf3 hb3 hk3
  go_wp2_with fail
  go_ret
  exact ⟨rfl, HZ.out.1, HZ.out.2.1, HZ.out.2.2⟩
end Go.Proofs.YtpihmjdljbienaaGreatDoor.Dw

/- The walk of a loss of power, on a disk of one file. -/
namespace Go.Proofs.YtpihmjdljbienaaGreatDoor.Dw
open Go.RowKit
open B En
set_option linter.unusedVariables false

theorem rest_1 (n : Int) (h0 : -9223372036854775808 ≤ n) (h1 : n ≤ 9223372036854775807) (w : World) : Calls Tryz.prog 98 #[.int .i64 n, .int .i64 1] w fun e w' => e = .returned (.int .i64 0) ∧ w = w' := by
  have h := rest_any n 1 (by omega) (by omega) h0 h1 w
  have h2 := restN_lt n 1 (by omega)
  have h3 : restN n 1 = 0 := by omega
  rw [h3] at h
  exact h
/-- blocks but one stay -/
theorem D1.parts {B db fb room lasts left : Nat} {nm : ByteArray} {data : List UInt8} {cn : Int} {cb : List Int} {off own : Bool} {w : World} (h : D1 B db fb nm room data lasts left cn cb off own w) : True := trivial

theorem map_ne_cells {w : World} {b g : Nat} {es : Array MapEntry} {ck : Nat} {cs : Array Value} {t : TypeId} {fr : Nat × Nat} (h1 : w.heap[b]? = some (.map es ck)) (h2 : w.heap[g]? = some (.cells cs t fr)) : b ≠ g := fun e => by
  subst e; rw [h1] at h2; cases h2
theorem row_far {w : World} {a : Option Addr} {n : Nat} {f : Nat → Value} (h : Row w a n f) {p : Addr} (hp : ∀ b o, a = some ⟨b, o, none⟩ → 0 < n → b ≠ p.block) (v : Value) : Row (w.setCell p v) a n f := by
  rcases h with h | ⟨b, off, h1, h2, h3⟩
  · exact .inl h
  · by_cases hn : 0 < n
    · refine .inr ⟨b, off, h1, by simpa [World.setCell] using h2, fun i hi => ?_⟩
      rw [World.cell?_setCell_other _ _ _ _ (fun e => hp b off h1 hn (by rw [e]))]
      exact h3 i hi
    · exact .inl (by omega)
theorem rd_far {w w' : World} {a : Option Addr} {l : List UInt8} {db : Nat} {cs : Array Value} {t : TypeId} {fr : Nat × Nat} (h : Rd w a l) (hd : w.heap[db]? = some (.cells cs t fr)) (ht : 5 ≠ t) (hfar : ∀ g, g ≠ db → w'.heap[g]? = w.heap[g]?) : Rd w' a l := by
  rcases h with h | ⟨g, rest, fr, h1, h2⟩
  · exact .inl h
  · exact .inr ⟨g, rest, fr, h1, (hfar g (blk_types h2 hd ht)).trans h2⟩
theorem drewN_cells (W : World) (n : Nat) : (W.drewN n).heap = W.heap := rfl
/-- what a file cut to its first bytes leaves as it was -/
theorem cut_turn {B db fb mb lb L lasts : Nat} {room : Int} {left cn : Int} {qv cv fv : Value} {off : Bool} {a : Option Addr} {c n : Nat} {nm : ByteArray} {data : List UInt8} {w W : World}
    (hd : DRow W db room fv mb lb qv left cn cv off) (ho : W.ownsRow B 129 1 fv 1 [.pointer (some ⟨fb, 0, none⟩)]) (hl : MapN W lb [(nm, fb)]) (hn : MapN W mb [(nm, fb)])
    (hf : W.heap[fb]? = some (.cells #[.slice a data.length c, .int .i64 lasts] 135 (0, 0))) (hrd : Rd W a data) (hb : Below B w W) (hk : Keeps dts w W) (hB : B ≤ fb) :
    let W5 := (((W.drewN n).setCell ⟨fb, 1, none⟩ (.int .i64 L)).setCell ⟨fb, 0, none⟩ (.slice a L L)).drew
    DRow W5 db room fv mb lb qv left cn cv off ∧ W5.ownsRow B 129 1 fv 1 [.pointer (some ⟨fb, 0, none⟩)] ∧ MapN W5 lb [(nm, fb)] ∧ MapN W5 mb [(nm, fb)] ∧
      W5.heap[fb]? = some (.cells #[.slice a L L, .int .i64 L] 135 (0, 0)) ∧ Rd W5 a data ∧ Below B w W5 ∧ Keeps dts w W5 := by
  intro W5
  have h1 : (W.drewN n).heap[fb]? = some (.cells #[.slice a data.length c, .int .i64 lasts] 135 (0, 0)) := hf
  have h2 : ((W.drewN n).setCell ⟨fb, 1, none⟩ (.int .i64 L)).heap[fb]? = some (.cells #[.slice a data.length c, .int .i64 L] 135 (0, 0)) := by rw [heap_setCell_same _ fb 1 _ _ _ h1]; rfl
  have h3 : W5.heap[fb]? = some (.cells #[.slice a L L, .int .i64 L] 135 (0, 0)) := by show (((W.drewN n).setCell ⟨fb, 1, none⟩ (.int .i64 L)).setCell ⟨fb, 0, none⟩ (.slice a L L)).heap[fb]? = _; rw [heap_setCell_same _ fb 0 _ _ _ h2]; rfl
  have far : ∀ g, g ≠ fb → W5.heap[g]? = W.heap[g]? := fun g hg => (Below.heap_setCell _ ⟨fb, 0, none⟩ _ g hg).trans (Below.heap_setCell (W.drewN n) ⟨fb, 1, none⟩ _ g hg)
  have hfd : db ≠ fb := blk_types hd hf (by decide)
  exact ⟨hd.blk (far _ hfd), own_same ho (fun g cs fr _ hbk => far _ (blk_types hbk hf (by decide))), hl.blk (far _ (hl.ne hf)), hn.blk (far _ (hn.ne hf)), h3,
    rd_far hrd hf (by decide) far, ((((show Below B w (W.drewN n) from ⟨hb.os, hb.tape, hb.output, hb.size, hb.block⟩).setCell (p := ⟨fb, 1, none⟩) hB _).setCell (p := ⟨fb, 0, none⟩) hB _).drew),
    ((hk.trans (Keeps.setCell (ts := dts) (w := W.drewN n) (p := ⟨fb, 1, none⟩) h1 (by decide) _)).trans (Keeps.setCell (ts := dts) (p := ⟨fb, 0, none⟩) h2 (by decide) _))⟩
set_option maxHeartbeats 3200000 in
set_option maxRecDepth 100000 in
theorem fail_any (B db fb : Nat) (nm : ByteArray) (room : Nat) (data : List UInt8) (lasts left : Nat) (cn : Int) (cb : List Int) (off own : Bool) (w : World) (h : D1 B db fb nm room data lasts left cn cb off own w) (hBw : B ≤ w.heap.size) (hdl : data.length ≤ 16777216)
    (names : Int) (hn0 : -9223372036854775808 ≤ names) (hn1 : names ≤ 9223372036854775807) (ba : Option Addr) (bn bc : Nat) (bz : List Int) (hbl : bz.length = bn) (hbn : bn ≤ 9223372036854775807) (hbz : ∀ x ∈ bz, -9223372036854775808 ≤ x ∧ x ≤ 9223372036854775807) (hbr : Row w ba bn (fun i => .int .i64 (bz.getD i 0)))
    (hba : ∀ b o, ba = some ⟨b, o, none⟩ → 0 < bn → b ≠ db ∧ b ≠ fb) :
    Calls Tryz.prog 46 #[.pointer (some ⟨db, 0, none⟩), .int .i64 names, .slice ba bn bc] w fun e w' => e = .returned (.tuple #[]) ∧ (∃ keep, lasts + keep ≤ data.length ∧ D1 B db fb nm room (data.take (lasts + keep)) (lasts + keep) 0 0 [] off false w') ∧ Below B w w' ∧ Keeps dts w w' := by
  obtain ⟨fa, fc, mb, lb, ca, cc, a, c, hd, ho, hm, hl, hf, hrd, _, hac, hc9, _⟩ := h.ex
  have hB1 := h.db_
  have hB4 := h.fb_
  have hle := h.le
  obtain ⟨es, ck, hlb, hla⟩ := hl
  have HR1 := Lib.hid (rest_1 names hn0 hn1 w.drew)
  have ew1 : IntKind.i64.wrap 1 = 1 := IntWalk.i64_in _ (by omega)
  have c4 := hd.c4
  have f4 := hd.fz 4
  have HZ := Lib.hid (And.intro hd (And.intro ho (And.intro hm (And.intro hlb (And.intro hf hrd)))))
  have HLA := Lib.hid hla
  have HBR := Lib.hid hbr
  have HBZ := Lib.hid hbz
  clear hd ho hm hlb hla hf hrd h hbr hbz
  go_enter Tryz.func46, Tryz.ntmps46
  go_wp2_with fail
  go_region_held3 (fun w' => w'.cell? ⟨db, 4, none⟩ = some (.slice none 0 0)) (first | exact c4)
    (first | (go_at_call 98; (with_reducible refine HR1.out.mono ?_); rintro e w3 ⟨rfl, rfl⟩))
  go_wp2_with fail
  refine wp_loop_rounds 1 ?_
  rw [rounds_succ]
  go_upto_region 6 with fail
  obtain ⟨hd, ho, hm, hlb, hf, hrd⟩ := HZ.out
  have far : ∀ (v : Value) g, g ≠ db → (w.setCell ⟨db, 4, none⟩ v).heap[g]? = w.heap[g]? := fun v g hg => Below.heap_setCell w ⟨db, 4, none⟩ v g hg
  have hd1 := hd.s4 (.slice none 0 0)
  have ho1 : (w.setCell ⟨db, 4, none⟩ (.slice none 0 0)).ownsRow B 129 1 (.slice fa 1 fc) 1 [.pointer (some ⟨fb, 0, none⟩)] := own_same ho (fun g cs fr _ hbk => far _ g (blk_types hbk hd (by decide)))
  have hlb1 : (w.setCell ⟨db, 4, none⟩ (.slice none 0 0)).heap[lb]? = some (.map es ck) := (far _ lb (map_ne_cells hlb hd)).trans hlb
  have hf1 : (w.setCell ⟨db, 4, none⟩ (.slice none 0 0)).heap[fb]? = some (.cells #[.slice a data.length c, .int .i64 lasts] 135 (0, 0)) := (far _ fb (blk_types hf hd (by decide))).trans hf
  have hrd1 : Rd (w.setCell ⟨db, 4, none⟩ (.slice none 0 0)) a data := rd_far hrd hd (by decide) (fun g hg => far _ g hg)
  have hb1 : Below B w (w.setCell ⟨db, 4, none⟩ (.slice none 0 0)).drew := ((Below.refl B w).setCell (p := ⟨db, 4, none⟩) hB1 _).drew
  have hk1 : Keeps dts w (w.setCell ⟨db, 4, none⟩ (.slice none 0 0)).drew := Keeps.setCell (p := ⟨db, 4, none⟩) hd (by decide) _
  have hbr1 : Row (w.setCell ⟨db, 4, none⟩ (.slice none 0 0)) ba bn (fun i => .int .i64 (bz.getD i 0)) := row_far HBR.out (p := ⟨db, 4, none⟩) (fun b o h1 h2 => (hba b o h1 h2).1) _
  clear hd ho hm hlb hf hrd far HZ c4 f4
  generalize hW : (w.setCell ⟨db, 4, none⟩ (.slice none 0 0)).drew = W1 at hb1 hk1 ⊢
  have hd1 : DRow W1 db room (.slice fa 1 fc) mb lb (.slice none 0 0) left cn (.slice ca cb.length cc) off := by rw [← hW]; exact hd1
  have ho1 : W1.ownsRow B 129 1 (.slice fa 1 fc) 1 [.pointer (some ⟨fb, 0, none⟩)] := by rw [← hW]; exact ho1
  have hlb1 : W1.heap[lb]? = some (.map es ck) := by rw [← hW]; exact hlb1
  have hf1 : W1.heap[fb]? = some (.cells #[.slice a data.length c, .int .i64 lasts] 135 (0, 0)) := by rw [← hW]; exact hf1
  have hrd1 : Rd W1 a data := by rw [← hW]; exact hrd1
  have hbr1 : Row W1 ba bn (fun i => .int .i64 (bz.getD i 0)) := by rw [← hW]; exact hbr1
  clear hW
  have HCL := Lib.hid (clone_any lb es ck W1 hlb1)
  have c3 := hd1.c3
  have hal := below_alloc (Below.refl W1.heap.size W1) (.map es ck)
  have hd2 := hd1.below hal
  have ho2 := ho1.alloc (.map es ck)
  have hl2 : MapN (W1.alloc (.map es ck)) lb [(nm, fb)] := ⟨es, ck, blk_alloc hlb1, HLA.out⟩
  have hn2 : MapN (W1.alloc (.map es ck)) W1.heap.size [(nm, fb)] := ⟨es, ck, heap_alloc_new _ _, HLA.out⟩
  have hf2 := blk_alloc (o := .map es ck) hf1
  have hrd2 := hrd1.below hal
  have hbr2 := hbr1.below hal
  have hbw1 : B ≤ W1.heap.size := Nat.le_trans hBw hb1.size
  have hb2 := hb1.trans ((Below.refl B W1).alloc hbw1 (.map es ck))
  have hk2 := hk1.trans (keeps_alloc0 (ts := dts) W1 (.map es ck))
  have HZ := Lib.hid (And.intro hd2 (And.intro ho2 (And.intro hl2 (And.intro hn2 (And.intro hf2 (And.intro hrd2 (And.intro hbr2 (And.intro hb2 hk2))))))))
  have c22 := hd2.c2
  have f22 := hd2.fz 2
  clear hd1 ho1 hlb1 hf1 hrd1 hbr1 hal hd2 ho2 hl2 hn2 hf2 hrd2 hbr2 hb1 hk1 hb2 hk2
  go_wp2_with fail
  refine HCL.out.mono ?_
  rintro e w2 ⟨rfl, rfl⟩
  go_upto_region 7 with fail
  obtain ⟨hd, ho, hl, hn, hf, hrd, hbr, hb, hk⟩ := HZ.out
  have far : ∀ (v : Value) g, g ≠ db → ((W1.alloc (.map es ck)).setCell ⟨db, 2, none⟩ v).heap[g]? = (W1.alloc (.map es ck)).heap[g]? := fun v g hg => Below.heap_setCell _ ⟨db, 2, none⟩ v g hg
  have hd3 := hd.s2 W1.heap.size
  have ho3 : ((W1.alloc (.map es ck)).setCell ⟨db, 2, none⟩ (.map (some W1.heap.size))).ownsRow B 129 1 (.slice fa 1 fc) 1 [.pointer (some ⟨fb, 0, none⟩)] := own_same ho (fun g cs fr _ hbk => far _ g (blk_types hbk hd (by decide)))
  have hl3 : MapN ((W1.alloc (.map es ck)).setCell ⟨db, 2, none⟩ (.map (some W1.heap.size))) lb [(nm, fb)] := hl.blk (far _ lb (fun e => hl.ne hd e))
  have hn3 : MapN ((W1.alloc (.map es ck)).setCell ⟨db, 2, none⟩ (.map (some W1.heap.size))) W1.heap.size [(nm, fb)] := hn.blk (far _ _ (fun e => hn.ne hd e))
  have hf3 : ((W1.alloc (.map es ck)).setCell ⟨db, 2, none⟩ (.map (some W1.heap.size))).heap[fb]? = some (.cells #[.slice a data.length c, .int .i64 lasts] 135 (0, 0)) := (far _ fb (blk_types hf hd (by decide))).trans hf
  have hrd3 : Rd ((W1.alloc (.map es ck)).setCell ⟨db, 2, none⟩ (.map (some W1.heap.size))) a data := rd_far hrd hd (by decide) (fun g hg => far _ g hg)
  have hbr3 : Row ((W1.alloc (.map es ck)).setCell ⟨db, 2, none⟩ (.map (some W1.heap.size))) ba bn (fun i => .int .i64 (bz.getD i 0)) := row_far hbr (p := ⟨db, 2, none⟩) (fun b o h1 h2 => (hba b o h1 h2).1) _
  have hb3 := hb.setCell (p := ⟨db, 2, none⟩) hB1 (.map (some W1.heap.size))
  have hk3 := hk.trans (Keeps.setCell (ts := dts) (p := ⟨db, 2, none⟩) hd (by decide) (.map (some W1.heap.size)))
  clear hd ho hl hn hf hrd hbr hb hk far HZ c22 f22 HCL
  generalize hmb : W1.heap.size = mb2 at *
  generalize hW : (W1.alloc (.map es ck)).setCell ⟨db, 2, none⟩ (.map (some mb2)) = W3 at *
  clear hW hmb
  obtain ⟨g, hg1, hg2⟩ : ∃ g, fa = some ⟨g, 0, none⟩ ∧ W3.cell? ⟨g, 0, none⟩ = some (.pointer (some ⟨fb, 0, none⟩)) := by
    rcases ho3.2 with ⟨hv, h0⟩ | ⟨g, c', cur, hv, hgB, hgb, _⟩
    · cases h0
    · cases hv
      exact ⟨g, rfl, ho3.cells (g := g) rfl 0 _ rfl⟩
  subst hg1
  have hfc := (Ew.cap_own ho3).1
  have c31 := hd3.c1
  have q0 := cell_of_row W3 fb 0 _ _ _ hf3
  have q1 := cell_of_row W3 fb 1 _ _ _ hf3
  simp at q0 q1
  have hfz : ∀ k, W3.frozen? ⟨fb, k, none⟩ = false := fun k => by simp [World.frozen?, hf3]
  have HZ := Lib.hid (And.intro hd3 (And.intro ho3 (And.intro hl3 (And.intro hn3 (And.intro hf3 (And.intro hrd3 (And.intro hbr3 (And.intro hb3 hk3))))))))
  clear hd3 ho3 hl3 hn3 hf3 hrd3 hbr3 hb3 hk3
  go_wp2_with fail
  refine wp_loop_rounds 2 ?_
  rw [rounds_succ]
  go_upto_if 59 with fail
  go_cut [10] (fun s10 wx => ∃ keep : Nat, s10 = .int .i64 keep ∧ lasts + keep ≤ data.length ∧ ∃ n : Nat, wx = W3.drewN n)
  case first =>
    by_cases h0 : bn = 0
    · subst h0
      go_wp2_with fail
      go_meet
      exact ⟨0, rfl, by omega, 0, rfl⟩
    · obtain ⟨b, o, hba2, _, hbc⟩ := HZ.out.2.2.2.2.2.2.1.at (by omega)
      have hx := hbc 0 (by omega)
      have hxb := HBZ.out (bz.getD 0 0) (by rw [List.getD_eq_getElem?_getD, List.getElem?_eq_getElem (by omega)]; exact List.getElem_mem _)
      generalize bz.getD 0 0 = x at hx hxb
      simp only [Nat.add_zero] at hx
      subst hba2
      obtain ⟨d, hdd⟩ : ∃ d, data.length - lasts = d := ⟨_, rfl⟩
      obtain ⟨m, hmd⟩ : ∃ m, d + 1 = m := ⟨_, rfl⟩
      have HR2 := Lib.hid (rest_any x m (by omega) (by omega) hxb.1 hxb.2 W3.drew)
      have hrl := restN_lt x m (by omega)
      generalize restN x m = keep at HR2 hrl
      have e2 : IntKind.i64.wrap ((data.length : Int) - (lasts : Int)) = (d : Int) := by rw [IntWalk.i64_in _ (by omega)]; omega
      have e3 : IntKind.i64.wrap ((d : Int) + 1) = (m : Int) := by rw [IntWalk.i64_in _ (by omega)]; omega
      have HD := Lib.hid (show data.length - lasts = d ∧ d + 1 = m from ⟨hdd, hmd⟩)
      have d0 : decide (0 < bn) = true := dt (by omega)
      have d0' : decide ((0 : Int) < (bn : Int)) = true := dt (by omega)
      have i1 : (0 : Int) < (bn : Int) := by omega
      have i2 : 0 < bn := by omega
      have i3 : ¬ ((bn : Int) = 0) := by omega
      have i4 : (0 : Int).tmod (bn : Int) = 0 := Int.zero_tmod _
      clear hdd hbc hmd
      go_wp2_with fail
      go_region_held3 (fun w' => w'.cell? ⟨b, o, none⟩ = some (.int .i64 x) ∧ w'.cell? ⟨fb, 0, none⟩ = some (.slice a data.length c) ∧ w'.cell? ⟨fb, 1, none⟩ = some (.int .i64 lasts)) (first | exact ⟨hx, q0, q1⟩)
        (first | (go_at_call 98; (with_reducible refine HR2.out.mono ?_); rintro e w3 ⟨rfl, rfl⟩))
      go_wp2_with fail
      all_goals go_meet
      all_goals exact ⟨keep, rfl, by have := HD.out.1; have := HD.out.2; omega, 1, rfl⟩
  case rest =>
  obtain ⟨keep, rfl, hkl, n, hwx⟩ := hcut
  obtain ⟨L, hL⟩ : ∃ L, lasts + keep = L := ⟨_, rfl⟩
  have eL : IntKind.i64.wrap ((lasts : Int) + (keep : Int)) = (L : Int) := by rw [IntWalk.i64_in _ (by omega)]; omega
  have r0 : wc.cell? ⟨fb, 0, none⟩ = some (.slice a data.length c) := by rw [hwx]; exact q0
  have r1 : wc.cell? ⟨fb, 1, none⟩ = some (.int .i64 lasts) := by rw [hwx]; exact q1
  have rz : ∀ k, wc.frozen? ⟨fb, k, none⟩ = false := fun k => by rw [hwx]; exact hfz k
  have rz1 := rz 1
  obtain ⟨hd, ho, hl, hn, hf, hrd, hbr, hb, hk⟩ := HZ.out
  have HT := Lib.hid (cut_turn (L := L) (n := n) hd ho hl hn hf hrd hb hk hB4)
  have hf4 : wc.heap[fb]? = some (.cells #[.slice a data.length c, .int .i64 lasts] 135 (0, 0)) := by rw [hwx]; exact hf
  have hf5 : (wc.setCell ⟨fb, 1, none⟩ (.int .i64 L)).heap[fb]? = some (.cells #[.slice a data.length c, .int .i64 L] 135 (0, 0)) := by rw [heap_setCell_same wc fb 1 _ _ _ hf4]; rfl
  have s0 := cell_of_row _ fb 0 _ _ _ hf5
  have s1 := cell_of_row _ fb 1 _ _ _ hf5
  simp at s0 s1
  have sz : (wc.setCell ⟨fb, 1, none⟩ (.int .i64 L)).frozen? ⟨fb, 0, none⟩ = false := by simp [World.frozen?, hf5]
  have HWX := Lib.hid hwx
  have HLL := Lib.hid hL
  have j1 : (0 : Int) ≤ (L : Int) := by omega
  have j2 : (L : Int) ≤ (data.length : Int) := by omega
  have j3 : (L : Int) ≤ (c : Int) := by omega
  have j4 : L ≤ c := by omega
  have j5 : L ≤ data.length := by omega
  clear q0 q1 hfz hd ho hl hn hf hrd hbr hb hk hf4 hf5 hwx hL rz
  go_upto_region 14 with fail
  generalize hW4 : wc.setCell ⟨fb, 1, none⟩ (.int .i64 L) = W4 at s0 s1 sz ⊢
  clear r0 r1 rz1
  go_still_tail 16, (by kernel_rfl)
  change wpList _ _ _ _ _ W4.drew
  go_upto_region 15 with fail
  obtain ⟨hd, ho, hl, hn, hf, hrd, hb, hk⟩ := HT.out
  rw [← HWX.out, hW4] at hd ho hl hn hf hrd hb hk
  have HLL := HLL.out
  clear HT HWX hW4 HZ HBR HBZ HR1 HLA
  generalize (W4.setCell ⟨fb, 0, none⟩ (.slice a L L)).drew = W5 at hd ho hl hn hf hrd hb hk ⊢
  have z5 := hd.fz 5
  have z6 := hd.fz 6
  have z7 := hd.fz 7
  have z8 := hd.fz 8
  have z9 := hd.fz 9
  have z10 := hd.fz 10
  have x5 := hd.c5
  have x6 := hd.c6
  have x7 := hd.c7
  have x8 := hd.c8
  have x9 := hd.c9
  have x10 := hd.c10
  have HZ := Lib.hid (And.intro hd (And.intro ho (And.intro hl (And.intro hn (And.intro hf (And.intro hrd (And.intro hb hk)))))))
  clear hd ho hl hn hf hrd hb hk
  go_wp2_with fail
  rw [rounds_succ]
  go_wp2_with fail
  go_end0
  obtain ⟨hd, ho, hl, hn, hf, hrd, hb, hk⟩ := HZ.out
  have e1 := hd.s5 0
  have e2 := e1.s6 0
  have e3 := e2.s7 (.slice none 0 0)
  have e4 := e3.s8
  have e5 := e4.s9
  have e6 := e5.s10
  have far : ∀ g, g ≠ db → ((((((W5.setCell ⟨db, 5, none⟩ (.int .i64 0)).setCell ⟨db, 6, none⟩ (.int .i64 0)).setCell ⟨db, 7, none⟩ (.slice none 0 0)).setCell ⟨db, 8, none⟩ (.int .i64 0)).setCell ⟨db, 9, none⟩ (.int .i64 0)).setCell ⟨db, 10, none⟩ (.slice none 0 0)).heap[g]? = W5.heap[g]? := fun g hg => by
    refine (Below.heap_setCell _ ⟨db, 10, none⟩ _ g hg).trans ((Below.heap_setCell _ ⟨db, 9, none⟩ _ g hg).trans ((Below.heap_setCell _ ⟨db, 8, none⟩ _ g hg).trans ((Below.heap_setCell _ ⟨db, 7, none⟩ _ g hg).trans ((Below.heap_setCell _ ⟨db, 6, none⟩ _ g hg).trans (Below.heap_setCell _ ⟨db, 5, none⟩ _ g hg)))))
  have g1 : ∀ v, Keeps dts W5 (W5.setCell ⟨db, 5, none⟩ v) := fun v => Keeps.setCell (ts := dts) (p := ⟨db, 5, none⟩) hd (by decide) v
  have hbz := ((((((hb.setCell (p := ⟨db, 5, none⟩) hB1 (.int .i64 0)).setCell (p := ⟨db, 6, none⟩) hB1 (.int .i64 0)).setCell (p := ⟨db, 7, none⟩) hB1 (.slice none 0 0)).setCell (p := ⟨db, 8, none⟩) hB1 (.int .i64 0)).setCell (p := ⟨db, 9, none⟩) hB1 (.int .i64 0)).setCell (p := ⟨db, 10, none⟩) hB1 (.slice none 0 0))
  have hkz := (((((hk.trans (Keeps.setCell (ts := dts) (p := ⟨db, 5, none⟩) hd (by decide) (.int .i64 0))).trans (Keeps.setCell (ts := dts) (p := ⟨db, 6, none⟩) e1 (by decide) (.int .i64 0))).trans (Keeps.setCell (ts := dts) (p := ⟨db, 7, none⟩) e2 (by decide) (.slice none 0 0))).trans (Keeps.setCell (ts := dts) (p := ⟨db, 8, none⟩) e3 (by decide) (.int .i64 0))).trans (Keeps.setCell (ts := dts) (p := ⟨db, 9, none⟩) e4 (by decide) (.int .i64 0))).trans (Keeps.setCell (ts := dts) (p := ⟨db, 10, none⟩) e5 (by decide) (.slice none 0 0))
  have hLd : (data.take (lasts + keep)).length = L := by rw [List.length_take]; omega
  refine ⟨rfl, ⟨keep, hkl, ⟨⟨some ⟨g, 0, none⟩, fc, mb2, lb, none, 0, a, L, e6, own_same ho (fun g cs fr _ hbk => far _ (blk_types hbk hd (by decide))), hn.blk (far _ (hn.ne hd)), hl.blk (far _ (hl.ne hd)), ?_, rd_far (hrd.take _) hd (by decide) far, (fun h => by cases h), ?_, ?_, .inl rfl⟩, hB1, hB4, ?_⟩⟩, hbz, hkz⟩
  · rw [far _ (blk_types hf hd (by decide)), hf, hLd, HLL]
  · omega
  · omega
  · omega
end Go.Proofs.YtpihmjdljbienaaGreatDoor.Dw

/- The walks of a disk's losses of power: Crash, Cut. -/
namespace Go.Proofs.YtpihmjdljbienaaGreatDoor.Dw
open Go.RowKit
open B En
set_option linter.unusedVariables false

/-! Crash -/
set_option maxHeartbeats 1600000 in
set_option maxRecDepth 100000 in
theorem crash_any (B db fb : Nat) (nm : ByteArray) (room : Nat) (data : List UInt8) (lasts left : Nat) (cn : Int) (cb : List Int) (off own : Bool) (w : World) (h : D1 B db fb nm room data lasts left cn cb off own w) (hBw : B ≤ w.heap.size) (hdl : data.length ≤ 16777216)
    (names : Int) (hn0 : -9223372036854775808 ≤ names) (hn1 : names ≤ 9223372036854775807) (ba : Option Addr) (bn bc : Nat) (bz : List Int) (hbl : bz.length = bn) (hbn : bn ≤ 9223372036854775807) (hbz : ∀ x ∈ bz, -9223372036854775808 ≤ x ∧ x ≤ 9223372036854775807) (hbr : Row w ba bn (fun i => .int .i64 (bz.getD i 0)))
    (hba : ∀ b o, ba = some ⟨b, o, none⟩ → 0 < bn → b ≠ db ∧ b ≠ fb) :
    Calls Tryz.prog 12 #[.pointer (some ⟨db, 0, none⟩), .int .i64 names, .slice ba bn bc] w fun e w' => e = .returned (.tuple #[]) ∧ (∃ keep, lasts + keep ≤ data.length ∧ D1 B db fb nm room (data.take (lasts + keep)) (lasts + keep) 0 0 [] false false w') ∧ Below B w w' ∧ Keeps dts w w' := by
  have HF := Lib.hid (fail_any B db fb nm room data lasts left cn cb off own w h hBw hdl names hn0 hn1 ba bn bc bz hbl hbn hbz hbr hba)
  have hB1 := h.db_
  clear h hbr
  go_enter Tryz.func12, Tryz.ntmps12
  go_wp2_with fail
  refine HF.out.mono ?_
  rintro e w1 ⟨rfl, ⟨keep, hk, h1⟩, hb, hks⟩
  obtain ⟨fa, fc, mb, lb, ca, cc, a, c, hd, ho, hm, hl, hf, hrd, hown, hac, hc9, hrw⟩ := h1.ex
  have hB4 := h1.fb_
  have x11 := hd.c11
  have z11 := hd.fz 11
  have HZ := Lib.hid (And.intro hd (And.intro ho (And.intro hm (And.intro hl (And.intro hf (And.intro hrd (And.intro hac (And.intro hc9 (And.intro hb hks)))))))))
  clear hd ho hm hl hf hrd hown hac hc9 hrw h1 hb hks
  go_wp2_with fail
  go_end0
  obtain ⟨hd, ho, hm, hl, hf, hrd, hac, hc9, hb, hks⟩ := HZ.out
  have far : ∀ g, g ≠ db → (w1.setCell ⟨db, 11, none⟩ (.bool false)).heap[g]? = w1.heap[g]? := fun g hg => Below.heap_setCell _ ⟨db, 11, none⟩ _ g hg
  exact ⟨rfl, ⟨keep, hk, ⟨⟨fa, fc, mb, lb, ca, cc, a, c, hd.s11 false, own_same ho (fun g cs fr _ hbk => far _ (blk_types hbk hd (by decide))), hm.blk (far _ (hm.ne hd)), hl.blk (far _ (hl.ne hd)),
    (far _ (blk_types hf hd (by decide))).trans hf, rd_far hrd hd (by decide) far, (fun h => by cases h), hac, hc9, .inl rfl⟩, hB1, hB4, Nat.le_of_eq (by rw [List.length_take]; omega)⟩⟩,
    hb.setCell (p := ⟨db, 11, none⟩) hB1 _, hks.trans (Keeps.setCell (ts := dts) (p := ⟨db, 11, none⟩) hd (by decide) _)⟩

/-! slices.Clone of numbers -/
def iv (x : Int) : Value := .int .i64 x
noncomputable def intI : TypeInfo := (Tryz.prog.info? 3).get (by kernel_rfl)
set_option maxHeartbeats 2000000 in
set_option maxRecDepth 100000 in
theorem clone_ints (ba : Option Addr) (bn bc : Nat) (bz : List Int) (hbl : bz.length = bn) (hbn : bn * 8 ≤ 140737488351232) (w : World) (hbr : Row w ba bn (fun i => .int .i64 (bz.getD i 0))) :
    Calls Tryz.prog 33 #[.slice ba bn bc] w fun e w' => ∃ a' c', e = .returned (.slice a' bn c') ∧ Rw w' a' bz ∧ Below w.heap.size w w' := by
  cases ba with
  | none =>
    have h0 : bn = 0 := by rcases hbr with h | ⟨_, _, h, _⟩; exact h; cases h
    subst h0
    have hz0 : bz = [] := List.eq_nil_of_length_eq_zero hbl
    have q22 : ∀ (w : World) (a : Option Addr) (n c n' c' : Nat), (binOp .eql 24 (.slice a n c) (.slice none n' c')).run Tryz.prog w = .ok (.bool a.isNone) w := fun w a n c n' c' => Lib.run_eql_slice_nil w _ _ a n c n' c' Tryz.underlying24
    clear hbr
    go_enter Tryz.func33, Tryz.ntmps33
    go_wp2_with fail
    go_ret
    exact ⟨none, 0, rfl, .inl hz0, Below.refl _ _⟩
  | some p =>
    have q22 : ∀ (w : World) (a : Option Addr) (n c n' c' : Nat), (binOp .eql 24 (.slice a n c) (.slice none n' c')).run Tryz.prog w = .ok (.bool a.isNone) w := fun w a n c n' c' => Lib.run_eql_slice_nil w _ _ a n c n' c' Tryz.underlying24
    have A : Aside (∀ j u, (bz.map iv)[j]? = some u → w.cell? (p.add j) = some u) := by
      intro j u hj
      rcases hbr with h | ⟨b, off, h1, h2, h3⟩
      · subst h; rw [List.eq_nil_of_length_eq_zero hbl] at hj; simp at hj
      · cases h1
        rw [List.getElem?_map, Option.map_eq_some_iff] at hj
        obtain ⟨x, hx, rfl⟩ := hj
        have hjl : j < bz.length := (List.getElem?_eq_some_iff.1 hx).1
        have := h3 j (by omega)
        simp only [List.getD_eq_getElem?_getD, hx, Option.getD_some] at this
        rw [Addr.add_lit]; exact this
    clear hbr
    go_enter Tryz.func33, Tryz.ntmps33
    go_wp2_with (at_builtin; refine wpList_append_own _ rfl _ _ 24 rfl w.heap.size 3 intI (.int .i64 0) 1 8 Tryz.underlying24 (by kernel_rfl) (by kernel_rfl) (by kernel_rfl) (by kernel_rfl) rfl (by decide) _ _ _ rfl (World.ownsRow_made w #[] 0 (Nat.le_refl _) (Nat.zero_le _) (by simp)) p bn bc (bz.map iv) rfl ?qc1 ?qc2 ?qc3 ?qc4 ?qc5 ?qc6 ?_)
    case qc1 => simp [hbl]
    case qc2 =>
      intro j u hj
      exact Lib.cell?_alloc_some _ (A.out j u hj)
    case qc3 =>
      intro u hu
      rw [List.mem_map] at hu
      obtain ⟨x, _, rfl⟩ := hu
      rfl
    case qc4 => unfold maxLen; omega
    case qc5 => omega
    case qc6 => simp
    intro v' w1 hown hgrow hnil
    go_wp2
    go_ret
    rcases hown.2 with ⟨hv, _⟩ | ⟨g, cap, cur, hv, _, hcur, _⟩
    · exact absurd hv hnil
    · subst hv
      refine ⟨_, _, rfl, .inr ⟨g, cur, _, rfl, hcur, fun i hi => ?_⟩, ((Below.refl _ w).alloc (Nat.le_refl _) _).grown hgrow (by simp) (by intro k hk; simp [Value.ownBlock] at hk; omega)⟩
      · have h := hown.cells rfl i (iv (bz.getD i 0)) (by rw [List.getElem?_map, List.getElem?_eq_getElem hi, List.getD_eq_getElem?_getD, List.getElem?_eq_getElem hi]; rfl)
        rw [Addr.add_lit, Nat.zero_add] at h; exact h

/-! Cut -/
set_option maxHeartbeats 1600000 in
set_option maxRecDepth 100000 in
theorem cut_any (B db fb : Nat) (nm : ByteArray) (room : Nat) (data : List UInt8) (lasts : Nat) (off own : Bool) (w : World) (h : D1 B db fb nm room data lasts 0 0 [] off own w) (hBw : B ≤ w.heap.size)
    (n names : Int) (hn0 : -9223372036854775808 ≤ n) (hn1 : n ≤ 9223372036854775807) (ba : Option Addr) (bn bc : Nat) (bz : List Int) (hbl : bz.length = bn) (hbn : bn * 8 ≤ 140737488351232) (hbr : Row w ba bn (fun i => .int .i64 (bz.getD i 0))) :
    Calls Tryz.prog 8 #[.pointer (some ⟨db, 0, none⟩), .int .i64 n, .int .i64 names, .slice ba bn bc] w fun e w' => e = .returned (.tuple #[]) ∧ D1 B db fb nm room data lasts (max 1 n).toNat names bz off own w' ∧ Below B w w' ∧ Keeps dts w w' := by
  have HC := Lib.hid (clone_ints ba bn bc bz hbl hbn w hbr)
  have hB1 := h.db_
  obtain ⟨m, hm⟩ : ∃ m : Nat, max (1 : Int) n = (m : Int) := ⟨(max 1 n).toNat, by omega⟩
  have H := Lib.hid h
  have hdlt : db < w.heap.size := by obtain ⟨fa, fc, mb, lb, ca, cc, a, c, hd, _⟩ := h.ex; exact hd.lt
  clear h hbr
  go_enter Tryz.func8, Tryz.ntmps8
  go_wp2_with fail
  refine HC.out.mono ?_
  rintro e w1 ⟨a', c', rfl, hrw, hb1⟩
  obtain ⟨fa, fc, mb, lb, ca, cc, a, c, hd, ho, hm, hl, hf, hrd, hown, hac, hc9, _⟩ := H.out.ex
  have hd1 := hd.below hb1
  have x5 := hd1.c5
  have x6 := hd1.c6
  have x7 := hd1.c7
  have z5 := hd1.fz 5
  have z6 := hd1.fz 6
  have z7 := hd1.fz 7
  have HZ := Lib.hid (And.intro hd1 (And.intro (own_below ho hb1) (And.intro (hm.below hb1) (And.intro (hl.below hb1) (And.intro ((hb1.block fb (lt_of_block hf)).trans hf) (And.intro (hrd.below hb1) (And.intro (fun h => own_below (hown h) hb1) (And.intro hac (And.intro hc9 hrw)))))))))
  have HB := Lib.hid hb1
  clear hd hd1 ho hm hl hf hrd hown hac hc9 hrw hb1
  go_wp2_with fail
  go_end0
  obtain ⟨hd, ho, hm', hl, hf, hrd, hown, hac, hc9, hrw⟩ := HZ.out
  have hb := HB.out
  have hms : (max (1 : Int) n).toNat = m := by omega
  rw [hms]
  have e1 := hd.s5 m
  have e2 := e1.s6 names
  have e3 := e2.s7 (.slice a' bn c')
  have far : ∀ g, g ≠ db → (((w1.setCell ⟨db, 5, none⟩ (.int .i64 m)).setCell ⟨db, 6, none⟩ (.int .i64 names)).setCell ⟨db, 7, none⟩ (.slice a' bn c')).heap[g]? = w1.heap[g]? := fun g hg =>
    (Below.heap_setCell _ ⟨db, 7, none⟩ _ g hg).trans ((Below.heap_setCell _ ⟨db, 6, none⟩ _ g hg).trans (Below.heap_setCell _ ⟨db, 5, none⟩ _ g hg))
  refine ⟨rfl, ⟨⟨fa, fc, mb, lb, a', c', a, c, hbl ▸ e3, own_same ho (fun g cs fr _ hbk => far _ (blk_types hbk hd (by decide))), hm'.blk (far _ (hm'.ne hd)), hl.blk (far _ (hl.ne hd)),
    (far _ (blk_types hf hd (by decide))).trans hf, rd_far hrd hd (by decide) far, fun h => own_same (hown h) (fun g cs fr _ hbk => far _ (blk_types hbk hd (by decide))), hac, hc9, hrw.blk fun g cs fr hbk => far _ (blk_types hbk hd (by decide))⟩, hB1, H.out.fb_, H.out.le⟩, ?_, ?_⟩
  · exact (((hb.mono hBw).setCell (p := ⟨db, 5, none⟩) hB1 _).setCell (p := ⟨db, 6, none⟩) hB1 _).setCell (p := ⟨db, 7, none⟩) hB1 _
  · exact (((Keeps.below hb).trans (Keeps.setCell (ts := dts) (p := ⟨db, 5, none⟩) hd (by decide) _)).trans (Keeps.setCell (ts := dts) (p := ⟨db, 6, none⟩) e1 (by decide) _)).trans (Keeps.setCell (ts := dts) (p := ⟨db, 7, none⟩) e2 (by decide) _)
end Go.Proofs.YtpihmjdljbienaaGreatDoor.Dw

/- The walks of a disk of one file: Used, Append, Sync, Read. -/
namespace Go.Proofs.YtpihmjdljbienaaGreatDoor.Dw
open Go.RowKit
open B En
set_option linter.unusedVariables false

/-! Used -/
theorem one_entry {w : World} {b fb : Nat} {nm : ByteArray} (h : MapN w b [(nm, fb)]) : ∃ e ck, w.heap[b]? = some (.map #[e] ck) ∧ e.key = .string nm ∧ e.val = .pointer (some ⟨fb, 0, none⟩) ∧ e.born < ck := by
  obtain ⟨es, ck, hb, ha, hn, hlt⟩ := h
  cases hes : es.toList with
  | nil => rw [hes] at ha; cases ha
  | cons e t =>
    rw [hes] at ha
    cases ha with
    | cons h1 h2 =>
      cases t with
      | cons _ _ => cases h2
      | nil =>
        have h3 : es = #[e] := by rw [← Array.toList_inj, hes]
        subst h3
        exact ⟨e, ck, hb, h1.1, h1.2, hlt e (by simp)⟩
theorem next_first (w : World) (ty : TypeId) (r b ck : Nat) (e : MapEntry) (hr : w.heap[r]? = some (.mapIter (some b) ck #[] ck)) (hb : w.heap[b]? = some (.map #[e] ck)) (he : e.born < ck) :
    (Instr.next (.pointer (some ⟨r, 0, none⟩)) false ty).run Tryz.prog w = .ok (.tuple #[.bool true, e.key, e.val]) (ChangeMaps.setBlock w r (.mapIter (some b) ck #[e.born] ck)) := by
  have h2 : ¬ ck ≤ e.born := by omega
  have hs := run_setObj_at (P := Tryz.prog) hr (.mapIter (some b) ck #[e.born] ck)
  simp [Instr.next, getObj, Sem.run, hr, hb, Result.andThen, he, choose, Question.forced, h2]
  rw [hs]
theorem next_second (w : World) (ty : TypeId) (r b ck : Nat) (e : MapEntry) (hr : w.heap[r]? = some (.mapIter (some b) ck #[e.born] ck)) (hb : w.heap[b]? = some (.map #[e] ck)) (he : e.born < ck) :
    (Instr.next (.pointer (some ⟨r, 0, none⟩)) false ty).run Tryz.prog w = .ok (.tuple #[.bool false]) w := by
  rcases run_next_at (P := Tryz.prog) w ty r b ck ck #[e.born] #[e] ck hr hb (by simpa using he) (Nat.le_refl _) with h | ⟨e', he', _⟩
  · exact h.2
  · simp [leftOf] at he'
theorem entry_first (w : World) (r b ck : Nat) (e : MapEntry) (hr : w.heap[r]? = some (.mapIter (some b) ck #[e.born] ck)) (hb : w.heap[b]? = some (.map #[e] ck)) :
    (Instr.entry (.pointer (some ⟨r, 0, none⟩))).run Tryz.prog w = .ok (.tuple #[e.key, e.val]) w :=
  run_entry_at (P := Tryz.prog) w r b ck #[] #[e] ck e hr hb (by simp) (by simp)
set_option maxHeartbeats 1600000 in
set_option maxRecDepth 100000 in
theorem used_any (B db fb : Nat) (nm : ByteArray) (room : Nat) (data : List UInt8) (lasts left : Nat) (cn : Int) (cb : List Int) (off own : Bool) (w : World) (h : D1 B db fb nm room data lasts left cn cb off own w) (hdl : data.length ≤ 16777216) :
    Calls Tryz.prog 74 #[.pointer (some ⟨db, 0, none⟩)] w fun e w' => e = .returned (.int .i64 data.length) ∧ Below w.heap.size w w' := by
  obtain ⟨fa, fc, mb, lb, ca, cc, a, c, hd, ho, hm, hl, hf, hrd, hown, hac, hc9, hrw⟩ := h.ex
  obtain ⟨e, ck, hmb, hk, hv, hbk⟩ := one_entry hm
  have hmr := run_range_map (P := Tryz.prog) w 65 9 129 mb #[e] ck Tryz.underlying65 hmb
  have hW : ∃ W, w.alloc (.mapIter (some mb) ck #[] ck) = W := ⟨_, rfl⟩
  have hmr1 : mb < w.heap.size := lt_of_block hmb
  have h1b : (w.alloc (.mapIter (some mb) ck #[] ck)).heap[mb]? = some (.map #[e] ck) := blk_alloc hmb
  have h1r : (w.alloc (.mapIter (some mb) ck #[] ck)).heap[w.heap.size]? = some (.mapIter (some mb) ck #[] ck) := heap_alloc_new _ _
  have hn1 := fun ty => next_first (w.alloc (.mapIter (some mb) ck #[] ck)) ty w.heap.size mb ck e h1r h1b hbk
  rw [hk, hv] at hn1
  have hbel : Below w.heap.size w (setB (w.alloc (.mapIter (some mb) ck #[] ck)) w.heap.size (.mapIter (some mb) ck #[e.born] ck)) := setB_below ((Below.refl _ w).alloc (Nat.le_refl _) _) (Nat.le_refl _) _
  have h2b : (setB (w.alloc (.mapIter (some mb) ck #[] ck)) w.heap.size (.mapIter (some mb) ck #[e.born] ck)).heap[mb]? = some (.map #[e] ck) := (setB_other _ _ _ _ (by omega)).trans h1b
  have h2r : (setB (w.alloc (.mapIter (some mb) ck #[] ck)) w.heap.size (.mapIter (some mb) ck #[e.born] ck)).heap[w.heap.size]? = some (.mapIter (some mb) ck #[e.born] ck) := setB_same _ (lt_of_block h1r)
  have h2f := (hbel.block fb (lt_of_block hf)).trans hf
  have he2 := entry_first _ w.heap.size mb ck e h2r h2b
  rw [hk, hv] at he2
  have hn2 := fun ty => next_second _ ty w.heap.size mb ck e h2r h2b hbk
  have x2 := hd.c2
  change ∀ ty, _ = Result.ok _ (setB _ _ _) at hn1
  generalize setB (w.alloc (.mapIter (some mb) ck #[] ck)) w.heap.size (.mapIter (some mb) ck #[e.born] ck) = W2 at hbel h2b h2r h2f he2 hn2 hn1
  generalize w.alloc (.mapIter (some mb) ck #[] ck) = W1 at hmr h1b h1r hn1
  have q0 := cell_of_row W2 fb 0 _ _ _ h2f
  simp at q0
  have hwr : IntKind.i64.wrap ((0 : Int) + (data.length : Int)) = (data.length : Int) := by rw [IntWalk.i64_in _ (by omega)]; omega
  clear hW hmr1 h1b h1r h2b h2r h2f hd ho hm hl hf hrd hown hac hc9 hrw hmb h hbk hk hv
  go_enter Tryz.func74, Tryz.ntmps74
  go_wp2_with fail
  refine wp_loop_rounds 2 ?_
  rw [rounds_succ]
  go_wp2_with fail
  rw [rounds_succ]
  go_wp2_with fail
  go_ret
  exact ⟨rfl, hbel⟩
end Go.Proofs.YtpihmjdljbienaaGreatDoor.Dw

/- The walks of a disk of one file: Append, Sync, Read. -/
namespace Go.Proofs.YtpihmjdljbienaaGreatDoor.Dw
open Go.RowKit
open B En
set_option linter.unusedVariables false

theorem step_str {P : Program} {ops : Array Oper} {o : Oper} {a : Act} {K : Act → World → Prop} {Q : Exit → Act → World → Prop} {E : Prop} (hgd : o.guard = none) (s x : Operand) (t u : TypeId)
    (ho : o.op = .call { callee := .builtin .append, args := #[s, x], argTypes := #[t, u] }) {e : TypeId} (ht : P.underlying t = some (.slice e)) (hu : P.underlying u = some .string)
    (hinfo : (P.info? e).map (fun i => (i.zero, i.size, i.bytes)) = some (some (.int .u8 0), 1, 1)) {w : World} {B n : Nat} {xs : List Value} {v : Value} (hs : a.eval s = v)
    (sb : ByteArray) (hx : a.eval x = .string sb) (hown : w.ownsRow B e 1 v n xs) (hbase : B ≤ w.heap.size) (hbytes : n + sb.size ≤ 1099511627776)
    (h : ∀ a' cap w', w'.ownsRow B e 1 (.slice a' (n + sb.size) cap) (n + sb.size) (xs ++ Lib.strCells sb) → w.grownBy w' v.ownBlock → Below B w w' → n + sb.size ≤ cap → cap ≤ 9223372036854775807 → K (a.put o.dst (.slice a' (n + sb.size) cap)) w') :
    if Region.wanted o (yielded ops a.tmps) = true then Oper.wp P o a w K Q else E := by
  have hw : Region.wanted o (yielded ops a.tmps) = true := by simp [Region.wanted, hgd]
  rw [if_pos hw]
  obtain ⟨i0, hi, hz0, hz1, hz2⟩ := info_parts hinfo
  obtain ⟨v', w', hr, h2, h3, _⟩ := Lib.run_append_own_string (P := P) w B t u o.type e i0 ht hu hi hz0 hz1 hz2 v n xs hown sb (by unfold maxLen; omega) (by omega) hbase
  unfold Oper.wp execOp
  simp only [ho, resolve, invoke, builtin, Sem.run_bind, Sem.run_pure, Result.andThen_ok, List.map_toArray, List.map_cons, List.map_nil, hs, hx, hr]
  have hb : Below B w w' := (Below.refl B w).grown h3 hbase (fun k hk => (hown.lt k hk).1)
  rcases h2.2 with ⟨hv, h0⟩ | ⟨g, cap, cur, hv, hg, hbk, hn, hm, _⟩
  · subst hv
    have := h none 0 w' (by rw [h0] at h2 ⊢; exact h2) h3 hb (by omega) (by omega)
    rw [h0] at this
    exact this
  · subst hv
    exact h _ _ w' h2 h3 hb hn (by unfold maxLen at hm; omega)
theorem infoByte : (Tryz.prog.info? 5).map (fun i => (i.zero, i.size, i.bytes)) = some (some (.int .u8 0), 1, 1) := by kernel_rfl
theorem keeps_grown {w w' : World} {B n size : Nat} {e : TypeId} {v : Value} {xs : List Value} {ts : List TypeId} (h : w.ownsRow B e size v n xs) (hg : w.grownBy w' v.ownBlock) (he : e ∈ ts) : Keeps ts w w' := by
  intro g cs t fr hgb ht
  refine (hg.block g (lt_of_block hgb) fun e' => ?_).trans hgb
  rcases h.2 with ⟨hv, _⟩ | ⟨g', c', cur, hv, _, hbk, _⟩
  · rw [hv] at e'; cases e'
  · rw [hv] at e'; cases e'
    rw [hgb] at hbk; cases hbk
    exact ht he

/-! Append's closure -/
theorem grown_drew {w w5 : World} {r : Option Nat} (h : w.drew.grownBy w5 r) : w.grownBy w5 r := ⟨h.os, h.tape, h.output, h.size, h.block⟩
theorem append_turn {B db fb mb lb lasts c c1 fcap cc left : Nat} {room : Nat} {cn : Int} {cb : List Int} {off : Bool} {a a1 fa ca : Option Addr} {nm sb : ByteArray} {data : List UInt8} {w w5 : World} (hB1 : B ≤ db) (hB4 : B ≤ fb) (hle : lasts ≤ data.length)
    (hd : DRow w db room (.slice fa 1 fcap) mb lb (.slice none 0 0) left cn (.slice ca cb.length cc) off) (ho : w.ownsRow B 129 1 (.slice fa 1 fcap) 1 [.pointer (some ⟨fb, 0, none⟩)]) (hm : MapN w mb [(nm, fb)]) (hl : MapN w lb [(nm, fb)])
    (hf : w.heap[fb]? = some (.cells #[.slice a data.length c, .int .i64 lasts] 135 (0, 0))) (hrw : Rw w ca cb) (hO : w.ownsRow B 5 1 (.slice a data.length c) data.length (data.map bv))
    (hq : w5.ownsRow B 5 1 (.slice a1 (data.length + sb.size) c1) (data.length + sb.size) (data.map bv ++ Lib.strCells sb)) (hgr : w.drew.grownBy w5 (Value.slice a data.length c).ownBlock) (hb : Below B w.drew w5) (hc1 : data.length + sb.size ≤ c1) (hc2 : c1 ≤ 9223372036854775807)
    (hf5 : w5.heap[fb]? = some (.cells #[.slice a data.length c, .int .i64 lasts] 135 (0, 0))) :
    D1 B db fb nm room (data ++ sb.data.toList) lasts left cn cb off true (w5.setCell ⟨fb, 0, none⟩ (.slice a1 (data.length + sb.size) c1)) ∧ Below B w (w5.setCell ⟨fb, 0, none⟩ (.slice a1 (data.length + sb.size) c1)) ∧ Keeps dts w (w5.setCell ⟨fb, 0, none⟩ (.slice a1 (data.length + sb.size) c1)) ∧ (w5.setCell ⟨fb, 0, none⟩ (.slice a1 (data.length + sb.size) c1)).heap[db]? = w.heap[db]? := by
  have hlen : (data ++ sb.data.toList).length = data.length + sb.size := by rw [List.length_append, Array.length_toList]; rfl
  rw [← hlen] at hq hc1 ⊢
  have hmap : (data ++ sb.data.toList).map bv = data.map bv ++ Lib.strCells sb := by rw [List.map_append]; rfl
  have hk : Keeps [5] w w5 := Keeps.grown (ts := [5]) hO (by simp) (grown_drew hgr)
  have f1 : ∀ (g : Nat) (cs : Array Value) (t : TypeId) (fr : Nat × Nat), w.heap[g]? = some (.cells cs t fr) → t ≠ 5 → t ≠ 135 → (w5.setCell ⟨fb, 0, none⟩ (.slice a1 (data ++ sb.data.toList).length c1)).heap[g]? = w.heap[g]? := fun g cs t fr hg h1 h2 =>
    (Below.heap_setCell w5 ⟨fb, 0, none⟩ _ g (blk_types hg hf h2)).trans ((hk g cs t fr hg (by simpa using h1)).trans hg.symm)
  have f2 : ∀ (b : Nat) (l : List (ByteArray × Nat)), MapN w b l → (w5.setCell ⟨fb, 0, none⟩ (.slice a1 (data ++ sb.data.toList).length c1)).heap[b]? = w.heap[b]? := fun b l hbm =>
    (Below.heap_setCell w5 ⟨fb, 0, none⟩ _ b (hbm.ne hf)).trans (hgr.block b hbm.lt (fun e => (hbm.neOwn hO) e.symm))
  have h6 : (w5.setCell ⟨fb, 0, none⟩ (.slice a1 (data ++ sb.data.toList).length c1)).heap[fb]? = some (.cells #[.slice a1 (data ++ sb.data.toList).length c1, .int .i64 lasts] 135 (0, 0)) := by rw [heap_setCell_same w5 fb 0 _ _ _ hf5]; rfl
  have hq6 : (w5.setCell ⟨fb, 0, none⟩ (.slice a1 (data ++ sb.data.toList).length c1)).ownsRow B 5 1 (.slice a1 (data ++ sb.data.toList).length c1) (data ++ sb.data.toList).length ((data ++ sb.data.toList).map bv) := by
    rw [hmap]
    exact own_same hq (fun g cs fr _ hbk => Below.heap_setCell w5 ⟨fb, 0, none⟩ _ g (blk_types hbk hf5 (by decide)))
  refine ⟨⟨⟨fa, fcap, mb, lb, ca, cc, a1, c1, hd.blk (f1 db _ _ _ hd (by decide) (by decide)), own_same ho (fun g cs fr _ hbk => f1 g _ _ _ hbk (by decide) (by decide)), hm.blk (f2 mb _ hm), hl.blk (f2 lb _ hl), h6, Rd.of_own hq6, fun _ => hq6, hc1, hc2,
    hrw.blk fun g cs fr hbk => f1 g _ _ _ hbk (by decide) (by decide)⟩, hB1, hB4, by rw [hlen]; omega⟩, ?_, ?_, f1 db _ _ _ hd (by decide) (by decide)⟩
  · exact (Below.trans (⟨hb.os, hb.tape, hb.output, hb.size, hb.block⟩ : Below B w w5) (Below.refl B w5)).setCell (p := ⟨fb, 0, none⟩) hB4 _
  · exact (hk.mono (by decide)).trans (Keeps.setCell (ts := dts) (p := ⟨fb, 0, none⟩) hf5 (by decide) _)
set_option maxHeartbeats 1600000 in
set_option maxRecDepth 100000 in
theorem append1_any (B db fb : Nat) (nm : ByteArray) (room : Nat) (data : List UInt8) (lasts left : Nat) (cn : Int) (cb : List Int) (off : Bool) (fc sc : Nat) (sb : ByteArray) (w : World) (h : D1 B db fb nm room data lasts left cn cb off true w)
    (hfc : Cell1 w fc 129 (.pointer (some ⟨fb, 0, none⟩))) (hsc : Cell1 w sc 9 (.string sb)) (hBw : B ≤ w.heap.size) (hlen : data.length + sb.size ≤ 1048576) :
    Calls Tryz.prog 75 #[.pointer (some ⟨fc, 0, none⟩), .pointer (some ⟨sc, 0, none⟩)] w fun e w' => e = .returned (.tuple #[]) ∧ D1 B db fb nm room (data ++ sb.data.toList) lasts left cn cb off true w' ∧ Below B w w' ∧ Keeps dts w w' ∧ w'.heap[db]? = w.heap[db]? := by
  obtain ⟨fa, fcap, mb, lb, ca, cc, a, c, hd, ho, hm, hl, hf, hrd, hown, hac, hc9, hrw⟩ := h.ex
  have hB1 := h.db_
  have hB4 := h.fb_
  have hle := h.le
  have hown := hown rfl
  have q1 := hfc.cell
  have q2 := hsc.cell
  have q3 := cell_of_row w fb 0 _ _ _ hf
  simp at q3
  have HO := Lib.hid hown
  have HZ := Lib.hid (And.intro hd (And.intro ho (And.intro hm (And.intro hl (And.intro hf hrw)))))
  have HF := Lib.hid hfc
  clear hd ho hm hl hf hrd hown hrw h hfc hsc
  go_enter Tryz.func75, Tryz.ntmps75
  go_wp2_with fail
  refine wp_region_noPanic ?_
  go_region_law
    (refine step_str (B := B) (by rfl) _ _ 80 9 (by rfl) Tryz.underlying80 Tryz.underlying9 infoByte (by rfl) sb (by rfl) (own_drew HO.out) hBw (by omega) ?_
     intro a1 c1 w5 hq hgr hb hc1 hc2
     have hf5 := (Keeps.grown (ts := [5]) (own_drew HO.out) (by simp) hgr) fb _ _ _ HZ.out.2.2.2.2.1 (by decide)
     have hfc5 := (Keeps.grown (ts := [5]) (own_drew HO.out) (by simp) hgr) fc _ _ _ HF.out (by decide)
     have x5 := cell_of_row w5 fb 0 _ _ _ hf5
     have y5 := cell_of_row w5 fc 0 _ _ _ hfc5
     have z5 : w5.frozen? ⟨fb, 0, none⟩ = false := by simp [World.frozen?, hf5]
     simp at x5 y5
     have HW := Lib.hid (And.intro hq (And.intro hgr (And.intro hb (And.intro hc1 (And.intro hc2 hf5)))))
     clear hq hgr hb hc1 hc2 hf5 hfc5)
  all_goals
    refine NoPanic.normal ?_
    go_end0
    obtain ⟨hd, ho, hm, hl, hf, hrw⟩ := HZ.out
    obtain ⟨hq, hgr, hb, hc1, hc2, hf5⟩ := HW.out
    exact ⟨rfl, append_turn hB1 hB4 hle hd ho hm hl hf hrw HO.out hq hgr hb hc1 hc2 hf5⟩
end Go.Proofs.YtpihmjdljbienaaGreatDoor.Dw

/- The walk of a disk's Append. -/
namespace Go.Proofs.YtpihmjdljbienaaGreatDoor.Dw
open Go.RowKit
open B En
set_option linter.unusedVariables false

theorem D1.below {B db fb room lasts left : Nat} {nm : ByteArray} {data : List UInt8} {cn : Int} {cb : List Int} {off own : Bool} {w w' : World} (h : D1 B db fb nm room data lasts left cn cb off own w) (k : Below w.heap.size w w') : D1 B db fb nm room data lasts left cn cb off own w' := by
  obtain ⟨fa, fc, mb, lb, ca, cc, a, c, hd, ho, hm, hl, hf, hrd, hown, hac, hc9, hrw⟩ := h.ex
  exact ⟨⟨fa, fc, mb, lb, ca, cc, a, c, hd.below k, own_below ho k, hm.below k, hl.below k, (k.block fb (lt_of_block hf)).trans hf, hrd.below k, fun h => own_below (hown h) k, hac, hc9, hrw.below k⟩, h.db_, h.fb_, h.le⟩
/-- the trap's count is another -/
theorem D1.trap {B db fb room lasts left : Nat} {nm : ByteArray} {data : List UInt8} {cn : Int} {cb : List Int} {off own : Bool} {w : World} (h : D1 B db fb nm room data lasts left cn cb off own w) (k : Nat) :
    D1 B db fb nm room data lasts k cn cb off own (w.setCell ⟨db, 5, none⟩ (.int .i64 k)) ∧ Below B w (w.setCell ⟨db, 5, none⟩ (.int .i64 k)) ∧ Keeps dts w (w.setCell ⟨db, 5, none⟩ (.int .i64 k)) := by
  obtain ⟨fa, fc, mb, lb, ca, cc, a, c, hd, ho, hm, hl, hf, hrd, hown, hac, hc9, hrw⟩ := h.ex
  have far : ∀ g, g ≠ db → (w.setCell ⟨db, 5, none⟩ (.int .i64 k)).heap[g]? = w.heap[g]? := fun g hg => Below.heap_setCell _ ⟨db, 5, none⟩ _ g hg
  exact ⟨⟨⟨fa, fc, mb, lb, ca, cc, a, c, hd.s5 k, own_same ho (fun g cs fr _ hbk => far _ (blk_types hbk hd (by decide))), hm.blk (far _ (hm.ne hd)), hl.blk (far _ (hl.ne hd)), (far _ (blk_types hf hd (by decide))).trans hf, rd_far hrd hd (by decide) far,
    fun h => own_same (hown h) (fun g cs fr _ hbk => far _ (blk_types hbk hd (by decide))), hac, hc9, hrw.blk fun g cs fr hbk => far _ (blk_types hbk hd (by decide))⟩, h.db_, h.fb_, h.le⟩,
    (Below.refl B w).setCell (p := ⟨db, 5, none⟩) h.db_ _, Keeps.setCell (ts := dts) (p := ⟨db, 5, none⟩) hd (by decide) _⟩
/-- the disk is off, or on -/
theorem D1.power {B db fb room lasts left : Nat} {nm : ByteArray} {data : List UInt8} {cn : Int} {cb : List Int} {off own : Bool} {w : World} (h : D1 B db fb nm room data lasts left cn cb off own w) (k : Bool) :
    D1 B db fb nm room data lasts left cn cb k own (w.setCell ⟨db, 11, none⟩ (.bool k)) ∧ Below B w (w.setCell ⟨db, 11, none⟩ (.bool k)) ∧ Keeps dts w (w.setCell ⟨db, 11, none⟩ (.bool k)) := by
  obtain ⟨fa, fc, mb, lb, ca, cc, a, c, hd, ho, hm, hl, hf, hrd, hown, hac, hc9, hrw⟩ := h.ex
  have far : ∀ g, g ≠ db → (w.setCell ⟨db, 11, none⟩ (.bool k)).heap[g]? = w.heap[g]? := fun g hg => Below.heap_setCell _ ⟨db, 11, none⟩ _ g hg
  exact ⟨⟨⟨fa, fc, mb, lb, ca, cc, a, c, hd.s11 k, own_same ho (fun g cs fr _ hbk => far _ (blk_types hbk hd (by decide))), hm.blk (far _ (hm.ne hd)), hl.blk (far _ (hl.ne hd)), (far _ (blk_types hf hd (by decide))).trans hf, rd_far hrd hd (by decide) far,
    fun h => own_same (hown h) (fun g cs fr _ hbk => far _ (blk_types hbk hd (by decide))), hac, hc9, hrw.blk fun g cs fr hbk => far _ (blk_types hbk hd (by decide))⟩, h.db_, h.fb_, h.le⟩,
    (Below.refl B w).setCell (p := ⟨db, 11, none⟩) h.db_ _, Keeps.setCell (ts := dts) (p := ⟨db, 11, none⟩) hd (by decide) _⟩
theorem D1.drew {B db fb room lasts left : Nat} {nm : ByteArray} {data : List UInt8} {cn : Int} {cb : List Int} {off own : Bool} {w : World} (h : D1 B db fb nm room data lasts left cn cb off own w) : D1 B db fb nm room data lasts left cn cb off own w.drew :=
  ⟨h.ex, h.db_, h.fb_, h.le⟩

theorem keepC {W w' : World} {p q r s : Addr} {x y z u : Value} (h : (W.cell? p = some x ∧ W.cell? q = some y ∧ W.cell? r = some z ∧ W.cell? s = some u) ∧ p.block < W.heap.size ∧ q.block < W.heap.size ∧ r.block < W.heap.size ∧ s.block < W.heap.size) (k : Below W.heap.size W w') :
    (w'.cell? p = some x ∧ w'.cell? q = some y ∧ w'.cell? r = some z ∧ w'.cell? s = some u) ∧ p.block < w'.heap.size ∧ q.block < w'.heap.size ∧ r.block < w'.heap.size ∧ s.block < w'.heap.size := by
  obtain ⟨⟨h1, h2, h3, h4⟩, k1, k2, k3, k4⟩ := h
  have hs := k.size
  refine ⟨⟨(World.cell?_of_block (k.block _ k1)).trans h1, (World.cell?_of_block (k.block _ k2)).trans h2, (World.cell?_of_block (k.block _ k3)).trans h3, (World.cell?_of_block (k.block _ k4)).trans h4⟩, by omega, by omega, by omega, by omega⟩

set_option maxHeartbeats 1600000 in
set_option maxRecDepth 100000 in
theorem append_walk (B db fb : Nat) (nm : ByteArray) (room : Nat) (data : List UInt8) (lasts left : Nat) (cn : Int) (cb : List Int) (own : Bool) (sb : ByteArray) (w : World) (h : D1 B db fb nm room data lasts left cn cb false own w)
    (hlen : data.length + sb.size ≤ 1048576) (hroom : data.length + sb.size ≤ room) (hr9 : room ≤ 9223372036854775807) (Q : Int → World → Prop)
    (HCH : ∀ fc sc w3, D1 B db fb nm room data lasts left cn cb false own w3 → Cell1 w3 fc 129 (.pointer (some ⟨fb, 0, none⟩)) → Cell1 w3 sc 9 (.string sb) → Below w.heap.size w w3 →
      Calls Tryz.prog 71 #[.pointer (some ⟨db, 0, none⟩), .bool true, .func (.func 75) #[] #[.pointer (some ⟨fc, 0, none⟩), .pointer (some ⟨sc, 0, none⟩)]] w3 fun e w' => ∃ r, e = .returned (.int .i64 r) ∧ Q r w') :
    Calls Tryz.prog 21 #[.pointer (some ⟨db, 0, none⟩), .string nm, .string sb] w fun e w' => ∃ r, e = .returned (.int .i64 r) ∧ Q r w' := by
  have hal := below_alloc (Below.refl w.heap.size w) (.cells #[.string sb] 9)
  have h1 := h.below hal
  have hs1 : Cell1 (w.alloc (.cells #[.string sb] 9)) w.heap.size 9 (.string sb) := heap_alloc_new _ _
  generalize hsc : w.heap.size = sc at *
  generalize hW1 : w.alloc (.cells #[.string sb] 9) = W1 at *
  have HW1 := Lib.hid hW1
  have HSC := Lib.hid hsc
  clear h hsc
  obtain ⟨fa, fcap, mb, lb, ca, cc, a, c, hd, ho, hm, hl, hf, _⟩ := h1.ex
  have HFY := Lib.hid (find_yes db mb [(nm, fb)] nm fb (by simp) (by intro p hp _; simp at hp; rw [hp]) W1 hd.c11 hd.c2 hm)
  have hal2 := below_alloc (Below.refl W1.heap.size W1) (.cells #[.pointer (some ⟨fb, 0, none⟩)] 129)
  have h2 := h1.below hal2
  have hs2 := hs1.below hal2
  have hf2 : Cell1 (W1.alloc (.cells #[.pointer (some ⟨fb, 0, none⟩)] 129)) W1.heap.size 129 (.pointer (some ⟨fb, 0, none⟩)) := heap_alloc_new _ _
  have hb2 := hal.trans (hal2.mono (by have := hal.size; have := HSC.out; omega))
  have hd2 := hd.below hal2
  have hff2 := (hal2.block fb (lt_of_block hf)).trans hf
  clear hd ho hm hl hf h1 hs1 hal hal2
  generalize hfc : W1.heap.size = fc at *
  generalize hW2 : W1.alloc (.cells #[.pointer (some ⟨fb, 0, none⟩)] 129) = W2 at *
  have HFC := Lib.hid hfc
  have HW2 := Lib.hid hW2
  have e1 := hf2.cell
  have e2 := cell_of_row W2 fb 0 _ _ _ hff2
  have e3 := hs2.cell
  have e4 := hd2.c0
  simp at e2
  have H0 : Hid ((W2.cell? ⟨fc, 0, none⟩ = some (.pointer (some ⟨fb, 0, none⟩)) ∧ W2.cell? ⟨fb, 0, none⟩ = some (.slice a data.length c) ∧ W2.cell? ⟨sc, 0, none⟩ = some (.string sb) ∧ W2.cell? ⟨db, 0, none⟩ = some (.int .i64 room)) ∧ fc < W2.heap.size ∧ fb < W2.heap.size ∧ sc < W2.heap.size ∧ db < W2.heap.size) :=
    ⟨⟨e1, e2, e3, e4⟩, lt_of_block hf2, lt_of_block hff2, lt_of_block hs2, hd2.lt⟩
  have HU := Lib.hid (used_any B db fb nm room data lasts left cn cb false own W2.drew h2.drew (by omega))
  have HZ := Lib.hid (And.intro h2 (And.intro hf2 (And.intro hs2 hb2)))
  have HC := Lib.hid HCH
  obtain ⟨m, hmm⟩ : ∃ m, data.length + sb.size = m := ⟨_, rfl⟩
  have ew1 : IntKind.i64.wrap ((data.length : Int) + (sb.size : Int)) = (m : Int) := by rw [IntWalk.i64_in _ (by omega)]; omega
  have d1 : decide ((1048576 : Int) < (m : Int)) = false := decide_eq_false (by omega)
  have d2 : decide (1048576 < m) = false := decide_eq_false (by omega)
  have d3 : decide ((room : Int) < (m : Int)) = false := decide_eq_false (by omega)
  have d4 : decide (room < m) = false := decide_eq_false (by omega)
  clear h2 hf2 hs2 hb2 hd2 hff2 e1 e2 e3 e4 HCH hfc hW1 hW2 hmm
  go_enter Tryz.func21, Tryz.ntmps21
  go_wp2_with fail
  rw [HW1.out, HSC.out]
  refine HFY.out.mono ?_
  rintro e w1 ⟨rfl, hw1⟩
  subst hw1
  go_upto_region 4 with fail
  rw [HW2.out, HFC.out]
  go_region_held3 (fun w' => (w'.cell? ⟨fc, 0, none⟩ = some (.pointer (some ⟨fb, 0, none⟩)) ∧ w'.cell? ⟨fb, 0, none⟩ = some (.slice a data.length c) ∧ w'.cell? ⟨sc, 0, none⟩ = some (.string sb) ∧ w'.cell? ⟨db, 0, none⟩ = some (.int .i64 room)) ∧ fc < w'.heap.size ∧ fb < w'.heap.size ∧ sc < w'.heap.size ∧ db < w'.heap.size)
    (first | exact H0.out | exact keepC (W := W2.drew) H0.out hb3)
    (first | (go_at_call 74; (with_reducible refine HU.out.mono ?_); rintro e w3 ⟨rfl, hb3⟩))
  have hb4 : Below W2.heap.size W2 w3 := ⟨hb3.os, hb3.tape, hb3.output, hb3.size, hb3.block⟩
  obtain ⟨h2, hf2, hs2, hb2⟩ := HZ.out
  have HX := Lib.hid (HC.out fc sc w3 (h2.below hb4) (hf2.below hb4) (hs2.below hb4) (hb2.trans (hb4.mono (by have := hb2.size; have := HSC.out; omega))))
  have hmf : ∀ (fn : Fn) (first cap : Array Value) (w : World), (Instr.makeFunc fn first cap).run Tryz.prog w = .ok (.func fn first cap) w := fun _ _ _ _ => rfl
  clear h2 hf2 hs2 hb2 hb3 hb4
  go_wp2_with fail
  refine HX.out.mono ?_
  rintro e w4 ⟨r, rfl, hq⟩
  go_wp2_with fail
  go_ret
  exact ⟨r, rfl, hq⟩

/-- a loss of power as the trap has it -/
theorem fail_trap (B db fb : Nat) (nm : ByteArray) (room : Nat) (data : List UInt8) (lasts left : Nat) (cn : Int) (cb : List Int) (off own : Bool) (ca : Option Addr) (cc : Nat) (w : World) (h : D1 B db fb nm room data lasts left cn cb off own w) (h7 : w.cell? ⟨db, 7, none⟩ = some (.slice ca cb.length cc)) (hBw : B ≤ w.heap.size) (hdl : data.length ≤ 16777216)
    (hn0 : -9223372036854775808 ≤ cn) (hn1 : cn ≤ 9223372036854775807) (hbn : cb.length ≤ 9223372036854775807) (hbz : ∀ x ∈ cb, -9223372036854775808 ≤ x ∧ x ≤ 9223372036854775807) :
    Calls Tryz.prog 46 #[.pointer (some ⟨db, 0, none⟩), .int .i64 cn, .slice ca cb.length cc] w fun e w' => e = .returned (.tuple #[]) ∧ (∃ keep, lasts + keep ≤ data.length ∧ D1 B db fb nm room (data.take (lasts + keep)) (lasts + keep) 0 0 [] off false w') ∧ Below B w w' ∧ Keeps dts w w' := by
  obtain ⟨fa, fcap, mb, lb, ca', cc', a, c, hd, ho, hm, hl, hf, hrd, hown, hac, hc9, hrw⟩ := h.ex
  have h8 := hd.c7
  rw [h7] at h8
  simp only [Option.some.injEq, Value.slice.injEq] at h8
  obtain ⟨rfl, -, rfl⟩ := h8
  exact fail_any B db fb nm room data lasts left cn cb off own w h hBw hdl cn hn0 hn1 ca cb.length cc cb rfl hbn hbz hrw.row (fun b o ha hl => ⟨hrw.ne ha hl hd (by decide), hrw.ne ha hl hf (by decide)⟩)
/-- the trap's count behind a call that it let pass -/
def less (k : Nat) : Nat := k - 1
set_option maxHeartbeats 800000 in
theorem append_pass (B db fb : Nat) (nm : ByteArray) (room : Nat) (data : List UInt8) (lasts left : Nat) (cn : Int) (cb : List Int) (sb : ByteArray) (w : World) (h : D1 B db fb nm room data lasts left cn cb false true w) (hBw : B ≤ w.heap.size)
    (hlen : data.length + sb.size ≤ 1048576) (hroom : data.length + sb.size ≤ room) (hr9 : room ≤ 9223372036854775807) (hk : left ≠ 1) (hk9 : left ≤ 9223372036854775807) :
    Calls Tryz.prog 21 #[.pointer (some ⟨db, 0, none⟩), .string nm, .string sb] w fun e w' => e = .returned (.int .i64 0) ∧ D1 B db fb nm room (data ++ sb.data.toList) lasts (less left) cn cb false true w' ∧ Below B w w' ∧ Keeps dts w w' := by
  refine (append_walk B db fb nm room data lasts left cn cb true sb w h hlen hroom hr9 (fun r w' => r = 0 ∧ D1 B db fb nm room (data ++ sb.data.toList) lasts (less left) cn cb false true w' ∧ Below B w w' ∧ Keeps dts w w') ?_).mono fun e w' ⟨r, h1, h2, h3⟩ => ⟨by rw [h1, h2], h3⟩
  intro fc sc w3 h3 hfc hsc hb3
  have hb3B := hb3.mono hBw
  have hBw3 : B ≤ w3.heap.size := Nat.le_trans hBw hb3.size
  have hk3 : Keeps dts w w3 := Keeps.below hb3
  obtain ⟨fa, fcap, mb, lb, ca, cc, a, c, hd, _⟩ := h3.ex
  refine (change_pass db 75 #[.pointer (some ⟨fc, 0, none⟩), .pointer (some ⟨sc, 0, none⟩)] true left hk hk9 (fun w' => D1 B db fb nm room (data ++ sb.data.toList) lasts (less left) cn cb false true w' ∧ Below B w w' ∧ Keeps dts w w') w3 hd.c5 hd.c8 (hd.fz 5)
    (fun W => call_enter Tryz.func75 rfl rfl _ W) ?_).mono fun e w' ⟨h1, h2⟩ => ⟨0, h1, rfl, h2⟩
  rintro W (⟨rfl, rfl⟩ | ⟨rfl, h0⟩)
  · refine (append1_any B db fb nm room data lasts 0 cn cb false fc sc sb w3.drew h3.drew hfc hsc hBw3 hlen).mono fun e w' ⟨h1, h2, h4, h5, _⟩ => ⟨h1, h2, hb3B.drew.trans h4, hk3.trans h5⟩
  · obtain ⟨t1, t2, t3⟩ := h3.trap (left - 1)
    refine (append1_any B db fb nm room data lasts (left - 1) cn cb false fc sc sb _ t1.drew (hfc.far (p := ⟨db, 5, none⟩) (blk_types hfc hd (by decide)) _) (hsc.far (p := ⟨db, 5, none⟩) (blk_types hsc hd (by decide)) _) (Nat.le_trans hBw3 t2.size) hlen).mono fun e w' ⟨h1, h2, h4, h5, _⟩ => ⟨h1, h2, (hb3B.trans t2).drew.trans h4, (hk3.trans t3).trans h5⟩

set_option maxHeartbeats 800000 in
theorem append_cut (B db fb : Nat) (nm : ByteArray) (room : Nat) (data : List UInt8) (lasts : Nat) (cn : Int) (cb : List Int) (sb : ByteArray) (w : World) (h : D1 B db fb nm room data lasts 1 cn cb false true w) (hBw : B ≤ w.heap.size)
    (hlen : data.length + sb.size ≤ 1048576) (hroom : data.length + sb.size ≤ room) (hr9 : room ≤ 9223372036854775807) (hn0 : -9223372036854775808 ≤ cn) (hn1 : cn ≤ 9223372036854775807) (hbn : cb.length ≤ 9223372036854775807) (hbz : ∀ x ∈ cb, -9223372036854775808 ≤ x ∧ x ≤ 9223372036854775807) :
    Calls Tryz.prog 21 #[.pointer (some ⟨db, 0, none⟩), .string nm, .string sb] w fun e w' => e = .returned (.int .i64 13) ∧ (∃ keep, lasts + keep ≤ data.length + sb.size ∧ D1 B db fb nm room ((data ++ sb.data.toList).take (lasts + keep)) (lasts + keep) 0 0 [] true false w') ∧ Below B w w' ∧ Keeps dts w w' := by
  refine (append_walk B db fb nm room data lasts 1 cn cb true sb w h hlen hroom hr9 (fun r w' => r = 13 ∧ (∃ keep, lasts + keep ≤ data.length + sb.size ∧ D1 B db fb nm room ((data ++ sb.data.toList).take (lasts + keep)) (lasts + keep) 0 0 [] true false w') ∧ Below B w w' ∧ Keeps dts w w') ?_).mono fun e w' ⟨r, h1, h2, h3⟩ => ⟨by rw [h1, h2], h3⟩
  intro fc sc w3 h3 hfc hsc hb3
  have hb3B := hb3.mono hBw
  have hBw3 : B ≤ w3.heap.size := Nat.le_trans hBw hb3.size
  have hk3 : Keeps dts w w3 := Keeps.below hb3
  have hll : (data ++ sb.data.toList).length = data.length + sb.size := by rw [List.length_append, Array.length_toList]; rfl
  obtain ⟨fa, fcap, mb, lb, ca, cc, a, c, hd, ho, hm, hl, hf, hrd, hown, hac, hc9, hrw⟩ := h3.ex
  obtain ⟨t1, t2, t3⟩ := h3.trap 0
  have hs7 : (w3.setCell ⟨db, 5, none⟩ (.int .i64 (0 : Nat))).cell? ⟨db, 7, none⟩ = some (.slice ca cb.length cc) := (hd.s5 (0 : Nat)).c7
  have hs6 : (w3.setCell ⟨db, 5, none⟩ (.int .i64 (0 : Nat))).cell? ⟨db, 6, none⟩ = some (.int .i64 cn) := (hd.s5 (0 : Nat)).c6
  refine (change_cut db 75 #[.pointer (some ⟨fc, 0, none⟩), .pointer (some ⟨sc, 0, none⟩)] true cn ca cb.length cc
    (fun w' => (D1 B db fb nm room (data ++ sb.data.toList) lasts 0 cn cb false true w' ∧ Below B w w' ∧ Keeps dts w w') ∧ w'.cell? ⟨db, 6, none⟩ = some (.int .i64 cn) ∧ w'.cell? ⟨db, 7, none⟩ = some (.slice ca cb.length cc))
    (fun w' => (∃ keep, lasts + keep ≤ data.length + sb.size ∧ D1 B db fb nm room ((data ++ sb.data.toList).take (lasts + keep)) (lasts + keep) 0 0 [] false false w') ∧ Below B w w' ∧ Keeps dts w w') w3 hd.c5 hd.c8 (hd.fz 5)
    (fun W => call_enter Tryz.func75 rfl rfl _ W) ?_ (fun h => by cases h) ?_ ?_ ?_).mono ?_
  · intro _
    refine (append1_any B db fb nm room data lasts 0 cn cb false fc sc sb _ t1.drew (hfc.far (p := ⟨db, 5, none⟩) (blk_types hfc hd (by decide)) _) (hsc.far (p := ⟨db, 5, none⟩) (blk_types hsc hd (by decide)) _) (Nat.le_trans hBw3 t2.size) hlen).mono fun e w' ⟨h1, h2, h4, h5, h6⟩ => ⟨h1, ⟨h2, (hb3B.trans t2).drew.trans h4, (hk3.trans t3).trans h5⟩, (World.cell?_of_block h6).trans hs6, (World.cell?_of_block h6).trans hs7⟩
  · intro W hW; exact hW.2
  · intro W ⟨⟨q1, q2, q3⟩, q4, q5⟩
    refine (fail_trap B db fb nm room (data ++ sb.data.toList) lasts 0 cn cb false true ca cc W.drew q1.drew q5 (Nat.le_trans hBw q2.size) (by omega) hn0 hn1 hbn hbz).mono fun e w' ⟨h1, ⟨keep, h2, h3⟩, h4, h5⟩ => ⟨h1, ⟨keep, by omega, h3⟩, q2.drew.trans h4, q3.trans h5⟩
  · intro W ⟨⟨keep, q1, q2⟩, _⟩
    obtain ⟨fa, fcap, mb, lb, ca, cc, a, c, hd, _⟩ := q2.ex
    exact ⟨⟨_, hd.c11⟩, hd.fz 11⟩
  · rintro e w' ⟨rfl, W, ⟨⟨keep, q1, q2⟩, q3, q4⟩, rfl⟩
    obtain ⟨p1, p2, p3⟩ := q2.power true
    exact ⟨13, rfl, rfl, ⟨keep, q1, p1⟩, q3.trans p2, q4.trans p3⟩
end Go.Proofs.YtpihmjdljbienaaGreatDoor.Dw

/- The walks of a disk's Sync and Read. -/
namespace Go.Proofs.YtpihmjdljbienaaGreatDoor.Dw
open Go.RowKit
open B En
set_option linter.unusedVariables false

/-! Sync's closure -/
set_option maxHeartbeats 1600000 in
set_option maxRecDepth 100000 in
theorem sync1_any (B db fb : Nat) (nm : ByteArray) (room : Nat) (data : List UInt8) (lasts left : Nat) (cn : Int) (cb : List Int) (off own : Bool) (fc : Nat) (w : World) (h : D1 B db fb nm room data lasts left cn cb off own w)
    (hfc : Cell1 w fc 129 (.pointer (some ⟨fb, 0, none⟩))) :
    Calls Tryz.prog 97 #[.pointer (some ⟨fc, 0, none⟩)] w fun e w' => e = .returned (.tuple #[]) ∧ D1 B db fb nm room data data.length left cn cb off own w' ∧ Below B w w' ∧ Keeps dts w w' := by
  obtain ⟨fa, fcap, mb, lb, ca, cc, a, c, hd, ho, hm, hl, hf, hrd, hown, hac, hc9, hrw⟩ := h.ex
  have hB1 := h.db_
  have hB4 := h.fb_
  have hle := h.le
  have q1 := hfc.cell
  have q3 := cell_of_row w fb 0 _ _ _ hf
  have q4 := cell_of_row w fb 1 _ _ _ hf
  have qz : w.frozen? ⟨fb, 1, none⟩ = false := by simp [World.frozen?, hf]
  simp at q3 q4
  have HZ := Lib.hid (And.intro hd (And.intro ho (And.intro hm (And.intro hl (And.intro hf (And.intro hrd (And.intro hown hrw)))))))
  clear hd ho hm hl hf hrd hown hrw h hfc
  go_enter Tryz.func97, Tryz.ntmps97
  go_wp2_with fail
  go_still_tail 8, (by kernel_rfl)
  change wpList _ _ _ _ _ w.drew
  go_wp2_with fail
  go_end0
  obtain ⟨hd, ho, hm, hl, hf, hrd, hown, hrw⟩ := HZ.out
  have far : ∀ g, g ≠ fb → ((w.setCell ⟨fb, 1, none⟩ (.int .i64 data.length)).drew).heap[g]? = w.heap[g]? := fun g hg => Below.heap_setCell w ⟨fb, 1, none⟩ _ g hg
  have h6 : ((w.setCell ⟨fb, 1, none⟩ (.int .i64 data.length)).drew).heap[fb]? = some (.cells #[.slice a data.length c, .int .i64 data.length] 135 (0, 0)) := by
    show (w.setCell ⟨fb, 1, none⟩ (.int .i64 data.length)).heap[fb]? = _
    rw [heap_setCell_same w fb 1 _ _ _ hf]; rfl
  refine ⟨rfl, ⟨⟨fa, fcap, mb, lb, ca, cc, a, c, hd.blk (far _ (blk_types hd hf (by decide))), own_same ho (fun g cs fr _ hbk => far _ (blk_types hbk hf (by decide))), hm.blk (far _ (hm.ne hf)), hl.blk (far _ (hl.ne hf)), h6, rd_far hrd hf (by decide) far,
    fun h => own_same (hown h) (fun g cs fr _ hbk => far _ (blk_types hbk hf (by decide))), hac, hc9, hrw.blk fun g cs fr hbk => far _ (blk_types hbk hf (by decide))⟩, hB1, hB4, Nat.le_refl _⟩, ?_, ?_⟩
  · exact ((Below.refl B w).setCell (p := ⟨fb, 1, none⟩) hB4 _).drew
  · exact Keeps.setCell (ts := dts) (p := ⟨fb, 1, none⟩) hf (by decide) _

/-! Sync -/
set_option maxHeartbeats 1600000 in
set_option maxRecDepth 100000 in
theorem sync_walk (B db fb : Nat) (nm : ByteArray) (room : Nat) (data : List UInt8) (lasts left : Nat) (cn : Int) (cb : List Int) (own : Bool) (w : World) (h : D1 B db fb nm room data lasts left cn cb false own w) (Q : Int → World → Prop)
    (HCH : ∀ fc w3, D1 B db fb nm room data lasts left cn cb false own w3 → Cell1 w3 fc 129 (.pointer (some ⟨fb, 0, none⟩)) → Below w.heap.size w w3 →
      Calls Tryz.prog 71 #[.pointer (some ⟨db, 0, none⟩), .bool false, .func (.func 97) #[] #[.pointer (some ⟨fc, 0, none⟩)]] w3 fun e w' => ∃ r, e = .returned (.int .i64 r) ∧ Q r w') :
    Calls Tryz.prog 45 #[.pointer (some ⟨db, 0, none⟩), .string nm] w fun e w' => ∃ r, e = .returned (.int .i64 r) ∧ Q r w' := by
  obtain ⟨fa, fcap, mb, lb, ca, cc, a, c, hd, ho, hm, hl, hf, _⟩ := h.ex
  have HFY := Lib.hid (find_yes db mb [(nm, fb)] nm fb (by simp) (by intro p hp _; simp at hp; rw [hp]) w hd.c11 hd.c2 hm)
  have hal2 := below_alloc (Below.refl w.heap.size w) (.cells #[.pointer (some ⟨fb, 0, none⟩)] 129)
  have HX := Lib.hid (HCH w.heap.size (w.alloc (.cells #[.pointer (some ⟨fb, 0, none⟩)] 129)) (h.below hal2) (heap_alloc_new _ _) hal2)
  have hmf : ∀ (fn : Fn) (first cap : Array Value) (w : World), (Instr.makeFunc fn first cap).run Tryz.prog w = .ok (.func fn first cap) w := fun _ _ _ _ => rfl
  clear hd ho hm hl hf hal2 HCH h
  go_enter Tryz.func45, Tryz.ntmps45
  go_wp2_with fail
  refine HFY.out.mono ?_
  rintro e w1 ⟨rfl, hw1⟩
  subst hw1
  go_wp2_with fail
  refine HX.out.mono ?_
  rintro e w4 ⟨r, rfl, hq⟩
  go_wp2_with fail
  go_ret
  exact ⟨r, rfl, hq⟩

set_option maxHeartbeats 800000 in
theorem sync_pass (B db fb : Nat) (nm : ByteArray) (room : Nat) (data : List UInt8) (lasts left : Nat) (cn : Int) (cb : List Int) (own : Bool) (w : World) (h : D1 B db fb nm room data lasts left cn cb false own w) (hBw : B ≤ w.heap.size) (hk : left ≠ 1) (hk9 : left ≤ 9223372036854775807) :
    Calls Tryz.prog 45 #[.pointer (some ⟨db, 0, none⟩), .string nm] w fun e w' => e = .returned (.int .i64 0) ∧ D1 B db fb nm room data data.length (less left) cn cb false own w' ∧ Below B w w' ∧ Keeps dts w w' := by
  refine (sync_walk B db fb nm room data lasts left cn cb own w h (fun r w' => r = 0 ∧ D1 B db fb nm room data data.length (less left) cn cb false own w' ∧ Below B w w' ∧ Keeps dts w w') ?_).mono fun e w' ⟨r, h1, h2, h3⟩ => ⟨by rw [h1, h2], h3⟩
  intro fc w3 h3 hfc hb3
  have hb3B := hb3.mono hBw
  have hk3 : Keeps dts w w3 := Keeps.below hb3
  obtain ⟨fa, fcap, mb, lb, ca, cc, a, c, hd, _⟩ := h3.ex
  refine (change_pass db 97 #[.pointer (some ⟨fc, 0, none⟩)] false left hk hk9 (fun w' => D1 B db fb nm room data data.length (less left) cn cb false own w' ∧ Below B w w' ∧ Keeps dts w w') w3 hd.c5 hd.c8 (hd.fz 5)
    (fun W => call_enter Tryz.func97 rfl rfl _ W) ?_).mono fun e w' ⟨h1, h2⟩ => ⟨0, h1, rfl, h2⟩
  rintro W (⟨rfl, rfl⟩ | ⟨rfl, h0⟩)
  · exact (sync1_any B db fb nm room data lasts 0 cn cb false own fc w3.drew h3.drew hfc).mono fun e w' ⟨h1, h2, h4, h5⟩ => ⟨h1, h2, hb3B.drew.trans h4, hk3.trans h5⟩
  · obtain ⟨t1, t2, t3⟩ := h3.trap (left - 1)
    exact (sync1_any B db fb nm room data lasts (left - 1) cn cb false own fc _ t1.drew (hfc.far (p := ⟨db, 5, none⟩) (blk_types hfc hd (by decide)) _)).mono fun e w' ⟨h1, h2, h4, h5⟩ => ⟨h1, h2, (hb3B.trans t2).drew.trans h4, (hk3.trans t3).trans h5⟩

set_option maxHeartbeats 800000 in
theorem sync_cut (B db fb : Nat) (nm : ByteArray) (room : Nat) (data : List UInt8) (lasts : Nat) (cn : Int) (cb : List Int) (own : Bool) (w : World) (h : D1 B db fb nm room data lasts 1 cn cb false own w) (hBw : B ≤ w.heap.size) (hdl : data.length ≤ 16777216)
    (hn0 : -9223372036854775808 ≤ cn) (hn1 : cn ≤ 9223372036854775807) (hbn : cb.length ≤ 9223372036854775807) (hbz : ∀ x ∈ cb, -9223372036854775808 ≤ x ∧ x ≤ 9223372036854775807) :
    Calls Tryz.prog 45 #[.pointer (some ⟨db, 0, none⟩), .string nm] w fun e w' => e = .returned (.int .i64 13) ∧ (∃ keep, lasts + keep ≤ data.length ∧ D1 B db fb nm room (data.take (lasts + keep)) (lasts + keep) 0 0 [] true false w') ∧ Below B w w' ∧ Keeps dts w w' := by
  refine (sync_walk B db fb nm room data lasts 1 cn cb own w h (fun r w' => r = 13 ∧ (∃ keep, lasts + keep ≤ data.length ∧ D1 B db fb nm room (data.take (lasts + keep)) (lasts + keep) 0 0 [] true false w') ∧ Below B w w' ∧ Keeps dts w w') ?_).mono fun e w' ⟨r, h1, h2, h3⟩ => ⟨by rw [h1, h2], h3⟩
  intro fc w3 h3 hfc hb3
  have hb3B := hb3.mono hBw
  have hBw3 : B ≤ w3.heap.size := Nat.le_trans hBw hb3.size
  have hk3 : Keeps dts w w3 := Keeps.below hb3
  obtain ⟨fa, fcap, mb, lb, ca, cc, a, c, hd, ho, hm, hl, hf, hrd, hown, hac, hc9, hrw⟩ := h3.ex
  obtain ⟨t1, t2, t3⟩ := h3.trap 0
  have hs7 : (w3.setCell ⟨db, 5, none⟩ (.int .i64 (0 : Nat))).cell? ⟨db, 7, none⟩ = some (.slice ca cb.length cc) := (hd.s5 (0 : Nat)).c7
  have hs6 : (w3.setCell ⟨db, 5, none⟩ (.int .i64 (0 : Nat))).cell? ⟨db, 6, none⟩ = some (.int .i64 cn) := (hd.s5 (0 : Nat)).c6
  refine (change_cut db 97 #[.pointer (some ⟨fc, 0, none⟩)] false cn ca cb.length cc
    (fun w' => (D1 B db fb nm room data lasts 0 cn cb false own w' ∧ Below B w w' ∧ Keeps dts w w') ∧ w'.cell? ⟨db, 6, none⟩ = some (.int .i64 cn) ∧ w'.cell? ⟨db, 7, none⟩ = some (.slice ca cb.length cc))
    (fun w' => (∃ keep, lasts + keep ≤ data.length ∧ D1 B db fb nm room (data.take (lasts + keep)) (lasts + keep) 0 0 [] false false w') ∧ Below B w w' ∧ Keeps dts w w') w3 hd.c5 hd.c8 (hd.fz 5)
    (fun W => call_enter Tryz.func97 rfl rfl _ W) (fun h => by cases h) ?_ ?_ ?_ ?_).mono ?_
  · intro _
    exact ⟨⟨t1.drew, (hb3B.trans t2).drew, hk3.trans t3⟩, hs6, hs7⟩
  · intro W hW; exact hW.2
  · intro W ⟨⟨q1, q2, q3⟩, q4, q5⟩
    refine (fail_trap B db fb nm room data lasts 0 cn cb false own ca cc W.drew q1.drew q5 (Nat.le_trans hBw q2.size) hdl hn0 hn1 hbn hbz).mono fun e w' ⟨h1, h2, h4, h5⟩ => ⟨h1, h2, q2.drew.trans h4, q3.trans h5⟩
  · intro W ⟨⟨keep, q1, q2⟩, _⟩
    obtain ⟨fa, fcap, mb, lb, ca, cc, a, c, hd, _⟩ := q2.ex
    exact ⟨⟨_, hd.c11⟩, hd.fz 11⟩
  · rintro e w' ⟨rfl, W, ⟨⟨keep, q1, q2⟩, q3, q4⟩, rfl⟩
    obtain ⟨p1, p2, p3⟩ := q2.power true
    exact ⟨13, rfl, rfl, ⟨keep, q1, p1⟩, q3.trans p2, q4.trans p3⟩

/-! Read -/
theorem conv_rd {w : World} {a : Option Addr} {l : List UInt8} (h : Rd w a l) (c : Nat) : (convert 80 9 (.slice a l.length c)).run Tryz.prog w = .ok (.string (str l)) w := by
  rcases h with h | ⟨g, rest, fr, h1, h2⟩
  · subst h
    cases a with
    | none =>
      rw [run_convert_bytes_string w 80 9 5 none _ c Tryz.underlying80 Tryz.underlying5 Tryz.underlying9]
      rfl
    | some p => exact run_convert_bytes_back w 80 9 5 p c [] Tryz.underlying80 Tryz.underlying5 Tryz.underlying9 (fun j hj => by simp at hj)
  · subst h1
    exact conv_row (rest := rest) Tryz.underlying80 Tryz.underlying5 Tryz.underlying9 h2 rfl
set_option maxHeartbeats 800000 in
set_option maxRecDepth 100000 in
theorem read_any (B db fb : Nat) (nm : ByteArray) (room : Nat) (data : List UInt8) (lasts left : Nat) (cn : Int) (cb : List Int) (own : Bool) (w : World) (h : D1 B db fb nm room data lasts left cn cb false own w) :
    Calls Tryz.prog 48 #[.pointer (some ⟨db, 0, none⟩), .string nm] w fun e w' => e = .returned (.tuple #[.string (str data), .int .i64 0]) ∧ w' = w := by
  obtain ⟨fa, fcap, mb, lb, ca, cc, a, c, hd, ho, hm, hl, hf, hrd, _⟩ := h.ex
  have HFY := Lib.hid (find_yes db mb [(nm, fb)] nm fb (by simp) (by intro p hp _; simp at hp; rw [hp]) w hd.c11 hd.c2 hm)
  have hcv := conv_rd hrd c
  have q0 := cell_of_row w fb 0 _ _ _ hf
  simp at q0
  clear hd ho hm hl hf hrd h
  go_enter Tryz.func48, Tryz.ntmps48
  go_wp2_with fail
  refine HFY.out.mono ?_
  rintro e w1 ⟨rfl, hw1⟩
  subst hw1
  go_wp2_with fail
  go_ret2
  exact ⟨rfl, rfl⟩
end Go.Proofs.YtpihmjdljbienaaGreatDoor.Dw
