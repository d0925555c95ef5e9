/- Small facts that all walks of this seat share: bytes, strings, tests, numbers. No program in sight. -/
import Derived.WalkKit
import Derived.WalkSpells
import Derived.WalkLawsBesides
import Derived.PlainAid
import Derived.Handy
import Derived.Lib.Hide
namespace Go.Proofs.Ytmgdcebbeglcmaa.B
open Go.RowKit
set_option linter.unusedVariables false

/-! tests, as the walk asks them -/
theorem dt {p : Prop} [Decidable p] (h : p) : decide p = true := decide_eq_true h
theorem df {p : Prop} [Decidable p] (h : ¬ p) : decide p = false := decide_eq_false h
theorem et {a b : Int} (h : a = b) : (a == b) = true := by simp [h]
theorem ef {a b : Int} (h : a ≠ b) : (a == b) = false := by simp [h]
theorem nt {a b : Int} (h : a ≠ b) : (a != b) = true := by simp [h]
theorem nf {a b : Int} (h : a = b) : (a != b) = false := by simp [h]

/-! bytes and strings -/
def bv (b : UInt8) : Value := .int .u8 b.toNat
theorem bv_ofNat {u : Nat} (h : u < 256) : bv (UInt8.ofNat u) = .int .u8 u := by
  simp only [bv, UInt8.toNat_ofNat']; rw [Nat.mod_eq_of_lt (by omega)]

/-- a string out of bytes -/
def str (l : List UInt8) : ByteArray := ⟨l.toArray⟩
theorem str_size (l : List UInt8) : (str l).size = l.length := by simp [str, ByteArray.size]
theorem str_toList (s : ByteArray) : str s.data.toList = s := rfl
theorem toList_str (l : List UInt8) : (str l).data.toList = l := rfl
theorem str_append (x y : List UInt8) : str x ++ str y = str (x ++ y) := ByteArray.mk_append_mk x y
theorem str_inj {x y : List UInt8} (h : str x = str y) : x = y := by
  have := congrArg (fun s : ByteArray => s.data.toList) h
  simpa [toList_str] using this

theorem toList_nil {r : ByteArray} (h : r.size = 0) : r.toList.isEmpty = true := by
  rw [ByteArray.toList_eq]
  have h2 : r.data.toList.length = 0 := h
  cases hl : r.data.toList with
  | nil => rfl
  | cons a t => rw [hl] at h2; cases h2
theorem toList_ne {r : ByteArray} (h : r.size ≠ 0) : r.toList.isEmpty = false := by
  rw [ByteArray.toList_eq]
  have h2 : r.data.toList.length ≠ 0 := h
  cases hl : r.data.toList with
  | nil => rw [hl] at h2; exact absurd rfl h2
  | cons a t => rfl
/-- byte k of a string, as a number; 0 behind its end -/
def bn (s : ByteArray) (k : Nat) : Nat := (s.data.toList.getD k 0).toNat
theorem get_bn (s : ByteArray) (n : Nat) (h : n < s.size) : (s[n]'h).toNat = bn s n := by
  unfold bn
  rw [List.getD_eq_getElem?_getD, List.getElem?_eq_getElem (by simpa using h)]
  rfl
theorem bn_lt (s : ByteArray) (k : Nat) : bn s k < 256 := by unfold bn; exact UInt8.toNat_lt _

theorem take_snoc {α : Type} (l : List α) (k : Nat) (d : α) (h : k < l.length) : l.take (k + 1) = l.take k ++ [l.getD k d] := by
  rw [List.take_add_one, List.getElem?_eq_getElem h, List.getD_eq_getElem?_getD, List.getElem?_eq_getElem h]; rfl
theorem take_bn (l : List UInt8) : ∀ k, k ≤ l.length → (List.range k).map (fun j => UInt8.ofNat (l.getD j 0).toNat) = l.take k := by
  intro k hk
  apply List.ext_getElem
  · simp; omega
  · intro i h1 h2
    have h3 : i < l.length := by simp at h2; omega
    simp [List.getElem?_eq_getElem h3]
theorem extract0 (s : ByteArray) (k : Nat) : s.extract 0 k = str (s.data.toList.take k) := by
  have h : (s.extract 0 k).data.toList = s.data.toList.take k := by
    simp [ByteArray.data_extract, Array.toList_extract]
  rw [← h]; rfl
theorem extract_str (s : ByteArray) (i j : Nat) : s.extract i j = str ((s.data.toList.drop i).take (j - i)) := by
  have h : (s.extract i j).data.toList = (s.data.toList.drop i).take (j - i) := by
    simp [ByteArray.data_extract, Array.toList_extract]
  rw [← h]; rfl
theorem range_bn (s : ByteArray) (k : Nat) (hk : k ≤ s.size) : str ((List.range k).map fun j => UInt8.ofNat (bn s j)) = s.extract 0 k := by
  rw [extract0]
  exact congrArg str (take_bn s.data.toList k (by simpa using hk))

/-! worlds that have only grown -/
theorem chain {w a b : World} (h : Below w.heap.size w a) (k : Below a.heap.size a b) : Below w.heap.size w b := h.trans (k.mono h.size)
theorem drewN {w a : World} {B n : Nat} (h : Below B w a) : Below B w (a.drewN n) := ⟨h.os, h.tape, h.output, h.size, h.block⟩

/-- the bytes of a block as a string -/
theorem conv_row {P : Program} {w : World} {src e dst : TypeId} (hs : P.underlying src = some (.slice e)) (he : P.underlying e = some (.int .u8)) (hd : P.underlying dst = some .string)
    {g : Nat} {bs : List UInt8} {rest : List Value} {t : TypeId} {fr : Nat × Nat} (hg : w.heap[g]? = some (.cells (bs.map bv ++ rest).toArray t fr)) {n cap : Nat} (hn : n = bs.length) :
    (convert src dst (.slice (some ⟨g, 0, none⟩) n cap)).run P w = .ok (.string (str bs)) w := by
  subst hn
  have h := run_convert_bytes_arg (P := P) w src e hs he g 0 bs.length cap (bs.map fun b => (b.toNat : Int)) (by simp) (fun i hi => by
    rw [cell_of_row w _ _ _ _ _ hg]
    simp [List.getElem?_append_left, hi, bv]) dst hd
  rw [h]
  simp [strOfNums, str, Function.comp_def]

/-! numbers, bit by bit -/
theorem and127 (b : Nat) (h : b < 256) : bits .and .u8 (b : Int) 127 = ((b % 128 : Nat) : Int) := by
  rw [show (127 : Int) = ((127 : Nat) : Int) from rfl, u8_and_nat b 127 h (by omega), nat_mask7]
theorem or128 (u : Nat) : bits .or .u8 ((u : Int) % 256) 128 = ((u % 128 + 128 : Nat) : Int) := by
  have e : (u : Int) % 256 = ((u % 256 : Nat) : Int) := by omega
  have h := u8_or_nat (u % 256) 128 (by omega) (by omega)
  rw [e]; refine h.trans ?_
  have h2 : u % 256 ||| 128 = u % 128 + 128 := by
    have hk : ∀ x : Fin 256, x.val ||| 128 = x.val % 128 + 128 := by decide +kernel
    have := hk ⟨u % 256, by omega⟩
    simp only at this; rw [this]; omega
  rw [h2]
theorem xor_ones (x : Nat) (h : x < 18446744073709551616) : bits .xor .u64 (x : Int) 18446744073709551615 = ((18446744073709551615 - x : Nat) : Int) := by
  have h1 := u64_xor_nat x 18446744073709551615 h (by omega)
  have h2 : x ^^^ 18446744073709551615 = 18446744073709551615 - x := by
    have e : (BitVec.ofNat 64 x ^^^ BitVec.allOnes 64).toNat = x ^^^ 18446744073709551615 := by
      rw [BitVec.toNat_xor, BitVec.toNat_ofNat, Nat.mod_eq_of_lt (by omega)]; rfl
    rw [← e, BitVec.xor_allOnes, BitVec.toNat_not, BitVec.toNat_ofNat, Nat.mod_eq_of_lt (by omega)]
  rw [h2] at h1; exact h1
theorem ofInt64_nat (a : Nat) (ha : a < 18446744073709551616) : (BitVec.ofInt 64 (a : Int)).toNat = a := by
  rw [BitVec.ofInt_natCast, BitVec.toNat_ofNat]; exact Nat.mod_eq_of_lt (by omega)

/-! slices: n elements of one cell each, wherever they lie -/
def Row (w : World) (a : Option Addr) (n : Nat) (f : Nat → Value) : Prop :=
  n = 0 ∨ ∃ b off, a = some ⟨b, off, none⟩ ∧ b < w.heap.size ∧ ∀ i, i < n → w.cell? ⟨b, off + i, none⟩ = some (f i)
theorem Row.below {w w' : World} {a : Option Addr} {n : Nat} {f : Nat → Value} (h : Row w a n f) (k : Below w.heap.size w w') : Row w' a n f := by
  rcases h with h | ⟨b, off, ha, hb, hc⟩
  · exact .inl h
  · exact .inr ⟨b, off, ha, Nat.lt_of_lt_of_le hb k.size, fun i hi => (k.cell (p := ⟨b, off + i, none⟩) hb).trans (hc i hi)⟩
theorem Row.at {w : World} {a : Option Addr} {n : Nat} {f : Nat → Value} (h : Row w a n f) (hn : 0 < n) : ∃ b off, a = some ⟨b, off, none⟩ ∧ b < w.heap.size ∧ ∀ i, i < n → w.cell? ⟨b, off + i, none⟩ = some (f i) := by
  rcases h with h | h
  · omega
  · exact h

/-- what has only grown keeps what is owned -/
theorem own_below {w w' : World} {B n size : Nat} {e : TypeId} {v : Value} {xs : List Value} (h : w.ownsRow B e size v n xs) (k : Below w.heap.size w w') : w'.ownsRow B e size v n xs :=
  h.kept (row := none) ⟨k.os, k.tape, k.output, k.size, fun i hi _ => k.block i hi⟩ (by
    cases v.ownBlock with
    | none => exact .inl rfl
    | some b => exact .inr (by simp))
theorem own_form {w : World} {B n size : Nat} {e : TypeId} {v : Value} {xs : List Value} (h : w.ownsRow B e size v n xs) : ∃ a cap, v = .slice a n cap ∧ n ≤ cap := by
  rcases h.2 with ⟨hv, h0⟩ | ⟨g, cap, cur, hv, _, _, hn, _⟩
  · exact ⟨none, 0, by rw [hv, h0], by omega⟩
  · exact ⟨_, _, hv, hn⟩
theorem own_row {w : World} {B n : Nat} {e : TypeId} {a : Option Addr} {m cap : Nat} {xs : List Value} (h : w.ownsRow B e 1 (.slice a m cap) n xs) : m = n ∧ Row w a n (fun i => xs.getD i undef) := by
  have hl := h.1
  rcases h.2 with ⟨hv, h0⟩ | ⟨g, cap', cur, hv, hB, hg, hn, hm, hs, ht⟩
  · cases hv; exact ⟨h0.symm, .inl h0⟩
  · cases hv
    refine ⟨rfl, .inr ⟨g, 0, rfl, lt_of_block hg, fun i hi => ?_⟩⟩
    have h2 := World.ownsRow.cellAt (w := w) (base := B) (e := e) (size := 1) (g := g) (n := n) (cap := cap) (xs := xs) ⟨h.1, .inr ⟨g, cap, cur, rfl, hB, hg, hn, hm, hs, ht⟩⟩ i (by omega)
    rw [Nat.zero_add, h2]
    simp only [List.getD_eq_getElem?_getD, List.getElem?_eq_getElem (show i < xs.length by omega), Option.getD_some]
theorem own_cap {w : World} {B n size : Nat} {e : TypeId} {a : Option Addr} {m cap : Nat} {xs : List Value} (h : w.ownsRow B e size (.slice a m cap) n xs) : cap ≤ 9223372036854775807 := by
  rcases h.2 with ⟨hv, h0⟩ | ⟨g, cap', cur, hv, hB, hg, hn, hm, hs, ht⟩
  · cases hv; omega
  · cases hv; unfold maxLen at hm; exact hm
theorem grown_trans {a b c : World} {row : Option Nat} (h : Below a.heap.size a b) (k : b.grownBy c row) : a.grownBy c row :=
  ⟨k.os.trans h.os, k.tape.trans h.tape, k.output.trans h.output, Nat.le_trans h.size k.size, fun i hi hne => (k.block i (Nat.lt_of_lt_of_le hi h.size) hne).trans (h.block i hi)⟩

/-- out = append(out, x), out nil or the call's own, x an element that has just been laid in a block of its own -/
theorem wpList_push {P : Program} {ops : Array Oper} {rest : List Oper} {o : Oper} {a : Act} {Q : Exit → Act → World → Prop} (hgd : o.guard = none) (s x : Operand) (t : TypeId)
    (ho : o.op = .call { callee := .builtin .append, args := #[s, x], argTypes := #[t, t] }) {e : TypeId} {z : Value} {size bytes : Nat} (ht : P.underlying t = some (.slice e))
    (hinfo : (P.info? e).map (fun i => (i.zero, i.size, i.bytes)) = some (some z, size, bytes)) (hzs : z.cells.size = size) (hsz : 0 < size) {w : World} {B n c : Nat} {xs : List Value} {v : Value} (hs : a.eval s = v)
    (cs : Array Value) (hcs : cs.size = size) (h1 : ∀ u ∈ cs.toList, u.oneCell' = true) (hx : a.eval x = .slice (some ⟨w.heap.size, 0, none⟩) 1 c) (hown : w.ownsRow B e size v n xs) (hbase : B ≤ w.heap.size)
    (h63 : n + 1 ≤ maxLen) (hbytes : (n + 1) * bytes ≤ 140737488355328)
    (h : ∀ a' cap w', w'.ownsRow B e size (.slice a' (n + 1) cap) (n + 1) (xs ++ cs.toList) → w.grownBy w' v.ownBlock → Below B w w' → wpList P ops Q rest (a.put o.dst (.slice a' (n + 1) cap)) w') :
    wpList P ops Q (o :: rest) a (w.alloc (.cells cs e)) := by
  obtain ⟨i0, hi, hz0, hz1, hz2⟩ := info_parts hinfo
  refine wpList_append_own _ hgd s x t ho B e i0 z size bytes ht hi hz0 hz1 hz2 hzs hsz v n xs hs (hown.alloc _) ⟨w.heap.size, 0, none⟩ 1 c cs.toList hx (by simp [hcs]) (fun j u hj => ?_) h1 h63 hbytes (by simp; omega) ?_
  · have hp : (⟨w.heap.size, 0, none⟩ : Addr).add j = ⟨w.heap.size, j, none⟩ := by unfold Addr.add; split <;> simp_all
    rw [hp, World.cell?_alloc_at _ _ _ _ rfl]
    simpa using hj
  · intro v' w' hown' hg _
    obtain ⟨a', cap, rfl, _⟩ := own_form hown'
    have hg2 : w.grownBy w' v.ownBlock := grown_trans ((Below.refl _ _).alloc (Nat.le_refl _) _) hg
    exact h a' cap w' hown' hg2 ((Below.refl B w).grown hg2 hbase (fun k hk => (hown.lt k hk).1))

/-- the same, where the place of the new element is spelled otherwise -/
theorem wpList_push2 {P : Program} {ops : Array Oper} {rest : List Oper} {o : Oper} {a : Act} {Q : Exit → Act → World → Prop} (hgd : o.guard = none) (s x : Operand) (t : TypeId)
    (ho : o.op = .call { callee := .builtin .append, args := #[s, x], argTypes := #[t, t] }) {e : TypeId} {z : Value} {size bytes : Nat} (ht : P.underlying t = some (.slice e))
    (hinfo : (P.info? e).map (fun i => (i.zero, i.size, i.bytes)) = some (some z, size, bytes)) (hzs : z.cells.size = size) (hsz : 0 < size) {w : World} {B n c g : Nat} {xs : List Value} {v : Value} (hs : a.eval s = v)
    (cs : Array Value) (hcs : cs.size = size) (h1 : ∀ u ∈ cs.toList, u.oneCell' = true) (hx : a.eval x = .slice (some ⟨g, 0, none⟩) 1 c) (hg : w.heap.size = g) (hown : w.ownsRow B e size v n xs) (hbase : B ≤ w.heap.size)
    (h63 : n + 1 ≤ maxLen) (hbytes : (n + 1) * bytes ≤ 140737488355328)
    (h : ∀ a' cap w', w'.ownsRow B e size (.slice a' (n + 1) cap) (n + 1) (xs ++ cs.toList) → w.grownBy w' v.ownBlock → Below B w w' → wpList P ops Q rest (a.put o.dst (.slice a' (n + 1) cap)) w') :
    wpList P ops Q (o :: rest) a (w.alloc (.cells cs e)) :=
  wpList_push hgd s x t ho ht hinfo hzs hsz hs cs hcs h1 (by rw [hg]; exact hx) hown hbase h63 hbytes h

/-- a row of one element type stays while one of another is written -/
theorem own_other {w w' : World} {B B' n n' size size' : Nat} {e e' : TypeId} {v v' : Value} {xs xs' : List Value} (h : w.ownsRow B e size v n xs) (k : w.ownsRow B' e' size' v' n' xs') (he : e ≠ e')
    (hg : w.grownBy w' v'.ownBlock) : w'.ownsRow B e size v n xs := by
  refine h.kept hg ?_
  rcases h.2 with ⟨rfl, _⟩ | ⟨g, cap, cur, rfl, _, hb, _⟩
  · exact .inl rfl
  · refine .inr fun hh => ?_
    rcases k.2 with ⟨rfl, _⟩ | ⟨g', cap', cur', rfl, _, hb', _⟩
    · simp [Value.ownBlock] at hh
    · simp only [Value.ownBlock, Option.some.injEq] at hh
      subst hh
      rw [hb] at hb'
      simp only [Option.some.injEq, Obj.cells.injEq] at hb'
      exact he hb'.2.1
theorem own_drewN {w : World} {B n size : Nat} {e : TypeId} {v : Value} {xs : List Value} (h : w.ownsRow B e size v n xs) (k : Nat) : (w.drewN k).ownsRow B e size v n xs :=
  own_below h (drewN (Below.refl _ _))

theorem row_map {α : Type} {w : World} {a : Option Addr} {l : List α} {f : α → Value} {d : α} (h : Row w a l.length (fun i => (l.map f).getD i undef)) : Row w a l.length (fun i => f (l.getD i d)) := by
  rcases h with h | ⟨b, off, ha, hb, hc⟩
  · exact .inl h
  · refine .inr ⟨b, off, ha, hb, fun i hi => (hc i hi).trans ?_⟩
    simp [List.getD_eq_getElem?_getD, List.getElem?_eq_getElem hi]

theorem Row.congr {w : World} {a : Option Addr} {n : Nat} {f g : Nat → Value} (h : Row w a n f) (hfg : ∀ i, i < n → f i = g i) : Row w a n g := by
  rcases h with h | ⟨b, off, ha, hb, hc⟩
  · exact .inl h
  · exact .inr ⟨b, off, ha, hb, fun i hi => by rw [← hfg i hi]; exact hc i hi⟩

/-- every block of cells of another type than these is as it was -/
def Keeps (ts : List TypeId) (w w' : World) : Prop := ∀ (g : Nat) (cs : Array Value) (t : TypeId) (fr : Nat × Nat), w.heap[g]? = some (.cells cs t fr) → t ∉ ts → w'.heap[g]? = some (.cells cs t fr)
theorem Keeps.refl (ts : List TypeId) (w : World) : Keeps ts w w := fun _ _ _ _ h _ => h
theorem Keeps.trans {ts : List TypeId} {a b c : World} (h : Keeps ts a b) (k : Keeps ts b c) : Keeps ts a c := fun g cs t fr hg ht => k g cs t fr (h g cs t fr hg ht) ht
theorem Keeps.mono {ts us : List TypeId} {a b : World} (h : Keeps ts a b) (hs : ∀ t, t ∈ ts → t ∈ us) : Keeps us a b := fun g cs t fr hg ht => h g cs t fr hg fun hh => ht (hs t hh)
theorem Keeps.below {ts : List TypeId} {a b : World} (h : Below a.heap.size a b) : Keeps ts a b := fun g cs t fr hg _ => (h.block g (lt_of_block hg)).trans hg
theorem Keeps.setCell {ts : List TypeId} {w : World} {p : Addr} {cs : Array Value} {t : TypeId} {fr : Nat × Nat} (hp : w.heap[p.block]? = some (.cells cs t fr)) (ht : t ∈ ts) (v : Value) : Keeps ts w (w.setCell p v) := by
  intro g cs' t' fr' hg ht'
  by_cases e : g = p.block
  · subst e
    rw [hp] at hg
    simp only [Option.some.injEq, Obj.cells.injEq] at hg
    exact absurd (hg.2.1 ▸ ht) ht'
  · exact (Below.heap_setCell w p v g e).trans hg
theorem Keeps.grown {ts : List TypeId} {w w' : World} {B n size : Nat} {e : TypeId} {v : Value} {xs : List Value} (h : w.ownsRow B e size v n xs) (he : e ∈ ts) (hg : w.grownBy w' v.ownBlock) : Keeps ts w w' := by
  intro g cs t fr hb ht
  refine (hg.block g (lt_of_block hb) fun hh => ?_).trans hb
  rcases h.2 with ⟨rfl, _⟩ | ⟨g', cap, cur, rfl, _, hb', _⟩
  · simp [Value.ownBlock] at hh
  · simp only [Value.ownBlock, Option.some.injEq] at hh
    subst hh
    rw [hb'] at hb
    simp only [Option.some.injEq, Obj.cells.injEq] at hb
    exact ht (hb.2.1 ▸ he)
theorem Keeps.cell {ts : List TypeId} {w w' : World} (h : Keeps ts w w') {g : Nat} {cs : Array Value} {t : TypeId} {fr : Nat × Nat} (hg : w.heap[g]? = some (.cells cs t fr)) (ht : t ∉ ts) (j : Nat) : w'.cell? ⟨g, j, none⟩ = cs[j]? :=
  cell_of_row w' g j cs t fr (h g cs t fr hg ht)

end Go.Proofs.Ytmgdcebbeglcmaa.B
