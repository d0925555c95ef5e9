/- Small facts that all walks of this seat share: bytes, strings, tests, numbers. No program in sight. -/
import Derived.WalkKit
import Derived.WalkSpells
import Derived.WalkLawsBesides
import Derived.PlainAid
import Derived.Handy
import Derived.Lib.Hide
namespace Go.Proofs.Ythhkdnmfpoeklaa.B
open Go.RowKit
set_option linter.unusedVariables false

/-! tests, as the walk asks them -/
theorem dt {p : Prop} [Decidable p] (h : p) : decide p = true := decide_eq_true h
theorem df {p : Prop} [Decidable p] (h : ¬ p) : decide p = false := decide_eq_false h
theorem et {a b : Int} (h : a = b) : (a == b) = true := by simp [h]
theorem ef {a b : Int} (h : a ≠ b) : (a == b) = false := by simp [h]
theorem nt {a b : Int} (h : a ≠ b) : (a != b) = true := by simp [h]
theorem nf {a b : Int} (h : a = b) : (a != b) = false := by simp [h]

/-! bytes and strings -/
def bv (b : UInt8) : Value := .int .u8 b.toNat
theorem bv_ofNat {u : Nat} (h : u < 256) : bv (UInt8.ofNat u) = .int .u8 u := by
  simp only [bv, UInt8.toNat_ofNat']; rw [Nat.mod_eq_of_lt (by omega)]

/-- a string out of bytes -/
def str (l : List UInt8) : ByteArray := ⟨l.toArray⟩
theorem str_size (l : List UInt8) : (str l).size = l.length := by simp [str, ByteArray.size]
theorem str_toList (s : ByteArray) : str s.data.toList = s := rfl
theorem toList_str (l : List UInt8) : (str l).data.toList = l := rfl
theorem str_append (x y : List UInt8) : str x ++ str y = str (x ++ y) := ByteArray.mk_append_mk x y
theorem str_inj {x y : List UInt8} (h : str x = str y) : x = y := by
  have := congrArg (fun s : ByteArray => s.data.toList) h
  simpa [toList_str] using this

/-- byte k of a string, as a number; 0 behind its end -/
def bn (s : ByteArray) (k : Nat) : Nat := (s.data.toList.getD k 0).toNat
theorem get_bn (s : ByteArray) (n : Nat) (h : n < s.size) : (s[n]'h).toNat = bn s n := by
  unfold bn
  rw [List.getD_eq_getElem?_getD, List.getElem?_eq_getElem (by simpa using h)]
  rfl
theorem bn_lt (s : ByteArray) (k : Nat) : bn s k < 256 := by unfold bn; exact UInt8.toNat_lt _

theorem take_bn (l : List UInt8) : ∀ k, k ≤ l.length → (List.range k).map (fun j => UInt8.ofNat (l.getD j 0).toNat) = l.take k := by
  intro k hk
  apply List.ext_getElem
  · simp; omega
  · intro i h1 h2
    have h3 : i < l.length := by simp at h2; omega
    simp [List.getElem?_eq_getElem h3]
theorem extract0 (s : ByteArray) (k : Nat) : s.extract 0 k = str (s.data.toList.take k) := by
  have h : (s.extract 0 k).data.toList = s.data.toList.take k := by
    simp [ByteArray.data_extract, Array.toList_extract]
  rw [← h]; rfl
theorem extract_str (s : ByteArray) (i j : Nat) : s.extract i j = str ((s.data.toList.drop i).take (j - i)) := by
  have h : (s.extract i j).data.toList = (s.data.toList.drop i).take (j - i) := by
    simp [ByteArray.data_extract, Array.toList_extract]
  rw [← h]; rfl
theorem range_bn (s : ByteArray) (k : Nat) (hk : k ≤ s.size) : str ((List.range k).map fun j => UInt8.ofNat (bn s j)) = s.extract 0 k := by
  rw [extract0]
  exact congrArg str (take_bn s.data.toList k (by simpa using hk))

/-! worlds that have only grown -/
theorem chain {w a b : World} (h : Below w.heap.size w a) (k : Below a.heap.size a b) : Below w.heap.size w b := h.trans (k.mono h.size)
theorem drewN {w a : World} {B n : Nat} (h : Below B w a) : Below B w (a.drewN n) := ⟨h.os, h.tape, h.output, h.size, h.block⟩

/-- the bytes of a block as a string -/
theorem conv_row {P : Program} {w : World} {src e dst : TypeId} (hs : P.underlying src = some (.slice e)) (he : P.underlying e = some (.int .u8)) (hd : P.underlying dst = some .string)
    {g : Nat} {bs : List UInt8} {rest : List Value} {t : TypeId} {fr : Nat × Nat} (hg : w.heap[g]? = some (.cells (bs.map bv ++ rest).toArray t fr)) {n cap : Nat} (hn : n = bs.length) :
    (convert src dst (.slice (some ⟨g, 0, none⟩) n cap)).run P w = .ok (.string (str bs)) w := by
  subst hn
  have h := run_convert_bytes_arg (P := P) w src e hs he g 0 bs.length cap (bs.map fun b => (b.toNat : Int)) (by simp) (fun i hi => by
    rw [cell_of_row w _ _ _ _ _ hg]
    simp [List.getElem?_append_left, hi, bv]) dst hd
  rw [h]
  simp [strOfNums, str, Function.comp_def]

/-! numbers, bit by bit -/
theorem and127 (b : Nat) (h : b < 256) : bits .and .u8 (b : Int) 127 = ((b % 128 : Nat) : Int) := by
  rw [show (127 : Int) = ((127 : Nat) : Int) from rfl, u8_and_nat b 127 h (by omega), nat_mask7]
theorem or128 (u : Nat) : bits .or .u8 ((u : Int) % 256) 128 = ((u % 128 + 128 : Nat) : Int) := by
  have e : (u : Int) % 256 = ((u % 256 : Nat) : Int) := by omega
  have h := u8_or_nat (u % 256) 128 (by omega) (by omega)
  rw [e]; refine h.trans ?_
  have h2 : u % 256 ||| 128 = u % 128 + 128 := by
    have hk : ∀ x : Fin 256, x.val ||| 128 = x.val % 128 + 128 := by decide +kernel
    have := hk ⟨u % 256, by omega⟩
    simp only at this; rw [this]; omega
  rw [h2]
theorem xor_ones (x : Nat) (h : x < 18446744073709551616) : bits .xor .u64 (x : Int) 18446744073709551615 = ((18446744073709551615 - x : Nat) : Int) := by
  have h1 := u64_xor_nat x 18446744073709551615 h (by omega)
  have h2 : x ^^^ 18446744073709551615 = 18446744073709551615 - x := by
    have e : (BitVec.ofNat 64 x ^^^ BitVec.allOnes 64).toNat = x ^^^ 18446744073709551615 := by
      rw [BitVec.toNat_xor, BitVec.toNat_ofNat, Nat.mod_eq_of_lt (by omega)]; rfl
    rw [← e, BitVec.xor_allOnes, BitVec.toNat_not, BitVec.toNat_ofNat, Nat.mod_eq_of_lt (by omega)]
  rw [h2] at h1; exact h1
theorem ofInt64_nat (a : Nat) (ha : a < 18446744073709551616) : (BitVec.ofInt 64 (a : Int)).toNat = a := by
  rw [BitVec.ofInt_natCast, BitVec.toNat_ofNat]; exact Nat.mod_eq_of_lt (by omega)

end Go.Proofs.Ythhkdnmfpoeklaa.B
