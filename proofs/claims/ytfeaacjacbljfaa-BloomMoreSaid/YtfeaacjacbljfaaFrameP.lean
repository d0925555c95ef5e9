/- Plain facts on check sums and frames: no program in sight. -/
import Derived.Test.YtfeaacjacbljfaaBase
namespace Go.Proofs.Ytfeaacjacbljfaa.Fp
open B
set_option linter.unusedVariables false

/-- one bit of the check sum -/
def stp (c : Nat) : Nat := c / 2 ^^^ (c % 2 * 3988292384)
def stpN : Nat → Nat → Nat
  | 0, c => c
  | k + 1, c => stp (stpN k c)
def crcB (c b : Nat) : Nat := stpN 8 (c ^^^ b)
/-- the state behind bytes -/
def crc (c : Nat) : List UInt8 → Nat
  | [] => c
  | b :: t => crc (crcB c b.toNat) t
def sum (l : List UInt8) : Nat := 4294967295 - crc 4294967295 l

theorem xor_lt32 {a b : Nat} (ha : a < 4294967296) (hb : b < 4294967296) : a ^^^ b < 4294967296 := Nat.xor_lt_two_pow (n := 32) ha hb
theorem stp_lt {c : Nat} (h : c < 4294967296) : stp c < 4294967296 := xor_lt32 (by omega) (by omega)
theorem stpN_lt {c : Nat} (h : c < 4294967296) : ∀ k, stpN k c < 4294967296
  | 0 => h
  | k + 1 => stp_lt (stpN_lt h k)
theorem crcB_lt {c b : Nat} (h : c < 4294967296) (hb : b < 256) : crcB c b < 4294967296 := stpN_lt (xor_lt32 h (by omega)) 8
theorem crc_lt : ∀ (l : List UInt8) {c : Nat}, c < 4294967296 → crc c l < 4294967296
  | [], _, h => h
  | b :: t, _, h => crc_lt t (crcB_lt h (UInt8.toNat_lt b))
theorem sum_lt (l : List UInt8) : sum l < 4294967296 := by unfold sum; omega
theorem crc_append : ∀ (l m : List UInt8) (c : Nat), crc c (l ++ m) = crc (crc c l) m
  | [], _, _ => rfl
  | b :: t, m, c => crc_append t m _
theorem crc_take (l : List UInt8) (k : Nat) (h : k < l.length) (c : Nat) : crc c (l.take (k + 1)) = crcB (crc c (l.take k)) l[k].toNat := by
  rw [List.take_succ_eq_append_getElem h, crc_append]; rfl

/-! the sum tells every single turned bit: no two states come to one -/
theorem testBit31 {c : Nat} (h : c < 4294967296) : (stp c).testBit 31 = decide (c % 2 = 1) := by
  unfold stp
  rw [Nat.testBit_xor]
  have h1 : (c / 2).testBit 31 = false := Nat.testBit_lt_two_pow (by omega)
  rw [h1, Bool.false_xor]
  rcases Nat.mod_two_eq_zero_or_one c with e | e <;> rw [e] <;> decide +kernel
theorem stp_inj {c d : Nat} (hc : c < 4294967296) (hd : d < 4294967296) (h : stp c = stp d) : c = d := by
  have h1 := testBit31 hc
  have h2 := testBit31 hd
  rw [h, h2] at h1
  have h3 : c % 2 = d % 2 := by
    rcases Nat.mod_two_eq_zero_or_one c with e | e <;> rcases Nat.mod_two_eq_zero_or_one d with f | f <;> simp [e, f] at h1 <;> omega
  unfold stp at h
  rw [h3] at h
  have h4 : c / 2 = d / 2 := by
    have := congrArg (· ^^^ (d % 2 * 3988292384)) h
    simpa [Nat.xor_assoc, Nat.xor_self] using this
  omega
theorem stpN_inj {c d : Nat} (hc : c < 4294967296) (hd : d < 4294967296) : ∀ k, stpN k c = stpN k d → c = d
  | 0, h => h
  | k + 1, h => stpN_inj hc hd k (stp_inj (stpN_lt hc k) (stpN_lt hd k) h)
theorem xor_cancel_left {c a b : Nat} (h : c ^^^ a = c ^^^ b) : a = b := by
  have := congrArg (c ^^^ ·) h
  simpa [← Nat.xor_assoc, Nat.xor_self] using this
theorem xor_cancel_right {c a b : Nat} (h : a ^^^ c = b ^^^ c) : a = b := by
  rw [Nat.xor_comm a, Nat.xor_comm b] at h; exact xor_cancel_left h
theorem crcB_inj {c d b : Nat} (hc : c < 4294967296) (hd : d < 4294967296) (hb : b < 256) (h : crcB c b = crcB d b) : c = d :=
  xor_cancel_right (stpN_inj (xor_lt32 hc (by omega)) (xor_lt32 hd (by omega)) 8 h)
theorem crcB_inj_byte {c a b : Nat} (hc : c < 4294967296) (ha : a < 256) (hb : b < 256) (h : crcB c a = crcB c b) : a = b :=
  xor_cancel_left (stpN_inj (xor_lt32 hc (by omega)) (xor_lt32 hc (by omega)) 8 h)
theorem crc_inj : ∀ (l : List UInt8) {c d : Nat}, c < 4294967296 → d < 4294967296 → crc c l = crc d l → c = d
  | [], _, _, _, _, h => h
  | b :: t, c, d, hc, hd, h => crcB_inj hc hd (UInt8.toNat_lt b) (crc_inj t (crcB_lt hc (UInt8.toNat_lt b)) (crcB_lt hd (UInt8.toNat_lt b)) h)
/-- bytes that part in one byte alone part in their sums -/
theorem sum_ne (l m : List UInt8) (a b : UInt8) (hab : a ≠ b) : sum (l ++ a :: m) ≠ sum (l ++ b :: m) := by
  intro h
  have e1 := crc_lt (l ++ a :: m) (c := 4294967295) (by omega)
  have e2 := crc_lt (l ++ b :: m) (c := 4294967295) (by omega)
  have h1 : crc 4294967295 (l ++ a :: m) = crc 4294967295 (l ++ b :: m) := by unfold sum at h; omega
  rw [crc_append, crc_append] at h1
  have hs := crc_lt l (c := 4294967295) (by omega)
  have h2 := crc_inj m (crcB_lt hs (UInt8.toNat_lt a)) (crcB_lt hs (UInt8.toNat_lt b)) h1
  exact hab (UInt8.toNat_inj.1 (crcB_inj_byte hs (UInt8.toNat_lt a) (UInt8.toNat_lt b) h2))

/-- a frame's head -/
def headN (n c : Nat) : List Nat := [n / 256, n % 256, 255 - n / 256, 255 - n % 256, c / 16777216, c / 65536 % 256, c / 256 % 256, c % 256]
def head (n c : Nat) : List UInt8 := (headN n c).map UInt8.ofNat
/-- a body's frame -/
def frm (l : List UInt8) : List UInt8 := head l.length (sum l) ++ l
theorem head_len (n c : Nat) : (head n c).length = 8 := rfl
theorem frm_len (l : List UInt8) : (frm l).length = 8 + l.length := by simp [frm, head_len]
theorem head_cells (n c : Nat) (hn : n ≤ 65535) (hc : c < 4294967296) :
    ((head n c).map bv ++ []).toArray = #[.int .u8 ((n : Int) / 256), .int .u8 ((n : Int) % 256), .int .u8 (255 - (n : Int) / 256), .int .u8 (255 - (n : Int) % 256), .int .u8 ((c : Int) / 16777216), .int .u8 ((c : Int) / 65536 % 256), .int .u8 ((c : Int) / 256 % 256), .int .u8 ((c : Int) % 256)] := by
  simp only [head, headN, List.map_cons, List.map_nil, List.append_nil]
  rw [bv_ofNat (by omega), bv_ofNat (by omega), bv_ofNat (by omega), bv_ofNat (by omega), bv_ofNat (by omega), bv_ofNat (by omega), bv_ofNat (by omega), bv_ofNat (by omega)]
  rw [show ((255 - n / 256 : Nat) : Int) = 255 - (n : Int) / 256 from by omega, show ((255 - n % 256 : Nat) : Int) = 255 - (n : Int) % 256 from by omega]
  rfl

/-- what Get answers: a body, the place behind it, an error -/
structure GF where
  t : ByteArray
  next : Int
  e : Int

/-- the stored sum's first k bytes -/
def c4 (s : ByteArray) (b : Nat) : Nat → Nat
  | 0 => 0
  | k + 1 => c4 s b k * 256 + bn s (b + 4 + k)
theorem c4_lt (s : ByteArray) (b : Nat) : ∀ k, c4 s b k < 256 ^ k
  | 0 => by simp [c4]
  | k + 1 => by
    have h := c4_lt s b k
    have hb := bn_lt s (b + 4 + k)
    rw [c4, Nat.pow_succ]; omega

def getN (s : ByteArray) (b : Nat) : GF :=
  if s.size - b = 0 then ⟨str [], 0, 10⟩ else if s.size - b < 4 then ⟨str [], 0, 3⟩
  else if bn s b + bn s (b + 2) ≠ 255 ∨ bn s (b + 1) + bn s (b + 3) ≠ 255 then ⟨str [], 0, 4⟩
  else if s.size - b < 8 + (256 * bn s b + bn s (b + 1)) then ⟨str [], 0, 3⟩
  else if c4 s b 4 ≠ sum (s.extract (b + 8) (b + 8 + (256 * bn s b + bn s (b + 1)))).data.toList then ⟨str [], 0, 6⟩
  else ⟨s.extract (b + 8) (b + 8 + (256 * bn s b + bn s (b + 1))), ((b + 8 + (256 * bn s b + bn s (b + 1)) : Nat) : Int), 0⟩
def getF (s : ByteArray) (a : Int) : GF :=
  if a < 0 ∨ (s.size : Int) < a then ⟨str [], 0, 2⟩ else getN s a.toNat

theorem headN_lt (n c : Nat) (hn : n ≤ 65535) (hc : c < 4294967296) : ∀ j, (headN n c).getD j 0 < 256
  | 0 => by show n / 256 < 256; omega
  | 1 => by show n % 256 < 256; omega
  | 2 => by show 255 - n / 256 < 256; omega
  | 3 => by show 255 - n % 256 < 256; omega
  | 4 => by show c / 16777216 < 256; omega
  | 5 => by show c / 65536 % 256 < 256; omega
  | 6 => by show c / 256 % 256 < 256; omega
  | 7 => by show c % 256 < 256; omega
  | j + 8 => by show ([] : List Nat).getD j 0 < 256; simp

/-- byte j of a head, wherever it stands -/
theorem bn_head (x t : List UInt8) (n c : Nat) (hn : n ≤ 65535) (hc : c < 4294967296) (j : Nat) (hj : j < 8) :
    bn (str (x ++ (head n c ++ t))) (x.length + j) = (headN n c).getD j 0 := by
  have h := headN_lt n c hn hc j
  unfold bn
  rw [toList_str, List.getD_eq_getElem?_getD, List.getElem?_append_right (by omega), Nat.add_sub_cancel_left, List.getElem?_append_left (by rw [head_len]; exact hj)]
  unfold head
  rw [List.getElem?_map]
  rw [List.getD_eq_getElem?_getD] at h ⊢
  rw [List.getElem?_eq_getElem (show j < (headN n c).length from hj)] at h ⊢
  simp only [Option.map_some, Option.getD_some] at h ⊢
  rw [UInt8.toNat_ofNat', Nat.mod_eq_of_lt (by omega)]

theorem c4_head (x t : List UInt8) (n c : Nat) (hn : n ≤ 65535) (hc : c < 4294967296) : c4 (str (x ++ (head n c ++ t))) x.length 4 = c := by
  have e4 := bn_head x t n c hn hc 4 (by omega)
  have e5 := bn_head x t n c hn hc 5 (by omega)
  have e6 := bn_head x t n c hn hc 6 (by omega)
  have e7 := bn_head x t n c hn hc 7 (by omega)
  simp only [c4, Nat.add_assoc, Nat.zero_mul, Nat.zero_add, Nat.reduceAdd, e4, e5, e6, e7]
  show (((c / 16777216) * 256 + c / 65536 % 256) * 256 + c / 256 % 256) * 256 + c % 256 = c
  omega

/-- what stands where a frame stands -/
theorem getN_at (x l y : List UInt8) (hl : l.length ≤ 65535) : getN (str (x ++ (frm l ++ y))) x.length = ⟨str l, ((x.length + 8 + l.length : Nat) : Int), 0⟩ := by
  have hs := sum_lt l
  have e0 := bn_head x (l ++ y) l.length (sum l) hl hs 0 (by omega)
  have e1 := bn_head x (l ++ y) l.length (sum l) hl hs 1 (by omega)
  have e2 := bn_head x (l ++ y) l.length (sum l) hl hs 2 (by omega)
  have e3 := bn_head x (l ++ y) l.length (sum l) hl hs 3 (by omega)
  have ec := c4_head x (l ++ y) l.length (sum l) hl hs
  have ef : frm l ++ y = head l.length (sum l) ++ (l ++ y) := by rw [frm, List.append_assoc]
  have hz : (str (x ++ (frm l ++ y))).size = x.length + (8 + l.length + y.length) := by rw [str_size, List.length_append, List.length_append, frm_len]
  have hn : 256 * (l.length / 256) + l.length % 256 = l.length := by omega
  have hx : (str (x ++ (frm l ++ y))).extract (x.length + 8) (x.length + 8 + l.length) = str l := by
    rw [extract_str, toList_str, ef]
    congr 1
    rw [List.drop_append, List.drop_of_length_le (by omega), List.nil_append, List.drop_append, List.drop_of_length_le (by rw [head_len]; omega), List.nil_append, head_len]
    rw [show x.length + 8 - x.length - 8 = 0 from by omega, List.drop_zero, show x.length + 8 + l.length - (x.length + 8) = l.length from by omega, List.take_left']
    rfl
  simp only [Nat.add_zero] at e0
  rw [← ef] at e0 e1 e2 e3 ec
  unfold getN
  rw [hz, if_neg (by omega), if_neg (by omega), e0, e1, e2, e3]
  simp only [headN, List.getD_cons_zero, List.getD_cons_succ]
  rw [if_neg (by omega), hn, hx, ec, toList_str, if_neg (by omega), if_neg (by simp)]

theorem getF_step {s : ByteArray} {a : Nat} (h : (getF s a).e = 0) : ∃ k, (getF s a).next = ((k : Nat) : Int) ∧ a + 8 ≤ k ∧ k ≤ s.size := by
  unfold getF at h ⊢
  by_cases h1 : (a : Int) < 0 ∨ (s.size : Int) < a
  · rw [if_pos h1] at h; exact absurd h (by decide)
  · rw [if_neg h1] at h ⊢
    simp only [Int.toNat_natCast] at h ⊢
    unfold getN at h ⊢
    by_cases h2 : s.size - a = 0
    · rw [if_pos h2] at h; exact absurd h (by decide)
    · rw [if_neg h2] at h ⊢
      by_cases h3 : s.size - a < 4
      · rw [if_pos h3] at h; exact absurd h (by decide)
      · rw [if_neg h3] at h ⊢
        by_cases h4 : bn s a + bn s (a + 2) ≠ 255 ∨ bn s (a + 1) + bn s (a + 3) ≠ 255
        · rw [if_pos h4] at h; exact absurd h (by decide)
        · rw [if_neg h4] at h ⊢
          by_cases h5 : s.size - a < 8 + (256 * bn s a + bn s (a + 1))
          · rw [if_pos h5] at h; exact absurd h (by decide)
          · rw [if_neg h5] at h ⊢
            by_cases h6 : c4 s a 4 ≠ sum (s.extract (a + 8) (a + 8 + (256 * bn s a + bn s (a + 1)))).data.toList
            · rw [if_pos h6] at h; exact absurd h (by decide)
            · rw [if_neg h6] at h ⊢
              exact ⟨_, rfl, by omega, by omega⟩

/-- the bodies of frames one behind the other, where they end, and why -/
def fAll (s : ByteArray) : Nat → Nat → List ByteArray → List ByteArray × Nat × Int
  | 0, a, acc => (acc, a, 10)
  | f + 1, a, acc => if (getF s a).e ≠ 0 then (acc, a, (getF s a).e) else fAll s f (getF s a).next.toNat (acc ++ [(getF s a).t])
def allF (s : ByteArray) : List ByteArray × Nat × Int := fAll s (s.size + 2) 0 []

/-- frames one behind the other -/
def frames (l : List (List UInt8)) : List UInt8 := l.flatMap frm
theorem frames_append (l m : List (List UInt8)) : frames (l ++ m) = frames l ++ frames m := by simp [frames]
theorem frames_take (l : List (List UInt8)) (k : Nat) (h : k < l.length) : frames (l.take (k + 1)) = frames (l.take k) ++ frm (l.getD k []) := by
  rw [List.take_succ_eq_append_getElem h, frames_append]
  simp [frames, List.getD_eq_getElem?_getD, List.getElem?_eq_getElem h]
theorem frames_len (l : List (List UInt8)) (h : ∀ b ∈ l, b.length ≤ 2000) : (frames l).length ≤ 2008 * l.length := by
  induction l with
  | nil => simp [frames]
  | cons b t ih =>
    have h1 := h b (by simp)
    have h2 := ih fun c hc => h c (by simp [hc])
    simp only [frames, List.flatMap_cons, List.length_append, List.length_cons, frm_len] at h2 ⊢
    omega
/-- bodies, cut as the law cuts them -/
def cutB (ss : List ByteArray) : List (List UInt8) := (ss.take 20).map fun s => s.data.toList.take 2000
/-- where the frames end -/
def endN (l : List (List UInt8)) (i : Nat) : Nat := (frames (l.take (i + 1))).length
theorem cutB_len (ss : List ByteArray) : (cutB ss).length = min ss.length 20 := by simp [cutB]; omega
theorem cutB_le (ss : List ByteArray) : ∀ b ∈ cutB ss, b.length ≤ 2000 := by
  intro b hb
  simp only [cutB, List.mem_map] at hb
  obtain ⟨s, _, rfl⟩ := hb
  simp; omega
theorem cutB_get (ss : List ByteArray) (k : Nat) (h : k < min ss.length 20) : (cutB ss).getD k [] = (ss.getD k ByteArray.empty).data.toList.take 2000 := by
  simp only [cutB, List.getD_eq_getElem?_getD, List.getElem?_map]
  rw [List.getElem?_take_of_lt (by omega), List.getElem?_eq_getElem (show k < ss.length by omega)]
  simp

end Go.Proofs.Ytfeaacjacbljfaa.Fp
