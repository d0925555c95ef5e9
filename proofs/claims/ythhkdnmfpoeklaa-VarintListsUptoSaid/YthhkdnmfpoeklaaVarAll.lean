/- The walks of varint's PutAll and GetAll. -/
import Derived.Test.YthhkdnmfpoeklaaVarRef
import Derived.Test.YthhkdnmfpoeklaaBuilder
namespace Go.Proofs.Ythhkdnmfpoeklaa.Vw
open Go.RowKit
open Vp B
set_option linter.unusedVariables false

/-- the numbers' bytes, one behind the other -/
def encs (l : List Int) : List UInt8 := l.flatMap fun n => vb (zz n)
theorem encs_append (l m : List Int) : encs (l ++ m) = encs l ++ encs m := by simp [encs]
theorem encs_len : ∀ (l : List Int), (∀ n ∈ l, -9223372036854775808 ≤ n ∧ n ≤ 9223372036854775807) → (encs l).length ≤ 10 * l.length
  | [], _ => by simp [encs]
  | n :: t, h => by
    have h1 := vb_len10 (zz_lt (h n (by simp)).1 (h n (by simp)).2)
    have h2 := encs_len t fun m hm => h m (by simp [hm])
    simp only [encs, List.flatMap_cons, List.length_append, List.length_cons] at h2 ⊢
    omega

/-- what GetAll answers: numbers and an error -/
def gAll (s : ByteArray) : Nat → Nat → List Int → List Int × Int
  | 0, _, acc => (acc, 0)
  | f + 1, a, acc => if s.size ≤ a then (acc, 0) else if (getS s a).e ≠ 0 then ([], (getS s a).e) else gAll s f (getS s a).next.toNat (acc ++ [(getS s a).n])

theorem getS_step {s : ByteArray} {a : Nat} (h : (getS s a).e = 0) : ∃ k, (getS s a).next = ((k : Nat) : Int) ∧ a < k ∧ k ≤ s.size ∧ -9223372036854775808 ≤ (getS s a).n ∧ (getS s a).n ≤ 9223372036854775807 := by
  obtain ⟨b, k, hb, hR, hbk, hg⟩ := getS_ok h
  have hlo := hR.lo
  have hu := unzz_bd (val_bound hR)
  rw [hg]
  exact ⟨b + k, rfl, by omega, hbk, hu.1, hu.2⟩

theorem infoI64 : (Try.prog.info? 2).map (fun i => (i.zero, i.size, i.bytes)) = some (some (.int .i64 0), 1, 8) := by kernel_rfl

/-- a post with its existentials out of the walk's sight -/
def GotAll (s : ByteArray) (w : World) (r : List Int × Int) (e : Ending) (w' : World) : Prop :=
  ∃ a cap, e = .returned (.tuple #[.slice a r.1.length cap, .int .i64 r.2]) ∧ Row w' a r.1.length (fun i => .int .i64 (r.1.getD i 0)) ∧ Below w.heap.size w w'

theorem row_ints {w : World} {a : Option Addr} {l : List Int} (h : Row w a l.length (fun i => (l.map (Value.int .i64)).getD i undef)) : Row w a l.length (fun i => .int .i64 (l.getD i 0)) := by
  rcases h with h | ⟨b, off, ha, hb, hc⟩
  · exact .inl h
  · refine .inr ⟨b, off, ha, hb, fun i hi => (hc i hi).trans ?_⟩
    simp [List.getD_eq_getElem?_getD, List.getElem?_eq_getElem hi]

set_option maxHeartbeats 800000 in
set_option maxRecDepth 100000 in
theorem getAll_any (s : ByteArray) (hs : s.size ≤ 16777216) (w : World) :
    Calls Try.prog 16 #[.string s] w (GotAll s w (gAll s (s.size + 1) 0 [])) := by
  generalize hr0 : gAll s (s.size + 1) 0 [] = r
  have HR0 := Lib.hid hr0
  clear hr0
  go_enter Try.func16, Try.ntmps16
  go_wp2_with fail
  go_loopw [4, 5] (fun v x wr => ∃ (k f : Nat) (acc : List Int), x = .int .i64 k ∧ k ≤ s.size ∧ acc.length ≤ k ∧ s.size < k + f ∧ Hid (r = gAll s f k acc) ∧ Hid (v = .slice none 0 0 ∧ acc = [] ∨ acc ≠ []) ∧
      wr.ownsRow w.heap.size 2 1 v acc.length (acc.map (Value.int .i64)) ∧ Below w.heap.size w wr) (fun _ x _ => s.size - (intOf x).toNat)
  case atStart => exact ⟨0, s.size + 1, [], rfl, by omega, by simp, by omega, HR0.out.symm, .inl ⟨rfl, rfl⟩, World.ownsRow_nil _ _ _ _, Below.refl _ _⟩
  case round =>
    obtain ⟨k, f, acc, rfl, hk, hacc, hf, hg, hnil, hown, hbel⟩ := hrel
    obtain ⟨f, rfl⟩ : ∃ f', f = f' + 1 := ⟨f - 1, by omega⟩
    by_cases hlt : k < s.size
    · have hG := hg.out
      rw [gAll, if_neg (by omega)] at hG
      have hstep := @getS_step s k
      have HC := get_any s k (by omega) wr
      generalize getS s k = g at hG hstep HC
      obtain ⟨gn, gx, ge⟩ := g
      simp only at hG hstep
      have HC2 := Lib.hid HC
      clear HC hg
      by_cases he : ge = 0
      · subst he
        obtain ⟨nx, rfl, h1, h2, hn1, hn2⟩ := hstep rfl
        simp only [ne_eq, not_true_eq_false, if_false, Int.toNat_natCast] at hG
        have HG := Lib.hid hG
        clear hstep hG
        go_wp2_with fail
        refine HC2.out.mono ?_
        rintro e w1 ⟨rfl, rfl⟩
        simp only [ret3]
        go_wp2_with (at_builtin; refine wpList_push rfl _ _ 37 rfl Try.underlying37 infoI64 rfl (by decide) rfl #[.int .i64 gn] rfl ?c1 rfl hown ?c2 ?c3 ?c4 ?_)
        case c1 => rfl
        case c2 => exact hbel.size
        case c3 => unfold maxLen; omega
        case c4 => omega
        intro a' cap w2 hown2 _ hb2
        have hb3 := hbel.trans hb2
        go_wp2_with fail
        go_roundw
        case rel =>
          refine ⟨nx, f, acc ++ [gn], rfl, by omega, by simp; omega, by omega, HG.out, .inr (by simp), ?_, ?_⟩
          · simpa using hown2
          · exact hb3
        case measure => simp [intOf]; omega
      · have hb : (ge != 0) = true := nt he
        rw [if_pos he] at hG
        have HG := Lib.hid hG
        clear hstep hG he
        go_wp2_with fail
        refine HC2.out.mono ?_
        rintro e w1 ⟨rfl, rfl⟩
        simp only [ret3]
        go_wp2_with fail
        go_ret2
        rw [GotAll, HG.out]
        exact ⟨none, 0, rfl, .inl rfl, hbel⟩
    · have hG := hg.out
      rw [gAll, if_pos (by omega)] at hG
      have HG := Lib.hid hG
      clear hg hG
      obtain ⟨a, cap, rfl, _⟩ := own_form hown
      go_wp2_with fail
      go_ret2
      rw [GotAll, HG.out]
      exact ⟨a, cap, rfl, row_ints (own_row hown).2, hbel⟩
theorem encs_take (zs : List Int) (k : Nat) (h : k < zs.length) : encs (zs.take (k + 1)) = encs (zs.take k) ++ vb (zz (zs.getD k 0)) := by
  rw [List.take_succ_eq_append_getElem h, encs_append]
  simp [encs, List.getD_eq_getElem?_getD, List.getElem?_eq_getElem h]

set_option maxHeartbeats 800000 in
set_option maxRecDepth 100000 in
theorem putAll_any (a : Option Addr) (n cap : Nat) (zs : List Int) (hz : zs.length = n) (hn : n ≤ 1048576) (hwf : ∀ x ∈ zs, -9223372036854775808 ≤ x ∧ x ≤ 9223372036854775807) (w : World)
    (h : Row w a n (fun i => .int .i64 (zs.getD i 0))) :
    Calls Try.prog 15 #[.slice a n cap] w fun e w' => e = .returned (.string (str (encs zs))) ∧ Below w.heap.size w w' := by
  have hfr := Bd.fresh w
  have HFR := Lib.hid hfr
  have HR := Lib.hid h
  have HZ := Lib.hid hz
  clear hfr h hz
  go_enter Try.func15, Try.ntmps15
  go_wp2_with fail
  go_loopw [8] (fun x wr => ∃ k : Nat, x = .int .i64 k ∧ k ≤ n ∧ Hid (Bd.Holds w.heap.size w.heap.size (encs (zs.take k)) wr) ∧ Below w.heap.size w wr) (fun x _ => n - (intOf x).toNat)
  case atStart => exact ⟨0, rfl, by omega, HFR.out, (Below.refl _ _).alloc (Nat.le_refl _) _⟩
  case round =>
    obtain ⟨k, rfl, hk, hH, hbel⟩ := hrel
    by_cases hlt : k < n
    · obtain ⟨b, off, rfl, hbw, hc⟩ := HR.out.at (by omega)
      have hck : wr.cell? ⟨b, off + k, none⟩ = some (.int .i64 (zs.getD k 0)) := (hbel.cell (p := ⟨b, off + k, none⟩) hbw).trans (hc k hlt)
      have hzk : -9223372036854775808 ≤ zs.getD k 0 ∧ zs.getD k 0 ≤ 9223372036854775807 := hwf _ (by
        have hl : k < zs.length := by have := HZ.out; omega
        rw [List.getD_eq_getElem?_getD, List.getElem?_eq_getElem hl]; simp)
      have het := encs_take zs k (by have := HZ.out; omega)
      have hel := encs_len (zs.take k) (fun x hx => hwf x (List.mem_of_mem_take hx))
      have hlt2 : (zs.take k).length ≤ k := List.length_take_le _ _
      have hvl := vb_len10 (zz_lt hzk.1 hzk.2)
      obtain ⟨z, hzd⟩ : ∃ z, z = zs.getD k 0 := ⟨_, rfl⟩
      rw [← hzd] at hck hzk het hvl
      have HET := Lib.hid het
      obtain ⟨hz1, hz2⟩ := hzk
      clear hc het hzd
      go_wp2_with fail
      refine (put_any z hz1 hz2 _).mono ?_
      rintro e w1 ⟨rfl, hb1⟩
      go_wp2_with fail
      refine (Bd.writeString_any _ _ _ _ _ (hH.out.below hb1) ?_ ?_).mono ?_
      · rw [enc, str_size]; omega
      · have := hbel.size; have := hb1.size; omega
      rintro e w2 ⟨rfl, hH2, hb2⟩
      have hb3 := (hbel.trans (hb1.mono hbel.size)).trans hb2
      have HH2 := Lib.hid hH2
      clear hH2
      go_wp2_with fail
      go_roundw
      case rel => exact ⟨k + 1, by go_num, by omega, by show Bd.Holds _ _ _ _; rw [HET.out]; exact HH2.out, hb3⟩
      case measure => simp [intOf]; omega
    · have hkn : zs.take k = zs := List.take_of_length_le (by have := HZ.out; omega)
      have HKN := Lib.hid hkn
      clear hkn
      go_wp2_with fail
      refine (Bd.string_any _ _ _ _ hH.out hbel.size).mono ?_
      rw [HKN.out]
      rintro e w2 ⟨rfl, hb2⟩
      have hb3 := hbel.trans hb2
      go_wp2_with fail
      go_ret
      exact ⟨rfl, hb3⟩

end Go.Proofs.Ythhkdnmfpoeklaa.Vw
