/- What law 11 itself calls: Spans, source, wakes. -/
import Derived.Test.YtajfalffpcamhaaTabU
namespace Go.Proofs.Ytajfalffpcamhaa.Tw
open Go.RowKit
open Tb Fp Vp B En
set_option linter.unusedVariables false

set_option maxHeartbeats 400000 in
set_option maxRecDepth 100000 in
theorem clone_nil (c : Nat) (w : World) :
    Calls Try.prog 61 #[.slice none 0 c] w fun e w' => e = .returned (.slice none 0 0) ∧ w' = w := by
  have q22 : ∀ (w : World) (a : Option Addr) (n c n' c' : Nat), (binOp .eql 66 (.slice a n c) (.slice none n' c')).run Try.prog w = .ok (.bool a.isNone) w := fun w a n c n' c' => Lib.run_eql_slice_nil w _ _ a n c n' c' Try.underlying66
  go_enter Try.func61, Try.ntmps61
  go_wp2_with fail
  go_ret
  exact ⟨rfl, rfl⟩
set_option maxHeartbeats 400000 in
set_option maxRecDepth 100000 in
theorem tspans_any (tb g : Nat) (s f : ByteArray) (sp : List Sp) (hl : sp.length ≤ 65535) (w : World) (h : TBox w tb g s sp f) :
    Calls Try.prog 24 #[.pointer (some ⟨tb, 0, none⟩)] w fun e w' => ∃ a' c', e = .returned (.slice a' sp.length c') ∧ SRow w' a' sp ∧ Below w.heap.size w w' := by
  obtain ⟨a, c, ⟨c0, c1, c2⟩, hr, _, _, ha⟩ := h.cells
  have hb0 := h.lt
  clear h
  rcases ha with rfl | ⟨b, off, rfl⟩
  · have hz : sp.length = 0 := by
      rcases hr with h | ⟨_, _, h, _⟩
      · exact h
      · cases h
    obtain rfl := List.eq_nil_of_length_eq_zero hz
    have HC := Lib.hid (clone_nil c w)
    simp only [List.length_nil] at c1 ⊢
    go_enter Try.func24, Try.ntmps24
    go_wp2_with fail
    refine HC.out.mono ?_
    rintro e w1 ⟨rfl, rfl⟩
    go_wp2_with fail
    go_ret
    exact ⟨none, 0, rfl, .inl rfl, Below.refl _ _⟩
  · have HC := Lib.hid (clone_any b off sp.length c sp rfl hl w hr)
    clear hr
    go_enter Try.func24, Try.ntmps24
    go_wp2_with fail
    refine HC.out.mono ?_
    rintro e w1 ⟨a', c', rfl, hr', hb⟩
    go_wp2_with fail
    go_ret
    exact ⟨a', c', rfl, hr', hb⟩
theorem tspans_nil (w : World) : Calls Try.prog 24 #[.pointer none] w fun e w' => e = .returned (.slice none 0 0) ∧ w = w' := by
  go_enter Try.func24, Try.ntmps24
  go_wp2_with fail
  go_ret
  exact ⟨rfl, rfl⟩
theorem all_nil (key : ByteArray) (w : World) : Calls Try.prog 21 #[.pointer none, .string key] w fun e w' => e = .returned (.tuple #[.slice none 0 0, .int .i64 1]) ∧ w = w' := by
  go_enter Try.func21, Try.ntmps21
  go_wp2_with fail
  go_ret2
  exact ⟨rfl, rfl⟩
theorem source_any (s : ByteArray) (w : World) : Calls Try.prog 23 #[.string s] w fun e w' => e = .returned (.func (.func 59) #[] #[.pointer (some ⟨w.heap.size, 0, none⟩)]) ∧ w' = w.alloc (.cells #[.string s] 9) := by
  have hmf : ∀ (fn : Fn) (first cap : Array Value) (w : World), (Instr.makeFunc fn first cap).run Try.prog w = .ok (.func fn first cap) w := fun _ _ _ _ => rfl
  go_enter Try.func23, Try.ntmps23
  go_wp2_with fail
  go_ret
  exact ⟨rfl, rfl⟩

/-! few entries fit into a table -/
theorem ixAll_len : ∀ (cs : List (List Ent)) (a : Nat), (∀ b ∈ cs, (lastE b).key.size ≤ 64) → a + cs.length * 65543 ≤ 1099511627776 → (ixAll cs a).length ≤ 94 * cs.length
  | [], _, _, _ => by simp [ixAll]
  | b :: t, a, h, ha => by
    simp only [List.length_cons] at ha
    have h5 : (blkF b).length ≤ 65543 := fr_len _
    have h1 := ixE_len b a (h b (by simp)) (by omega)
    have h2 := ixAll_len t (a + (blkF b).length) (fun c hc => h c (by simp [hc])) (by omega)
    simp only [ixAll, List.length_append, List.length_cons]
    omega
theorem filt_len (bits : Nat) (ks : List (List UInt8)) : (Mp.filt bits ks).length = Mp.byteN bits ks.length + 1 := by
  unfold Mp.filt; rw [List.length_cons, Mp.marks_len]
theorem tab_ok {l : List Ent} (h : OKs l) (hf : ∀ e ∈ l, Fits e) (hl : l.length ≤ 600) (size bits : Nat) (h1 : 1 ≤ size) (h2 : size ≤ 4096) (h3 : 1 ≤ bits) (h4 : bits ≤ 16) : ∃ T, tabB l size bits = (T, 0) := by
  have hc := cuts_len size l.length l
  have hbl := cuts_blk size h1 h2 l.length l h hf
  have hfold := fold_is (cuts size l.length l) ⟨[], [], 0⟩
  have hx := ixAll_len (cuts size l.length l) 0 (fun b hb => (hbl b hb).key) (by omega)
  unfold tabB
  rw [if_neg (by omega), if_neg (by omega), if_neg (fun hh => hh h.ord)]
  unfold loopB
  rw [Int.toNat_natCast, Int.toNat_natCast, hfold]
  generalize cuts size l.length l = cs at hc hx
  simp only [List.nil_append, List.length_nil, Nat.zero_add]
  unfold endB
  have hk := keysC_len l
  have hb : Mp.byteN bits (keysC l).length ≤ 1300 := by
    unfold Mp.byteN
    have : bits * (keysC l).length ≤ 16 * 600 := Nat.mul_le_mul h4 (by omega)
    omega
  have hn := enc2 (n := cs.length) (by omega)
  have hfl := filt_len bits (keysC l)
  have hlen : (bts cs.length ++ ixAll cs 0).length = (bts (cs.length : Int)).length + (ixAll cs 0).length := List.length_append
  simp only
  rw [if_neg (by omega)]
  exact ⟨_, rfl⟩
def wk11 : List Ent := [⟨⟨#[97]⟩, 1, false, ⟨#[120]⟩, 0⟩]
theorem wk11_fits : ∀ e ∈ wk11, Fits e := by
  intro e he
  simp only [wk11, List.mem_singleton] at he
  subst he
  exact ⟨by decide, by decide, by decide, by decide, by decide, by decide⟩
theorem wk11_ok : OKs wk11 := by
  refine ⟨?_, ?_⟩
  · intro e he
    simp only [wk11, List.mem_singleton] at he
    subst he
    exact ⟨by decide, by decide⟩
  · intro i j hij hj
    simp [wk11] at hj
    omega
theorem one_block {cs : List (List Ent)} {e : Ent} (h : cs.flatten = [e]) (hb : ∀ b ∈ cs, b ≠ []) : cs = [[e]] := by
  cases cs with
  | nil => simp at h
  | cons b t =>
    have hn := hb b (by simp)
    cases b with
    | nil => exact absurd rfl hn
    | cons x r =>
      simp only [List.flatten_cons, List.cons_append, List.cons.injEq, List.append_eq_nil_iff] at h
      obtain ⟨rfl, rfl, ht⟩ := h
      cases t with
      | nil => rfl
      | cons c u =>
        have hc := hb c (by simp)
        simp only [List.flatten_cons, List.append_eq_nil_iff] at ht
        exact absurd ht.1 hc
theorem wk11_tab : ∃ T f : List UInt8, ∃ sp : List Sp, tabB wk11 9 10 = (T, 0) ∧ T.length ≤ 1099511627776 ∧ openB (str T) T.length = ⟨sp, str f, 0⟩ ∧ sp.length = 1 ∧ whichB ⟨#[98]⟩ sp = 1 ∧ allB (str T) sp ⟨#[]⟩ = (wk11, 0) ∧ Mp.hasK f [97] = true ∧ f.length ≤ 65535 := by
  obtain ⟨T, hT⟩ := tab_ok wk11_ok wk11_fits (by decide) 9 10 (by decide) (by decide) (by decide) (by decide)
  obtain ⟨cs, f, hB⟩ := built_of hT wk11_fits
  have hcs := one_block hB.flat (fun b hb => (hB.blk b hb).ne)
  refine ⟨T, f, spOf cs 0, hT, ?_, hB.opens, by rw [spOf_len, hcs]; rfl, ?_, ?_, hB.may _ (List.mem_singleton.2 rfl), hB.short⟩
  · have h1 := whole_len (frAll cs) (bts cs.length ++ ixAll cs 0) f
    have h2 := frAll_len cs
    have h3 := frm_len (bts cs.length ++ ixAll cs 0)
    have h4 := frm_len f
    have h5 := hB.ixs
    have h6 := hB.short
    have h7 : cs.length = 1 := by rw [hcs]; rfl
    rw [hB.is, h1, h3, h4]
    omega
  · rw [hcs]
    simp only [spOf, whichB]
    rw [if_pos (by decide +kernel)]
  · rw [hB.all]
    have : wk11.filter (fromK ⟨#[]⟩) = wk11 := by
      rw [List.filter_eq_self]
      intro e he
      simp only [wk11, List.mem_singleton] at he
      subst he
      decide +kernel
    rw [this]
end Go.Proofs.Ytajfalffpcamhaa.Tw
