/- SkipGets: behind all puts each key's newest entry up to any number is the document's. No condition on the input. -/
import Derived.Test.YtdhnkalkfipmhaaSkipJ
import Derived.ProofKit
import Derived.OpenShut
import Derived.ShutString
import Derived.ChangeOld
import Derived.Below
import Derived.SizedLaws
import Derived.Test.YtdhnkalkfipmhaaOpen
import Derived.Test.YtdhnkalkfipmhaaOpenE
namespace Go.Proofs.Ytdhnkalkfipmhaa.skipGets
open Go.ChangeShapes Go.WideShapes Go.ChangeAt Go.RowKit
open Go.ChangeMaps (open_string shut_string)
set_option linter.unusedVariables false
open En Ew B

theorem infoAsk : (Try.prog.info? 51).map (fun i => (i.zero, i.size, i.bytes)) = some (some (.agg #[.string ⟨#[]⟩, .int .i64 0, .bool false, .string ⟨#[]⟩, .int .i64 0]), 5, 56) := by kernel_rfl
theorem holds_of {w : World} {b off n : Nat} {l : List Ent} (hc : ∀ i, i < n → w.cell? ⟨b, off + i * 5, Option.none⟩ = some (.string (l.getD i ent0).key) ∧ w.cell? ⟨b, off + i * 5 + 1, Option.none⟩ = some (.int .i64 (l.getD i ent0).seq) ∧ w.cell? ⟨b, off + i * 5 + 2, Option.none⟩ = some (.bool (l.getD i ent0).gone) ∧
    w.cell? ⟨b, off + i * 5 + 3, Option.none⟩ = some (.string (l.getD i ent0).val) ∧ w.cell? ⟨b, off + i * 5 + 4, Option.none⟩ = some (.int .i64 (l.getD i ent0).til)) {k : Nat} (hk : k ≤ n) (hl : k ≤ l.length) :
    ∀ j u, (ecells (l.take k))[j]? = some u → w.cell? ((⟨b, off, none⟩ : Addr).add j) = some u := fun j u hu => by
  have hadd : (⟨b, off, none⟩ : Addr).add j = ⟨b, off + j, none⟩ := by unfold Addr.add; split <;> simp_all
  rw [hadd]
  have hj : j < (ecells (l.take k)).length := (List.getElem?_eq_some_iff.1 hu).1
  rw [ecells_len, List.length_take, Nat.min_eq_left hl] at hj
  obtain ⟨i, r, rfl, hr⟩ : ∃ i r, j = i * 5 + r ∧ r < 5 := ⟨j / 5, j % 5, by omega, by omega⟩
  have hi : i < k := by omega
  rw [ecells_at _ _ _ (by rw [List.length_take]; omega) hr] at hu
  have hg : (l.take k).getD i ent0 = l.getD i ent0 := by rw [List.getD_eq_getElem?_getD, List.getElem?_take_of_lt hi, ← List.getD_eq_getElem?_getD]
  rw [hg] at hu
  obtain ⟨c0, c1, c2, c3, c4⟩ := hc i (by omega)
  rw [show off + (i * 5 + r) = off + i * 5 + r by omega]
  match r, hr with
  | 0, _ => simp [Ent.cells] at hu; rw [← hu]; exact c0
  | 1, _ => simp [Ent.cells] at hu; rw [← hu]; exact c1
  | 2, _ => simp [Ent.cells] at hu; rw [← hu]; exact c2
  | 3, _ => simp [Ent.cells] at hu; rw [← hu]; exact c3
  | 4, _ => simp [Ent.cells] at hu; rw [← hu]; exact c4
theorem one_ecells (l : List Ent) : ∀ u ∈ ecells l, u.oneCell' = true := by
  intro u hu
  unfold ecells at hu
  rw [List.mem_flatMap] at hu
  obtain ⟨e, _, he⟩ := hu
  simp [Ent.cells] at he
  rcases he with rfl | rfl | rfl | rfl | rfl <;> rfl

set_option maxHeartbeats 1000000 in
set_option maxRecDepth 100000 in
theorem walk (a : Option Addr) (n cap : Nat) (z : List Int) (b : Option Addr) (m capb : Nat) (l : List Ent) (c : Option Addr) (mc capc : Nat) (lc : List Ent) (w : World) (hz : z.length = n ∧ n ≤ cap ∧ cap ≤ 9223372036854775807 ∧ n * 8 ≤ 140737488351232 ∧ (∀ x ∈ z, -9223372036854775808 ≤ x ∧ x ≤ 9223372036854775807) ∧ B.Row w a n (fun i => .int .i64 (z.getD i 0)))
    (hl : l.length = m ∧ m ≤ capb ∧ m * 56 ≤ 140737488351232 ∧ (∀ e ∈ l, Fits e) ∧ ERow w b m (fun i => l.getD i ent0)) (hlc : lc.length = mc ∧ mc ≤ capc ∧ mc * 56 ≤ 140737488351232 ∧ (∀ e ∈ lc, Fits e) ∧ ERow w c mc (fun i => lc.getD i ent0)) :
    Calls Try.prog 6 #[.slice a n cap, .slice b m capb, .slice c mc capc] w fun e w' => e = .returned (.bool true) ∧ Below w.heap.size w w' := by
  obtain ⟨i0, hi, hz0, hz1, hz2⟩ := info_parts infoAsk
  have HI := Lib.hid hi
  clear hi
  obtain ⟨z1, z2, z3, z4, z5, z6⟩ := hz
  obtain ⟨l1, l2, l3, l4, l5⟩ := hl
  obtain ⟨k1, k2, k3, k4, k5⟩ := hlc
  have HLS := Lib.hid (lists6_any a n cap z z1 z4 z5 b m capb l l1 l2 l3 l4 w z6 l5)
  have HL1 := Lib.hid l1
  have HL4 := Lib.hid l4
  have HL5 := Lib.hid l5
  have HK1 := Lib.hid k1
  have HK4 := Lib.hid k4
  have HK5 := Lib.hid k5
  clear z1 z2 z3 z4 z5 z6 l1 l4 l5 k1 k4 k5
  go_enter Try.func6, Try.ntmps6
  go_wp2_with fail
  refine HLS.out.mono ?_
  rintro e w1 ⟨lb, rb, L, rfl, ns, size, hsk, hm, hrs, hso, hl, hs0, hs1, hb1⟩
  have HS1 := Lib.hid hsk
  have HR1 := Lib.hid hrs
  have HB1 := Lib.hid hb1
  have HM := Lib.hid hm
  have HSO := Lib.hid hso
  clear hsk hrs hb1 hm hso HLS
  go_wp2_with fail
  refine (wakes6_any _).mono ?_
  rintro e w2 ⟨rfl, hb2⟩
  have HS := Lib.hid (HS1.out.below hb2)
  have HR := Lib.hid (HR1.out.below hb2)
  have HB := Lib.hid (chain HB1.out hb2)
  have RL := Lib.hid (HL5.out.below HB.out)
  have RC := Lib.hid (HK5.out.below HB.out)
  clear hb2 HS1 HR1 HB1 w1
  go_wp2_with fail
  obtain ⟨k, hk⟩ : ∃ k : Nat, (if (100 : Int) < (m : Int) then (100 : Int) else (m : Int)) = (k : Int) := ⟨min m 100, by split <;> omega⟩
  obtain ⟨j, hj⟩ : ∃ j : Nat, (if (100 : Int) < (mc : Int) then (100 : Int) else (mc : Int)) = (j : Int) := ⟨min mc 100, by split <;> omega⟩
  have hkk : k ≤ m ∧ k ≤ 100 := by split at hk <;> omega
  have hjj : j ≤ mc ∧ j ≤ 100 := by split at hj <;> omega
  obtain ⟨hk1, hk2⟩ := hkk
  obtain ⟨hj1, hj2⟩ := hjj
  go_cut [45, 46, 47] (fun s45 s46 s47 wx => ∃ (qa : Option Addr) (qn qc : Nat) (Q : List Ent), s45 = .slice qa qn qc ∧ s46 = .int .i64 qn ∧ s47 = .int .i64 0 ∧ qn ≤ 200 ∧ Q.length = qn ∧ Hid (∀ e ∈ Q, Fits e) ∧ Hid (ERow wx qa qn (fun i => Q.getD i ent0)) ∧ Hid (Below w2.heap.size w2 wx))
  case first =>
    have d1 : (0 : Int) ≤ (k : Int) := by omega
    have d2 : (k : Int) ≤ (capb : Int) := by omega
    have d3 : (0 : Int) ≤ (j : Int) := by omega
    have d4 : (j : Int) ≤ (capc : Int) := by omega
    have hQl : (l.take k ++ lc.take j).length = k + j := by
      rw [List.length_append, List.length_take, List.length_take, HL1.out, HK1.out]; omega
    have hQf := Lib.hid (show ∀ e ∈ l.take k ++ lc.take j, Fits e from fun e he => by
      rcases List.mem_append.1 he with h | h
      · exact HL4.out e (List.mem_of_mem_take h)
      · exact HK4.out e (List.mem_of_mem_take h))
    have hKl : (l.take k).length = k := by rw [List.length_take, HL1.out]; omega
    have HKF := Lib.hid (show ∀ e ∈ l.take k, Fits e from fun e he => HL4.out e (List.mem_of_mem_take he))
    have HE0 := Lib.hid ((RL.out.take hk1).congr (g := fun i => (l.take k).getD i ent0) (fun i hi => by rw [List.getD_eq_getElem?_getD, List.getD_eq_getElem?_getD, List.getElem?_take_of_lt hi]))
    by_cases hj0 : j = 0
    · clear hQl hQf
      refine wp_region_any (by kernel_rfl) ?_
      (try (change wpAny _ _ _ _ _ _ _ (World.drew _)))
      refine wpAny_take (i := 0) (v := .slice b m capb) rfl (by kernel_rfl) (by kernel_rfl) (by kernel_rfl) (fun _ _ _ h => h) (Or.inl ⟨by rfl, fun W => by go_simp⟩) ?_
      try simp only [Act.put, List.getElem_toArray, List.getElem_cons_zero, List.getElem_cons_succ, List.setIfInBounds_toArray, List.set_cons_zero, List.set_cons_succ]
      refine wpAny_take (i := 1) (v := .slice b m capb) rfl (by kernel_rfl) (by kernel_rfl) (by kernel_rfl) (fun _ _ _ h => h) (Or.inl ⟨by rfl, fun W => by go_simp⟩) ?_
      try simp only [Act.put, List.getElem_toArray, List.getElem_cons_zero, List.getElem_cons_succ, List.setIfInBounds_toArray, List.set_cons_zero, List.set_cons_succ]
      refine wpAny_take (i := 2) (v := .int .i64 m) rfl (by kernel_rfl) (by kernel_rfl) (by kernel_rfl) (fun _ _ _ h => h) (Or.inl ⟨by rfl, fun W => by go_simp⟩) ?_
      try simp only [Act.put, List.getElem_toArray, List.getElem_cons_zero, List.getElem_cons_succ, List.setIfInBounds_toArray, List.set_cons_zero, List.set_cons_succ]
      refine wpAny_take (i := 3) (v := .int .i64 k) rfl (by kernel_rfl) (by kernel_rfl) (by kernel_rfl) (fun _ _ _ h => h) (Or.inl ⟨by rfl, fun W => by go_simp⟩) ?_
      try simp only [Act.put, List.getElem_toArray, List.getElem_cons_zero, List.getElem_cons_succ, List.setIfInBounds_toArray, List.set_cons_zero, List.set_cons_succ]
      refine wpAny_take (i := 4) (v := .slice b m capb) rfl (by kernel_rfl) (by kernel_rfl) (by kernel_rfl) (fun _ _ _ h => h) (Or.inl ⟨by rfl, fun W => by go_simp⟩) ?_
      try simp only [Act.put, List.getElem_toArray, List.getElem_cons_zero, List.getElem_cons_succ, List.setIfInBounds_toArray, List.set_cons_zero, List.set_cons_succ]
      refine wpAny_take (i := 5) (v := .int .i64 m) rfl (by kernel_rfl) (by kernel_rfl) (by kernel_rfl) (fun _ _ _ h => h) (Or.inl ⟨by rfl, fun W => by go_simp⟩) ?_
      try simp only [Act.put, List.getElem_toArray, List.getElem_cons_zero, List.getElem_cons_succ, List.setIfInBounds_toArray, List.set_cons_zero, List.set_cons_succ]
      refine wpAny_take (i := 6) (v := .int .i64 k) rfl (by kernel_rfl) (by kernel_rfl) (by kernel_rfl) (fun _ _ _ h => h) (Or.inl ⟨by rfl, fun W => by go_simp⟩) ?_
      try simp only [Act.put, List.getElem_toArray, List.getElem_cons_zero, List.getElem_cons_succ, List.setIfInBounds_toArray, List.set_cons_zero, List.set_cons_succ]
      refine wpAny_take (i := 7) (v := .slice b k k) rfl (by kernel_rfl) (by kernel_rfl) (by kernel_rfl) (fun _ _ _ h => h) (Or.inl ⟨by rfl, fun W => by go_simp⟩) ?_
      try simp only [Act.put, List.getElem_toArray, List.getElem_cons_zero, List.getElem_cons_succ, List.setIfInBounds_toArray, List.set_cons_zero, List.set_cons_succ]
      refine wpAny_take (i := 8) (v := .slice c mc capc) rfl (by kernel_rfl) (by kernel_rfl) (by kernel_rfl) (fun _ _ _ h => h) (Or.inl ⟨by rfl, fun W => by go_simp⟩) ?_
      try simp only [Act.put, List.getElem_toArray, List.getElem_cons_zero, List.getElem_cons_succ, List.setIfInBounds_toArray, List.set_cons_zero, List.set_cons_succ]
      refine wpAny_take (i := 9) (v := .slice c mc capc) rfl (by kernel_rfl) (by kernel_rfl) (by kernel_rfl) (fun _ _ _ h => h) (Or.inl ⟨by rfl, fun W => by go_simp⟩) ?_
      try simp only [Act.put, List.getElem_toArray, List.getElem_cons_zero, List.getElem_cons_succ, List.setIfInBounds_toArray, List.set_cons_zero, List.set_cons_succ]
      refine wpAny_take (i := 10) (v := .int .i64 mc) rfl (by kernel_rfl) (by kernel_rfl) (by kernel_rfl) (fun _ _ _ h => h) (Or.inl ⟨by rfl, fun W => by go_simp⟩) ?_
      try simp only [Act.put, List.getElem_toArray, List.getElem_cons_zero, List.getElem_cons_succ, List.setIfInBounds_toArray, List.set_cons_zero, List.set_cons_succ]
      refine wpAny_take (i := 11) (v := .int .i64 j) rfl (by kernel_rfl) (by kernel_rfl) (by kernel_rfl) (fun _ _ _ h => h) (Or.inl ⟨by rfl, fun W => by go_simp⟩) ?_
      try simp only [Act.put, List.getElem_toArray, List.getElem_cons_zero, List.getElem_cons_succ, List.setIfInBounds_toArray, List.set_cons_zero, List.set_cons_succ]
      refine wpAny_take (i := 12) (v := .slice c j capc) rfl (by kernel_rfl) (by kernel_rfl) (by kernel_rfl) (fun _ _ _ h => h) (Or.inl ⟨by rfl, fun W => by go_simp⟩) ?_
      try simp only [Act.put, List.getElem_toArray, List.getElem_cons_zero, List.getElem_cons_succ, List.setIfInBounds_toArray, List.set_cons_zero, List.set_cons_succ]
      refine wpAny_take (i := 15) (v := .int .i64 0) rfl (by kernel_rfl) (by kernel_rfl) (by kernel_rfl) (fun _ _ _ h => h) (Or.inl ⟨by rfl, fun W => by go_simp⟩) ?_
      try simp only [Act.put, List.getElem_toArray, List.getElem_cons_zero, List.getElem_cons_succ, List.setIfInBounds_toArray, List.set_cons_zero, List.set_cons_succ]
      refine wpAny_ready (rs := [13]) (by kernel_rfl) (by simp) ?_
      refine AllReady.cons rfl (fun K hK => ?_) AllReady.nil
      refine step_append_none rfl _ _ 41 rfl 51 i0 Try.underlying41 HI.out b k k rfl (Nat.le_refl _) c j capc rfl hj0 ?_
      refine hK _ _ ?_
      clear hK K
      refine wpAny_take (i := 14) (v := .int .i64 k) rfl (by kernel_rfl) (by kernel_rfl) (by kernel_rfl) (fun _ _ _ h => h) (Or.inl ⟨by rfl, fun W => by go_simp⟩) ?_
      refine wpAny_done (by kernel_rfl) ?_ _
      try simp only [Act.put, List.getElem_toArray, List.getElem_cons_zero, List.getElem_cons_succ, List.setIfInBounds_toArray, List.set_cons_zero, List.set_cons_succ]
      go_wp2_with fail
      go_meet
      exact ⟨b, k, k, l.take k, rfl, rfl, rfl, by omega, hKl, HKF.out, HE0.out.below (Below.refl _ _).drew, (Below.refl _ _).drew⟩
    · obtain ⟨bc, offc, rfl, hbc, hcc⟩ := RC.out.at (by omega)
      have hnews := Lib.hid (holds_of hcc hj1 (by rw [HK1.out]; exact hj1))
      have hnl : (ecells (lc.take j)).length = j * 5 := by rw [ecells_len, List.length_take, HK1.out]; omega
      have hol : (ecells (l.take k)).length = k * 5 := by rw [ecells_len, hKl]
      have hold := Lib.hid (show ∀ x, b = some x → ∀ t u, (ecells (l.take k))[t]? = some u → w2.cell? (x.add t) = some u from fun x hx t u hu => by
        by_cases hk0 : k = 0
        · subst hk0; simp [ecells] at hu
        · obtain ⟨bb, offb, hbe, hbl, hcb⟩ := RL.out.at (by omega)
          rw [hbe] at hx
          cases hx
          exact holds_of hcb hk1 (by rw [HL1.out]; exact hk1) t u hu)
      have hnone := Lib.hid (show b = none → k = 0 ∧ k = 0 from fun hb => by
        by_cases hk0 : k = 0
        · exact ⟨hk0, hk0⟩
        · obtain ⟨bb, offb, hbe, _⟩ := RL.out.at (by omega)
          rw [hb] at hbe; cases hbe)
      clear hcc
      refine wp_region_any (by kernel_rfl) ?_
      (try (change wpAny _ _ _ _ _ _ _ (World.drew _)))
      refine wpAny_take (i := 0) (v := .slice b m capb) rfl (by kernel_rfl) (by kernel_rfl) (by kernel_rfl) (fun _ _ _ h => h) (Or.inl ⟨by rfl, fun W => by go_simp⟩) ?_
      try simp only [Act.put, List.getElem_toArray, List.getElem_cons_zero, List.getElem_cons_succ, List.setIfInBounds_toArray, List.set_cons_zero, List.set_cons_succ]
      refine wpAny_take (i := 1) (v := .slice b m capb) rfl (by kernel_rfl) (by kernel_rfl) (by kernel_rfl) (fun _ _ _ h => h) (Or.inl ⟨by rfl, fun W => by go_simp⟩) ?_
      try simp only [Act.put, List.getElem_toArray, List.getElem_cons_zero, List.getElem_cons_succ, List.setIfInBounds_toArray, List.set_cons_zero, List.set_cons_succ]
      refine wpAny_take (i := 2) (v := .int .i64 m) rfl (by kernel_rfl) (by kernel_rfl) (by kernel_rfl) (fun _ _ _ h => h) (Or.inl ⟨by rfl, fun W => by go_simp⟩) ?_
      try simp only [Act.put, List.getElem_toArray, List.getElem_cons_zero, List.getElem_cons_succ, List.setIfInBounds_toArray, List.set_cons_zero, List.set_cons_succ]
      refine wpAny_take (i := 3) (v := .int .i64 k) rfl (by kernel_rfl) (by kernel_rfl) (by kernel_rfl) (fun _ _ _ h => h) (Or.inl ⟨by rfl, fun W => by go_simp⟩) ?_
      try simp only [Act.put, List.getElem_toArray, List.getElem_cons_zero, List.getElem_cons_succ, List.setIfInBounds_toArray, List.set_cons_zero, List.set_cons_succ]
      refine wpAny_take (i := 4) (v := .slice b m capb) rfl (by kernel_rfl) (by kernel_rfl) (by kernel_rfl) (fun _ _ _ h => h) (Or.inl ⟨by rfl, fun W => by go_simp⟩) ?_
      try simp only [Act.put, List.getElem_toArray, List.getElem_cons_zero, List.getElem_cons_succ, List.setIfInBounds_toArray, List.set_cons_zero, List.set_cons_succ]
      refine wpAny_take (i := 5) (v := .int .i64 m) rfl (by kernel_rfl) (by kernel_rfl) (by kernel_rfl) (fun _ _ _ h => h) (Or.inl ⟨by rfl, fun W => by go_simp⟩) ?_
      try simp only [Act.put, List.getElem_toArray, List.getElem_cons_zero, List.getElem_cons_succ, List.setIfInBounds_toArray, List.set_cons_zero, List.set_cons_succ]
      refine wpAny_take (i := 6) (v := .int .i64 k) rfl (by kernel_rfl) (by kernel_rfl) (by kernel_rfl) (fun _ _ _ h => h) (Or.inl ⟨by rfl, fun W => by go_simp⟩) ?_
      try simp only [Act.put, List.getElem_toArray, List.getElem_cons_zero, List.getElem_cons_succ, List.setIfInBounds_toArray, List.set_cons_zero, List.set_cons_succ]
      refine wpAny_take (i := 7) (v := .slice b k k) rfl (by kernel_rfl) (by kernel_rfl) (by kernel_rfl) (fun _ _ _ h => h) (Or.inl ⟨by rfl, fun W => by go_simp⟩) ?_
      try simp only [Act.put, List.getElem_toArray, List.getElem_cons_zero, List.getElem_cons_succ, List.setIfInBounds_toArray, List.set_cons_zero, List.set_cons_succ]
      refine wpAny_take (i := 8) (v := .slice (some ⟨bc, offc, none⟩) mc capc) rfl (by kernel_rfl) (by kernel_rfl) (by kernel_rfl) (fun _ _ _ h => h) (Or.inl ⟨by rfl, fun W => by go_simp⟩) ?_
      try simp only [Act.put, List.getElem_toArray, List.getElem_cons_zero, List.getElem_cons_succ, List.setIfInBounds_toArray, List.set_cons_zero, List.set_cons_succ]
      refine wpAny_take (i := 9) (v := .slice (some ⟨bc, offc, none⟩) mc capc) rfl (by kernel_rfl) (by kernel_rfl) (by kernel_rfl) (fun _ _ _ h => h) (Or.inl ⟨by rfl, fun W => by go_simp⟩) ?_
      try simp only [Act.put, List.getElem_toArray, List.getElem_cons_zero, List.getElem_cons_succ, List.setIfInBounds_toArray, List.set_cons_zero, List.set_cons_succ]
      refine wpAny_take (i := 10) (v := .int .i64 mc) rfl (by kernel_rfl) (by kernel_rfl) (by kernel_rfl) (fun _ _ _ h => h) (Or.inl ⟨by rfl, fun W => by go_simp⟩) ?_
      try simp only [Act.put, List.getElem_toArray, List.getElem_cons_zero, List.getElem_cons_succ, List.setIfInBounds_toArray, List.set_cons_zero, List.set_cons_succ]
      refine wpAny_take (i := 11) (v := .int .i64 j) rfl (by kernel_rfl) (by kernel_rfl) (by kernel_rfl) (fun _ _ _ h => h) (Or.inl ⟨by rfl, fun W => by go_simp⟩) ?_
      try simp only [Act.put, List.getElem_toArray, List.getElem_cons_zero, List.getElem_cons_succ, List.setIfInBounds_toArray, List.set_cons_zero, List.set_cons_succ]
      refine wpAny_take (i := 12) (v := .slice (some ⟨bc, offc, none⟩) j capc) rfl (by kernel_rfl) (by kernel_rfl) (by kernel_rfl) (fun _ _ _ h => h) (Or.inl ⟨by rfl, fun W => by go_simp⟩) ?_
      try simp only [Act.put, List.getElem_toArray, List.getElem_cons_zero, List.getElem_cons_succ, List.setIfInBounds_toArray, List.set_cons_zero, List.set_cons_succ]
      refine wpAny_take (i := 15) (v := .int .i64 0) rfl (by kernel_rfl) (by kernel_rfl) (by kernel_rfl) (fun _ _ _ h => h) (Or.inl ⟨by rfl, fun W => by go_simp⟩) ?_
      try simp only [Act.put, List.getElem_toArray, List.getElem_cons_zero, List.getElem_cons_succ, List.setIfInBounds_toArray, List.set_cons_zero, List.set_cons_succ]
      refine wpAny_ready (rs := [13]) (by kernel_rfl) (by simp) ?_
      refine AllReady.cons rfl (fun K hK => ?_) AllReady.nil
      refine step_append_growsE rfl _ _ 41 rfl 51 i0 _ 5 56 Try.underlying41 HI.out hz0 hz1 hz2 rfl (by decide) b k k (ecells (l.take k)) rfl hnone.out hol hold.out ⟨bc, offc, none⟩ j capc (ecells (lc.take j)) rfl hnl hnews.out (one_ecells _) (by omega) (by unfold maxLen; omega) (by omega) ?_
      intro qa qc w3 hown hb3
      rw [← ecells_append] at hown
      have HRW := Lib.hid (own_erow hown).2.2
      have HB3 := Lib.hid (show Below w2.heap.size w2 w3 from ⟨hb3.os, hb3.tape, hb3.output, hb3.size, hb3.block⟩)
      clear hown hb3
      refine hK _ _ ?_
      clear hK K
      refine wpAny_take (i := 14) (v := .int .i64 ((k + j : Nat) : Int)) rfl (by kernel_rfl) (by kernel_rfl) (by kernel_rfl) (fun _ _ _ h => h) (Or.inl ⟨by rfl, fun W => by go_simp⟩) ?_
      refine wpAny_done (by kernel_rfl) ?_ _
      try simp only [Act.put, List.getElem_toArray, List.getElem_cons_zero, List.getElem_cons_succ, List.setIfInBounds_toArray, List.set_cons_zero, List.set_cons_succ]
      go_wp2_with fail
      go_meet
      exact ⟨qa, k + j, qc, l.take k ++ lc.take j, rfl, rfl, rfl, by omega, hQl, hQf.out, HRW.out, HB3.out⟩
  case rest =>
    obtain ⟨qa, qn, qc, Q, rfl, rfl, rfl, hq200, hQl, HQF, HQR, HQB⟩ := hcut
    obtain ⟨wq, hwq⟩ : ∃ wq, wq = wc := ⟨_, rfl⟩
    rw [← hwq] at HQR HQB ⊢
    clear hwq
    have HS3 := Lib.hid (HS.out.below HQB.out)
    have HR3 := Lib.hid (HR.out.below HQB.out)
    have HB3 := Lib.hid (chain HB.out HQB.out)
    clear HQB HS HR HB RL RC hj hk hj1 hj2 hk1 hk2
    go_wp2_with fail
    go_loopw [47] (fun si wr => ∃ i : Nat, si = .int .i64 i ∧ i ≤ qn ∧ Hid (Below wq.heap.size wq wr)) (fun si _ => qn - (intOf si).toNat)
    case atStart => exact ⟨0, rfl, by omega, Below.refl _ _⟩
    case round =>
      obtain ⟨i, rfl, hi, hbel⟩ := hrel
      by_cases hlt : i < qn
      · obtain ⟨ab, off, rfl, hab, hac⟩ := (HQR.out.below hbel.out).at (by omega)
        have hd := hac i hlt
        have hfx : Fits (Q.getD i ent0) := by
          rw [List.getD_eq_getElem?_getD, List.getElem?_eq_getElem (by omega)]
          exact HQF.out _ (List.getElem_mem _)
        generalize Q.getD i ent0 = x at hd hfx
        obtain ⟨key, s, g, v, u⟩ := x
        have hf0 := hfx.seq0
        have hf1 := hfx.seq1
        simp only at hd hf0 hf1
        obtain ⟨d0, d1, d2, d3, d4⟩ := hd
        have i1 : (0 : Int) ≤ (i : Int) := by omega
        have i2 : (i : Int) < (qn : Int) := by omega
        clear hac hfx
        go_wp2_with fail
        generalize hW : World.alloc _ _ = W0
        have hE0 : EBox W0 wr.heap.size 51 ⟨key, s, g, v, u⟩ := by rw [← hW]; exact blk_alloc (heap_alloc_new _ _)
        have hD0 : W0.heap[wr.heap.size + 1]? = some (.cells #[.int .i64 0, .int .i64 (-1), .int .i64 1] 2 (0, 0)) := by rw [← hW]; exact blk_new (by simp)
        have hB0 : Below wq.heap.size wq W0 := by rw [← hW]; exact below_alloc (below_alloc hbel.out _) _
        generalize wr.heap.size + 1 = gd at hD0 ⊢
        generalize wr.heap.size = ge at hE0 ⊢
        have HE0 := Lib.hid hE0
        have HD0 := Lib.hid hD0
        clear hW hE0 hD0 d0 d1 d2 d3 d4 hbel hab wr
        go_loopw [53] (fun si wr => ∃ p : Nat, si = .int .i64 p ∧ p ≤ 3 ∧ Hid (EBox wr ge 51 ⟨key, s, g, v, u⟩) ∧ Hid (wr.heap[gd]? = some (.cells #[.int .i64 0, .int .i64 (-1), .int .i64 1] 2 (0, 0))) ∧ Hid (Below wq.heap.size wq wr)) (fun si _ => 3 - (intOf si).toNat)
        case atStart => exact ⟨0, rfl, by omega, HE0.out, HD0.out, hB0⟩
        case round =>
          obtain ⟨p, rfl, hp, hE, hD, hbel⟩ := hrel
          by_cases hp3 : p < 3
          · obtain ⟨dv, hdc, hdb⟩ : ∃ dv : Int, wr.cell? ⟨gd, p, none⟩ = some (.int .i64 dv) ∧ (-1 ≤ dv ∧ dv ≤ 1) := by
              have h0 := cell_of_row wr gd 0 _ _ _ hD.out
              have h1 := cell_of_row wr gd 1 _ _ _ hD.out
              have h2 := cell_of_row wr gd 2 _ _ _ hD.out
              rcases (show p = 0 ∨ p = 1 ∨ p = 2 by omega) with rfl | rfl | rfl
              · exact ⟨0, h0, by omega, by omega⟩
              · exact ⟨-1, h1, by omega, by omega⟩
              · exact ⟨1, h2, by omega, by omega⟩
            obtain ⟨e0, e1, e2, e3, e4⟩ := hE.out.cells
            simp only at e0 e1 e2 e3 e4
            have i1 : (0 : Int) ≤ (p : Int) := by omega
            have i2 : (p : Int) < 3 := by omega
            go_upto_region 11 with fail
            go_cut [72] (fun s72 wx => ∃ bb : Bool, s72 = .bool bb ∧ (bb = true → -9223372036854775808 ≤ s + dv ∧ s + dv ≤ 9223372036854775807) ∧ wx = wr)
            case first =>
              go_wp2_with fail
              all_goals
                go_meet
                refine ⟨_, rfl, fun hb => ?_, rfl⟩
                first
                  | (cases hb; done)
                  | omega
                  | (simp at hb; omega)
            case rest =>
              obtain ⟨bb, rfl, hbb, hwc⟩ := hcut
              have HBBB := Lib.hid hbb
              rw [hwc]
              clear hbb hwc wc
              go_upto_if 72 with fail
              go_cut [14] (fun s14 wx => ∃ s' : Int, s14 = .int .i64 s' ∧ wx = wr)
              case first =>
                cases bb with
                | true =>
                  have h12 := HBBB.out rfl
                  obtain ⟨h1, h2⟩ := h12
                  go_wp2_with fail
                  all_goals
                    go_meet
                    exact ⟨_, rfl, rfl⟩
                | false =>
                  go_wp2_with fail
                  all_goals
                    go_meet
                    exact ⟨_, rfl, rfl⟩
              case rest =>
                obtain ⟨s', rfl, hwc⟩ := hcut
                rw [hwc]
                clear hwc wc
                have HSW := Lib.hid (HS3.out.below hbel.out)
                have HG := Lib.hid (sget_any wr w.heap.size lb z ns size HSW.out (by rw [HM.out]; exact HSO.out) key s')
                rw [HM.out] at HG
                unfold GotS at HG
                obtain ⟨fr, hfr⟩ : ∃ fr, fr = foundE L key s' := ⟨_, rfl⟩
                have HFR := Lib.hid hfr
                rw [← hfr] at HG
                clear hfr
                obtain ⟨⟨fk, fq, fg, fv, fu⟩, fb⟩ := fr
                simp only [Ent.v] at HG
                go_wp2_with fail
                refine HG.out.mono ?_
                rintro e w5 ⟨rfl, hb5⟩
                have HE5 := Lib.hid (hE.out.below hb5)
                have HD5 := Lib.hid ((hb5.block gd (lt_of_block hD.out)).trans hD.out)
                have hbel5 := chain hbel.out hb5
                clear hb5 e0 e1 e2 e3 e4 hdc
                have hbx := below_alloc (Below.refl w5.heap.size w5) (.cells #[.string fk, .int .i64 fq, .bool fg, .string fv, .int .i64 fu] 36)
                have hA15 : EBox (w5.alloc (.cells #[.string fk, .int .i64 fq, .bool fg, .string fv, .int .i64 fu] 36)) w5.heap.size 36 ⟨fk, fq, fg, fv, fu⟩ := heap_alloc_new _ _
                have hE6 := HE5.out.below hbx
                have hD6 := (hbx.block gd (lt_of_block HD5.out)).trans HD5.out
                have hbel6 := chain hbel5 hbx
                obtain ⟨e0, e1, e2, e3, e4⟩ := hE6.cells
                simp only at e0 e1 e2 e3 e4
                go_wp2_with fail
                generalize hW : World.alloc w5 _ = W6
                rw [hW] at hA15 hE6 hD6 hbel6 e0 e1 e2 e3 e4
                generalize w5.heap.size = g15 at hA15 ⊢
                obtain ⟨ca, cc, la, llc, hrb, hRB, hOC, hOL⟩ := HR3.out.below hbel6
                have HG6 := Lib.hid (get06_any rb la L.length llc L rfl (by omega) key s' W6 hRB.cells.2.1 (own_erow hOL).2.2)
                rw [← HFR.out] at HG6
                unfold GotG at HG6
                simp only [Ent.v] at HG6
                have HE6 := Lib.hid hE6
                have HD6 := Lib.hid hD6
                have HA15 := Lib.hid hA15
                clear hRB hOC hOL hbx hW hE6 hD6 hA15 hbel5 HE5 HD5 e0 e1 e2 e3 e4 w5
                refine HG6.out.mono ?_
                rintro e w7 ⟨rfl, hb7⟩
                have HE7 := Lib.hid (HE6.out.below hb7)
                have HD7 := Lib.hid ((hb7.block gd (lt_of_block HD6.out)).trans HD6.out)
                have HA7 := Lib.hid (HA15.out.below hb7)
                have hbel7 := chain hbel6 hb7
                have hby := below_alloc (Below.refl w7.heap.size w7) (.cells #[.string fk, .int .i64 fq, .bool fg, .string fv, .int .i64 fu] 55)
                have hA17 : EBox (w7.alloc (.cells #[.string fk, .int .i64 fq, .bool fg, .string fv, .int .i64 fu] 55)) w7.heap.size 55 ⟨fk, fq, fg, fv, fu⟩ := heap_alloc_new _ _
                have HE8 := Lib.hid (HE7.out.below hby)
                have HD8 := Lib.hid ((hby.block gd (lt_of_block HD7.out)).trans HD7.out)
                have hA8 := HA7.out.below hby
                have HB8 := Lib.hid (chain hbel7 hby)
                obtain ⟨p0, p1, p2, p3, p4⟩ := hA8.cells
                obtain ⟨q0, q1, q2, q3, q4⟩ := hA17.cells
                simp only at p0 p1 p2 p3 p4 q0 q1 q2 q3 q4
                have hne1 : ∀ W : World, (binOp .neq 55 (.agg #[.string fk, .int .i64 fq, .bool fg, .string fv, .int .i64 fu]) (.agg #[.string fk, .int .i64 fq, .bool fg, .string fv, .int .i64 fu])).run Try.prog W = .ok (.bool false) W := fun W => by rw [neq_ref, eqE_refl]; rfl
                clear hb7 hA8 hA17 hby hbel6 hbel7
                go_wp2_with fail
                go_roundw
                case rel => exact ⟨p + 1, by go_num, by omega, HE8.out, HD8.out, HB8.out⟩
                case measure => simp [intOf]; omega
          · obtain rfl : p = 3 := by omega
            go_wp2_with fail
            go_roundw
            case rel => exact ⟨i + 1, by go_num, by omega, hbel.out⟩
            case measure => simp [intOf]; omega
      · obtain rfl : i = qn := by omega
        have hz := chain HB3.out hbel.out
        go_wp2_with fail
        go_ret
        exact ⟨rfl, hz⟩

theorem entT : Op.EntT Try.prog 51 ((match Try.prog.underlying 51 with | some (.struct fs) => fs | _ => #[])) := by
  rw [Try.underlying51]
  exact ⟨Try.underlying51, by kernel_rfl, by kernel_rfl, ⟨_, rfl, Try.underlying9⟩, ⟨_, rfl, Try.underlying2⟩, ⟨_, rfl, Try.underlying4⟩, ⟨_, rfl, Try.underlying9⟩, ⟨_, rfl, Try.underlying2⟩, rfl⟩
theorem bd64 {n : Int} (h : (Lit.int .i64 n).wf = true) : -9223372036854775808 ≤ n ∧ n ≤ 9223372036854775807 := by
  simpa [Lit.wf, IntKind.min, IntKind.max, IntKind.signed, IntKind.bits] using h


theorem own : ownKnob Try.prog.godebug = none := by kernel_rfl
theorem laidOut : laidOutB Try.prog = true := by kernel_rfl

set_option maxRecDepth 100000 in
theorem lifted (os : Os) (started : os.Started) (H : Type) (enc : TypeId × Value → H) :
    ReturnsInHanded {} Try.checked os 6 .any (Rows.skipGetsSpec.pre6 enc Try.prog Try.f6 Rows.skipGetsRow.domain false) (Rows.skipGetsSpec.post enc Try.prog Try.f6 false true false false) := by
  refine returnsInHanded_of_change_sized (C := Try.checked) own started (by kernel_rfl) Try.func6
    (ChangeSpec.witness6 (enc := enc) (C := Try.checked) false ⟨#[], #[.slice none 0 0, .slice none 0 0, .slice none 0 0], []⟩ 8 (by kernel_rfl) (by kernel_rfl) (by kernel_rfl) (by kernel_rfl)) ?_
  intro W base args ds gs before hval0 hW hcnd hsz0 _
  have hval : ∀ (j : Nat) t v, Try.f6.params[j]? = some t → args[j]? = some v → Value.okWide Try.prog W .any base t v := hval0
  have hsz : (DataW.weightsEach Try.prog (Try.f6.params.toList ++ Rows.skipGetsSpec.plain.varTypes Try.prog) (ds ++ gs)).all (· ≤ reachBytes) = true := hsz0
  have hW' := hW
  obtain ⟨p, q, hA0, hV, rfl, hfz, hnd⟩ := hW
  have hA : DataW.TrodAll enc Try.prog W 0 (fun _ => true) true Try.f6.params.toList args.toList ds p := hA0
  rw [Try.params6] at hA hval hsz
  obtain ⟨v0, vs0, d0, ds0, p0, q0, hargs, rfl, rfl, h0, r0⟩ := trodAll_cons hA
  obtain ⟨v1, vs1, d1, ds1, p1, q1, rfl, rfl, rfl, h1, r1⟩ := trodAll_cons r0
  obtain ⟨v2, vs2, d2, ds2, p2, q2, rfl, rfl, rfl, h2, r2⟩ := trodAll_cons r1
  obtain ⟨rfl, rfl, rfl⟩ := trodAll_nil r2
  obtain rfl : args = #[v0, v1, v2] := by cases args; simp_all
  obtain ⟨rfl, rfl⟩ := trodVars_none hV
  have k0 := h0
  have lt0 : ∀ x ∈ p0, x.block < W.heap.size := by obtain ⟨m, hm⟩ := k0; exact DataW.trod_lt m _ _ _ hm
  have k1 := h1
  have lt1 : ∀ x ∈ p1, x.block < W.heap.size := by obtain ⟨m, hm⟩ := k1; exact DataW.trod_lt m _ _ _ hm
  have k2 := h2
  have lt2 : ∀ x ∈ p2, x.block < W.heap.size := by obtain ⟨m, hm⟩ := k2; exact DataW.trod_lt m _ _ _ hm
  obtain ⟨a0, n0, cap0, z0, rfl, w0, wf0, row0, lc0, cm0, wt0⟩ := Op.ints2 Try.underlying40 Try.underlying3 (by kernel_rfl) (hval 0 40 v0 rfl rfl) h0
  have wb0 := wt0 reachBytes (fun m hm => of_decide_eq_true (List.all_eq_true.1 hsz _ (DataW.weights_mem_each (j := 0) rfl rfl m hm)))
  have f0 : z0.length = n0 ∧ n0 ≤ cap0 ∧ cap0 ≤ 9223372036854775807 ∧ n0 * 8 ≤ 140737488351232 ∧ (∀ x ∈ z0, -9223372036854775808 ≤ x ∧ x ≤ 9223372036854775807) ∧ B.Row W a0 n0 (fun i => .int .i64 (z0.getD i 0)) := ⟨w0, lc0, by simpa [maxLen] using cm0, by rw [show Try.prog.bytesOf 3 = 8 from by kernel_rfl] at wb0; exact wb0, fun x hx => by simpa [Lit.wf, IntKind.min, IntKind.max, IntKind.signed, IntKind.bits] using wf0 x hx, row0⟩
  obtain ⟨a1, n1, cap1, z1, rfl, w1, row1, lc1, cm1, wf1, wt1, bk1⟩ := Op.ents1 entT Try.underlying41 (hval 1 41 v1 rfl rfl) h1
  have wb1 := wt1 reachBytes (fun m hm => of_decide_eq_true (List.all_eq_true.1 hsz _ (DataW.weights_mem_each (j := 1) rfl rfl m hm)))
  have f1 : z1.length = n1 ∧ n1 ≤ cap1 ∧ n1 * 56 ≤ 140737488351232 ∧ (∀ e ∈ z1, En.Fits e) ∧ En.ERow W a1 n1 (fun i => z1.getD i En.ent0) := ⟨w1, lc1, by have h9 := wb1.2; rw [show Try.prog.bytesOf 51 = 56 from by kernel_rfl] at h9; exact h9, fun x hx => by have h9 := wf1 x hx; have h8 := wb1.1 x hx; exact ⟨h8.1, h8.2, (bd64 h9.2.2.1).1, (bd64 h9.2.2.1).2, (bd64 h9.2.2.2).1, (bd64 h9.2.2.2).2⟩, row1⟩
  obtain ⟨a2, n2, cap2, z2, rfl, w2, row2, lc2, cm2, wf2, wt2, bk2⟩ := Op.ents1 entT Try.underlying41 (hval 2 41 v2 rfl rfl) h2
  have wb2 := wt2 reachBytes (fun m hm => of_decide_eq_true (List.all_eq_true.1 hsz _ (DataW.weights_mem_each (j := 2) rfl rfl m hm)))
  have f2 : z2.length = n2 ∧ n2 ≤ cap2 ∧ n2 * 56 ≤ 140737488351232 ∧ (∀ e ∈ z2, En.Fits e) ∧ En.ERow W a2 n2 (fun i => z2.getD i En.ent0) := ⟨w2, lc2, by have h9 := wb2.2; rw [show Try.prog.bytesOf 51 = 56 from by kernel_rfl] at h9; exact h9, fun x hx => by have h9 := wf2 x hx; have h8 := wb2.1 x hx; exact ⟨h8.1, h8.2, (bd64 h9.2.2.1).1, (bd64 h9.2.2.1).2, (bd64 h9.2.2.2).1, (bd64 h9.2.2.2).2⟩, row2⟩
  clear hA0 hval0
  refine (walk a0 n0 cap0 z0 a1 n1 cap1 z1 a2 n2 cap2 z2 W f0 f1 f2).mono fun e W' ⟨he, bel⟩ => ?_
  subst he
  exact ⟨_, rfl, _, _, _, [], _, [], hW', trodAll_mk1 (shut_bool Try.underlying4 _), (trodAll_cons_mk (Below.trod laidOut (by kernel_rfl) (of_decide_eq_true (by kernel_rfl)) k0 bel lt0) (trodAll_cons_mk (Below.trod laidOut (by kernel_rfl) (of_decide_eq_true (by kernel_rfl)) k1 bel lt1) (trodAll_cons_mk (Below.trod laidOut (by kernel_rfl) (of_decide_eq_true (by kernel_rfl)) k2 bel lt2) trodAll_mk0))), rfl, bel.frame _, fun h => by cases h⟩

theorem over : Rows.skipGetsRow.holds Try.pinned (OpenSpec.ofChange Rows.skipGetsSpec) :=
  OpenClaim.holds_of_wide 6 Try.f6 rfl rfl rfl rfl rfl rfl rfl ⟨rfl, rfl, rfl, rfl, rfl⟩ rfl rfl rfl rfl rfl (by kernel_rfl) Try.func6 (by kernel_rfl)
    (of_decide_eq_true (by kernel_rfl)) (by unfold Func.isWrapper; first | (rw [if_pos (by decide +kernel)]; kernel_rfl) | (rw [if_neg (by decide +kernel)]; exact ⟨rfl, rfl⟩))
    (fun os started H enc _ => lifted os started H enc)

/-- THE STATEMENT -/
theorem proved : Rows.SkipGetsSaid := over
end Go.Proofs.Ytdhnkalkfipmhaa.skipGets
