/- The walk of From's closure from the empty key on, over whatever a round does that keeps the list; a range over it. -/
import Derived.Test.YtpihmjdljbienaaGreatDoorSkipG
import Derived.Test.YtpihmjdljbienaaGreatDoorGq
namespace Go.Proofs.YtpihmjdljbienaaGreatDoor.Dw
open Go.RowKit
open B En
set_option linter.unusedVariables false
attribute [local go_sem] Oper.semAt_some

theorem from2_any (w : World) (lb : Nat) (key : ByteArray) :
    Calls Tryz.prog 17 #[.pointer (some ⟨lb, 0, none⟩), .string key] w fun e w' => e = .returned (.func (.func 57) #[] #[.pointer (some ⟨w.heap.size, 0, none⟩), .pointer (some ⟨w.heap.size + 1, 0, none⟩)]) ∧
      w' = (w.alloc (.cells #[.pointer (some ⟨lb, 0, none⟩)] 48)).alloc (.cells #[.string key] 9) := by
  have hmf : ∀ (fn : Fn) (first cap : Array Value) (w : World), (Instr.makeFunc fn first cap).run Tryz.prog w = .ok (.func fn first cap) w := fun _ _ _ _ => rfl
  go_enter Tryz.func17, Tryz.ntmps17
  go_wp2_with fail
  go_ret
  exact ⟨rfl, rfl⟩

/-- the list, and what the closure has of it -/
structure FSt (B lb cn cc ha ga gb : Nat) (ca : Option Addr) (cnt size : Int) (key : ByteArray) (ns : List Nd) (W : World) : Prop where
  hl : Sw.LB W lb ca cn cc ha cnt size
  tw : Sw.Tower W B ha ns (Sw.VN ns)
  ca_ : Cell1 W ga 48 (.pointer (some ⟨lb, 0, none⟩))
  cb_ : Cell1 W gb 9 (.string key)
theorem FSt.below {B lb cn cc ha ga gb : Nat} {ca : Option Addr} {cnt size : Int} {key : ByteArray} {ns : List Nd} {W W' : World} (h : FSt B lb cn cc ha ga gb ca cnt size key ns W) (k : Below W.heap.size W W') : FSt B lb cn cc ha ga gb ca cnt size key ns W' :=
  ⟨h.hl.below k, h.tw.below k, h.ca_.below k, h.cb_.below k⟩

set_option maxHeartbeats 1600000 in
set_option maxRecDepth 100000 in
theorem from1_any (l B lb cn cc ha ga gb : Nat) (ca : Option Addr) (cnt size : Int) (key : ByteArray) (ns : List Nd) (hkey : ∀ x : ByteArray, Op.bytesLess x.toList key.toList = false) (J : Nat → World → Prop)
    (hst : ∀ p W, J p W → FSt B lb cn cc ha ga gb ca cnt size key ns W) (hdr : ∀ p W k, J p W → J p (W.drewN k))
    (hY : ∀ p W, J p W → p < ns.length → YieldAt Fence.wide 0 Tryz.prog l #[(ns.getD p nd0).e.v] W fun e W' => e = .returned (.bool true) ∧ J (p + 1) W')
    (W : World) (h0 : J 0 W) :
    Calls Tryz.prog 57 #[.func (.yield l) #[] #[], .pointer (some ⟨ga, 0, none⟩), .pointer (some ⟨gb, 0, none⟩)] W fun e W' => (∃ v, e = .returned v) ∧ J ns.length W' := by
  have HST := Lib.hid hst
  have HDR := Lib.hid hdr
  have HYY := Lib.hid hY
  have H0 := Lib.hid h0
  have hf := hst 0 W h0
  have g0 := hf.ca_.cell
  have g1 := hf.cb_.cell
  have HF := Lib.hid hf
  clear hst hdr hY h0 hf
  go_enter Tryz.func57, Tryz.ntmps57
  go_wp2_with fail
  clear g0 g1
  go_loopw [4, 5] (fun s4 sf wr => ∃ j nd : Nat, s4 = .pointer (some ⟨lb, 1, none⟩) ∧ sf = .int .i64 ((j : Int) - 1) ∧ j ≤ 8 ∧ wr = W.drewN nd) (fun _ sf _ => (intOf sf + 1).toNat)
  case atStart => exact ⟨8, 0, rfl, rfl, by omega, rfl⟩
  case round =>
    obtain ⟨j, nd, rfl, rfl, hj, rfl⟩ := hrel
    have hb1 : Below W.heap.size W (W.drewN nd) := drewN (Below.refl _ _)
    have HF1 := Lib.hid (HF.out.below hb1)
    have HJ1 := Lib.hid (HDR.out 0 W nd H0.out)
    have ca1 := HF1.out.hl.cells.2.1
    have gb1 := HF1.out.cb_.cell
    clear hb1
    by_cases hj0 : j = 0
    · subst hj0
      have hcv := (HF1.out.tw.arrs 0 (Nat.zero_le _)).cell (f := 0) (by show 0 < 8; omega)
      have hvn : Sw.VN ns 0 0 = Sw.ptrV (if 0 < ns.length then some (ns.getD 0 nd0) else none) := by unfold Sw.VN; rw [next_0 (fun i hi => (HF1.out.tw.hs i hi).1)]
      rw [hvn] at hcv
      have hcv' : (W.drewN nd).cell? ⟨ha, 0, none⟩ = some (Sw.ptrV (if 0 < ns.length then some (ns.getD 0 nd0) else none)) := hcv
      obtain ⟨pv, hpv⟩ : ∃ pv, pv = Sw.ptrV (if 0 < ns.length then some (ns.getD 0 nd0) else none) := ⟨_, rfl⟩
      rw [← hpv] at hcv'
      have HPV := Lib.hid hpv
      obtain ⟨W1, hW1⟩ : ∃ W1, W1 = W.drewN nd := ⟨_, rfl⟩
      rw [← hW1] at HF1 HJ1 ca1 gb1 hcv' ⊢
      clear hcv hvn hpv hW1 HF
      go_wp2_with fail
      go_loopg [7] ns.length (fun gk s7 wr => ∃ p : Nat, gk = ns.length - p ∧ p ≤ ns.length ∧ Hid (s7 = Sw.ptrV (if p < ns.length then some (ns.getD p nd0) else none)) ∧ Hid (J p wr))
      case atStart => exact ⟨0, rfl, by omega, HPV, HJ1⟩
      case round =>
        obtain ⟨p, rfl, hp, hs7, hJ⟩ := hrel
        by_cases hlt : p < ns.length
        · have h7 := hs7.out
          rw [if_pos hlt] at h7
          simp only [Sw.ptrV] at h7
          subst h7
          have hfs := HST.out p wr hJ.out
          have hnd := hfs.tw.nodes p hlt
          obtain ⟨fn, tmps, assign, body, hy, hR⟩ := HYY.out p wr hJ.out hlt
          obtain ⟨x, hx⟩ : ∃ x, ns.getD p nd0 = x := ⟨_, rfl⟩
          rw [hx] at hnd hy ⊢
          have HX := Lib.hid hx
          obtain ⟨n0, n1, n2, n3, n4⟩ := Sw.nd_cells hnd
          clear hfs hnd hx hs7
          obtain ⟨xb, xa, xh, ⟨k1, q1, g1, v1, u1⟩⟩ := x
          simp only [Ent.v] at n0 n1 n2 n3 n4 hy
          go_upto_region 10 with fail
          refine (wpIn_wide (n := 1)).1 ?_
          gi_wp2
          refine hR.mono ?_
          rintro e W3 ⟨rfl, hJ3⟩
          have HJ3 := Lib.hid hJ3
          have hf3 := HST.out (p + 1) W3 hJ3
          have hnd3 := hf3.tw.nodes p hlt
          rw [HX.out] at hnd3
          have m5 := cell_of_row W3 _ 5 _ _ _ hnd3
          have hc3 := (hf3.tw.arrs (p + 1) hlt).cell (f := 0) (by rw [Sw.hP_s]; exact (hf3.tw.hs p hlt).1)
          have hh3 := (hf3.tw.hs p hlt)
          rw [Sw.arrP_s, HX.out] at hc3
          rw [HX.out] at hh3
          have hvn : Sw.VN ns (p + 1) 0 = Sw.ptrV (if p + 1 < ns.length then some (ns.getD (p + 1) nd0) else none) := by unfold Sw.VN; rw [next_0 (fun i hi => (hf3.tw.hs i hi).1)]
          rw [hvn] at hc3
          obtain ⟨pv, hpv⟩ : ∃ pv, pv = Sw.ptrV (if p + 1 < ns.length then some (ns.getD (p + 1) nd0) else none) := ⟨_, rfl⟩
          rw [← hpv] at hc3
          have HPV := Lib.hid hpv
          simp only [Sw.ndCells, List.getElem?_toArray, List.getElem?_cons_succ, List.getElem?_cons_zero] at m5
          simp only at hc3 hh3
          have d1 : (0 : Int) < (xh : Int) := by omega
          have d2 : 0 < xh := by omega
          clear hf3 hnd3 hvn hpv hJ3 hR hy n0 n1 n2 n3 n4
          gi_wp2
          go_wp2_with fail
          go_roundg (ns.length - (p + 1))
          case measure => omega
          case rel => exact ⟨p + 1, rfl, by omega, HPV, HJ3⟩
        · obtain rfl : p = ns.length := by omega
          have h7 := hs7.out
          rw [if_neg hlt] at h7
          simp only [Sw.ptrV] at h7
          subst h7
          go_wp2_with fail
          go_end0
          exact ⟨⟨_, rfl⟩, hJ.out⟩
    · obtain ⟨f, rfl⟩ : ∃ f, j = f + 1 := ⟨j - 1, by omega⟩
      have hf8 : f < 8 := by omega
      have hcv : (W.drewN nd).cell? ⟨ha, f, none⟩ = some (Sw.VN ns 0 f) := (HF1.out.tw.arrs 0 (Nat.zero_le _)).cell (f := f) hf8
      have e1 : ((f + 1 : Nat) : Int) - 1 = (f : Int) := by omega
      rw [e1]
      have d1 : (0 : Int) ≤ (f : Int) := by omega
      have d2 : (f : Int) < (8 : Int) := by omega
      have e2 : IntKind.i64.wrap ((f : Int) - 1) = (f : Int) - 1 := IntWalk.i64_in _ (by omega)
      unfold Sw.VN at hcv
      cases hn : nxt (ns.drop 0) f with
      | none =>
        rw [hn] at hcv
        simp only [Sw.ptrV] at hcv
        clear hn
        go_wp2_with fail
        refine wp_loop_rounds 1 ?_
        rw [rounds_succ]
        go_wp2_with fail
        go_quiet (fail)
        go_wp2_with fail
        go_roundw
        case rel => exact ⟨f, _, rfl, by go_num, by omega, by first | rfl | exact World.drewN_drewN _ _ _⟩
        case measure => simp [intOf]
      | some x =>
        obtain ⟨j2, hj1, hj2, hjx, hjf, hjl⟩ := next_some hn
        have hnd := HF1.out.tw.nodes j2 hj2
        rw [hjx] at hnd
        rw [hn] at hcv
        simp only [Sw.ptrV] at hcv
        have n0 : W.cell? ⟨x.b, 0, none⟩ = some (.string x.e.key) := (Sw.nd_cells hnd).1
        have gb2 : W.cell? ⟨gb, 0, none⟩ = some (.string key) := gb1
        have hk := hkey x.e.key
        generalize x.e.key = xk at n0 hk
        generalize x.b = xb at n0 hcv
        clear hn hjx hjl hnd hjf
        go_wp2_with fail
        refine wp_loop_rounds 1 ?_
        rw [rounds_succ]
        go_wp2_with fail
        go_quiet (fail)
        go_wp2_with fail
        go_roundw
        case rel => exact ⟨f, _, rfl, by go_num, by omega, by first | rfl | exact World.drewN_drewN _ _ _⟩
        case measure => simp [intOf]

theorem keeps_put {W : World} {r : Nat} {o : Obj} (hr : W.heap[r]? = some o) (ho : o.isCells = false) (o' : Obj) : Keeps [] W (W.putObj r o') := by
  intro g cs t fr hg _
  refine (World.putObj_heap_other (fun e => ?_)).trans hg
  subst e
  rw [hg] at hr
  cases hr
  cases ho
/-- what may turn between two rounds: what is drawn; new blocks; blocks that hold no cells, from B on -/
structure BidesF (B : Nat) (J : Nat → World → Prop) : Prop where
  drew : ∀ p W k, J p W → J p (W.drewN k)
  alloc : ∀ p W o, J p W → J p (W.alloc o)
  put : ∀ p W r o o', J p W → B ≤ r → W.heap[r]? = some o → o.isCells = false → J p (W.putObj r o')
/-- what a round keeps: what holds no cells -/
structure KeptF (W W' : World) : Prop where
  size : W.heap.size ≤ W'.heap.size
  other : ∀ (k : Nat) (o : Obj), W.heap[k]? = some o → o.isCells = false → W'.heap[k]? = some o
def roundF (q : Nat) (J : Nat → World → Prop) (W : World) : Exit → Act → World → Prop
  | .normal, _, W' => KeptF W W' ∧ J q W'
  | _, _, _ => False

set_option maxHeartbeats 800000 in
/-- a range over a list from the empty key on, whose body goes on to its end -/
theorem range_from {f : Operand} {t : Tmp} {assign body : Code} {Q : Exit → Act → World → Prop} {a : Act} {w : World} {B lb cn cc ha ga gb : Nat} {ca : Option Addr} {cnt size : Int} {key : ByteArray} {ns : List Nd}
    (hf : a.eval f = .func (.func 57) #[] #[.pointer (some ⟨ga, 0, none⟩), .pointer (some ⟨gb, 0, none⟩)]) (hkey : ∀ x : ByteArray, Op.bytesLess x.toList key.toList = false)
    (J : Nat → World → Prop) (hJ : BidesF w.heap.size J) (hst : ∀ p W, J p W → FSt B lb cn cc ha ga gb ca cnt size key ns W) (h0 : J 0 w)
    (hround : ∀ (l p : Nat) (W : World), J p W → p < ns.length → assign.wpIn (Fence.wide.inRound l) 0 Tryz.prog (Exit.then (fun a₁ W1 => J p W1 ∧ KeptF W W1 ∧ ∀ W', J p W' → Keeps [] W1 W' → W1.heap.size ≤ W'.heap.size → body.wpIn (Fence.wide.inRound l) 0 Tryz.prog (roundF (p + 1) J W') a₁ W') (fun _ _ _ => False)) { tmps := a.tmps.setIfInBounds t (ns.getD p nd0).e.v, defers := [] } W)
    (hdone : ∀ W, J ns.length W → W.heap[w.heap.size]? = some (.deferred (some [])) → Q .normal { a with defers := { target := .collected w.heap.size, args := #[] } :: a.defers } W) :
    (Code.rangeFunc f #[t] assign body).wp Tryz.prog Q a w := by
  refine (wpIn_wide (n := 1)).1 (wpIn_rangeFunc ?_)
  intro fn hfn
  have hro : Fence.wide.round = none := rfl
  rw [hro]
  obtain ⟨rec, hrec⟩ : ∃ rec : LoopState → Loop, rec = fun st => { state := st, pending := none, fn, tmps := a.tmps, params := #[t], assign, body, defers := w.heap.size } := ⟨_, rfl⟩
  obtain ⟨W1, hW1⟩ : ∃ W1, (w.alloc (.deferred (some []))).alloc (.loop (rec .ready)) = W1 := ⟨_, rfl⟩
  have hL1 : W1.heap[w.heap.size + 1]? = some (.loop (rec .ready)) := by rw [← hW1]; exact blk_new (by simp)
  have hK1 : W1.heap[w.heap.size]? = some (.deferred (some [])) := by rw [← hW1]; exact blk_alloc (blk_new rfl)
  have hJ1 : J 0 W1 := by rw [← hW1]; exact hJ.alloc _ _ _ (hJ.alloc _ _ _ h0)
  refine ⟨w.heap.size + 1, [{ target := .collected w.heap.size, args := #[] }], W1, { target := .fn (.func 57) #[.pointer (some ⟨ga, 0, none⟩), .pointer (some ⟨gb, 0, none⟩)], args := #[.func (.yield (w.heap.size + 1)) #[] #[]] }, W1, 57,
    #[.func (.yield (w.heap.size + 1)) #[] #[]] ++ #[.pointer (some ⟨ga, 0, none⟩), .pointer (some ⟨gb, 0, none⟩)], W1, ?_, ?_, ?_, ?_, (fun h => by cases h), ?_⟩
  · rw [← hW1, hrec]; exact run_enterLoop_outer _ _ _ _ _
  · simp only [resolve, hf]
    simp [go_sem]
  · intro f' hf'; trivial
  · simp [invoke, go_sem]
  · refine callsIn_wide.2 ((from1_any (w.heap.size + 1) B lb cn cc ha ga gb ca cnt size key ns hkey
      (fun p W => J p W ∧ W.heap[w.heap.size + 1]? = some (.loop (rec .ready)) ∧ W.heap[w.heap.size]? = some (.deferred (some [])))
      (fun p W hj => hst p W hj.1) (fun p W k hj => ⟨hJ.drew p W k hj.1, hj.2⟩) ?_ W1 ⟨hJ1, hL1, hK1⟩).mono ?_)
    · rintro p W ⟨hj, hlp, hd⟩ hlt
      have hlt2 : w.heap.size + 1 < W.heap.size := lt_of_block hlp
      have hy := run_yield (P := Tryz.prog) (args := #[(ns.getD p nd0).e.v]) hlp (by rw [hrec]; rfl)
      rw [hrec] at hy
      have htm : ((#[t] : Array Tmp).zip #[(ns.getD p nd0).e.v]).foldl (fun tmps (t, a) => tmps.setIfInBounds t a) a.tmps = a.tmps.setIfInBounds t (ns.getD p nd0).e.v := by simp
      simp only [htm] at hy
      refine ⟨fn, _, assign, body, hy, roundIn_of_wpIn hfn ?_⟩
      refine wpIn_mono (hround (w.heap.size + 1) p W hj hlt) ?_
      rintro e0 a1 Wx hp0
      cases e0 with
      | normal =>
        obtain ⟨hj1, hk1, hbody⟩ := hp0
        have hl1 := hk1.other _ _ hlp rfl
        have hd1 := hk1.other _ _ hd rfl
        refine ⟨_, run_beginRound hl1 (by rw [hrec]), ?_⟩
        have hj2 := hJ.put p Wx (w.heap.size + 1) _ (.loop { rec .ready with state := .busy }) hj1 (by omega) hl1 rfl
        have hl2 : (Wx.putObj (w.heap.size + 1) (.loop { rec .ready with state := .busy })).heap[w.heap.size + 1]? = some (.loop { rec .ready with state := .busy }) := World.putObj_heap_same (lt_of_block hl1)
        have hd2 : (Wx.putObj (w.heap.size + 1) (.loop { rec .ready with state := .busy })).heap[w.heap.size]? = some (.deferred (some [])) := (World.putObj_heap_other (by omega)).trans hd1
        refine wpIn_mono (hbody _ hj2 (keeps_put hl1 rfl _) (by rw [World.putObj_size]; exact Nat.le_refl _)) ?_
        rintro e a3 W3 hp
        cases e with
        | normal =>
          obtain ⟨hk, hj3⟩ := hp
          have hl3 := hk.other _ _ hl2 rfl
          have hd3 := hk.other _ _ hd2 rfl
          have hend := run_endRound (P := Tryz.prog) none hl3
          refine ⟨_, _, hend, rfl, ⟨hJ.put (p + 1) W3 _ _ _ hj3 (by omega) hl3 rfl, ?_, (World.putObj_heap_other (by omega)).trans hd3⟩⟩
          refine (World.putObj_heap_same (lt_of_block hl3)).trans ?_
          rw [hrec]; rfl
        | ret => exact hp.elim
        | exit id => exact hp.elim
        | goto l => exact hp.elim
        | panic ch => exact hp.elim
        | outgrown => exact hp.elim
      | ret => exact hp0.elim
      | exit id => exact hp0.elim
      | goto l => exact hp0.elim
      | panic ch => exact hp0.elim
      | outgrown => exact hp0.elim
    · rintro e W2 ⟨⟨v, rfl⟩, hj, hlp, hd⟩
      have hend := run_endLoop (P := Tryz.prog) hlp (by rw [hrec]; simp)
      have hpe : (rec .ready).pending = none := by rw [hrec]
      rw [hpe] at hend
      exact ⟨none, _, hend, hdone _ (hJ.put ns.length W2 _ _ _ hj (by omega) hlp rfl) ((World.putObj_heap_other (by omega)).trans hd)⟩
end Go.Proofs.YtpihmjdljbienaaGreatDoor.Dw
