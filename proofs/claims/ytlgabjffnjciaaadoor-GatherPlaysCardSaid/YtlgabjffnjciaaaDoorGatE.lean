/- gather: Needs, Fails -/
import Derived.Test.YtlgabjffnjciaaaDoorGatD
import Derived.Test.YtlgabjffnjciaaaDoorConf
import Derived.Test.YtlgabjffnjciaaaDoorPlanG
namespace Go.Proofs.YtlgabjffnjciaaaDoor
set_option linter.unusedSimpArgs false
set_option linter.unusedVariables false
open Go.RowKit Go.Sort
/-- A map from ints that is ranged over: the iterator in block r. -/
def RangeAt (w : World) (r b : Nat) (es : Array MapEntry) (clock : Nat) (seen : Array Nat) : Prop := w.heap[r]? = some (.mapIter (some b) clock seen clock) ∧ w.heap[b]? = some (.map es clock)
section
variable {P : Program} {w w' : World} {b r : Nat} {es : Array MapEntry} {clock : Nat} {seen : Array Nat}
theorem RangeAt.below (h : RangeAt w r b es clock seen) (hb : Below w.heap.size w w') : RangeAt w' r b es clock seen :=
  ⟨(hb.block r (Array.getElem?_eq_some_iff.1 h.1).1).trans h.1, (hb.block b (Array.getElem?_eq_some_iff.1 h.2).1).trans h.2⟩
theorem RangeAt.ltr (h : RangeAt w r b es clock seen) : r < w.heap.size := (Array.getElem?_eq_some_iff.1 h.1).1
theorem RangeAt.ne (h : RangeAt w r b es clock seen) : r ≠ b := by
  rintro rfl
  have := h.1.symm.trans h.2
  simp at this
variable {ops : Array Oper} {rest : List Oper} {o : Oper} {a : Act} {Q : Exit → Act → World → Prop} {t K E : TypeId}
theorem wpList_map_range (hg : o.guard = none) (m : Operand) (ho : o.op = .range t m) (ht : P.underlying t = some (.map K E)) (hm : a.eval m = .map (some b)) (hb : w.heap[b]? = some (.map es clock))
    (hK : RangeAt (w.alloc (.mapIter (some b) clock #[] clock)) w.heap.size b es clock #[] → wpList P ops Q rest (a.put o.dst (.pointer (some ⟨w.heap.size, 0, none⟩))) (w.alloc (.mapIter (some b) clock #[] clock))) : wpList P ops Q (o :: rest) a w := by
  refine wpList_plain hg fun K' hK' => ?_
  unfold Oper.wp
  simp [execOp, ho, hm, run_range_map w t K E b es clock ht hb, Result.andThen]
  exact hK' _ _ (hK ⟨(Go.MapKept.heap_alloc w _).1, ((Go.MapKept.heap_alloc w _).2 b (Array.getElem?_eq_some_iff.1 hb).1).trans hb⟩)
theorem wpList_nil_range (hg : o.guard = none) (m : Operand) (ho : o.op = .range t m) (ht : P.underlying t = some (.map K E)) (hm : a.eval m = .map none)
    (hK : wpList P ops Q rest (a.put o.dst (.pointer (some ⟨w.heap.size, 0, none⟩))) (w.alloc (.mapIter none 0 #[] 0))) : wpList P ops Q (o :: rest) a w := by
  refine wpList_plain hg fun K' hK' => ?_
  unfold Oper.wp
  simp [execOp, ho, hm, run_range_nilMap w t K E ht, Result.andThen]
  exact hK' _ _ hK
theorem wpList_map_next (hg : o.guard = none) (it : Operand) (ho : o.op = .next it false) (hit : a.eval it = .pointer (some ⟨r, 0, none⟩)) (h : RangeAt w r b es clock seen) (hs : Go.MapKept.Stamped es clock)
    (hDone : (leftOf es seen).size = 0 → wpList P ops Q rest (a.put o.dst (.tuple #[.bool false])) w)
    (hMore : ∀ e ∈ (leftOf es seen).toList, ∀ w', RangeAt w' r b es clock (seen.push e.born) → Kp r w w' → w'.heap.size = w.heap.size → (Instr.entry (.pointer (some ⟨r, 0, none⟩))).run P w' = .ok (.tuple #[e.key, e.val]) w' → wpList P ops Q rest (a.put o.dst (.tuple #[.bool true, e.key, e.val])) w') : wpList P ops Q (o :: rest) a w := by
  refine wpList_plain hg fun K' hK' => ?_
  unfold Oper.wp
  have hold : ∀ x ∈ es.toList, x.born < clock := hs.1
  rcases run_next_at (P := P) w o.type r b clock clock seen es clock h.1 h.2 hold (Nat.le_refl _) with ⟨h0, hrun⟩ | ⟨e, he, w1, hw1, hrun⟩
  · simp [execOp, ho, hit, hrun, Result.andThen]
    exact hK' _ _ (hDone h0)
  · simp [execOp, ho, hit, hrun, Result.andThen]
    have hh : w1.heap = w.heap := by rcases hw1 with rfl | rfl <;> rfl
    have hos : w1.os = w.os ∧ w1.tape = w.tape ∧ w1.output = w.output := by rcases hw1 with rfl | rfl <;> exact ⟨rfl, rfl, rfl⟩
    have hr1 : w1.heap[r]? = some (.mapIter (some b) clock seen clock) := by rw [hh]; exact h.1
    have hb1 : w1.heap[b]? = some (.map es clock) := by rw [hh]; exact h.2
    have hR : RangeAt (Go.ChangeMaps.setBlock w1 r (.mapIter (some b) clock (seen.push e.born) clock)) r b es clock (seen.push e.born) :=
      ⟨(Go.MapKept.heap_set hr1).1, ((Go.MapKept.heap_set hr1).2 b (Ne.symm h.ne)).trans hb1⟩
    have hes : e ∈ es.toList := by unfold leftOf at he; simp at he ⊢; exact he.1
    refine hK' _ _ (hMore e he _ hR ⟨hos.1, hos.2.1, hos.2.2, by simp [Go.ChangeMaps.setBlock, hh], fun i _ hi => ((Go.MapKept.heap_set hr1).2 i hi).trans (by rw [hh])⟩ (by simp [Go.ChangeMaps.setBlock, hh]) ?_)
    exact run_entry_at _ r b clock seen es clock e hR.1 hR.2 hes hs.2.1
end
def needsB (mem reach strange : Nat) (me : Int) : Bool := decide (minI reach = me) && (decide (reach ≠ mem) || decide (strange &&& reach ≠ 0))
set_option maxHeartbeats 1600000 in
theorem needs_any (ep rp : Int) (mem reach strange : Nat) (me : Int) (t : Bool) (ht : t = needsB mem reach strange me) (hm : mem < 18446744073709551616) (hr : reach < 18446744073709551616) (hs : strange < 18446744073709551616) (w : World) (hT : Tab w) :
    Calls Tryd.prog 9 #[.agg #[.int .u64 ep, .int .i64 rp], .int .u64 mem, .int .u64 reach, .int .u64 strange, .int .i64 me] w fun e w' => e = .returned (.bool t) ∧ Below w.heap.size w w' := by
  have hA := BlkAt.new w 24 #[.int .u64 ep, .int .i64 rp]
  have hb1 := alloc_below w (.cells #[.int .u64 ep, .int .i64 rp] 24)
  have HM := Lib.hid (min_any reach hr (w.alloc (.cells #[.int .u64 ep, .int .i64 rp] 24)) (hT.below hb1 hT.1))
  have HB := Lib.hid (fun W => both_any strange reach hs hr W)
  have ht2 := Lib.hid (show t = (decide (minI reach = me) && (decide (reach ≠ mem) || decide (strange &&& reach ≠ 0))) from ht)
  clear ht hT hA
  generalize minI reach = mi at *
  generalize strange &&& reach = sr at *
  by_cases h1 : mi = me
  · have h1B : (mi == me) = true := by rw [beq_iff_eq]; exact h1
    by_cases h2 : reach = mem
    · have h2B : ((reach : Int) != (mem : Int)) = false := by rw [bne_eq_false_iff_eq]; omega
      have h2N : (reach != mem) = false := by rw [bne_eq_false_iff_eq]; omega
      by_cases h3 : sr = 0
      · have hz := Lib.hid (show t = false from by rw [ht2.out, h3]; simp [h2])
        have h3B : ((sr : Int) != 0) = false := by rw [bne_eq_false_iff_eq]; omega
        have h3N : (sr != 0) = false := by rw [bne_eq_false_iff_eq]; omega
        replace h1 := Lib.hid h1
        clear ht2 h2 h3
        go_enter Tryd.func9, Tryd.ntmps9
        go_wp2_with fail
        refine HM.out.mono ?_
        rintro e w2 ⟨rfl, rfl⟩
        go_wp2_with fail
        refine (HB.out _).mono ?_
        rintro e w2 ⟨rfl, rfl⟩
        go_wp2
        go_ret
        exact ⟨by rw [hz.out]; rfl, hb1⟩
      · have hz := Lib.hid (show t = true from by rw [ht2.out]; simp [h1, h3])
        have h3B : ((sr : Int) != 0) = true := by rw [bne_iff_ne]; omega
        have h3N : (sr != 0) = true := by rw [bne_iff_ne]; omega
        replace h1 := Lib.hid h1
        clear ht2 h2 h3
        go_enter Tryd.func9, Tryd.ntmps9
        go_wp2_with fail
        refine HM.out.mono ?_
        rintro e w2 ⟨rfl, rfl⟩
        go_wp2_with fail
        refine (HB.out _).mono ?_
        rintro e w2 ⟨rfl, rfl⟩
        go_wp2
        go_ret
        exact ⟨by rw [hz.out]; rfl, hb1⟩
    · have hz := Lib.hid (show t = true from by rw [ht2.out]; simp [h1, h2])
      have h2B : ((reach : Int) != (mem : Int)) = true := by rw [bne_iff_ne]; omega
      have h2N : (reach != mem) = true := by rw [bne_iff_ne]; omega
      replace h1 := Lib.hid h1
      clear ht2 h2
      go_enter Tryd.func9, Tryd.ntmps9
      go_wp2_with fail
      refine HM.out.mono ?_
      rintro e w2 ⟨rfl, rfl⟩
      go_wp2
      go_ret
      exact ⟨by rw [hz.out]; rfl, hb1⟩
  · have hz := Lib.hid (show t = false from by rw [ht2.out]; simp [h1])
    have h1B : (mi == me) = false := by rw [beq_eq_false_iff_ne]; exact h1
    replace h1 := Lib.hid h1
    clear ht2
    go_enter Tryd.func9, Tryd.ntmps9
    go_wp2_with fail
    refine HM.out.mono ?_
    rintro e w2 ⟨rfl, rfl⟩
    go_wp2
    go_ret
    exact ⟨by rw [hz.out]; rfl, hb1⟩
theorem wpList_cf_next {P : Program} {w : World} {b r : Nat} {es : Array MapEntry} {clock : Nat} {seen : Array Nat} {ops : Array Oper} {rest : List Oper} {o : Oper} {a : Act} {Q : Exit → Act → World → Prop} {L : List (Int × Int × Int)} (hg : o.guard = none) (it : Operand) (ho : o.op = .next it false) (hit : a.eval it = .pointer (some ⟨r, 0, none⟩)) (h : RangeAt w r b es clock seen) (hs : Go.MapKept.Stamped es clock)
    (hin : ∀ e ∈ es.toList, ∃ q ∈ L, e.key = .int .i64 q.1 ∧ e.val = .agg #[.int .u64 q.2.1, .int .i64 q.2.2])
    (hDone : (leftOf es seen).size = 0 → wpList P ops Q rest (a.put o.dst (.tuple #[.bool false])) w)
    (hMore : ∀ (e : MapEntry) (p x y : Int), (p, x, y) ∈ L → e ∈ (leftOf es seen).toList → e.key = .int .i64 p → e.val = .agg #[.int .u64 x, .int .i64 y] → ∀ w', RangeAt w' r b es clock (seen.push e.born) → Kp r w w' → w'.heap.size = w.heap.size → (Instr.entry (.pointer (some ⟨r, 0, none⟩))).run P w' = .ok (.tuple #[.int .i64 p, .agg #[.int .u64 x, .int .i64 y]]) w' → wpList P ops Q rest (a.put o.dst (.tuple #[.bool true, .int .i64 p, .agg #[.int .u64 x, .int .i64 y]])) w') : wpList P ops Q (o :: rest) a w :=
  wpList_map_next hg it ho hit h hs hDone (fun e he w' h1 h2 h3 h4 => by
    obtain ⟨⟨p, x, y⟩, hq, hk, hv⟩ := hin e (mem_left he).1
    rw [hk, hv] at h4 ⊢
    exact hMore e p x y hq he hk hv w' h1 h2 h3 h4)
/-- Does an entry make an attempt fail? -/
def failB (mem : Nat) (ep rp : Int) (q : Int × Int × Int) : Bool := hasB mem q.1 && decide (0 < keyC q.2.1 q.2.2 ep rp)
def failsV (mem : Nat) (ep rp : Int) (reach : Nat) (L : List (Int × Int × Int)) : Bool := L.any (failB mem ep rp) || decide (reach ≠ mem)
def cfM (L : List (Int × Int × Int)) : List (Int × Value) := L.map fun q => (q.1, .agg #[.int .u64 q.2.1, .int .i64 q.2.2])
def leftW (es : Array MapEntry) (r : Nat) (w : World) : Nat := match w.heap[r]? with | some (.mapIter _ _ seen _) => (leftOf es seen).size | _ => 0
theorem leftW_at {w : World} {r b : Nat} {es : Array MapEntry} {clock : Nat} {seen : Array Nat} (h : RangeAt w r b es clock seen) : leftW es r w = (leftOf es seen).size := by
  unfold leftW
  rw [h.1]
theorem Tryd.cfZ : (Tryd.prog.info? 24).map (·.zero) = some (some (.agg #[.int .u64 0, .int .i64 0])) := by kernel_rfl
set_option maxHeartbeats 3200000 in
set_option maxRecDepth 100000 in
theorem fails_any (s : AtS) (b mb nb : Nat) (reach : Nat) (L : List (Int × Int × Int)) (t : Bool) (ht : t = failsV s.mem s.ep s.rp reach L) (w : World) (h : GatAt w b mb s) (hn : MapAt w nb (cfM L)) :
    Calls Tryd.prog 14 #[.pointer (some ⟨b, 0, none⟩), .int .u64 reach, .map (some nb)] w fun e w' => e = .returned (.bool t) ∧ Below w.heap.size w w' := by
  have hmm := h.ok.mem
  have ht2 := Lib.hid (show t = (L.any (failB s.mem s.ep s.rp) || decide (reach ≠ s.mem)) from ht)
  have h0 := Lib.hid h
  have hnl := hn.lt
  obtain ⟨es, clock, hnb, hst, hm⟩ := hn
  have hin := Lib.hid (show ∀ e ∈ es.toList, ∃ q ∈ L, e.key = .int .i64 q.1 ∧ e.val = .agg #[.int .u64 q.2.1, .int .i64 q.2.2] from fun e he => by
    have : (e.key, e.val) ∈ es.toList.map (fun (e : MapEntry) => (e.key, e.val)) := List.mem_map.2 ⟨e, he, rfl⟩
    rw [hm] at this
    obtain ⟨p, hp, e1⟩ := List.mem_map.1 this
    obtain ⟨q, hq, rfl⟩ := List.mem_map.1 hp
    injection e1 with e2 e3
    exact ⟨q, hq, e2.symm, e3.symm⟩)
  have hout := Lib.hid (show ∀ q ∈ L, ∃ e ∈ es.toList, e.key = .int .i64 q.1 ∧ e.val = .agg #[.int .u64 q.2.1, .int .i64 q.2.2] from fun q hq => by
    have : (Value.int .i64 q.1, Value.agg #[.int .u64 q.2.1, .int .i64 q.2.2]) ∈ (cfM L).map (fun p => (Value.int .i64 p.1, p.2)) := List.mem_map.2 ⟨_, List.mem_map.2 ⟨q, hq, rfl⟩, rfl⟩
    rw [← hm] at this
    obtain ⟨e, he, e1⟩ := List.mem_map.1 this
    injection e1 with e2 e3
    exact ⟨e, he, e2, e3⟩)
  have hb1 := alloc_below w (.mapIter (some nb) clock #[] clock)
  obtain ⟨tr, htr⟩ : ∃ tr, tr = decide (reach ≠ s.mem) := ⟨_, rfl⟩
  have e1 : ((reach : Int) != (s.mem : Int)) = tr := by
    rw [htr]
    by_cases hh : reach = s.mem
    · rw [decide_eq_false (fun h => h hh), bne_eq_false_iff_eq]; omega
    · rw [decide_eq_true hh, bne_iff_ne]; omega
  have e2 : (reach != s.mem) = tr := by
    rw [htr]
    by_cases hh : reach = s.mem
    · rw [decide_eq_false (fun h => h hh), bne_eq_false_iff_eq]; omega
    · rw [decide_eq_true hh, bne_iff_ne]; omega
  rw [← htr] at ht2
  clear htr
  replace hm := Lib.hid hm
  have hsp := Lib.hid hst
  clear h ht
  go_enter Tryd.func14, Tryd.ntmps14
  go_wp2_with (first | (refine wpList_map_range rfl (.tmp 9) rfl Tryd.underlying34 rfl hnb ?_; intro hR0))
  replace hR0 := Lib.hid hR0
  simp only [Act.put, List.setIfInBounds_toArray, List.set_cons_zero, List.set_cons_succ]
  go_loopw [7, 8] (fun _ _ wr => ∃ seen : Array Nat, Hid (RangeAt wr w.heap.size nb es clock seen) ∧ Hid (∀ e ∈ es.toList, seen.contains e.born = true → ∀ q : Int × Int × Int, e.key = .int .i64 q.1 → e.val = .agg #[.int .u64 q.2.1, .int .i64 q.2.2] → failB s.mem s.ep s.rp q = false) ∧ Hid (Below w.heap.size w wr)) (fun _ _ wr => leftW es w.heap.size wr)
  case atStart => exact ⟨#[], hR0, Lib.hid (fun e _ h => by simp at h), Lib.hid hb1⟩
  case round =>
    clear hR0 hb1
    obtain ⟨seen, hR, hno, hbr⟩ := hrel
    obtain ⟨wo, rfl⟩ : ∃ z, z = wr := ⟨_, rfl⟩
    have hsz := hbr.out.size
    have hr0 := Lib.hid (h0.out.below (w' := wo) (by exact hbr.out))
    obtain ⟨c0, c1, c2, c3, c4⟩ := blk5 hr0.out.blk
    have hRo := hR.out
    go_wp2_with (first
      | (refine wpList_cf_next rfl (.tmp 10) rfl rfl hRo hst hin.out (fun hl0 => ?_) (fun e p x y hq he hk hv w1 hR1 hK1 hs1 hen => ?_))
      )
    · go_ret
      refine ⟨?_, hbr.out⟩
      have hz : L.any (failB s.mem s.ep s.rp) = false := by
        rw [List.any_eq_false]
        intro q hq
        obtain ⟨e, he, hk, hv⟩ := hout.out q hq
        rw [hno.out e he (all_seen es seen hl0 e he) q hk hv]
        decide
      rw [ht2.out, hz]
      rfl
    · have hB4 := BlkAt.new w1 24 #[.int .u64 x, .int .i64 y]
      rw [hs1] at hB4
      have hb4 := alloc_below w1 (.cells #[.int .u64 x, .int .i64 y] 24)
      generalize w1.alloc (.cells #[.int .u64 x, .int .i64 y] 24) = w4 at *
      have hB1 := Kp.below hbr.out hK1 (Nat.le_refl _) hsz
      have hsz1 := hB1.size
      have hB4w := Lib.hid (hB1.trans (hb4.mono hsz1))
      have hR4 := Lib.hid (hR1.below hb4)
      have h4 := Lib.hid (h0.out.below hB4w.out)
      have hlt4 := hB4.lt
      have hmeas : leftW es w.heap.size wo = (leftOf es seen).size := leftW_at hR.out
      replace hmeas := Lib.hid hmeas
      have hsh := Lib.hid (left_shrinks es seen e he)
      have hno4 := Lib.hid (show failB s.mem s.ep s.rp (p, x, y) = false → ∀ e' ∈ es.toList, (seen.push e.born).contains e'.born = true → ∀ q : Int × Int × Int, e'.key = .int .i64 q.1 → e'.val = .agg #[.int .u64 q.2.1, .int .i64 q.2.2] → failB s.mem s.ep s.rp q = false from fun hf e' he' hc q hk' hv' => by
        rw [contains_push, Bool.or_eq_true] at hc
        rcases hc with hc | hc
        · exact hno.out e' he' hc q hk' hv'
        · have e3 : e' = e := born_inj hst.2.1 he' (mem_left he).1 (by simpa using hc)
          subst e3
          rw [hk] at hk'
          rw [hv] at hv'
          injection hk' with _ e4
          injection hv' with e5
          obtain ⟨q1, q2, q3⟩ := q
          simp only [Array.mk.injEq, List.cons.injEq, Value.int.injEq, true_and, and_true] at e5 e4
          obtain ⟨e6, e7⟩ := e5
          try simp only at e4 e6 e7
          subst e4 e6 e7
          exact hf)
      have hyes := Lib.hid (show failB s.mem s.ep s.rp (p, x, y) = true → L.any (failB s.mem s.ep s.rp) = true from fun hf => List.any_eq_true.2 ⟨_, hq, hf⟩)
      have hfb := Lib.hid (show failB s.mem s.ep s.rp (p, x, y) = (hasB s.mem p && decide (0 < keyC x y s.ep s.rp)) from rfl)
      clear c0 c1 c2 c3 c4 hRo hR1 hK1 hs1 hen hno hR hb4 hB1 hr0 hbr hq hk hv he
      cases hh : hasB s.mem p with
      | false =>
        have c2 := h4.out.blk.cell (i := 2) (v := .int .u64 (s.mem : Nat)) rfl
        have k2 := cell_regrown c2
        have kH := fun d os => Calls.regrown_of (pureB (has_any s.mem p hmm (grow (redrawn w4 d) os)))
        rw [hh] at kH hfb
        have hz := Lib.hid (hno4.out (by rw [hfb.out]; rfl))
        clear c2 hh hno4 hyes hB4
        refine wp_region_quiet_below (by kernel_rfl) (by kernel_rfl) ?_
        iterate 15 (go_big_quiet_step (first | (with_reducible exact kH _ _)))
        refine wpQuiet_nil ?_; intro w4' hw'; obtain ⟨⟨dq, osq⟩, hw''⟩ := hw'; subst hw''
        have hbq := below_regrown w4 dq osq
        generalize grow (redrawn w4 dq) osq = w5 at *
        have hR5 := Lib.hid (hR4.out.below hbq)
        clear kH k2
        go_wp2
        go_roundw
        case rel => exact ⟨seen.push e.born, hR5, hz, Lib.hid (hB4w.out.trans (hbq.mono (by omega)))⟩
        case measure => rw [leftW_at hR5.out, hmeas.out]; exact hsh.out
      | true =>
        rw [hh] at hfb
        have HS := Lib.hid (fun W (hb : Below w4.heap.size w4 W) => show W.rangeAt wo.heap.size 0 [.int .u64 x, .int .i64 y] ∧ W.rangeAt b 0 [.int .u64 s.ep, .int .i64 s.rp] ∧ W.cell? ⟨b, 2, none⟩ = some (.int .u64 (s.mem : Nat)) ∧ True from
          ⟨(hB4.below hb hB4.lt).range (fun j v hj => by rw [Nat.zero_add]; simpa using hj), (h4.out.below hb).blk.range (fun j v hj => by
            rw [Nat.zero_add]
            match j, hj with
            | 0, hj => simpa [atA] using hj
            | 1, hj => simpa [atA] using hj), (h4.out.below hb).blk.cell (i := 2) rfl, trivial⟩)
        have hbD : Hid (Below w4.heap.size w4 w4.drew) := Lib.hid (Below.refl _ _).drew
        have hi := Tryd.confI
        clear hB4
        refine wp_region_held_drew (S := fun W => W.rangeAt wo.heap.size 0 [.int .u64 x, .int .i64 y] ∧ W.rangeAt b 0 [.int .u64 s.ep, .int .i64 s.rp] ∧ W.cell? ⟨b, 2, none⟩ = some (.int .u64 (s.mem : Nat)) ∧ True) (by kernel_rfl) (HS.out _ hbD.out) ?_
        intro hHeld
        (refine wpAnyH_take (i := 0) (v := ?_) rfl (by kernel_rfl) (by kernel_rfl) (by kernel_rfl) (fun _ _ _ h => h) (Or.inl ⟨by rfl, ?_⟩) (by assumption) ?_; rotate_left; (focus (intro w hSw; obtain ⟨s1, s2, s3, s4⟩ := hSw; clear s4; go_simp; (try with_reducible rfl))); (try simp only [Act.put, List.getElem_toArray, List.getElem_cons_zero, List.getElem_cons_succ, List.setIfInBounds_toArray, List.set_cons_zero, List.set_cons_succ]))
        (refine wpAnyH_take (i := 1) (v := ?_) rfl (by kernel_rfl) (by kernel_rfl) (by kernel_rfl) (fun _ _ _ h => h) (Or.inl ⟨by rfl, ?_⟩) (by assumption) ?_; rotate_left; (focus (intro w hSw; obtain ⟨s1, s2, s3, s4⟩ := hSw; clear s4; go_simp; (try with_reducible rfl))); (try simp only [Act.put, List.getElem_toArray, List.getElem_cons_zero, List.getElem_cons_succ, List.setIfInBounds_toArray, List.set_cons_zero, List.set_cons_succ]))
        (refine wpAnyH_take (i := 2) (v := ?_) rfl (by kernel_rfl) (by kernel_rfl) (by kernel_rfl) (fun _ _ _ h => h) (Or.inl ⟨by rfl, ?_⟩) (by assumption) ?_; rotate_left; (focus (intro w hSw; obtain ⟨s1, s2, s3, s4⟩ := hSw; clear s4; go_simp; (try with_reducible rfl))); (try simp only [Act.put, List.getElem_toArray, List.getElem_cons_zero, List.getElem_cons_succ, List.setIfInBounds_toArray, List.set_cons_zero, List.set_cons_succ]))
        (refine wpAnyH_take (i := 3) (v := ?_) rfl (by kernel_rfl) (by kernel_rfl) (by kernel_rfl) (fun _ _ _ h => h) (Or.inl ⟨by rfl, ?_⟩) (by assumption) ?_; rotate_left; (focus (intro w hSw; obtain ⟨s1, s2, s3, s4⟩ := hSw; clear s4; go_simp; (try with_reducible rfl))); (try simp only [Act.put, List.getElem_toArray, List.getElem_cons_zero, List.getElem_cons_succ, List.setIfInBounds_toArray, List.set_cons_zero, List.set_cons_succ]))
        (refine wpAnyH_take (i := 4) (v := ?_) rfl (by kernel_rfl) (by kernel_rfl) (by kernel_rfl) (fun _ _ _ h => h) (Or.inl ⟨by rfl, ?_⟩) (by assumption) ?_; rotate_left; (focus (intro w hSw; obtain ⟨s1, s2, s3, s4⟩ := hSw; clear s4; go_simp; (try with_reducible rfl))); (try simp only [Act.put, List.getElem_toArray, List.getElem_cons_zero, List.getElem_cons_succ, List.setIfInBounds_toArray, List.set_cons_zero, List.set_cons_succ]))
        (refine wpAnyH_ready (rs := [5]) (by kernel_rfl) (by simp) ?_; refine AllReadyH.cons rfl (fun K hK => ?_) AllReadyH.nil)
        go_simp
        refine (has_any s.mem p hmm _).mono ?_
        rintro e' w5 ⟨rfl, rfl⟩
        rw [hh]
        refine hK.out _ _ (HS.out _ hbD.out) (fun hHeld2 => ?_)
        clear hK K hHeld hh
        (refine wpAnyH_take (i := 6) (v := ?_) rfl (by kernel_rfl) (by kernel_rfl) (by kernel_rfl) (fun _ _ _ h => h) (Or.inl ⟨by rfl, ?_⟩) (by assumption) ?_; rotate_left; (focus (intro w hSw; obtain ⟨s1, s2, s3, s4⟩ := hSw; clear s4; go_simp; (try with_reducible rfl))); (try simp only [Act.put, List.getElem_toArray, List.getElem_cons_zero, List.getElem_cons_succ, List.setIfInBounds_toArray, List.set_cons_zero, List.set_cons_succ]))
        refine wpAnyH_take (i := 7) (v := .agg #[.int .u64 x, .int .i64 y]) rfl (by kernel_rfl) (by kernel_rfl) (by kernel_rfl) (fun _ _ _ h => h) ?_ (by assumption) ?_
        · exact yieldsIf_load_mid (by rfl) 24 (.tmp 8) rfl wo.heap.size 0 rfl [.int .u64 x, .int .i64 y] _ (fun W hW => hW.1) Tryd.underlying24 rfl (hi _ _)
        (try simp only [Act.put, List.getElem_toArray, List.getElem_cons_zero, List.getElem_cons_succ, List.setIfInBounds_toArray, List.set_cons_zero, List.set_cons_succ])
        (refine wpAnyH_take (i := 8) (v := ?_) rfl (by kernel_rfl) (by kernel_rfl) (by kernel_rfl) (fun _ _ _ h => h) (Or.inl ⟨by rfl, ?_⟩) (by assumption) ?_; rotate_left; (focus (intro w hSw; obtain ⟨s1, s2, s3, s4⟩ := hSw; clear s4; go_simp; (try with_reducible rfl))); (try simp only [Act.put, List.getElem_toArray, List.getElem_cons_zero, List.getElem_cons_succ, List.setIfInBounds_toArray, List.set_cons_zero, List.set_cons_succ]))
        (refine wpAnyH_take (i := 9) (v := ?_) rfl (by kernel_rfl) (by kernel_rfl) (by kernel_rfl) (fun _ _ _ h => h) (Or.inl ⟨by rfl, ?_⟩) (by assumption) ?_; rotate_left; (focus (intro w hSw; obtain ⟨s1, s2, s3, s4⟩ := hSw; clear s4; go_simp; (try with_reducible rfl))); (try simp only [Act.put, List.getElem_toArray, List.getElem_cons_zero, List.getElem_cons_succ, List.setIfInBounds_toArray, List.set_cons_zero, List.set_cons_succ]))
        (refine wpAnyH_take (i := 10) (v := ?_) rfl (by kernel_rfl) (by kernel_rfl) (by kernel_rfl) (fun _ _ _ h => h) (Or.inl ⟨by rfl, ?_⟩) (by assumption) ?_; rotate_left; (focus (intro w hSw; obtain ⟨s1, s2, s3, s4⟩ := hSw; clear s4; go_simp; (try with_reducible rfl))); (try simp only [Act.put, List.getElem_toArray, List.getElem_cons_zero, List.getElem_cons_succ, List.setIfInBounds_toArray, List.set_cons_zero, List.set_cons_succ]))
        refine wpAnyH_take (i := 11) (v := .agg #[.int .u64 s.ep, .int .i64 s.rp]) rfl (by kernel_rfl) (by kernel_rfl) (by kernel_rfl) (fun _ _ _ h => h) ?_ (by assumption) ?_
        · exact yieldsIf_load_mid (by rfl) 24 (.tmp 26) rfl b 0 rfl [.int .u64 s.ep, .int .i64 s.rp] _ (fun W hW => hW.2.1) Tryd.underlying24 rfl (hi _ _)
        (try simp only [Act.put, List.getElem_toArray, List.getElem_cons_zero, List.getElem_cons_succ, List.setIfInBounds_toArray, List.set_cons_zero, List.set_cons_succ])
        (refine wpAnyH_ready (rs := [12]) (by kernel_rfl) (by simp) ?_; refine AllReadyH.cons rfl (fun K hK => ?_) AllReadyH.nil)
        go_simp
        refine (confs_any x y s.ep s.rp _).mono ?_
        rintro e' w5 ⟨rfl, hb5⟩
        have hb5' := Lib.hid (belS hbD.out hb5)
        refine hK.out _ _ (HS.out _ hb5'.out) (fun hHeld3 => ?_)
        clear hK K hHeld2 hb5
        have hR5 := Lib.hid (hR4.out.below hb5'.out)
        have hBw5 := Lib.hid (hB4w.out.trans (hb5'.out.mono (by omega)))
        generalize keyC x y s.ep s.rp = kc at *
        by_cases hkc : 0 < kc
        · have hkB : decide (0 < kc) = true := decide_eq_true hkc
          have hz := Lib.hid (show t = true from by rw [ht2.out, hyes.out (by rw [hfb.out, hkB]; rfl)]; rfl)
          clear hfb hno4 hyes hkc
          (refine wpAnyH_take (i := 13) (v := ?_) rfl (by kernel_rfl) (by kernel_rfl) (by kernel_rfl) (fun _ _ _ h => h) (Or.inl ⟨by rfl, ?_⟩) (by assumption) ?_; rotate_left; (focus (intro w hSw; obtain ⟨s1, s2, s3, s4⟩ := hSw; clear s4; go_simp; (try with_reducible rfl))); (try simp only [Act.put, List.getElem_toArray, List.getElem_cons_zero, List.getElem_cons_succ, List.setIfInBounds_toArray, List.set_cons_zero, List.set_cons_succ]))
          (refine wpAnyH_take (i := 14) (v := ?_) rfl (by kernel_rfl) (by kernel_rfl) (by kernel_rfl) (fun _ _ _ h => h) (Or.inl ⟨by rfl, ?_⟩) (by assumption) ?_; rotate_left; (focus (intro w hSw; obtain ⟨s1, s2, s3, s4⟩ := hSw; clear s4; go_simp; (try with_reducible rfl))); (try simp only [Act.put, List.getElem_toArray, List.getElem_cons_zero, List.getElem_cons_succ, List.setIfInBounds_toArray, List.set_cons_zero, List.set_cons_succ]))
          refine wpAnyH_done (by kernel_rfl) ?_ _
          go_wp2
          go_ret
          exact ⟨by rw [hz.out]; rfl, hBw5.out⟩
        · have hkB : decide (0 < kc) = false := decide_eq_false hkc
          have hz := Lib.hid (hno4.out (by rw [hfb.out, hkB]; rfl))
          clear hfb hno4 hyes hkc
          (refine wpAnyH_take (i := 13) (v := ?_) rfl (by kernel_rfl) (by kernel_rfl) (by kernel_rfl) (fun _ _ _ h => h) (Or.inl ⟨by rfl, ?_⟩) (by assumption) ?_; rotate_left; (focus (intro w hSw; obtain ⟨s1, s2, s3, s4⟩ := hSw; clear s4; go_simp; (try with_reducible rfl))); (try simp only [Act.put, List.getElem_toArray, List.getElem_cons_zero, List.getElem_cons_succ, List.setIfInBounds_toArray, List.set_cons_zero, List.set_cons_succ]))
          (refine wpAnyH_take (i := 14) (v := ?_) rfl (by kernel_rfl) (by kernel_rfl) (by kernel_rfl) (fun _ _ _ h => h) (Or.inl ⟨by rfl, ?_⟩) (by assumption) ?_; rotate_left; (focus (intro w hSw; obtain ⟨s1, s2, s3, s4⟩ := hSw; clear s4; go_simp; (try with_reducible rfl))); (try simp only [Act.put, List.getElem_toArray, List.getElem_cons_zero, List.getElem_cons_succ, List.setIfInBounds_toArray, List.set_cons_zero, List.set_cons_succ]))
          refine wpAnyH_done (by kernel_rfl) ?_ _
          go_wp2
          go_roundw
          case rel => exact ⟨seen.push e.born, hR5, hz, hBw5⟩
          case measure => rw [leftW_at hR5.out, hmeas.out]; exact hsh.out
set_option maxHeartbeats 800000 in
theorem fails_nil (s : AtS) (b mb : Nat) (reach : Nat) (t : Bool) (ht : t = decide (reach ≠ s.mem)) (w : World) (h : GatAt w b mb s) :
    Calls Tryd.prog 14 #[.pointer (some ⟨b, 0, none⟩), .int .u64 reach, .map none] w fun e w' => e = .returned (.bool t) ∧ Below w.heap.size w w' := by
  have h1 := h.below (alloc_below w (.mapIter none 0 #[] 0))
  obtain ⟨c0, c1, c2, c3, c4⟩ := blk5 h1.blk
  have hb1 := alloc_below w (.mapIter none 0 #[] 0)
  have e1 : ((reach : Int) != (s.mem : Int)) = t := by
    rw [ht]
    by_cases hh : reach = s.mem
    · rw [decide_eq_false (fun h => h hh), bne_eq_false_iff_eq]; omega
    · rw [decide_eq_true hh, bne_iff_ne]; omega
  have e2 : (reach != s.mem) = t := by
    rw [ht]
    by_cases hh : reach = s.mem
    · rw [decide_eq_false (fun h => h hh), bne_eq_false_iff_eq]; omega
    · rw [decide_eq_true hh, bne_iff_ne]; omega
  have hrn := fun (W : World) ty => run_next_nilMap (P := Tryd.prog) W ty
  clear h h1 ht
  go_enter Tryd.func14, Tryd.ntmps14
  go_wp2_with (first | (refine wpList_nil_range rfl (.tmp 9) rfl Tryd.underlying34 rfl ?_))
  simp only [Act.put, List.setIfInBounds_toArray, List.set_cons_zero, List.set_cons_succ]
  have hr1 := hrn w 0 0 0 #[]
  refine wp_loop_rounds 1 ?_
  rw [rounds_succ]
  go_wp2
  go_ret
  exact ⟨rfl, hb1⟩
end Go.Proofs.YtlgabjffnjciaaaDoor
