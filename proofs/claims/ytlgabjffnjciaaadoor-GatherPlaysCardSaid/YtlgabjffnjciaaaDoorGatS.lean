/- gather: consortref06.Vectors, Exchanges -/
import Derived.Test.YtlgabjffnjciaaaDoorGatG
namespace Go.Proofs.YtlgabjffnjciaaaDoor
set_option linter.unusedSimpArgs false
set_option linter.unusedVariables false
open Go.RowKit Go.Sort
theorem wpQuiet_mid_load {P : Program} {ops : Array Oper} {w : World} {Q : Act → Prop} {a : Act} {o : Oper} {rest : List Oper} (hw : Region.wanted o (yielded ops a.tmps) = true) (t : TypeId) (x : Operand) (ho : o.op = .load t x)
    (b off : Nat) (hx : a.eval x = .pointer (some ⟨b, off, none⟩)) (cs : List Value) (d : TypeDesc) (hb : w.rangeAt b off cs) (hlt : b < w.heap.size) (hu : P.underlying t = some d) (hd : d.isRow = true) (hi : (P.info? t).map (·.size) = some cs.length)
    (h : wpQuiet P ops (fun w' => ∃ p : Regrown, w' = grow (redrawn w p.d) p.os) Q rest (a.put o.dst (.agg cs.toArray))) : wpQuiet P ops (fun w' => ∃ p : Regrown, w' = grow (redrawn w p.d) p.os) Q (o :: rest) a :=
  wpQuiet_step fun K hK => by
    rw [if_pos hw]
    refine ⟨_, fun w' hw' => ?_, hK _ h⟩
    obtain ⟨p, rfl⟩ := hw'
    have hS : (grow (redrawn w p.d) p.os).rangeAt b off cs := fun j v hj => ((below_regrown w p.d p.os).cell (p := ⟨b, off + j, none⟩) hlt).trans (hb j v hj)
    rcases yieldsIf_load_mid (P := P) (ops := ops) (S := fun W => W.rangeAt b off cs) hw t x ho b off hx cs d (fun W hW => hW) hu hd hi with ⟨_, hrun⟩ | ⟨hf, _⟩
    · unfold Oper.quietAt
      rw [hrun _ hS]
      exact ⟨rfl, rfl⟩
    · rw [hw] at hf; cases hf
theorem run_neq_cf (w : World) (a b : Int) : (binOp .neq 24 (.agg #[.int .u64 a, .int .i64 b]) (.agg #[.int .u64 a, .int .i64 b])).run Tryd.prog w = .ok (.bool false) w := by simp [go_sem]
theorem run_neq_ky (w : World) (a b : Int) : (binOp .neq 41 (.agg #[.int .u64 a, .int .i64 b]) (.agg #[.int .u64 a, .int .i64 b])).run Tryd.prog w = .ok (.bool false) w := by simp [go_sem]
theorem Tryd.confG : Tryd.prog.eqGuardType Tryd.prog.depth 24 = false := by kernel_rfl
theorem Tryd.keyG : Tryd.prog.eqGuardType Tryd.prog.depth 41 = false := by kernel_rfl
theorem Tryd.kyI (a b : Int) : (Tryd.prog.info? 41).map (·.size) = some (#[Value.int .u64 a, .int .i64 b] : Array Value).size := by show _ = some 2; kernel_rfl
set_option maxHeartbeats 1600000 in
theorem vecs_eq (a : Option Addr) (n c : Nat) (a2 : Option Addr) (n2 c2 : Nat) (l : List Nat) (w : World) (h1 : RdU w a n c l) (h2 : RdU w a2 n2 c2 l) :
    Calls Tryd.prog 46 #[.slice a n c, .slice a2 n2 c2] w fun e w' => e = .returned (.bool true) ∧ Below w.heap.size w w' := by
  have hl1 := h1.len
  have hl2 := h2.len
  obtain rfl : n = n2 := by omega
  have hmx := h1.le_max
  replace hl1 := Lib.hid hl1
  clear hl2
  go_enter Tryd.func46, Tryd.ntmps46
  go_wp2
  go_loopw [5] (fun iv wr => ∃ i : Nat, i ≤ n ∧ iv = .int .i64 i ∧ Hid (Below w.heap.size w wr)) (fun iv _ => n - (RowKit.intOf iv).toNat)
  case atStart => exact ⟨0, Nat.zero_le _, rfl, Lib.hid (Below.refl _ _)⟩
  case round =>
    obtain ⟨i, hi, rfl, hbr⟩ := hrel
    obtain ⟨wo, rfl⟩ : ∃ z, z = wr := ⟨_, rfl⟩
    by_cases hin : i < n
    · have hiI : (i : Int) < n := by omega
      have hil : i < l.length := by rw [hl1.out]; exact hin
      obtain ⟨b, off, rfl, _⟩ := h1.addr (by omega)
      obtain ⟨b2, off2, rfl, _⟩ := h2.addr (by omega)
      have q1 := (h1.below hbr.out).at hil
      have q2 := (h2.below hbr.out).at hil
      generalize l[i] = x at *
      have hne : ((x : Int) != (x : Int)) = false := by simp
      go_wp2_with fail
      go_quiet (fail)
      have hb2 := Lib.hid (belN hbr.out nq)
      go_wp2
      go_roundw
      case rel => exact ⟨i + 1, by omega, by go_num, hb2⟩
      case measure => simp [RowKit.intOf]; omega
    · have hiI : (n : Int) ≤ i := by omega
      go_wp2
      go_ret
      exact ⟨rfl, hbr.out⟩
set_option maxHeartbeats 6400000 in
set_option maxRecDepth 100000 in
theorem rexs_eq (a : Option Addr) (n c : Nat) (l : List Xc) (a2 : Option Addr) (n2 c2 : Nat) (l2 : List Xc) (he : vX l = vX l2) (w : World) (h1 : RdX w a n c l) (h2 : RdX w a2 n2 c2 l2) :
    Calls Tryd.prog 23 #[.slice a n c, .slice a2 n2 c2] w fun e w' => e = .returned (.bool true) ∧ Below w.heap.size w w' := by
  have hll : l.length = l2.length := by have := congrArg List.length he; rwa [vX_len, vX_len] at this
  have hl1 := h1.len
  have hl2 := h2.len
  obtain rfl : n = n2 := by omega
  have hmx := h1.le_max
  have HE := Lib.hid (fun k (hk : k < l.length) (hk2 : k < l2.length) => show l[k].v = l2[k].v from by
    have e : (vX l)[k]? = (vX l2)[k]? := by rw [he]
    simpa [vX, List.getElem?_eq_getElem hk, List.getElem?_eq_getElem hk2] using e)
  replace hl1 := Lib.hid hl1
  replace hl2 := Lib.hid hl2
  clear he hll
  go_enter Tryd.func23, Tryd.ntmps23
  go_wp2
  go_loopw [5] (fun iv wr => ∃ i : Nat, i ≤ n ∧ iv = .int .i64 i ∧ Hid (Below w.heap.size w wr)) (fun iv _ => n - (RowKit.intOf iv).toNat)
  case atStart => exact ⟨0, Nat.zero_le _, rfl, Lib.hid (Below.refl _ _)⟩
  case round =>
    obtain ⟨i, hi, rfl, hbr⟩ := hrel
    obtain ⟨wo, rfl⟩ : ∃ z, z = wr := ⟨_, rfl⟩
    by_cases hin : i < n
    · have hiI : (i : Int) < n := by omega
      have hk1 : i < l.length := by rw [hl1.out]; exact hin
      have hk2 : i < l2.length := by rw [hl2.out]; exact hin
      have hv := HE.out i hk1 hk2
      obtain ⟨b, off, rfl, hlt1, ⟨c0, c1, c2', c3, c4, c5⟩, hin1⟩ := (h1.below hbr.out).at hk1
      obtain ⟨b2, off2, rfl, hlt2, ⟨d0, d1, d2, d3, d4, d5⟩, hin2⟩ := (h2.below hbr.out).at hk2
      generalize l[i] = x at *
      generalize l2[i] = y at *
      obtain ⟨xv, xa, xn, xc⟩ := x
      obtain ⟨yv, ya, yn, yc⟩ := y
      simp only at hv c0 c1 c2' c3 c4 c5 d0 d1 d2 d3 d4 d5 hin1 hin2
      subst hv
      obtain ⟨who, oe, orp, cnt, ls, lf⟩ := xv
      simp only at c0 c1 c2' c3 c4 c5 d0 d1 d2 d3 d4 d5 hin1 hin2
      have hne : (who != who) = false := by simp
      have k0 := cell_regrown c0
      have k3 := cell_regrown c3
      have m0 := cell_regrown d0
      have m3 := cell_regrown d3
      have r1 : wo.rangeAt b (off + i * 6 + 1) [.int .u64 oe, .int .i64 orp] := fun j v hj => by
        match j, hj with
        | 0, hj => simp at hj; subst hj; exact c1
        | 1, hj => simp at hj; subst hj; exact c2'
      have r4 : wo.rangeAt b (off + i * 6 + 4) [.int .u64 ls, .int .i64 lf] := fun j v hj => by
        match j, hj with
        | 0, hj => simp at hj; subst hj; exact c4
        | 1, hj => simp at hj; subst hj; exact c5
      have s1 : wo.rangeAt b2 (off2 + i * 6 + 1) [.int .u64 oe, .int .i64 orp] := fun j v hj => by
        match j, hj with
        | 0, hj => simp at hj; subst hj; exact d1
        | 1, hj => simp at hj; subst hj; exact d2
      have s4 : wo.rangeAt b2 (off2 + i * 6 + 4) [.int .u64 ls, .int .i64 lf] := fun j v hj => by
        match j, hj with
        | 0, hj => simp at hj; subst hj; exact d4
        | 1, hj => simp at hj; subst hj; exact d5
      have kV := fun d os => Calls.regrown_of (vecs_eq xa xn xc ya yn yc cnt (grow (redrawn wo d) os) (hin1.below (below_regrown wo d os)) (hin2.below (below_regrown wo d os)))
      have hcf := Tryd.confI
      have hky := Tryd.kyI
      clear c0 c1 c2' c3 c4 c5 d0 d1 d2 d3 d4 d5 hin1 hin2
      go_wp2_with fail
      refine wp_region_quiet_below (by kernel_rfl) (by kernel_rfl) ?_
      iterate 16 (go_big_quiet_step (fail))
      (refine wpQuiet_mid_load (by rfl) _ (.tmp 32) rfl b (off + i * 6 + 1) rfl [.int .u64 oe, .int .i64 orp] _ r1 hlt1 Tryd.underlying24 rfl (hcf _ _) ?_; simp only [Act.put, List.setIfInBounds_toArray, List.set_cons_zero, List.set_cons_succ])
      iterate 4 (go_big_quiet_step (fail))
      (refine wpQuiet_mid_load (by rfl) _ (.tmp 37) rfl b2 (off2 + i * 6 + 1) rfl [.int .u64 oe, .int .i64 orp] _ s1 hlt2 Tryd.underlying24 rfl (hcf _ _) ?_; simp only [Act.put, List.setIfInBounds_toArray, List.set_cons_zero, List.set_cons_succ])
      (refine wpQuiet_agg (by rfl) Tryd.confG (.tmp 33) (.tmp 38) _ rfl rfl rfl (fun W => run_neq_cf W oe orp) ?_; simp only [Act.put, List.setIfInBounds_toArray, List.set_cons_zero, List.set_cons_succ])
      iterate 6 (go_big_quiet_step (fail))
      (refine wpQuiet_mid_load (by rfl) _ (.tmp 45) rfl b (off + i * 6 + 4) rfl [.int .u64 ls, .int .i64 lf] _ r4 hlt1 Tryd.underlying41 rfl (hky _ _) ?_; simp only [Act.put, List.setIfInBounds_toArray, List.set_cons_zero, List.set_cons_succ])
      iterate 4 (go_big_quiet_step (fail))
      (refine wpQuiet_mid_load (by rfl) _ (.tmp 50) rfl b2 (off2 + i * 6 + 4) rfl [.int .u64 ls, .int .i64 lf] _ s4 hlt2 Tryd.underlying41 rfl (hky _ _) ?_; simp only [Act.put, List.setIfInBounds_toArray, List.set_cons_zero, List.set_cons_succ])
      (refine wpQuiet_agg (by rfl) Tryd.keyG (.tmp 46) (.tmp 51) _ rfl rfl rfl (fun W => run_neq_ky W ls lf) ?_; simp only [Act.put, List.setIfInBounds_toArray, List.set_cons_zero, List.set_cons_succ])
      iterate 15 (go_big_quiet_step (first | (with_reducible exact kV _ _)))
      refine wpQuiet_nil ?_; intro w4' hw'; obtain ⟨⟨dq, osq⟩, hw''⟩ := hw'; subst hw''
      have hb2 := Lib.hid (belS hbr.out (below_regrown wo dq osq))
      clear kV k0 k3 m0 m3
      generalize grow (redrawn wo dq) osq = w2 at *
      go_wp2
      go_roundw
      case rel => first | exact ⟨i + 1, by omega, by go_num, hb2⟩ | ((repeat apply Exists.intro); exact ⟨⟨by omega, by go_num, hb2⟩, rfl⟩)
      case measure => simp [RowKit.intOf]; omega
    · have hiI : (n : Int) ≤ i := by omega
      go_wp2
      go_ret
      exact ⟨rfl, hbr.out⟩
set_option maxHeartbeats 3200000 in
set_option maxRecDepth 100000 in
/-- Two lists of one exchange each, of two processes. -/
theorem rexs_who (b off c b2 off2 c2 : Nat) (x y : Xc) (hne : x.v.who ≠ y.v.who) (w : World) (h1 : RdX w (some ⟨b, off, none⟩) 1 c [x]) (h2 : RdX w (some ⟨b2, off2, none⟩) 1 c2 [y]) :
    Calls Tryd.prog 23 #[.slice (some ⟨b, off, none⟩) 1 c, .slice (some ⟨b2, off2, none⟩) 1 c2] w fun e w' => e = .returned (.bool false) ∧ Below w.heap.size w w' := by
  obtain ⟨g1, o1, e1, hlt1, ⟨c0, _⟩, _⟩ := h1.at (k := 0) (by simp)
  obtain ⟨g2, o2, e2, hlt2, ⟨d0, _⟩, _⟩ := h2.at (k := 0) (by simp)
  injection e1 with e1
  injection e1 with e1 e3
  injection e2 with e2
  injection e2 with e2 e4
  subst e1 e2 e3 e4
  simp only [List.getElem_cons_zero, Nat.zero_mul, Nat.add_zero] at c0 d0
  have hb : (x.v.who != y.v.who) = true := by rw [bne_iff_ne]; exact hne
  generalize x.v.who = p at *
  generalize y.v.who = q at *
  replace hne := Lib.hid hne
  clear h1 h2
  go_enter Tryd.func23, Tryd.ntmps23
  go_wp2
  refine wp_loop_rounds 1 ?_
  rw [rounds_succ]
  go_wp2_with fail
  go_quiet (fail)
  go_wp2
  go_ret
  exact ⟨rfl, belN (Below.refl _ _) _⟩
end Go.Proofs.YtlgabjffnjciaaaDoor
