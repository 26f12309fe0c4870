/- gather: an attempt as it lies; New, ID, Members, Told, Done, Ready -/
import Derived.Test.YtlgabjffnjciaaaDoorPlanB
import Derived.Test.YtlgabjffnjciaaaDoorMapK
import Derived.Test.YtlgabjffnjciaaaDoorSetN
import Derived.Lib.QuietBelow
namespace Go.Proofs.YtlgabjffnjciaaaDoor
set_option linter.unusedSimpArgs false
set_option linter.unusedVariables false
open Go.RowKit Go.Sort
/-- An attempt: its name, its members, who is ready, the exchanges in the order in which they came. -/
structure AtS where
  ep : Int
  rp : Int
  mem : Nat
  rdy : Nat
  xs : List Xc
def atA (s : AtS) (mb : Nat) : Array Value := #[.int .u64 s.ep, .int .i64 s.rp, .int .u64 s.mem, .map (some mb), .int .u64 s.rdy]
def xsM (xs : List Xc) : List (Int × Value) := xs.map fun x => (x.v.who, .agg (xcA x))
structure AtS.Ok (s : AtS) : Prop where
  mem : s.mem < 18446744073709551616
  rdy : s.rdy < 18446744073709551616
  who : ∀ x ∈ s.xs, hasB s.mem x.v.who = true
  sm : ∀ x ∈ s.xs, x.pn * 4 ≤ 140737488355328
structure GatAt (w : World) (b mb : Nat) (s : AtS) : Prop where
  blk : BlkAt w b 72 (atA s mb)
  map : MapAt w mb (xsM s.xs)
  inn : ∀ x ∈ s.xs, RdU w x.pa x.pn x.pc x.v.cnt
  away : ∀ x ∈ s.xs, ∀ g off, x.pa = some ⟨g, off, none⟩ → x.pn ≠ 0 → g ≠ b ∧ g ≠ mb
  ok : s.Ok
section
variable {w w' : World} {b mb : Nat} {s : AtS}
theorem GatAt.below (h : GatAt w b mb s) (hb : Below w.heap.size w w') : GatAt w' b mb s :=
  ⟨h.blk.below hb h.blk.lt, h.map.below hb h.map.lt, fun x hx => (h.inn x hx).below hb, h.away, h.ok⟩
theorem GatAt.ne (h : GatAt w b mb s) : b ≠ mb := h.map.ne_blk h.blk
/-- Both blocks of an attempt. -/
def Own2 (b mb : Nat) (g : Nat) : Prop := g = b ∨ g = mb
theorem RdU.kpO {O : Nat → Prop} {a : Option Addr} {n c : Nat} {l : List Nat} (k : KpO O w w') (h : RdU w a n c l) (hb : ∀ g off, a = some ⟨g, off, none⟩ → n ≠ 0 → ¬ O g) : RdU w' a n c l := by
  by_cases hn : n = 0
  · refine ⟨h.1, ?_⟩
    rcases h.2 with h2 | ⟨g, off, e, hl, hc⟩
    · exact .inl h2
    · exact .inl hn
  · exact KpO.rd k h (fun g off e => hb g off e hn)
theorem GatAt.kpO {O : Nat → Prop} (h : GatAt w b mb s) (hk : KpO O w w') (h1 : ¬ O b) (h2 : ¬ O mb) (h3 : ∀ x ∈ s.xs, ∀ g off, x.pa = some ⟨g, off, none⟩ → x.pn ≠ 0 → ¬ O g) : GatAt w' b mb s :=
  ⟨hk.blk h.blk h1, h.map.kpO hk h2, fun x hx => RdU.kpO hk (h.inn x hx) (h3 x hx), h.away, h.ok⟩
theorem blk5 {W : World} {b t : Nat} {c0 c1 c2 c3 c4 : Value} (h : BlkAt W b t #[c0, c1, c2, c3, c4]) : W.cell? ⟨b, 0, none⟩ = some c0 ∧ W.cell? ⟨b, 1, none⟩ = some c1 ∧ W.cell? ⟨b, 2, none⟩ = some c2 ∧ W.cell? ⟨b, 3, none⟩ = some c3 ∧ W.cell? ⟨b, 4, none⟩ = some c4 := ⟨h.cell rfl, h.cell rfl, h.cell rfl, h.cell rfl, h.cell rfl⟩
theorem wpQuiet_map_len {P : Program} {ops : Array Oper} {Q : Act → Prop} {a : Act} {o : Oper} {rest : List Oper} {l : List (Int × Value)} {t K E : TypeId} (hw : Region.wanted o (yielded ops a.tmps) = true) (x : Operand) (ho : o.op = .call { callee := .builtin .len, args := #[x], argTypes := #[t] })
    (ht : P.underlying t = some (.map K E)) (hm : MapAt w mb l) (hx : a.eval x = .map (some mb))
    (h : wpQuiet P ops (fun w' => ∃ p : Regrown, w' = grow (redrawn w p.d) p.os) Q rest (a.put o.dst (.int .i64 l.length))) : wpQuiet P ops (fun w' => ∃ p : Regrown, w' = grow (redrawn w p.d) p.os) Q (o :: rest) a :=
  wpQuiet_step fun K' hK => by
    rw [if_pos hw]
    refine ⟨_, fun w' hw' => ?_, hK _ h⟩
    obtain ⟨p, rfl⟩ := hw'
    have hb' := hm.below (below_regrown w p.d p.os) hm.lt
    unfold Oper.quietAt
    simp only [execOp, ho, hx, resolve, invoke, builtin, Sem.run_bind, Sem.run_pure, Result.andThen_ok, List.map_toArray, List.map_cons, List.map_nil]
    simp [hb'.run_len ht o.type, Result.andThen]
    exact ⟨rfl, rfl⟩
theorem wpQuiet_map_look {P : Program} {ops : Array Oper} {Q : Act → Prop} {a : Act} {o : Oper} {rest : List Oper} {l : List (Int × Value)} {t K E : TypeId} (hw : Region.wanted o (yielded ops a.tmps) = true) (x ix : Operand) (ho : o.op = .lookup t x ix true)
    (ht : P.underlying t = some (.map K E)) (hk : P.underlying K = some (.int .i64)) {z : Value} (hz : ∀ W, (zeroValue E).run P W = .ok z W) (hm : MapAt w mb l) (hx : a.eval x = .map (some mb)) {k : Int} (hix : a.eval ix = .int .i64 k)
    (h : wpQuiet P ops (fun w' => ∃ p : Regrown, w' = grow (redrawn w p.d) p.os) Q rest (a.put o.dst (.tuple #[(mGet l k).getD z, .bool (mGet l k).isSome]))) : wpQuiet P ops (fun w' => ∃ p : Regrown, w' = grow (redrawn w p.d) p.os) Q (o :: rest) a :=
  wpQuiet_step fun K' hK => by
    rw [if_pos hw]
    refine ⟨_, fun w' hw' => ?_, hK _ h⟩
    obtain ⟨p, rfl⟩ := hw'
    have hb' := hm.below (below_regrown w p.d p.os) hm.lt
    unfold Oper.quietAt
    simp [execOp, ho, hx, hix, hb'.run_lookup ht hk (hz _) k, Result.andThen]
    exact ⟨rfl, rfl⟩
end
theorem Tryd.atI (s : AtS) (mb : Nat) : (Tryd.prog.info? 72).map (·.size) = some (atA s mb).size := by show _ = some 5; kernel_rfl
theorem Tryd.bldA (ep rp mem : Int) (mb : Nat) : Tryd.prog.built 72 [(0, .agg #[.int .u64 ep, .int .i64 rp]), (1, .int .u64 mem), (2, .map (some mb))] = some #[.int .u64 ep, .int .i64 rp, .int .u64 mem, .map (some mb), .int .u64 0] := by kernel_rfl
theorem Tryd.confI (a b : Int) : (Tryd.prog.info? 24).map (·.size) = some (#[Value.int .u64 a, .int .i64 b] : Array Value).size := by show _ = some 2; kernel_rfl
theorem atA_one (s : AtS) (mb : Nat) : (atA s mb).all (·.oneCell') = true := by simp [atA, Value.oneCell']
set_option maxHeartbeats 800000 in
theorem gnew_any (ep rp : Int) (mem : Nat) (hm : mem < 18446744073709551616) (w : World) :
    Calls Tryd.prog 11 #[.agg #[.int .u64 ep, .int .i64 rp], .int .u64 mem] w fun e w' => ∃ b mb, e = .returned (.pointer (some ⟨b, 0, none⟩)) ∧ GatAt w' b mb ⟨ep, rp, mem, 0, []⟩ ∧ w.heap.size ≤ b ∧ w.heap.size ≤ mb ∧ Below w.heap.size w w' := by
  have hmm := @run_makeMap Tryd.prog
  have hA := BlkAt.new w 24 #[.int .u64 ep, .int .i64 rp]
  have hi := Tryd.confI ep rp
  go_enter Tryd.func11, Tryd.ntmps11
  go_wp2_with (first
    | (refine wpList_blk_box rfl (.tmp 0) rfl rfl w.heap.size rfl ?_)
    | (refine wpList_blk_load rfl (.tmp 2) rfl Tryd.underlying24 rfl rfl hA hi ?_)
    | (refine wpList_blk_build rfl #[(0, .tmp 5), (1, .tmp 6), (2, .tmp 7)] rfl (by rw [List.map_toArray]; exact Tryd.bldA _ _ _ _) ?_)
    | (refine wpList_blk_box rfl (.tmp 8) rfl rfl (w.heap.size + 2) (by simp) ?_))
  go_ret
  have hM := MapAt.new (w.alloc (.cells #[.int .u64 ep, .int .i64 rp] 24))
  have hb := ((alloc_below w (.cells #[.int .u64 ep, .int .i64 rp] 24)).alloc (by simp) (.map #[] 0)).alloc (by simp; omega) (.cells (atA ⟨ep, rp, mem, 0, []⟩ (w.heap.size + 1)) 72)
  refine ⟨w.heap.size + 2, w.heap.size + 1, rfl, ⟨?_, ?_, (fun x hx => by cases hx), (fun x hx => by cases hx), ⟨hm, (by show 0 < 18446744073709551616; decide), (fun x hx => by cases hx), (fun x hx => by cases hx)⟩⟩, by omega, by omega, hb⟩
  · have := BlkAt.new ((w.alloc (.cells #[.int .u64 ep, .int .i64 rp] 24)).alloc (.map #[] 0)) 72 (atA ⟨ep, rp, mem, 0, []⟩ (w.heap.size + 1))
    rw [show ((w.alloc (.cells #[.int .u64 ep, .int .i64 rp] 24)).alloc (.map #[] 0)).heap.size = w.heap.size + 2 from by simp] at this
    exact this
  · have := hM.below (alloc_below _ (.cells (atA ⟨ep, rp, mem, 0, []⟩ (w.heap.size + 1)) 72)) hM.lt
    rw [show (w.alloc (.cells #[.int .u64 ep, .int .i64 rp] 24)).heap.size = w.heap.size + 1 from by simp] at this
    exact this
theorem pureB {P : Program} {f : FuncId} {args : Array Value} {w : World} {v : Value} (h : Calls P f args w fun e w' => e = .returned v ∧ w = w') : Calls P f args w fun e w' => e = .returned v ∧ Below w.heap.size w w' := h.mono fun _ _ ⟨h1, h2⟩ => ⟨h1, by rw [← h2]; exact Below.refl _ _⟩
def toldB (s : AtS) : Bool := decide (s.xs.length = cardN s.mem)
set_option maxHeartbeats 800000 in
theorem told_any (s : AtS) (b mb : Nat) (t : Bool) (ht : t = toldB s) (w : World) (h : GatAt w b mb s) :
    Calls Tryd.prog 16 #[.pointer (some ⟨b, 0, none⟩)] w fun e w' => e = .returned (.bool t) ∧ Below w.heap.size w w' := by
  obtain ⟨c0, c1, c2, c3, c4⟩ := blk5 h.blk
  have k2 := cell_regrown c2
  have k3 := cell_regrown c3
  have kS := fun d os => Calls.regrown_of (pureB (size_any s.mem h.ok.mem (grow (redrawn w d) os)))
  have hM := h.map
  have hl : (xsM s.xs).length = s.xs.length := by simp [xsM]
  replace ht := Lib.hid (show t = decide (s.xs.length = cardN s.mem) from ht)
  clear c0 c1 c2 c3 c4
  generalize hc : cardN s.mem = c at *
  clear hc
  by_cases he : s.xs.length = c
  · have hz := Lib.hid (ht.out.trans (decide_eq_true he))
    have e1 : ((s.xs.length : Int) == (c : Int)) = true := by rw [beq_iff_eq]; omega
    have e2 : (s.xs.length == c) = true := by simpa using he
    clear ht he
    go_enter Tryd.func16, Tryd.ntmps16
    go_wp2_with fail
    refine wp_region_quiet_below (by kernel_rfl) (by kernel_rfl) ?_
    iterate 12 (first | (refine wpQuiet_map_len (by rfl) (.tmp 6) rfl Tryd.underlying70 hM rfl ?_; rw [hl]; simp only [Act.put, List.setIfInBounds_toArray, List.set_cons_zero, List.set_cons_succ]) | go_big_quiet_step (first | (with_reducible exact kS _ _)))
    refine wpQuiet_nil ?_; intro w4' hw'; obtain ⟨⟨dq, osq⟩, hw''⟩ := hw'; subst hw''
    go_wp2
    go_ret
    exact ⟨by rw [hz.out]; rfl, below_regrown _ _ _⟩
  · have hz := Lib.hid (ht.out.trans (decide_eq_false he))
    have e1 : ((s.xs.length : Int) == (c : Int)) = false := by rw [beq_eq_false_iff_ne]; omega
    have e2 : (s.xs.length == c) = false := by simpa using he
    clear ht he
    go_enter Tryd.func16, Tryd.ntmps16
    go_wp2_with fail
    refine wp_region_quiet_below (by kernel_rfl) (by kernel_rfl) ?_
    iterate 12 (first | (refine wpQuiet_map_len (by rfl) (.tmp 6) rfl Tryd.underlying70 hM rfl ?_; rw [hl]; simp only [Act.put, List.setIfInBounds_toArray, List.set_cons_zero, List.set_cons_succ]) | go_big_quiet_step (first | (with_reducible exact kS _ _)))
    refine wpQuiet_nil ?_; intro w4' hw'; obtain ⟨⟨dq, osq⟩, hw''⟩ := hw'; subst hw''
    go_wp2
    go_ret
    exact ⟨by rw [hz.out]; rfl, below_regrown _ _ _⟩
def doneB (s : AtS) : Bool := toldB s && decide (s.rdy = s.mem)
set_option maxHeartbeats 800000 in
theorem done_any (s : AtS) (b mb : Nat) (t : Bool) (ht : t = doneB s) (w : World) (h : GatAt w b mb s) :
    Calls Tryd.prog 20 #[.pointer (some ⟨b, 0, none⟩)] w fun e w' => e = .returned (.bool t) ∧ Below w.heap.size w w' := by
  obtain ⟨c0, c1, c2, c3, c4⟩ := blk5 h.blk
  have k2 := cell_regrown c2
  have k4 := cell_regrown c4
  obtain ⟨tt, htt⟩ : ∃ tt, tt = toldB s := ⟨_, rfl⟩
  have kS := fun d os => Calls.regrown_of (told_any s b mb tt htt (grow (redrawn w d) os) (h.below (below_regrown w d os)))
  have ht2 := Lib.hid (show t = (tt && decide (s.rdy = s.mem)) from by rw [htt]; exact ht)
  clear c0 c1 c2 c3 c4 ht htt h
  obtain ⟨ep, rp, mem, rdy, xs⟩ := s
  simp only at k2 k4 ht2
  cases tt with
  | false =>
    have hz := Lib.hid (show t = false from ht2.out)
    clear ht2 k2 k4
    go_enter Tryd.func20, Tryd.ntmps20
    go_wp2_with fail
    refine wp_region_quiet_below (by kernel_rfl) (by kernel_rfl) ?_
    iterate 14 (go_big_quiet_step (first | (with_reducible exact kS _ _)))
    refine wpQuiet_nil ?_; intro w4' hw'; obtain ⟨⟨dq, osq⟩, hw''⟩ := hw'; subst hw''
    go_wp2
    go_ret
    exact ⟨by rw [hz.out]; rfl, below_regrown _ _ _⟩
  | true =>
    by_cases he : rdy = mem
    · have hz := Lib.hid (show t = true from by rw [ht2.out, decide_eq_true he]; rfl)
      have e1 : ((rdy : Int) == (mem : Int)) = true := by rw [beq_iff_eq]; omega
      have e2 : (rdy == mem) = true := by rw [beq_iff_eq]; omega
      clear ht2 he
      go_enter Tryd.func20, Tryd.ntmps20
      go_wp2_with fail
      refine wp_region_quiet_below (by kernel_rfl) (by kernel_rfl) ?_
      iterate 14 (go_big_quiet_step (first | (with_reducible exact kS _ _)))
      refine wpQuiet_nil ?_; intro w4' hw'; obtain ⟨⟨dq, osq⟩, hw''⟩ := hw'; subst hw''
      go_wp2
      go_ret
      exact ⟨by rw [hz.out]; rfl, below_regrown _ _ _⟩
    · have hz := Lib.hid (show t = false from by rw [ht2.out, decide_eq_false he]; rfl)
      have e1 : ((rdy : Int) == (mem : Int)) = false := by rw [beq_eq_false_iff_ne]; omega
      have e2 : (rdy == mem) = false := by rw [beq_eq_false_iff_ne]; omega
      clear ht2 he
      go_enter Tryd.func20, Tryd.ntmps20
      go_wp2_with fail
      refine wp_region_quiet_below (by kernel_rfl) (by kernel_rfl) ?_
      iterate 14 (go_big_quiet_step (first | (with_reducible exact kS _ _)))
      refine wpQuiet_nil ?_; intro w4' hw'; obtain ⟨⟨dq, osq⟩, hw''⟩ := hw'; subst hw''
      go_wp2
      go_ret
      exact ⟨by rw [hz.out]; rfl, below_regrown _ _ _⟩
set_option maxHeartbeats 800000 in
theorem members_any (s : AtS) (b mb : Nat) (w : World) (h : GatAt w b mb s) :
    Calls Tryd.prog 32 #[.pointer (some ⟨b, 0, none⟩)] w fun e w' => e = .returned (.int .u64 s.mem) ∧ w = w' := by
  obtain ⟨c0, c1, c2, c3, c4⟩ := blk5 h.blk
  clear h
  go_enter Tryd.func32, Tryd.ntmps32
  go_wp2
  go_ret
  exact ⟨rfl, rfl⟩
def rdyS (s : AtS) (p : Int) : Bool := toldB s && hasB s.mem p && !hasB s.rdy p
def rdyN (s : AtS) (p : Int) : AtS := if rdyS s p = true then { s with rdy := withN s.rdy [p] } else s
theorem KpO.own {b mb : Nat} {w w' : World} (hb : Below w.heap.size w w') : KpO (Own2 b mb) w w' := KpO.ofBelow hb
/-- One cell of an attempt's block is written. -/
theorem GatAt.set {w : World} {b mb : Nat} {s s' : AtS} {i : Nat} {u : Value} (h : GatAt w b mb s) (hs : (atA s mb).setIfInBounds i u = atA s' mb) (hx : s'.xs = s.xs) (ho : s'.Ok) : GatAt (w.setCell ⟨b, i, none⟩ u) b mb s' ∧ KpO (Own2 b mb) w (w.setCell ⟨b, i, none⟩ u) := by
  have hk : KpO (Own2 b mb) w (w.setCell ⟨b, i, none⟩ u) := (KpO.refl _ w).setCell _ (.inl rfl) u
  refine ⟨⟨?_, ?_, ?_, ?_, ho⟩, hk⟩
  · have := BlkAt.set h.blk i u
    rw [hs] at this
    exact this
  · rw [hx]; exact h.map.setCell (fun e => h.ne e.symm) u
  · rw [hx]
    intro x hx
    refine RdU.kpO (O := fun g => g = b) ((KpO.refl (fun g => g = b) w).setCell ⟨b, i, none⟩ rfl u) (h.inn x hx) (fun g off e hn => (h.away x hx g off e hn).1)
  · rw [hx]; exact h.away
set_option maxHeartbeats 1600000 in
theorem ready_any (s : AtS) (b mb : Nat) (p : Int) (t : Bool) (ht : t = (rdyS s p && doneB (rdyN s p))) (w : World) (h : GatAt w b mb s) :
    Calls Tryd.prog 18 #[.pointer (some ⟨b, 0, none⟩), .int .i64 p] w fun e w' => e = .returned (.bool t) ∧ GatAt w' b mb (rdyN s p) ∧ KpO (Own2 b mb) w w' := by
  obtain ⟨tt, htt⟩ : ∃ tt, tt = toldB s := ⟨_, rfl⟩
  have hT := Lib.hid (told_any s b mb tt htt w h)
  have ht2 := Lib.hid (show t = ((tt && hasB s.mem p && !hasB s.rdy p) && doneB (rdyN s p)) from by rw [htt]; exact ht)
  have hN := Lib.hid (show rdyN s p = if (tt && hasB s.mem p && !hasB s.rdy p) = true then { s with rdy := withN s.rdy [p] } else s from by rw [htt]; rfl)
  have hml := h.ok.mem
  have hrl := h.ok.rdy
  have HH := Lib.hid (fun W => has_any s.mem p hml W)
  have HR := Lib.hid (fun W => has_any s.rdy p hrl W)
  replace h := Lib.hid h
  clear ht htt
  cases tt with
  | false =>
    have hz := Lib.hid (show t = false from ht2.out)
    replace hN := Lib.hid (hN.out.trans (if_neg (by simp)))
    clear ht2 HH HR
    go_enter Tryd.func18, Tryd.ntmps18
    go_wp2_with fail
    refine hT.out.mono ?_
    rintro e w2 ⟨rfl, hb2⟩
    go_wp2
    go_ret
    exact ⟨by rw [hz.out]; rfl, by rw [hN.out]; exact h.out.below hb2, KpO.own hb2⟩
  | true =>
  cases hh : hasB s.mem p with
  | false =>
    rw [hh] at ht2 hN HH
    have hz := Lib.hid (show t = false from ht2.out)
    replace hN := Lib.hid (hN.out.trans (if_neg (by simp)))
    clear ht2 HR hh
    go_enter Tryd.func18, Tryd.ntmps18
    go_wp2_with fail
    refine hT.out.mono ?_
    rintro e w2 ⟨rfl, hb2⟩
    obtain ⟨c0, c1, c2, c3, c4⟩ := blk5 (h.out.below hb2).blk
    go_wp2_with fail
    refine (HH.out _).mono ?_
    rintro e w3 ⟨rfl, rfl⟩
    go_wp2
    go_ret
    exact ⟨by rw [hz.out]; rfl, by rw [hN.out]; exact h.out.below hb2, KpO.own hb2⟩
  | true =>
  cases hr : hasB s.rdy p with
  | true =>
    rw [hh, hr] at ht2 hN
    rw [hh] at HH
    rw [hr] at HR
    have hz := Lib.hid (show t = false from ht2.out)
    replace hN := Lib.hid (hN.out.trans (if_neg (by simp)))
    clear ht2 hh hr
    go_enter Tryd.func18, Tryd.ntmps18
    go_wp2_with fail
    refine hT.out.mono ?_
    rintro e w2 ⟨rfl, hb2⟩
    obtain ⟨c0, c1, c2, c3, c4⟩ := blk5 (h.out.below hb2).blk
    go_wp2_with fail
    refine (HH.out _).mono ?_
    rintro e w3 ⟨rfl, rfl⟩
    go_wp2_with fail
    refine (HR.out _).mono ?_
    rintro e w3 ⟨rfl, rfl⟩
    go_wp2
    go_ret
    exact ⟨by rw [hz.out]; rfl, by rw [hN.out]; exact h.out.below hb2, KpO.own hb2⟩
  | false =>
    rw [hh, hr] at ht2 hN
    rw [hh] at HH
    rw [hr] at HR
    obtain ⟨s', hs'⟩ : ∃ s' : AtS, s' = { s with rdy := withN s.rdy [p] } := ⟨_, rfl⟩
    replace hN := Lib.hid (show rdyN s p = s' from by rw [hs']; exact hN.out.trans (if_pos (by simp)))
    have hz := Lib.hid (show t = doneB s' from by rw [ht2.out, hN.out]; rfl)
    have hD := Lib.hid (fun W h => done_any s' b mb t hz.out W h)
    have hA := Lib.hid (show (atA s mb).setIfInBounds 4 (.int .u64 ((withN s.rdy [p] : Nat) : Int)) = atA s' mb from by rw [hs']; simp [atA])
    have hok : Hid s'.Ok := Lib.hid (by rw [hs']; exact ⟨hml, withN_lt _ hrl, h.out.ok.who, h.out.ok.sm⟩)
    have hxs := Lib.hid (show s'.xs = s.xs from by rw [hs'])
    clear ht2 hh hr hs'
    go_enter Tryd.func18, Tryd.ntmps18
    go_wp2_with fail
    refine hT.out.mono ?_
    rintro e w2 ⟨rfl, hb2⟩
    have h2 := Lib.hid (h.out.below hb2)
    obtain ⟨c0, c1, c2, c3, c4⟩ := blk5 h2.out.blk
    go_wp2_with fail
    refine (HH.out _).mono ?_
    rintro e w3 ⟨rfl, rfl⟩
    go_wp2_with fail
    refine (HR.out _).mono ?_
    rintro e w3 ⟨rfl, rfl⟩
    go_wp2_with fail
    refine (with1a s.rdy p w2.heap.size w2 hrl rfl).mono ?_
    rintro e w3 ⟨rfl, rfl⟩
    have hb3 := alloc_below w2 (.cells #[.int .i64 p] 3)
    have h3 := Lib.hid (h2.out.below hb3)
    have hS := Lib.hid (h3.out.set hA.out hxs.out hok.out)
    obtain ⟨d0, d1, d2, d3, d4⟩ := blk5 h3.out.blk
    have f4 := h3.out.blk.fz 4
    clear c0 c1 c2 c3 c4
    go_wp2_with fail
    refine (hD.out _ hS.out.1).mono ?_
    rintro e w5 ⟨rfl, hb5⟩
    go_wp2
    go_ret
    refine ⟨rfl, by rw [hN.out]; exact hS.out.1.below hb5, ?_⟩
    exact ((KpO.own (belS hb2 hb3)).trans hS.out.2 (fun g hg => .inl hg)).trans (KpO.own (b := b) (mb := mb) hb5) (fun g hg => .inl hg)
end Go.Proofs.YtlgabjffnjciaaaDoor
