/- filter: Deliver -/
import Derived.Test.YteeeikkapnchlaaDoorFilE
import Derived.Lib.QuietBelow
namespace Go.Proofs.YteeeikkapnchlaaDoor
set_option linter.unusedSimpArgs false
set_option linter.unusedVariables false
open Go.RowKit Go.Sort
theorem wpQuiet_map_len {P : Program} {w : World} {mb : Nat} {ops : Array Oper} {Q : Act → Prop} {a : Act} {o : Oper} {rest : List Oper} {l : List (Int × Value)} {t K E : TypeId} (hw : Region.wanted o (yielded ops a.tmps) = true) (x : Operand) (ho : o.op = .call { callee := .builtin .len, args := #[x], argTypes := #[t] })
    (ht : P.underlying t = some (.map K E)) (hm : MapAt w mb l) (hx : a.eval x = .map (some mb))
    (h : wpQuiet P ops (fun w' => ∃ p : Regrown, w' = grow (redrawn w p.d) p.os) Q rest (a.put o.dst (.int .i64 l.length))) : wpQuiet P ops (fun w' => ∃ p : Regrown, w' = grow (redrawn w p.d) p.os) Q (o :: rest) a :=
  wpQuiet_step fun K' hK => by
    rw [if_pos hw]
    refine ⟨_, fun w' hw' => ?_, hK _ h⟩
    obtain ⟨p, rfl⟩ := hw'
    have hb' := hm.below (below_regrown w p.d p.os) hm.lt
    unfold Oper.quietAt
    simp only [execOp, ho, hx, resolve, invoke, builtin, Sem.run_bind, Sem.run_pure, Result.andThen_ok, List.map_toArray, List.map_cons, List.map_nil]
    simp [hb'.run_len ht o.type, Result.andThen]
    exact ⟨rfl, rfl⟩
theorem wpQuiet_mid_load {P : Program} {ops : Array Oper} {w : World} {Q : Act → Prop} {a : Act} {o : Oper} {rest : List Oper} (hw : Region.wanted o (yielded ops a.tmps) = true) (t : TypeId) (x : Operand) (ho : o.op = .load t x)
    (b off : Nat) (hx : a.eval x = .pointer (some ⟨b, off, none⟩)) (cs : List Value) (d : TypeDesc) (hb : w.rangeAt b off cs) (hlt : b < w.heap.size) (hu : P.underlying t = some d) (hd : d.isRow = true) (hi : (P.info? t).map (·.size) = some cs.length)
    (h : wpQuiet P ops (fun w' => ∃ p : Regrown, w' = grow (redrawn w p.d) p.os) Q rest (a.put o.dst (.agg cs.toArray))) : wpQuiet P ops (fun w' => ∃ p : Regrown, w' = grow (redrawn w p.d) p.os) Q (o :: rest) a :=
  wpQuiet_step fun K hK => by
    rw [if_pos hw]
    refine ⟨_, fun w' hw' => ?_, hK _ h⟩
    obtain ⟨p, rfl⟩ := hw'
    have hS : (grow (redrawn w p.d) p.os).rangeAt b off cs := fun j v hj => ((below_regrown w p.d p.os).cell (p := ⟨b, off + j, none⟩) hlt).trans (hb j v hj)
    rcases yieldsIf_load_mid (P := P) (ops := ops) (S := fun W => W.rangeAt b off cs) hw t x ho b off hx cs d (fun W hW => hW) hu hd hi with ⟨_, hrun⟩ | ⟨hf, _⟩
    · unfold Oper.quietAt
      rw [hrun _ hS]
      exact ⟨rfl, rfl⟩
    · rw [hw] at hf; cases hf
theorem pureB {P : Program} {f : FuncId} {args : Array Value} {w : World} {v : Value} (h : Calls P f args w fun e w' => e = .returned v ∧ w = w') : Calls P f args w fun e w' => e = .returned v ∧ Below w.heap.size w w' := h.mono fun _ _ ⟨h1, h2⟩ => ⟨h1, by rw [← h2]; exact Below.refl _ _⟩
theorem wpList_map_look2 {P : Program} {w : World} {b : Nat} {l : List (Int × Value)} {t K E : TypeId} {ops : Array Oper} {rest : List Oper} {o : Oper} {a : Act} {Q : Exit → Act → World → Prop} (hg : o.guard = none) (x ix : Operand) (ho : o.op = .lookup t x ix true) (ht : P.underlying t = some (.map K E)) (hk : P.underlying K = some (.int .i64)) {z : Value} (hz : (zeroValue E).run P w = .ok z w) (h : MapAt w b l) (hx : a.eval x = .map (some b)) {k : Int} (hix : a.eval ix = .int .i64 k) {u : Value} (hu : (mGet l k).getD z = u) {tt : Bool} (htt : (mGet l k).isSome = tt)
    (hK : wpList P ops Q rest (a.put o.dst (.tuple #[u, .bool tt])) w) : wpList P ops Q (o :: rest) a w := by
  subst hu htt
  exact wpList_map_lookup hg x ix ho ht hk hz h hx hix hK
theorem MapAt.no_cell {w : World} {m : Nat} {l : List (Int × Value)} (h : MapAt w m l) (j : Nat) : w.cell? ⟨m, j, none⟩ = none := by
  obtain ⟨es, clock, hb, _⟩ := h
  simp [World.cell?, hb]
theorem Tab.kpO {O : Nat → Prop} {w w' : World} (h : Tab w) (hk : KpO O w w') (hO : ¬ O 0) : Tab w' :=
  ⟨Nat.lt_of_lt_of_le h.1 hk.size, fun j hj => by rw [World.cell?_of_block (w := w) (hk.block 0 h.1 hO)]; exact h.2 j hj⟩
theorem Tab.ne_map {w : World} {m : Nat} {l : List (Int × Value)} (h : Tab w) (hm : MapAt w m l) : m ≠ 0 := by
  rintro rfl
  have := hm.no_cell 0
  rw [h.2 0 (by decide)] at this
  cases this
theorem FAt.ne0 {F : Nat → Prop} {w : World} {b : Nat} {s : Fw} (h : FAt F w b s) (hT : Tab w) : b ≠ 0 := by
  rintro rfl
  have h1 : w.cell? ⟨0, 0, none⟩ = some (.int .u64 s.rc.last.num) := h.blk.cell rfl
  rw [hT.2 0 (by decide)] at h1
  cases h1
theorem step_load_mid {P : Program} {w : World} {ops : Array Oper} {o : Oper} {a : Act} {K : Act → World → Prop} {Q : Exit → Act → World → Prop} {E' : Prop} (hg : o.guard = none) (ty : TypeId) (x : Operand) (ho : o.op = .load ty x)
    (b off : Nat) (hx : a.eval x = .pointer (some ⟨b, off, none⟩)) (cs : List Value) (d : TypeDesc) (hc : w.rangeAt b off cs) (hu : P.underlying ty = some d) (hd : d.isRow = true) (hi : (P.info? ty).map (·.size) = some cs.length)
    (h : K (a.put o.dst (.agg cs.toArray)) w) : if Region.wanted o (yielded ops a.tmps) = true then Oper.wp P o a w K Q else E' := by
  rw [if_pos (by simp [Region.wanted, hg])]
  exact wp_load_mid ty x ho b off hx cs d hc hu hd hi h
theorem Tryd.bldX (o : Ow) : Tryd.prog.built 47 [(0, .int .i64 3), (3, .agg #[.int .u64 o.view.num, .int .u64 o.view.ce, .int .i64 o.view.cr, .int .u64 o.view.mem]), (4, .slice o.ca o.cn o.ck)] = some (owA ⟨3, .zero, ⟨.zero, []⟩, none, 0, 0, o.view, o.ca, o.cn, o.ck, o.cl⟩) := by kernel_rfl
def formS (s : Fs) (v : Vw) : Fs × List Ov := ({ s with rc := ⟨v, formL v s.rc.pend⟩, formed := true }, [⟨3, .zero, ⟨.zero, []⟩, v, claimsV s⟩])
def tellS (s : Fs) (p : Int) (x : Itm) : Fs := { s with told := s.told ++ [(p, x)] }
def agrS (s : Fs) (p : Int) : Fs := { s with agr := withN s.agr [p] }
def triedB (s : Fs) (v : Vw) : Bool := match s.tried with | some u => veq v u | none => false
def delS (s : Fs) (p : Int) (x : Itm) : Fs × List Ov :=
  if (s.live && !s.formed && hasB s.mem p) = false then (s, [])
  else if (decide (x.kind = 2) && !(tGet s.told p).isSome) = true then
    (if (tellS s p x).told.length = cardN s.mem then tryS (tellS s p x) else (tellS s p x, []))
  else if (decide (x.kind = 3) && triedB s x.view) = true then
    (if (agrS s p).agr = s.mem then formS (agrS s p) x.view else (agrS s p, []))
  else (s, [])
theorem FAt.tell {F : Nat → Prop} {w w' : World} {b m : Nat} {s : Fw} {p : Int} {y : Iw} (h : FAt F w b s) (hm : s.mb = some m) (hM : MapAt w' m (tlM s.told ++ [(p, .agg (iwA y))])) (hk : Kp m w w') (hy : InF F w y) (hw : y.v.Wf) (hp : hasB s.mem p = true) : FAt F w' b { s with told := s.told ++ [(p, y)] } := by
  have hO : KpO (fun g => g = m) w w' := KpO.ofKp hk rfl
  have hF : ∀ g, g = m → F g := fun g e => e ▸ (h.map m hm).2
  have hne : b ≠ m := (h.map m hm).1.ne_blk h.blk
  refine ⟨hk.blk h.blk hne, fun m' e => ?_, (fun e => by rw [hm] at e; cases e), h.rd.kpO hO hF, fun q hq => ?_, fun t e => ?_, h.own, ⟨h.ok.mem, h.ok.agr, h.ok.rc, fun q hq => ?_, h.ok.tv⟩⟩
  · obtain rfl : m = m' := by rw [hm] at e; injection e
    exact ⟨by simpa [tlM] using hM, hF m rfl⟩
  · rcases List.mem_append.1 hq with hq | hq
    · exact (h.inn q hq).kpO hO hF
    · obtain rfl := List.mem_singleton.1 hq; exact hy.kpO hO hF
  · obtain ⟨h3, h4⟩ := h.tri t e
    exact ⟨hk.blk h3 (fun e2 => h4 (hF t e2)), h4⟩
  · rcases List.mem_append.1 hq with hq | hq
    · exact h.ok.told q hq
    · obtain rfl := List.mem_singleton.1 hq; exact ⟨hw, hp⟩
theorem formL_mem {v : Vw} {l : List Vw} : ∀ u ∈ formL v l, u ∈ l := fun u hu => (List.mem_filter.1 hu).1
theorem formL_len (v : Vw) (l : List Vw) : (formL v l).length ≤ l.length := List.length_filter_le _ _
theorem dec_kind (k : Int) (c : Int) : (k == c) = decide (k = c) := by rw [Bool.eq_iff_iff]; simp
set_option maxHeartbeats 6400000 in
set_option maxRecDepth 100000 in
theorem deliver_any {F : Nat → Prop} (s : Fw) (b : Nat) (p : Int) (x : Iw) (w : World) (hT : Tab w) (hF : ∀ g, F g → g < w.heap.size) (h : FAt F w b s) (hx : RdV w x.pa x.pn x.pc x.v.rc.pend) (hxw : x.v.Wf) :
    Calls Tryd.prog 12 #[.pointer (some ⟨b, 0, none⟩), .int .i64 p, .agg (iwA x)] w fun e w' => ∃ (s' : Fw) (a : Option Addr) (n c : Nat) (os : List Ow), e = .returned (.slice a n c) ∧ FAt F w' b s' ∧ s'.s = (delS s.s p x.v).1 ∧ s'.mb = s.mb ∧ RdO F w' a n c os ∧ os.map (·.v) = (delS s.s p x.v).2 ∧ (∀ g off, a = some ⟨g, off, none⟩ → w.heap.size ≤ g) ∧ KpO (OwnF b s.mb) w w' := by
  have hI := BlkAt.new w 45 (iwA x)
  have hb1 := alloc_below w (.cells (iwA x) 45)
  obtain ⟨w1, hw1⟩ : ∃ z, z = w.alloc (.cells (iwA x) 45) := ⟨_, rfl⟩
  rw [← hw1] at hI hb1
  have h1 := h.below hb1
  have hx1 := Lib.hid (hx.below hb1 (Nat.le_refl _))
  have hT1 := Lib.hid (hT.below hb1 hT.1)
  have hlb := h.blk.lt
  have hF1 : Hid (∀ g, F g → g < w1.heap.size) := Lib.hid (fun g hg => Nat.lt_of_lt_of_le (hF g hg) hb1.size)
  replace hw1 := Lib.hid hw1
  have hmem := h.ok.mem
  have hk1 := Lib.hid (KpO.ofBelow (O := OwnF b s.mb) hb1)
  have hsz1 := hb1.size
  have hlI := hI.lt
  have hxl := Lib.hid (show x.v.rc.pend.length = x.pn from RdV.len hx)
  obtain ⟨c7, c8, c9, c10, c11, c12⟩ := h1.cells
  have hnon := Lib.hid h.non
  have hHas := Lib.hid (fun W => has_any s.mem p hmem W)
  obtain ⟨q1, hq1⟩ : ∃ z, z = (s.live && !s.formed && hasB s.mem p) := ⟨_, rfl⟩
  have hD1 : Hid (q1 = false → delS s.s p x.v = (s.s, [])) := Lib.hid (fun e => if_pos (by rw [← e, hq1]; rfl))
  replace hq1 := Lib.hid hq1
  have h0 := Lib.hid h
  have hF0 := Lib.hid hF
  have hT0 := Lib.hid hT
  have hTk : Hid (∀ w', KpO (OwnF b s.mb) w w' → Tab w') := Lib.hid (fun w' hk => hT.kpO hk (fun ho => by
    rcases ho with ho | ho
    · exact h.ne0 hT ho.symm
    · exact hT.ne_map (h.map 0 ho).1 rfl))
  have hbw1 := Lib.hid hb1
  clear hb1 h hx hT hF
  go_enter Tryd.func12, Tryd.ntmps12
  go_upto_region 1 with (first
    | (refine wpList_blk_box rfl (.tmp 2) rfl rfl w.heap.size rfl ?_; rw [← hw1.out]))
  go_cut [28] from 9 to 28 (fun t wx => t = .bool (!q1) ∧ wx = w1)
  case first => as_aux_lemma =>
    cases hl : s.live with
    | false =>
      rw [hl] at c8
      have hz := Lib.hid (show q1 = false from by rw [hq1.out, hl]; rfl)
      clear hl
      go_wp2
      go_meet
      exact ⟨by rw [hz.out]; rfl, rfl⟩
    | true =>
      cases hfm : s.formed with
      | true =>
        rw [hl] at c8
        rw [hfm] at c9
        have hz := Lib.hid (show q1 = false from by rw [hq1.out, hl, hfm]; rfl)
        clear hl hfm
        go_wp2
        go_meet
        exact ⟨by rw [hz.out]; rfl, rfl⟩
      | false =>
        rw [hl] at c8
        rw [hfm] at c9
        have hz := Lib.hid (show q1 = hasB s.mem p from by rw [hq1.out, hl, hfm]; rfl)
        clear hl hfm
        go_wp2_with fail
        refine (hHas.out _).mono ?_
        rintro e w' ⟨rfl, rfl⟩
        go_wp2_with fail
        go_meet
        exact ⟨by rw [hz.out], rfl⟩
  case rest => as_aux_lemma =>
    obtain ⟨rfl, rfl⟩ := hcut
    obtain ⟨w1, rfl⟩ : ∃ z, z = wc := ⟨_, rfl⟩
    cases q1 with
    | false =>
      have hz := Lib.hid (hD1.out rfl)
      go_wp2
      go_ret
      exact ⟨s, none, 0, 0, rfl, h1, by rw [hz.out], rfl, [], RdO.nil, by rw [hz.out]; rfl, (fun g off e => by cases e), hk1.out⟩
    | true =>
      obtain ⟨hlv, hfm, hhp⟩ : s.live = true ∧ s.formed = false ∧ hasB s.mem p = true := by
        have := hq1.out.symm
        rw [Bool.and_eq_true, Bool.and_eq_true, Bool.not_eq_true'] at this
        exact ⟨this.1.1, this.1.2, this.2⟩
      obtain ⟨m, hm⟩ : ∃ m, s.mb = some m := by
        cases e : s.mb with
        | some m => exact ⟨m, rfl⟩
        | none => rw [(hnon.out e).2] at hlv; cases hlv
      replace hhp := Lib.hid hhp
      obtain ⟨had, hhad⟩ : ∃ z, z = (tGet s.s.told p).isSome := ⟨_, rfl⟩
      have hgs : (mGet (tlM s.told) p).isSome = had := by
        rw [hhad, tl_get]
        show _ = (tGet (s.told.map fun p => (p.1, p.2.v)) p).isSome
        rw [← wGet_v]
        cases wGet s.told p <;> rfl
      have hgd := tl_getD s.told p
      generalize (wGet s.told p).getD .zero = y0 at hgd
      have hM := (h1.map m hm).1
      have hmF := (h1.map m hm).2
      rw [hm] at c10
      have hZ := BlkAt.new w1 45 (iwA .zero)
      have hD2 : Hid (delS s.s p x.v = if (decide (x.v.kind = 2) && !had) = true then (if (tellS s.s p x.v).told.length = cardN s.mem then tryS (tellS s.s p x.v) else (tellS s.s p x.v, [])) else if (decide (x.v.kind = 3) && triedB s.s x.v.view) = true then (if (agrS s.s p).agr = s.mem then formS (agrS s.s p) x.v.view else (agrS s.s p, [])) else (s.s, [])) := Lib.hid (by
        rw [hhad]
        unfold delS
        exact if_neg (by rw [show (s.s.live && !s.s.formed && hasB s.s.mem p) = true from hq1.out.symm]; simp))
      replace hhad := Lib.hid hhad
      clear c7 c8 c9 c11 c12 hHas hD1 hq1 hlv hfm hnon
      go_upto_region 4 with (first
        | (refine wpList_map_look2 rfl (.tmp 33) (.tmp 34) rfl Tryd.underlying68 Tryd.underlying3 (Tryd.zeroI _) hM rfl rfl hgd hgs ?_)
        | (refine wpList_blk_alloc rfl rfl Tryd.iwZ w1.heap.size rfl ?_)
        | (refine wpList_blk_store (cs := iwA y0) rfl (.tmp 7) (.tmp 36) rfl rfl rfl hZ (Tryd.iwI _) rfl (iwA_one y0) ?_; intro w4 hB4 hK4 hsz4))
      have hb4 := alloc_store hK4
      have h4 := h1.below hb4
      have hI4 := hI.below hb4 hlI
      have hk4 := Lib.hid (hk1.out.trans (KpO.ofBelow (O := fun _ => False) hb4) (fun g hg => hg.elim))
      have hx4 := Lib.hid (RdV.below hx1.out hb4 (Nat.le_refl _))
      have hT4 := Lib.hid (hT1.out.below hb4 hT1.out.1)
      have hsz4' := hb4.size
      have hbw4 := Lib.hid (belS hbw1.out hb4)
      have hF4 : Hid (∀ g, F g → g < w4.heap.size) := Lib.hid (fun g hg => Nat.lt_of_lt_of_le (hF1.out g hg) hsz4')
      have hlI4 := hI4.lt
      have i0 : w4.cell? ⟨w.heap.size, 0, none⟩ = some (.int .i64 x.v.kind) := hI4.cell rfl
      obtain ⟨q4, hq4⟩ : ∃ z, z = (decide (x.v.kind = 2) && !had) := ⟨_, rfl⟩
      rw [← hq4] at hD2
      replace hq4 := Lib.hid hq4
      clear hI hZ hB4 hM h1 c10 hgd hgs hk1 hx1 hT1 hF1 hb4 hK4 hsz4
      go_cut [38] from 39 to 45 (fun t wx => t = .bool q4 ∧ wx = w4)
      case first => as_aux_lemma =>
        have hdk := dec_kind x.v.kind 2
        by_cases hk2 : x.v.kind = 2
        · have e2 : (x.v.kind == 2) = true := by rw [hdk]; exact decide_eq_true hk2
          have hz := Lib.hid (show q4 = !had from by rw [hq4.out, decide_eq_true hk2, Bool.true_and])
          clear hk2 hdk
          go_wp2
          go_meet
          exact ⟨by rw [hz.out], rfl⟩
        · have e2 : (x.v.kind == 2) = false := by rw [hdk]; exact decide_eq_false hk2
          have hz := Lib.hid (show q4 = false from by rw [hq4.out, decide_eq_false hk2, Bool.false_and])
          clear hk2 hdk
          go_wp2
          go_meet
          exact ⟨by rw [hz.out], rfl⟩
      case rest => as_aux_lemma =>
        obtain ⟨rfl, rfl⟩ := hcut
        obtain ⟨w4, rfl⟩ : ∃ z, z = wc := ⟨_, rfl⟩
        cases q4 with
        | true =>
          have hD3 := Lib.hid (hD2.out.trans (if_pos rfl))
          have hgn : Hid (mGet (tlM s.told) p = none) := Lib.hid (by
            have e1 : had = false := by
              have := hq4.out.symm
              rw [Bool.and_eq_true, Bool.not_eq_true'] at this
              exact this.2
            have e2 := hhad.out
            rw [e1] at e2
            rw [tl_get]
            have e3 : tGet (s.told.map fun p => (p.1, p.2.v)) p = none := by
              have : (tGet (s.told.map fun p => (p.1, p.2.v)) p).isSome = false := e2.symm
              cases h : tGet (s.told.map fun p => (p.1, p.2.v)) p with
              | none => rfl
              | some y => rw [h] at this; cases this
            rw [← wGet_v] at e3
            cases h : wGet s.told p with
            | none => rfl
            | some y => rw [h] at e3; cases e3)
          clear hD2 hq4 hhad i0
          go_wp2_with (first
            | (refine wpList_blk_get (cs := #[.int .u64 x.v.rc.last.num, .int .u64 x.v.rc.last.ce, .int .i64 x.v.rc.last.cr, .int .u64 x.v.rc.last.mem, .slice x.pa x.pn x.pc]) rfl (.tmp 46) rfl rfl hI4 Tryd.underlying38 rfl Tryd.recI (iwA_rec x) ?_))
          refine (own_any x.v.rc.last x.pa x.pn x.pc x.v.rc.pend (by rw [← hxl.out]; exact Nat.le_trans hxw.2.2 (by decide)) w4 hx4.out).mono ?_
          rintro e w5 ⟨oa, oc, rfl, hr5, hb5, hge⟩
          have hI5 := hI4.below hb5 hlI4
          have h5 := h4.below hb5
          go_upto_region 6 with (first
            | (refine wpList_blk_put (cs := #[.int .u64 x.v.rc.last.num, .int .u64 x.v.rc.last.ce, .int .i64 x.v.rc.last.cr, .int .u64 x.v.rc.last.mem, .slice oa x.pn oc]) rfl (.tmp 49) (.tmp 48) rfl rfl rfl hI5 Tryd.recI (by show 6 + 5 ≤ 18; decide) (by simp [Value.oneCell']) ?_; intro w6 hI6 hK6 hs6; rw [show setArr (iwA x) 6 (#[.int .u64 x.v.rc.last.num, .int .u64 x.v.rc.last.ce, .int .i64 x.v.rc.last.cr, .int .u64 x.v.rc.last.mem, .slice oa x.pn oc] : Array Value).toList = iwA (x.own oa oc) from rfl] at hI6))
          have hb4s := hb5.size
          have hO6 : KpO (fun g => g = w.heap.size) w5 w6 := KpO.ofKp hK6 rfl
          have hIn6 : InF F w6 (x.own oa oc) := ⟨hK6.rd hr5 (fun g off e => by have := hge g off e; omega), Off.fresh hge hF4.out⟩
          have hbw6 := Lib.hid (Kp.below (belS hbw4.out hb5) hK6 (Nat.le_refl _) (Nat.le_trans hbw4.out.size hb5.size))
          have h6 := h0.out.below hbw6.out
          have hM6 := (h6.map m hm).1
          have c10 : w6.cell? ⟨b, 10, none⟩ = some (.map (some m)) := by rw [← hm]; exact h6.blk.cell rfl
          have hne : m ≠ b := fun e => hM6.ne_blk h6.blk e.symm
          have hmlt : m < w.heap.size := by have := (h0.out.map m hm).1.lt; exact this
          have hIL := Tryd.iwL (x.own oa oc)
          have hSt : Hid (∀ W, Below w6.heap.size w6 W → W.cell? ⟨b, 10, none⟩ = some (.map (some m)) ∧ W.rangeAt w.heap.size 0 (iwC (x.own oa oc))) := Lib.hid (fun W hb => ⟨by rw [← hm]; exact (h6.below hb).blk.cell rfl, (hI6.below hb hI6.lt).range (fun j u hj => by rw [Nat.zero_add]; simpa [iwA] using hj)⟩)
          have hb0 : Below w6.heap.size w6 w6.drew := (Below.refl w6.heap.size w6).drew
          replace hIn6 := Lib.hid hIn6
          replace h6 := Lib.hid h6
          clear hI5 h5 hr5 hK6 hO6
          refine wp_region_held_drew (S := fun W => W.cell? ⟨b, 10, none⟩ = some (.map (some m)) ∧ W.rangeAt w.heap.size 0 (iwC (x.own oa oc))) (by kernel_rfl) (hSt.out _ hb0) ?_
          intro hHeld
          (refine wpAnyH_take (i := 0) (v := ?_) rfl (by kernel_rfl) (by kernel_rfl) (by kernel_rfl) (fun _ _ _ h => h) (Or.inl ⟨by rfl, ?_⟩) (by assumption) ?_; rotate_left; (focus (intro w hSw; clear hSw; go_simp; (try with_reducible rfl))); (try simp only [Act.put, List.getElem_toArray, List.getElem_cons_zero, List.getElem_cons_succ, List.setIfInBounds_toArray, List.set_cons_zero, List.set_cons_succ]))
          (refine wpAnyH_take (i := 1) (v := ?_) rfl (by kernel_rfl) (by kernel_rfl) (by kernel_rfl) (fun _ _ _ h => h) (Or.inl ⟨by rfl, ?_⟩) (by assumption) ?_; rotate_left; (focus (intro w hSw; clear hSw; go_simp; (try with_reducible rfl))); (try simp only [Act.put, List.getElem_toArray, List.getElem_cons_zero, List.getElem_cons_succ, List.setIfInBounds_toArray, List.set_cons_zero, List.set_cons_succ]))
          (refine wpAnyH_take (i := 2) (v := ?_) rfl (by kernel_rfl) (by kernel_rfl) (by kernel_rfl) (fun _ _ _ h => h) (Or.inl ⟨by rfl, ?_⟩) (by assumption) ?_; rotate_left; (focus (intro w hSw; clear hSw; go_simp; (try with_reducible rfl))); (try simp only [Act.put, List.getElem_toArray, List.getElem_cons_zero, List.getElem_cons_succ, List.setIfInBounds_toArray, List.set_cons_zero, List.set_cons_succ]))
          (refine wpAnyH_take (i := 3) (v := ?_) rfl (by kernel_rfl) (by kernel_rfl) (by kernel_rfl) (fun _ _ _ h => h) (Or.inl ⟨by rfl, ?_⟩) (by assumption) ?_; rotate_left; (focus (intro w hSw; have hc := hSw.1; clear hSw; go_simp; (try with_reducible rfl))); (try simp only [Act.put, List.getElem_toArray, List.getElem_cons_zero, List.getElem_cons_succ, List.setIfInBounds_toArray, List.set_cons_zero, List.set_cons_succ]))
          (refine wpAnyH_take (i := 4) (v := ?_) rfl (by kernel_rfl) (by kernel_rfl) (by kernel_rfl) (fun _ _ _ h => h) (Or.inl ⟨by rfl, ?_⟩) (by assumption) ?_; rotate_left; (focus (intro w hSw; clear hSw; go_simp; (try with_reducible rfl))); (try simp only [Act.put, List.getElem_toArray, List.getElem_cons_zero, List.getElem_cons_succ, List.setIfInBounds_toArray, List.set_cons_zero, List.set_cons_succ]))
          (refine wpAnyH_take (i := 5) (v := .agg (iwC (x.own oa oc)).toArray) rfl (by kernel_rfl) (by kernel_rfl) (by kernel_rfl) (fun _ _ _ h => h) (yieldsIf_load_mid (by rfl) 45 (.tmp 5) rfl w.heap.size 0 rfl (iwC (x.own oa oc)) _ (fun W hW => hW.2) Tryd.underlying45 rfl hIL) (by assumption) ?_; (try simp only [Act.put, List.getElem_toArray, List.getElem_cons_zero, List.getElem_cons_succ, List.setIfInBounds_toArray, List.set_cons_zero, List.set_cons_succ]))
          (refine wpAnyH_ready (rs := [6]) (by kernel_rfl) (by simp) ?_; refine AllReadyH.cons rfl (fun K hK => ?_) AllReadyH.nil)
          refine step_map_update rfl (.tmp 53) (.tmp 54) (.tmp 55) rfl Tryd.underlying68 Tryd.underlying3 hM6.drew rfl rfl rfl hgn.out ?_
          intro w7 hM7 hK7 hs7
          (try simp only [Act.put, List.getElem_toArray, List.getElem_cons_zero, List.getElem_cons_succ, List.setIfInBounds_toArray, List.set_cons_zero, List.set_cons_succ])
          refine hK.out _ _ ⟨?_, ?_⟩ (fun hHeld => ?_)
          · rw [← hm]; exact (hK7.blk h6.out.blk.drew hne.symm).cell rfl
          · exact (hK7.blk hI6.drew (by omega)).range (fun j u hj => by rw [Nat.zero_add]; simpa [iwA] using hj)
          clear hK K
          refine wpAnyH_done (by kernel_rfl) ?_ _
          have hK67 : Kp m w6 w7 := ((Kp.refl m w6).drew).trans hK7
          have h7 := Lib.hid (h6.out.tell hm hM7 hK67 hIn6.out hxw hhp.out)
          have hk7 : Hid (KpO (OwnF b s.mb) w w7) := Lib.hid ((KpO.ofBelow hbw6.out).trans (KpO.ofKp (O := OwnF b s.mb) hK67 (.inr hm)) (fun g hg => .inl hg))
          have hT7 := Lib.hid (hTk.out _ hk7.out)
          have hs7' := hK67.size
          have hF7 : Hid (∀ g, F g → g < w7.heap.size) := Lib.hid (fun g hg => Nat.lt_of_lt_of_le (hF0.out g hg) hk7.out.size)
          have hTS := Lib.hid (show (⟨s.rc, s.ra, s.rn, s.rk, s.ce, s.cr, s.mem, s.live, s.formed, s.mb, s.told ++ [(p, x.own oa oc)], s.tb, s.tv, s.agr⟩ : Fw).s = tellS s.s p x.v from by simp [Fw.s, tellS, Iw.own])
          obtain ⟨s7, hs7⟩ : ∃ z : Fw, z = ⟨s.rc, s.ra, s.rn, s.rk, s.ce, s.cr, s.mem, s.live, s.formed, s.mb, s.told ++ [(p, x.own oa oc)], s.tb, s.tv, s.agr⟩ := ⟨_, rfl⟩
          have hm7 : s7.mb = some m := by rw [hs7]; exact hm
          have hmem7 : s7.mem = s.mem := by rw [hs7]
          rw [← hs7] at h7 hTS
          replace hs7 := Lib.hid hs7
          have hM7' := (h7.out.map m hm7).1
          obtain ⟨tl, htl⟩ : ∃ z, z = (tlM s7.told).length := ⟨_, rfl⟩
          have htl2 := Lib.hid (show (tellS s.s p x.v).told.length = tl from by rw [htl, ← hTS.out]; simp [Fw.s, tlM])
          obtain ⟨cn, hcn⟩ : ∃ z, z = cardN s.mem := ⟨_, rfl⟩
          have hD4 := Lib.hid (show delS s.s p x.v = if tl = cn then tryS s7.s else (s7.s, []) from by rw [hD3.out, htl2.out, hcn, hTS.out])
          have c7 : w7.cell? ⟨b, 7, none⟩ = some (.int .u64 s.mem) := by rw [← hmem7]; exact h7.out.blk.cell rfl
          have c10' : w7.cell? ⟨b, 10, none⟩ = some (.map (some m)) := by rw [← hm7]; exact h7.out.blk.cell rfl
          have k7 := cell_regrown c7
          have k10 := cell_regrown c10'
          have kS := fun d os => Calls.regrown_of (pureB (size_any s.mem hmem (grow (redrawn w7 d) os)))
          rw [← hcn] at kS
          replace hcn := Lib.hid hcn
          clear hHeld hM6 hSt hb0 hI6 hM7 hK7 hIn6 h6 htl2 hD3 hIL hge c10 c7 c10'
          go_upto_region 7 with (fail)
          go_cut [66] from 56 to 66 (fun t wx => t = .bool (decide (tl = cn)) ∧ Below w7.heap.size w7 wx)
          case first => as_aux_lemma =>
            by_cases he : tl = cn
            · have e1 : ((tl : Int) == (cn : Int)) = true := by rw [beq_iff_eq]; omega
              have e2 : (tl == cn) = true := by simpa using he
              have hz := Lib.hid (decide_eq_true he)
              replace htl := htl.symm
              clear he
              refine wp_region_quiet_below (by kernel_rfl) (by kernel_rfl) ?_
              iterate 11 (first | (refine wpQuiet_map_len (by rfl) (.tmp 59) rfl Tryd.underlying68 hM7' rfl ?_; rw [htl]; simp only [Act.put, List.setIfInBounds_toArray, List.set_cons_zero, List.set_cons_succ]) | go_big_quiet_step (first | (with_reducible exact kS _ _)))
              refine wpQuiet_nil ?_; intro w4' hw'; obtain ⟨⟨dq, osq⟩, hw''⟩ := hw'; subst hw''
              go_wp2_with fail
              go_meet
              exact ⟨by rw [hz.out], below_regrown _ _ _⟩
            · have e1 : ((tl : Int) == (cn : Int)) = false := by rw [beq_eq_false_iff_ne]; omega
              have e2 : (tl == cn) = false := by simpa using he
              have hz := Lib.hid (decide_eq_false he)
              replace htl := htl.symm
              clear he
              refine wp_region_quiet_below (by kernel_rfl) (by kernel_rfl) ?_
              iterate 11 (first | (refine wpQuiet_map_len (by rfl) (.tmp 59) rfl Tryd.underlying68 hM7' rfl ?_; rw [htl]; simp only [Act.put, List.setIfInBounds_toArray, List.set_cons_zero, List.set_cons_succ]) | go_big_quiet_step (first | (with_reducible exact kS _ _)))
              refine wpQuiet_nil ?_; intro w4' hw'; obtain ⟨⟨dq, osq⟩, hw''⟩ := hw'; subst hw''
              go_wp2_with fail
              go_meet
              exact ⟨by rw [hz.out], below_regrown _ _ _⟩
          case rest => as_aux_lemma =>
            obtain ⟨rfl, hb78⟩ := hcut
            obtain ⟨w8, rfl⟩ : ∃ z, z = wc := ⟨_, rfl⟩
            have h8 := h7.out.below hb78
            have hk8 := Lib.hid (hk7.out.trans (KpO.ofBelow (O := fun _ => False) hb78) (fun g hg => hg.elim))
            have hT8 := hTk.out _ hk8.out
            have hF8 : ∀ g, F g → g < w8.heap.size := fun g hg => Nat.lt_of_lt_of_le (hF7.out g hg) hb78.size
            have hmm7 : s7.mb = s.mb := hm7.trans hm.symm
            clear k7 k10 kS hM7' h7
            by_cases he : tl = cn
            · have hz := Lib.hid (hD4.out.trans (if_pos he))
              rw [decide_eq_true he]
              have HT := Lib.hid (try_any s7 b m w8 hT8 hF8 h8 hm7)
              clear hT8 hF8 h8 hD4 he
              go_wp2_with fail
              refine HT.out.mono ?_
              rintro e w9 ⟨s9, ra, rn, rc, os, rfl, h9, e9, m9, hO9, v9, f9, hk9⟩
              have hfin : KpO (OwnF b s.mb) w w9 := hk8.out.trans hk9 (fun g hg => .inl (hg.elim .inl (fun e => by cases e)))
              have hw8 := hk8.out.size
              go_wp2
              go_ret
              exact ⟨s9, ra, rn, rc, os, rfl, h9, by rw [hz.out]; exact e9, m9.trans hmm7, hO9, by rw [hz.out]; exact v9, fun g off e => Nat.le_trans hw8 (f9 g off e), hfin⟩
            · have hz := Lib.hid (hD4.out.trans (if_neg he))
              rw [decide_eq_false he]
              clear hT8 hF8 hD4 he
              go_wp2
              go_ret
              exact ⟨s7, none, 0, 0, [], rfl, h8, by rw [hz.out], hmm7, RdO.nil, by rw [hz.out]; rfl, (fun g off e => by cases e), hk8.out⟩
        | false =>
          have hD3 := Lib.hid (hD2.out.trans (if_neg (by simp)))
          clear hD2 hq4 hhad hmF
          obtain ⟨q9, hq9⟩ : ∃ z, z = (decide (x.v.kind = 3) && triedB s.s x.v.view) := ⟨_, rfl⟩
          rw [← hq9] at hD3
          replace hq9 := Lib.hid hq9
          have k0 := cell_regrown i0
          have c11 : w4.cell? ⟨b, 11, none⟩ = some (.pointer (ptrB s.tb)) := h4.blk.cell rfl
          have rV : w4.rangeAt w.heap.size 11 [.int .u64 x.v.view.num, .int .u64 x.v.view.ce, .int .i64 x.v.view.cr, .int .u64 x.v.view.mem] := hI4.range (fun j u hj => iwA_view x j u hj)
          have hvL : (Tryd.prog.info? 35).map (·.size) = some ([.int .u64 x.v.view.num, .int .u64 x.v.view.ce, .int .i64 x.v.view.cr, .int .u64 x.v.view.mem] : List Value).length := by show _ = some 4; kernel_rfl
          go_upto_region 9 with (fail)
          go_cut [69] from 70 to 90 (fun t wx => t = .bool q9 ∧ Below w4.heap.size w4 wx)
          case first => as_aux_lemma =>
            have hdk := dec_kind x.v.kind 3
            by_cases hk3 : x.v.kind = 3
            · have e2 : (x.v.kind == 3) = true := by rw [hdk]; exact decide_eq_true hk3
              have hz := Lib.hid (show q9 = triedB s.s x.v.view from by rw [hq9.out, decide_eq_true hk3, Bool.true_and])
              clear hk3 hdk
              cases htb : s.tb with
              | none =>
                rw [htb] at c11
                have c11' : w4.cell? ⟨b, 11, none⟩ = some (.pointer none) := c11
                have k11 := cell_regrown c11'
                have hz2 := Lib.hid (show q9 = false from by rw [hz.out]; show (match s.tb.map fun _ => s.tv with | some u => veq x.v.view u | none => false) = false; rw [htb]; rfl)
                clear c11 htb
                refine wp_region_quiet_below (by kernel_rfl) (by kernel_rfl) ?_
                iterate 22 (go_big_quiet_step (fail))
                refine wpQuiet_nil ?_; intro w4' hw'; obtain ⟨⟨dq, osq⟩, hw''⟩ := hw'; subst hw''
                go_wp2_with fail
                go_meet
                exact ⟨by rw [hz2.out], below_regrown _ _ _⟩
              | some t =>
                rw [htb] at c11
                have c11' : w4.cell? ⟨b, 11, none⟩ = some (.pointer (some ⟨t, 0, none⟩)) := c11
                have k11 := cell_regrown c11'
                have hz2 := Lib.hid (show q9 = veq x.v.view s.tv from by rw [hz.out]; show (match s.tb.map fun _ => s.tv with | some u => veq x.v.view u | none => false) = _; rw [htb]; rfl)
                have hVB := (h4.tri t htb).1
                have HE := Lib.hid (fun W => run_eql_vw W x.v.view s.tv)
                obtain ⟨qv, hqv⟩ : ∃ z, z = veq x.v.view s.tv := ⟨_, rfl⟩
                rw [← hqv] at HE hz2
                have hvI := Tryd.viewI s.tv
                clear c11 htb hqv
                refine wp_region_quiet_below (by kernel_rfl) (by kernel_rfl) ?_
                iterate 22 (first
                  | (refine wpQuiet_mid_load (by rfl) _ (.tmp 81) rfl w.heap.size 11 rfl [.int .u64 x.v.view.num, .int .u64 x.v.view.ce, .int .i64 x.v.view.cr, .int .u64 x.v.view.mem] _ rV hlI4 Tryd.underlying35 rfl hvL ?_; simp only [Act.put, List.setIfInBounds_toArray, List.set_cons_zero, List.set_cons_succ])
                  | (refine wpQuiet_blk_load (by rfl) (.tmp 87) rfl Tryd.underlying35 rfl rfl hVB hvI ?_; simp only [Act.put, List.setIfInBounds_toArray, List.set_cons_zero, List.set_cons_succ])
                  | (refine wpQuiet_agg (by rfl) Tryd.viewG (.tmp 82) (.tmp 88) _ rfl rfl rfl HE.out ?_; simp only [Act.put, List.setIfInBounds_toArray, List.set_cons_zero, List.set_cons_succ])
                  | go_big_quiet_step (fail))
                refine wpQuiet_nil ?_; intro w4' hw'; obtain ⟨⟨dq, osq⟩, hw''⟩ := hw'; subst hw''
                go_wp2_with fail
                go_meet
                exact ⟨by rw [hz2.out], below_regrown _ _ _⟩
            · have e2 : (x.v.kind == 3) = false := by rw [hdk]; exact decide_eq_false hk3
              have hz := Lib.hid (show q9 = false from by rw [hq9.out, decide_eq_false hk3, Bool.false_and])
              clear hk3 hdk
              refine wp_region_quiet_below (by kernel_rfl) (by kernel_rfl) ?_
              iterate 22 (go_big_quiet_step (fail))
              refine wpQuiet_nil ?_; intro w4' hw'; obtain ⟨⟨dq, osq⟩, hw''⟩ := hw'; subst hw''
              go_wp2_with fail
              go_meet
              exact ⟨by rw [hz.out], below_regrown _ _ _⟩
          case rest => as_aux_lemma =>
            obtain ⟨rfl, hb49⟩ := hcut
            obtain ⟨w9, rfl⟩ : ∃ z, z = wc := ⟨_, rfl⟩
            have h9 := h4.below hb49
            have hk9 := Lib.hid (hk4.out.trans (KpO.ofBelow (O := fun _ => False) hb49) (fun g hg => hg.elim))
            have hI9 := hI4.below hb49 hlI4
            clear k0 c11 rV h4 hI4 hx4 i0
            cases q9 with
            | false =>
              have hz := Lib.hid (hD3.out.trans (if_neg (by simp)))
              go_wp2
              go_ret
              exact ⟨s, none, 0, 0, [], rfl, h9, by rw [hz.out], rfl, RdO.nil, by rw [hz.out]; rfl, (fun g off e => by cases e), hk9.out⟩
            | true =>
              have hD4 := Lib.hid (hD3.out.trans (if_pos rfl))
              have hwl := withN_lt [p] h9.ok.agr
              obtain ⟨ag, hag⟩ : ∃ z, z = withN s.agr [p] := ⟨_, rfl⟩
              have hb10 := alloc_below w9 (.cells #[.int .i64 p] 3)
              have HW := Lib.hid (with_any s.agr 1 1 (some ⟨w9.heap.size, 0, none⟩) [p] (w9.alloc (.cells #[.int .i64 p] 3)) h9.ok.agr (by decide) (Rd.lit1 (cs := [.int .i64 p]) rfl rfl))
              rw [← hag] at HW hwl
              have h10 := h9.below hb10
              have hI10 := hI9.below hb10 hI9.lt
              have hk10 := Lib.hid (hk9.out.trans (KpO.ofBelow (O := fun _ => False) hb10) (fun g hg => hg.elim))
              obtain ⟨c7, c8, c9, c10, c11, c12⟩ := h9.cells
              have f12 := h10.blk.fz 12
              have c12' : (w9.alloc (.cells #[.int .i64 p] 3)).cell? ⟨b, 12, none⟩ = some (.int .u64 s.agr) := h10.blk.cell rfl
              have hB11 : BlkAt ((w9.alloc (.cells #[.int .i64 p] 3)).setCell ⟨b, 12, none⟩ (.int .u64 ag)) b 71 (fwA { s with agr := ag }) := h10.blk.set 12 _
              have hK11 := (Kp.refl b (w9.alloc (.cells #[.int .i64 p] 3))).setCell ⟨b, 12, none⟩ rfl (.int .u64 ag)
              have h11 : FAt F ((w9.alloc (.cells #[.int .i64 p] 3)).setCell ⟨b, 12, none⟩ (.int .u64 ag)) b { s with agr := ag } :=
                h10.kp1 hK11 { s with agr := ag } hB11 ⟨rfl, rfl, rfl, rfl, rfl, rfl, rfl, rfl⟩ (fun e => (h10.non e).2) ⟨h10.ok.mem, hwl, h10.ok.rc, h10.ok.told, h10.ok.tv⟩
              have hI11 := hK11.blk hI10 (by omega)
              have hk11 := Lib.hid (hk10.out.trans (KpO.ofKp (O := OwnF b s.mb) hK11 (.inl rfl)) (fun g hg => .inl hg))
              have hagS := Lib.hid (show ({ s with agr := ag } : Fw).s = agrS s.s p from by rw [hag]; rfl)
              have hsz11 : w.heap.size < ((w9.alloc (.cells #[.int .i64 p] 3)).setCell ⟨b, 12, none⟩ (.int .u64 ag)).heap.size := hI11.lt
              replace hag := Lib.hid hag
              clear h9 h10 hI10 hB11 hK11 hk10 hI9
              go_upto_region 11 with (first
                | (go_at_call 29; refine HW.out.mono ?_; rintro e w' ⟨rfl, rfl⟩))
              clear c7 c8 c9 c10 c11 c12 f12 c12' HW
              generalize (w9.alloc (.cells #[.int .i64 p] 3)).setCell ⟨b, 12, none⟩ (.int .u64 ag) = w11 at *
              have d7 : w11.cell? ⟨b, 7, none⟩ = some (.int .u64 s.mem) := h11.blk.cell rfl
              have d12 : w11.cell? ⟨b, 12, none⟩ = some (.int .u64 ag) := h11.blk.cell rfl
              have k7 := cell_regrown d7
              have k12 := cell_regrown d12
              go_cut [109] from 101 to 109 (fun t wx => t = .bool (decide (ag = s.mem)) ∧ Below w11.heap.size w11 wx)
              case first => as_aux_lemma =>
                by_cases he : ag = s.mem
                · have e1 : ((ag : Int) == (s.mem : Int)) = true := by rw [beq_iff_eq]; omega
                  have e2 : (ag == s.mem) = true := by simpa using he
                  have hz := Lib.hid (decide_eq_true he)
                  clear he
                  refine wp_region_quiet_below (by kernel_rfl) (by kernel_rfl) ?_
                  iterate 9 (go_big_quiet_step (fail))
                  refine wpQuiet_nil ?_; intro w4' hw'; obtain ⟨⟨dq, osq⟩, hw''⟩ := hw'; subst hw''
                  go_wp2_with fail
                  go_meet
                  exact ⟨by rw [hz.out], below_regrown _ _ _⟩
                · have e1 : ((ag : Int) == (s.mem : Int)) = false := by rw [beq_eq_false_iff_ne]; omega
                  have e2 : (ag == s.mem) = false := by simpa using he
                  have hz := Lib.hid (decide_eq_false he)
                  clear he
                  refine wp_region_quiet_below (by kernel_rfl) (by kernel_rfl) ?_
                  iterate 9 (go_big_quiet_step (fail))
                  refine wpQuiet_nil ?_; intro w4' hw'; obtain ⟨⟨dq, osq⟩, hw''⟩ := hw'; subst hw''
                  go_wp2_with fail
                  go_meet
                  exact ⟨by rw [hz.out], below_regrown _ _ _⟩
              case rest => as_aux_lemma =>
                obtain ⟨rfl, hb12⟩ := hcut
                obtain ⟨w12, rfl⟩ : ∃ z, z = wc := ⟨_, rfl⟩
                have h12 := h11.below hb12
                have hI12 := hI11.below hb12 hI11.lt
                have hk12 := Lib.hid (hk11.out.trans (KpO.ofBelow (O := fun _ => False) hb12) (fun g hg => hg.elim))
                clear k7 k12 d7 d12 h11 hI11
                by_cases he : ag = s.mem
                · have hz := Lib.hid (hD4.out.trans (if_pos (by rw [← hagS.out]; exact he)))
                  rw [decide_eq_true he]
                  clear he hD4
                  go_upto_region 12 with (fail)
                  have hS : Hid (∀ W, Below w12.heap.size w12 W → W.rangeAt w.heap.size 11 [.int .u64 x.v.view.num, .int .u64 x.v.view.ce, .int .i64 x.v.view.cr, .int .u64 x.v.view.mem]) := Lib.hid (fun W hb => (hI12.below hb hI12.lt).range (fun j u hj => iwA_view x j u hj))
                  have hb0 : Below w12.heap.size w12 w12.drew := (Below.refl w12.heap.size w12).drew
                  have hrL := Tryd.recL s.rc.last (.slice s.ra s.rn s.rk)
                  have hfn := formL_len x.v.view s.rc.pend
                  have hln := h12.len
                  have hok := h12.ok.rc
                  have HF := Lib.hid (form_new s.rc.last x.v.view s.ra s.rn s.rk s.rc.pend (by have := hok.2; show s.rn ≤ 1000000; rw [← hln]; exact Nat.le_trans this (by decide)) w12.drew h12.rd.1)
                  have hlw := hI12.lt
                  refine wp_region_held_drew (S := fun W => W.rangeAt w.heap.size 11 [.int .u64 x.v.view.num, .int .u64 x.v.view.ce, .int .i64 x.v.view.cr, .int .u64 x.v.view.mem]) (by kernel_rfl) (hS.out _ hb0) ?_
                  intro hHeld
                  (refine wpAnyH_take (i := 0) (v := ?_) rfl (by kernel_rfl) (by kernel_rfl) (by kernel_rfl) (fun _ _ _ h => h) (Or.inl ⟨by rfl, ?_⟩) (by assumption) ?_; rotate_left; (focus (intro w hSw; clear hSw; go_simp; (try with_reducible rfl))); (try simp only [Act.put, List.getElem_toArray, List.getElem_cons_zero, List.getElem_cons_succ, List.setIfInBounds_toArray, List.set_cons_zero, List.set_cons_succ]))
                  (refine wpAnyH_take (i := 1) (v := ?_) rfl (by kernel_rfl) (by kernel_rfl) (by kernel_rfl) (fun _ _ _ h => h) (Or.inl ⟨by rfl, ?_⟩) (by assumption) ?_; rotate_left; (focus (intro w hSw; clear hSw; go_simp; (try with_reducible rfl))); (try simp only [Act.put, List.getElem_toArray, List.getElem_cons_zero, List.getElem_cons_succ, List.setIfInBounds_toArray, List.set_cons_zero, List.set_cons_succ]))
                  (refine wpAnyH_take (i := 2) (v := ?_) rfl (by kernel_rfl) (by kernel_rfl) (by kernel_rfl) (fun _ _ _ h => h) (Or.inl ⟨by rfl, ?_⟩) (by assumption) ?_; rotate_left; (focus (intro w hSw; clear hSw; go_simp; (try with_reducible rfl))); (try simp only [Act.put, List.getElem_toArray, List.getElem_cons_zero, List.getElem_cons_succ, List.setIfInBounds_toArray, List.set_cons_zero, List.set_cons_succ]))
                  (refine wpAnyH_take (i := 3) (v := ?_) rfl (by kernel_rfl) (by kernel_rfl) (by kernel_rfl) (fun _ _ _ h => h) (Or.inl ⟨by rfl, ?_⟩) (by assumption) ?_; rotate_left; (focus (intro w hSw; clear hSw; go_simp; (try with_reducible rfl))); (try simp only [Act.put, List.getElem_toArray, List.getElem_cons_zero, List.getElem_cons_succ, List.setIfInBounds_toArray, List.set_cons_zero, List.set_cons_succ]))
                  (refine wpAnyH_take (i := 4) (v := ?_) rfl (by kernel_rfl) (by kernel_rfl) (by kernel_rfl) (fun _ _ _ h => h) (Or.inl ⟨by rfl, ?_⟩) (by assumption) ?_; rotate_left; (focus (intro w hSw; clear hSw; go_simp; (try with_reducible rfl))); (try simp only [Act.put, List.getElem_toArray, List.getElem_cons_zero, List.getElem_cons_succ, List.setIfInBounds_toArray, List.set_cons_zero, List.set_cons_succ]))
                  (refine wpAnyH_take (i := 6) (v := ?_) rfl (by kernel_rfl) (by kernel_rfl) (by kernel_rfl) (fun _ _ _ h => h) (Or.inl ⟨by rfl, ?_⟩) (by assumption) ?_; rotate_left; (focus (intro w hSw; clear hSw; go_simp; (try with_reducible rfl))); (try simp only [Act.put, List.getElem_toArray, List.getElem_cons_zero, List.getElem_cons_succ, List.setIfInBounds_toArray, List.set_cons_zero, List.set_cons_succ]))
                  (refine wpAnyH_take (i := 7) (v := .agg #[.int .u64 x.v.view.num, .int .u64 x.v.view.ce, .int .i64 x.v.view.cr, .int .u64 x.v.view.mem]) rfl (by kernel_rfl) (by kernel_rfl) (by kernel_rfl) (fun _ _ _ h => h) (yieldsIf_load_mid (by rfl) 35 (.tmp 116) rfl w.heap.size 11 rfl [.int .u64 x.v.view.num, .int .u64 x.v.view.ce, .int .i64 x.v.view.cr, .int .u64 x.v.view.mem] _ (fun W hW => hW) Tryd.underlying35 rfl hvL) (by assumption) ?_; (try simp only [Act.put, List.getElem_toArray, List.getElem_cons_zero, List.getElem_cons_succ, List.setIfInBounds_toArray, List.set_cons_zero, List.set_cons_succ]))
                  (refine wpAnyH_ready (rs := [5]) (by kernel_rfl) (by simp) ?_; refine AllReadyH.cons rfl (fun K hK => ?_) AllReadyH.nil)
                  refine step_load_mid rfl 38 (.tmp 114) rfl b 0 rfl [.int .u64 s.rc.last.num, .int .u64 s.rc.last.ce, .int .i64 s.rc.last.cr, .int .u64 s.rc.last.mem, .slice s.ra s.rn s.rk] _ (h12.blk.drew.range (fwA_rec { s with agr := ag })) Tryd.underlying38 rfl hrL ?_
                  (try simp only [Act.put, List.getElem_toArray, List.getElem_cons_zero, List.getElem_cons_succ, List.setIfInBounds_toArray, List.set_cons_zero, List.set_cons_succ])
                  refine hK.out _ _ (hS.out _ hb0) (fun hHeld => ?_)
                  clear hK K
                  (refine wpAnyH_ready (rs := [8]) (by kernel_rfl) (by simp) ?_; refine AllReadyH.cons rfl (fun K hK => ?_) AllReadyH.nil)
                  go_simp
                  refine HF.out.mono ?_
                  rintro e w13 ⟨fa, fc, rfl, hr13, hb13, hg13⟩
                  have b13 := belS hb0 hb13
                  have h13 := h12.below b13
                  have hI13 := hI12.below b13 hlw
                  refine hK.out _ _ (hS.out _ b13) (fun hHeld => ?_)
                  clear hK K
                  (refine wpAnyH_take (i := 9) (v := ?_) rfl (by kernel_rfl) (by kernel_rfl) (by kernel_rfl) (fun _ _ _ h => h) (Or.inl ⟨by rfl, ?_⟩) (by assumption) ?_; rotate_left; (focus (intro w hSw; clear hSw; go_simp; (try with_reducible rfl))); (try simp only [Act.put, List.getElem_toArray, List.getElem_cons_zero, List.getElem_cons_succ, List.setIfInBounds_toArray, List.set_cons_zero, List.set_cons_succ]))
                  (refine wpAnyH_take (i := 10) (v := ?_) rfl (by kernel_rfl) (by kernel_rfl) (by kernel_rfl) (fun _ _ _ h => h) (Or.inl ⟨by rfl, ?_⟩) (by assumption) ?_; rotate_left; (focus (intro w hSw; clear hSw; go_simp; (try with_reducible rfl))); (try simp only [Act.put, List.getElem_toArray, List.getElem_cons_zero, List.getElem_cons_succ, List.setIfInBounds_toArray, List.set_cons_zero, List.set_cons_succ]))
                  (refine wpAnyH_ready (rs := [11]) (by kernel_rfl) (by simp) ?_; refine AllReadyH.cons rfl (fun K hK => ?_) AllReadyH.nil)
                  refine step_blk_put (cs := #[.int .u64 x.v.view.num, .int .u64 x.v.view.ce, .int .i64 x.v.view.cr, .int .u64 x.v.view.mem, .slice fa (formL x.v.view s.rc.pend).length fc]) rfl (.tmp 120) (.tmp 118) rfl (b := b) (p := 0) rfl rfl h13.blk Tryd.recI (by show 0 + 5 ≤ 13; decide) (by simp [Value.oneCell']) (fun w14 hB14 hK14 hs14 => ?_)
                  rw [show setArr (fwA { s with agr := ag }) 0 (#[.int .u64 x.v.view.num, .int .u64 x.v.view.ce, .int .i64 x.v.view.cr, .int .u64 x.v.view.mem, .slice fa (formL x.v.view s.rc.pend).length fc] : Array Value).toList = fwA { s with agr := ag, rc := ⟨x.v.view, formL x.v.view s.rc.pend⟩, ra := fa, rn := (formL x.v.view s.rc.pend).length, rk := fc } from rfl] at hB14
                  (try simp only [Act.put, List.getElem_toArray, List.getElem_cons_zero, List.getElem_cons_succ, List.setIfInBounds_toArray, List.set_cons_zero, List.set_cons_succ])
                  have hI14 := hK14.blk hI13 (by omega)
                  refine hK.out _ _ (hI14.range (fun j u hj => iwA_view x j u hj)) (fun hHeld => ?_)
                  clear hK K
                  (refine wpAnyH_take (i := 12) (v := ?_) rfl (by kernel_rfl) (by kernel_rfl) (by kernel_rfl) (fun _ _ _ h => h) (Or.inl ⟨by rfl, ?_⟩) (by assumption) ?_; rotate_left; (focus (intro w hSw; clear hSw; go_simp; (try with_reducible rfl))); (try simp only [Act.put, List.getElem_toArray, List.getElem_cons_zero, List.getElem_cons_succ, List.setIfInBounds_toArray, List.set_cons_zero, List.set_cons_succ]))
                  (refine wpAnyH_take (i := 13) (v := ?_) rfl (by kernel_rfl) (by kernel_rfl) (by kernel_rfl) (fun _ _ _ h => h) (Or.inl ⟨by rfl, ?_⟩) (by assumption) ?_; rotate_left; (focus (intro w hSw; clear hSw; go_simp; (try with_reducible rfl))); (try simp only [Act.put, List.getElem_toArray, List.getElem_cons_zero, List.getElem_cons_succ, List.setIfInBounds_toArray, List.set_cons_zero, List.set_cons_succ]))
                  have f9 := hB14.fz 9
                  have c9 : w14.cell? ⟨b, 9, none⟩ = some (.bool s.formed) := hB14.cell rfl
                  (refine wpAnyH_ready (rs := [14]) (by kernel_rfl) (by simp) ?_; refine AllReadyH.cons rfl (fun K hK => ?_) AllReadyH.nil)
                  go_simp
                  have hB15 : BlkAt (w14.setCell ⟨b, 9, none⟩ (.bool true)) b 71 (fwA { s with agr := ag, rc := ⟨x.v.view, formL x.v.view s.rc.pend⟩, ra := fa, rn := (formL x.v.view s.rc.pend).length, rk := fc, formed := true }) := hB14.set 9 _
                  have hK15 : Kp b w13 (w14.setCell ⟨b, 9, none⟩ (.bool true)) := hK14.setCell ⟨b, 9, none⟩ rfl _
                  have hs15 : (w14.setCell ⟨b, 9, none⟩ (.bool true)).heap.size = w13.heap.size := by simp [World.setCell, hs14]
                  generalize w14.setCell ⟨b, 9, none⟩ (.bool true) = w15 at *
                  have hI15 := hK15.blk hI13 (by omega)
                  refine hK.out _ _ (hI15.range (fun j u hj => iwA_view x j u hj)) (fun hHeld => ?_)
                  clear hK K
                  refine wpAnyH_done (by kernel_rfl) ?_ _
                  have b13s := b13.size
                  have hgF : ∀ g, F g → g < w12.heap.size := fun g hg => Nat.lt_of_lt_of_le (hF0.out g hg) hk12.out.size
                  have hO15 : KpO (fun g => g = b) w13 w15 := KpO.ofKp hK15 rfl
                  have hFb : ∀ g, g = b → F g := fun g e => e ▸ h13.own
                  have hds : w12.drew.heap.size = w12.heap.size := rfl
                  obtain ⟨s15, hs15e⟩ : ∃ z : Fw, z = { s with agr := ag, rc := ⟨x.v.view, formL x.v.view s.rc.pend⟩, ra := fa, rn := (formL x.v.view s.rc.pend).length, rk := fc, formed := true } := ⟨_, rfl⟩
                  have hm15 : s15.mb = some m := by rw [hs15e]; exact hm
                  have h15 : FAt F w15 b s15 := by
                    rw [hs15e]
                    refine ⟨hB15, fun m e => ⟨(h13.map m e).1.kp hK15 (fun e2 => ((h13.map m e).1.ne_blk h13.blk) e2.symm), (h13.map m e).2⟩, h13.non, ⟨hK15.rd hr13 (fun g off e => by have := hg13 g off e; omega), Off.fresh hg13 hgF⟩, fun q hq => (h13.inn q hq).kpO hO15 hFb, fun t e => ?_, h13.own, ⟨h13.ok.mem, h13.ok.agr, ⟨⟨hxw.2.1, fun u hu => hok.1.2 u (formL_mem u hu)⟩, Nat.le_trans hfn hok.2⟩, h13.ok.told, h13.ok.tv⟩⟩
                    obtain ⟨h3, h4⟩ := h13.tri t e
                    exact ⟨hK15.blk h3 (fun e2 => h4 (e2 ▸ h13.own)), h4⟩
                  have hk15 := Lib.hid ((hk12.out.trans (KpO.ofBelow (O := fun _ => False) b13) (fun g hg => hg.elim)).trans (KpO.ofKp (O := OwnF b s.mb) hK15 (.inl rfl)) (fun g hg => .inl hg))
                  have hT15 := hTk.out _ hk15.out
                  have hF15 : ∀ g, F g → g < w15.heap.size := fun g hg => by have := hgF g hg; omega
                  have hmm15 : s15.mb = s.mb := hm15.trans hm.symm
                  have hS15 := Lib.hid (show s15.s = (formS (agrS s.s p) x.v.view).1 from by rw [hs15e, ← hagS.out]; rfl)
                  have hcv15 := Lib.hid (show claimsV s15.s = claimsV (agrS s.s p) from by rw [hs15e, ← hagS.out]; rfl)
                  have hb15 : Below w15.heap.size w15 w15.drew := (Below.refl w15.heap.size w15).drew
                  have HC := Lib.hid (claims_any s15 b m w15.drew (hT15.below hb15 hT15.1) hF15 (h15.below hb15) hm15)
                  have hS2 : Hid (∀ W, Below w15.heap.size w15 W → W.rangeAt w.heap.size 11 [.int .u64 x.v.view.num, .int .u64 x.v.view.ce, .int .i64 x.v.view.cr, .int .u64 x.v.view.mem]) := Lib.hid (fun W hb => (hI15.below hb hI15.lt).range (fun j u hj => iwA_view x j u hj))
                  have hmem15 : s15.mem = s.mem := by rw [hs15e]
                  rw [hmem15] at HC
                  have hc64 := cardN_le s.mem
                  obtain ⟨cn, hcn⟩ : ∃ z, z = cardN s.mem := ⟨_, rfl⟩
                  rw [← hcn] at HC hc64
                  replace hcn := Lib.hid hcn
                  replace hs15e := Lib.hid hs15e
                  replace h15 := Lib.hid h15
                  clear hHeld hB15 hK15 hs15 hB14 hK14 hs14 hI14 hI13 h13 hr13 b13 hb13 hg13 hS HF h12 hO15 f9 c9 hT15 hI12 hrL hb0
                  go_upto_region 13 with (fail)
                  refine wp_region_held_drew (S := fun W => W.rangeAt w.heap.size 11 [.int .u64 x.v.view.num, .int .u64 x.v.view.ce, .int .i64 x.v.view.cr, .int .u64 x.v.view.mem]) (by kernel_rfl) (hS2.out _ hb15) ?_
                  intro hHeld
                  (refine wpAnyH_take (i := 0) (v := ?_) rfl (by kernel_rfl) (by kernel_rfl) (by kernel_rfl) (fun _ _ _ h => h) (Or.inl ⟨by rfl, ?_⟩) (by assumption) ?_; rotate_left; (focus (intro w hSw; clear hSw; go_simp; (try with_reducible rfl))); (try simp only [Act.put, List.getElem_toArray, List.getElem_cons_zero, List.getElem_cons_succ, List.setIfInBounds_toArray, List.set_cons_zero, List.set_cons_succ]))
                  (refine wpAnyH_take (i := 1) (v := .agg #[.int .u64 x.v.view.num, .int .u64 x.v.view.ce, .int .i64 x.v.view.cr, .int .u64 x.v.view.mem]) rfl (by kernel_rfl) (by kernel_rfl) (by kernel_rfl) (fun _ _ _ h => h) (yieldsIf_load_mid (by rfl) 35 (.tmp 123) rfl w.heap.size 11 rfl [.int .u64 x.v.view.num, .int .u64 x.v.view.ce, .int .i64 x.v.view.cr, .int .u64 x.v.view.mem] _ (fun W hW => hW) Tryd.underlying35 rfl hvL) (by assumption) ?_; (try simp only [Act.put, List.getElem_toArray, List.getElem_cons_zero, List.getElem_cons_succ, List.setIfInBounds_toArray, List.set_cons_zero, List.set_cons_succ]))
                  (refine wpAnyH_take (i := 2) (v := ?_) rfl (by kernel_rfl) (by kernel_rfl) (by kernel_rfl) (fun _ _ _ h => h) (Or.inl ⟨by rfl, ?_⟩) (by assumption) ?_; rotate_left; (focus (intro w hSw; clear hSw; go_simp; (try with_reducible rfl))); (try simp only [Act.put, List.getElem_toArray, List.getElem_cons_zero, List.getElem_cons_succ, List.setIfInBounds_toArray, List.set_cons_zero, List.set_cons_succ]))
                  (refine wpAnyH_ready (rs := [3]) (by kernel_rfl) (by simp) ?_; refine AllReadyH.cons rfl (fun K hK => ?_) AllReadyH.nil)
                  go_simp
                  refine HC.out.mono ?_
                  rintro e w16 ⟨ca, cc, cl, rfl, hcl, hci, hcv, hcf, hb16⟩
                  have b16 := belS hb15 hb16
                  refine hK.out _ _ (hS2.out _ b16) (fun hHeld => ?_)
                  clear hK K
                  (refine wpAnyH_take (i := 4) (v := .agg (owA ⟨3, .zero, ⟨.zero, []⟩, none, 0, 0, x.v.view, ca, cn, cc, cl⟩)) rfl (by kernel_rfl) (by kernel_rfl) (by kernel_rfl) (fun _ _ _ h => h) (yieldsIf_build (by rfl) 47 #[(0, .const (.int .i64 3)), (3, .tmp 124), (4, .tmp 126)] rfl (by rw [List.map_toArray]; exact Tryd.bldX ⟨3, .zero, ⟨.zero, []⟩, none, 0, 0, x.v.view, ca, cn, cc, cl⟩)) (by assumption) ?_; (try simp only [Act.put, List.getElem_toArray, List.getElem_cons_zero, List.getElem_cons_succ, List.setIfInBounds_toArray, List.set_cons_zero, List.set_cons_succ]))
                  (refine wpAnyH_ready (rs := [5]) (by kernel_rfl) (by simp) ?_; refine AllReadyH.cons rfl (fun K hK => ?_) AllReadyH.nil)
                  refine step_buildSlice1 (some 128) rfl rfl 41 47 (.tmp 127) rfl Tryd.owE (by decide) (cs := owA ⟨3, .zero, ⟨.zero, []⟩, none, 0, 0, x.v.view, ca, cn, cc, cl⟩) rfl rfl ?_
                  (try simp only [Act.put, List.getElem_toArray, List.getElem_cons_zero, List.getElem_cons_succ, List.setIfInBounds_toArray, List.set_cons_zero, List.set_cons_succ])
                  have b17 := b16.alloc b16.size (.cells (owA ⟨3, .zero, ⟨.zero, []⟩, none, 0, 0, x.v.view, ca, cn, cc, cl⟩) 47)
                  refine hK.out _ _ (hS2.out _ b17) (fun hHeld => ?_)
                  clear hK K
                  (refine wpAnyH_take (i := 6) (v := ?_) rfl (by kernel_rfl) (by kernel_rfl) (by kernel_rfl) (fun _ _ _ h => h) (Or.inl ⟨by rfl, ?_⟩) (by assumption) ?_; rotate_left; (focus (intro w hSw; clear hSw; go_simp; (try with_reducible rfl))); (try simp only [Act.put, List.getElem_toArray, List.getElem_cons_zero, List.getElem_cons_succ, List.setIfInBounds_toArray, List.set_cons_zero, List.set_cons_succ]))
                  refine wpAnyH_done (by kernel_rfl) ?_ _
                  have hb1 := alloc_below w16 (.cells (owA ⟨3, .zero, ⟨.zero, []⟩, none, 0, 0, x.v.view, ca, cn, cc, cl⟩) 47)
                  have hR17 : Rd (w16.alloc (.cells (owA ⟨3, .zero, ⟨.zero, []⟩, none, 0, 0, x.v.view, ca, cn, cc, cl⟩) 47)) 29 (some ⟨w16.heap.size, 0, none⟩) 1 1 (owC ⟨3, .zero, ⟨.zero, []⟩, none, 0, 0, x.v.view, ca, cn, cc, cl⟩) := Rd.lit1 rfl rfl
                  have h16s : w15.heap.size ≤ w16.heap.size := b16.size
                  have hcll : cl.length ≤ 64 := by
                    have := hcl.1.length_eq
                    rw [flatMap_len iwC_len] at this
                    omega
                  clear hHeld hS2 HC
                  generalize w16.alloc _ = w17 at *
                  go_wp2
                  go_ret
                  refine ⟨s15, some ⟨w16.heap.size, 0, none⟩, 1, 1, rfl, h15.out.below b17, by rw [hz.out]; exact hS15.out, hm15, [⟨3, .zero, ⟨.zero, []⟩, none, 0, 0, x.v.view, ca, cn, cc, cl⟩], ⟨⟨?_, fun _ g off e hg => ?_⟩, fun o ho => ?_⟩, by rw [hz.out]; show [Ov.mk 3 .zero ⟨.zero, []⟩ x.v.view (cl.map (·.v))] = _; rw [hcv, hcv15.out]; rfl, fun g off e => ?_, by rw [← hm]; exact hk15.out.trans (KpO.ofBelow (O := fun _ => False) b17) (fun g hg => hg.elim)⟩
                  · rw [List.flatMap_cons, List.flatMap_nil, List.append_nil]
                    exact hR17
                  · have := hF15 g hg
                    injection e with e
                    injection e with e
                    omega
                  · obtain rfl := List.mem_singleton.1 ho
                    exact ⟨RdF.nil, Itm.zero_wf, RdF.nil, hcl.below hb1, fun x hx => (hci x hx).below hb1, hcll⟩
                  · injection e with e
                    injection e with e
                    have := hk15.out.size
                    omega
                · have hz := Lib.hid (hD4.out.trans (if_neg (by rw [← hagS.out]; exact he)))
                  rw [decide_eq_false he]
                  clear he hD4
                  go_wp2
                  go_ret
                  exact ⟨{ s with agr := ag }, none, 0, 0, [], rfl, h12, by rw [hz.out, hagS.out], rfl, RdO.nil, by rw [hz.out]; rfl, (fun g off e => by cases e), hk12.out⟩
end Go.Proofs.YteeeikkapnchlaaDoor
