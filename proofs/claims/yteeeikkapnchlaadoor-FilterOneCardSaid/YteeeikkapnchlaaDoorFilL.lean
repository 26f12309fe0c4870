/- filter: the statements' awake -/
import Derived.Test.YteeeikkapnchlaaDoorFilK
namespace Go.Proofs.YteeeikkapnchlaaDoor
set_option linter.unusedSimpArgs false
set_option linter.unusedVariables false
open Go.RowKit Go.Sort
def aR1 : Rc := ⟨⟨0, 0, 0, 1⟩, []⟩
def aX0 : Itm := ⟨0, ⟨#[]⟩, 5, 0, false, false, ⟨.zero, []⟩, .zero, 0, 0, 0⟩
def aX1 : Itm := ⟨2, ⟨#[]⟩, 5, 0, false, false, aR1, .zero, 0, 0, 0⟩
def aV1 : Vw := ⟨1, 2, 0, 1⟩
def aS0 : Fs := ⟨aR1, 0, 0, 0, false, false, [], none, 0⟩
def aS1 : Fs := ⟨aR1, 2, 0, 1, true, false, [], none, 0⟩
def aS2 : Fs := ⟨⟨aR1.last, [aV1]⟩, 2, 0, 1, true, false, [(0, aX1)], some aV1, 0⟩
def aS3 : Fs := ⟨⟨aV1, []⟩, 2, 0, 1, true, true, [(0, aX1)], some aV1, 1⟩
theorem a_reg : regS aS0 2 0 1 = aS1 ∧ regO aS0 aX0 = ⟨1, aX1, ⟨.zero, []⟩, .zero, []⟩ := ⟨rfl, rfl⟩
theorem a_del1 : delS aS1 0 aX1 = (aS2, [⟨2, .zero, ⟨aR1.last, [aV1]⟩, aV1, [aX1]⟩, ⟨1, attI aV1, ⟨.zero, []⟩, .zero, []⟩]) := by kernel_rfl
theorem a_del2 : delS aS2 0 (attI aV1) = (aS3, [⟨3, .zero, ⟨.zero, []⟩, aV1, [aX1]⟩]) := by kernel_rfl
theorem Tryd.aBc : Tryd.prog.built 30 [(0, .int .u64 2)] = some #[.int .u64 2, .int .i64 0] := by kernel_rfl
theorem Tryd.aBi : Tryd.prog.built 45 [(2, .int .u32 5)] = some (iwA ⟨aX0, none, 0, 0⟩) := by kernel_rfl
theorem Tryd.aBv : Tryd.prog.built 35 [(0, .int .u64 1), (1, .agg #[.int .u64 2, .int .i64 0]), (2, .int .u64 1)] = some (vwA aV1) := by kernel_rfl
theorem aR1_wf : aR1.Wf := ⟨⟨by decide, by decide⟩, fun v hv => by cases hv⟩
theorem map_v1 {os : List Ow} {x : Ov} (h : os.map (·.v) = [x]) : ∃ o, os = [o] ∧ o.v = x := by
  cases os with
  | nil => cases h
  | cons o os =>
    cases os with
    | nil => exact ⟨o, rfl, by injection h⟩
    | cons _ _ => injection h with _ h; cases h
theorem map_v2 {os : List Ow} {x y : Ov} (h : os.map (·.v) = [x, y]) : ∃ o q, os = [o, q] ∧ o.v = x ∧ q.v = y := by
  cases os with
  | nil => cases h
  | cons o os =>
    injection h with h1 h2
    obtain ⟨q, rfl, h3⟩ := map_v1 h2
    exact ⟨o, q, rfl, h1, h3⟩
theorem aw_new {w0 w : World} {F : Nat → Prop} {l : List (Nat × Fw)} (h : FL w0 w F l) : Calls Tryd.prog 9 #[.agg #[.int .u64 0, .int .u64 0, .int .i64 0, .int .u64 1, .slice none 0 0]] w fun e w' => ∃ (b : Nat) (s' : Fw) (F' : Nat → Prop), e = .returned (.pointer (some ⟨b, 0, none⟩)) ∧ FL w0 w' F' (l ++ [(b, s')]) ∧ s'.s = aS0 :=
  (h.fresh aR1 none 0 0 aR1_wf (Nat.zero_le _) (RdV.nil w)).mono fun e w' ⟨b, s', F', h1, h2, h3, _⟩ => ⟨b, s', F', h1, h2, h3⟩
theorem aw_reg {w0 w : World} {F : Nat → Prop} {b : Nat} {s : Fw} (h : FL w0 w F [(b, s)]) (hs : s.s = aS0) : Calls Tryd.prog 10 #[.pointer (some ⟨b, 0, none⟩), .agg #[.int .u64 2, .int .i64 0], .int .u64 1, .agg (iwA ⟨aX0, none, 0, 0⟩)] w fun e w' => ∃ (s' : Fw) (F' : Nat → Prop) (a : Option Addr) (c : Nat) (o : Ow), e = .returned (.slice a 1 c) ∧ FL w0 w' F' [(b, s')] ∧ s'.s = aS1 ∧ RdO F' w' a 1 c [o] ∧ o.v = ⟨1, aX1, ⟨.zero, []⟩, .zero, []⟩ :=
  (h.regular (i := 0) rfl ⟨aX0, none, 0, 0⟩ 2 0 1 (by decide) vz_wf).mono fun e w' ⟨s', F', a, c, o, h1, h2, h3, _, _, h4, h5, _⟩ => ⟨s', F', a, c, o, h1, h2, h3.trans (by rw [hs]; exact a_reg.1), h4, h5.trans (by rw [hs]; exact a_reg.2)⟩
theorem aw_del1 {w0 w : World} {F : Nat → Prop} {b : Nat} {s : Fw} (x : Iw) (h : FL w0 w F [(b, s)]) (hs : s.s = aS1) (hx : RdV w x.pa x.pn x.pc x.v.rc.pend) (hv : x.v = aX1) (hw : x.v.Wf) : Calls Tryd.prog 12 #[.pointer (some ⟨b, 0, none⟩), .int .i64 0, .agg (iwC x).toArray] w fun e w' => ∃ (s' : Fw) (a : Option Addr) (c : Nat) (o q : Ow), e = .returned (.slice a 2 c) ∧ FL w0 w' F [(b, s')] ∧ s'.s = aS2 ∧ RdO F w' a 2 c [o, q] ∧ o.v = ⟨2, .zero, ⟨aR1.last, [aV1]⟩, aV1, [aX1]⟩ ∧ q.v = ⟨1, attI aV1, ⟨.zero, []⟩, .zero, []⟩ := by
  refine (h.deliver (i := 0) rfl 0 x hx hw).mono ?_
  rintro e w' ⟨s', a, n, c, os, rfl, h2, h3, h4, h5, _⟩
  rw [hs, hv, a_del1] at h3 h5
  obtain ⟨o, q, rfl, e1, e2⟩ := map_v2 h5
  obtain rfl : n = 2 := h4.len.symm
  exact ⟨s', a, c, o, q, rfl, h2, h3, h4, e1, e2⟩
theorem aw_del2 {w0 w : World} {F : Nat → Prop} {b : Nat} {s : Fw} (x : Iw) (h : FL w0 w F [(b, s)]) (hs : s.s = aS2) (hx : RdV w x.pa x.pn x.pc x.v.rc.pend) (hv : x.v = attI aV1) (hw : x.v.Wf) : Calls Tryd.prog 12 #[.pointer (some ⟨b, 0, none⟩), .int .i64 0, .agg (iwC x).toArray] w fun e w' => ∃ (s' : Fw) (a : Option Addr) (c : Nat) (o : Ow), e = .returned (.slice a 1 c) ∧ FL w0 w' F [(b, s')] ∧ s'.s = aS3 ∧ RdO F w' a 1 c [o] ∧ o.v = ⟨3, .zero, ⟨.zero, []⟩, aV1, [aX1]⟩ := by
  refine (h.deliver (i := 0) rfl 0 x hx hw).mono ?_
  rintro e w' ⟨s', a, n, c, os, rfl, h2, h3, h4, h5, _⟩
  rw [hs, hv, a_del2] at h3 h5
  obtain ⟨o, rfl, e1⟩ := map_v1 h5
  obtain rfl : n = 1 := h4.len.symm
  exact ⟨s', a, c, o, rfl, h2, h3, h4, e1⟩
theorem wpList_blk_build_g {P : Program} {w : World} {ops : Array Oper} {rest : List Oper} {o : Oper} {a : Act} {Q : Exit → Act → World → Prop} {t : TypeId} (hw : Region.wanted o (yielded ops a.tmps) = true) (parts : Array (Nat × Operand)) (ho : o.op = .build t parts) {cs : Array Value}
    (hf : P.built t (parts.map fun (i, x) => (i, a.eval x)).toList = some cs) (h : wpList P ops Q rest (a.put o.dst (.agg cs)) w) : wpList P ops Q (o :: rest) a w :=
  wpList_step fun K hK => by
    rw [if_pos hw]
    exact wp_build t parts ho (by rw [hf]; rfl) (by rw [hf]; exact hK _ _ h)
theorem Tryd.run_fld (v : Vw) (a : Option Addr) (n c : Nat) (W : World) : (Instr.field 38 (.agg #[.int .u64 v.num, .int .u64 v.ce, .int .i64 v.cr, .int .u64 v.mem, .slice a n c]) 1).run Tryd.prog W = .ok (.slice a n c) W := by kernel_rfl
theorem Ow.cl_len {F : Nat → Prop} {w : World} {o : Ow} (h : OwF F w o) : o.cl.length = o.cn := by
  have := h.cl.1.length_eq
  rw [flatMap_len iwC_len] at this
  omega
set_option maxHeartbeats 6400000 in
set_option maxRecDepth 100000 in
theorem awake_any (w : World) (hT : Tab w) : Calls Tryd.prog 6 #[] w fun e w' => e = .returned (.bool true) ∧ Below w.heap.size w w' := by
  have h1 := first_any 1 w
  rw [show allN 1 = 1 from by decide] at h1
  replace h1 := Lib.hid h1
  go_enter Tryd.func6, Tryd.ntmps6
  go_wp2_with fail
  refine h1.out.mono ?_
  rintro e w1 ⟨rfl, hb1⟩
  have hL1 := Lib.hid (FL.start hT hb1)
  clear hT hb1 h1
  go_wp2_with fail
  refine (aw_new hL1.out).mono ?_
  rintro e w2 ⟨b, s2, F2, rfl, hL2, hs2⟩
  replace hL2 := Lib.hid hL2
  replace hs2 := Lib.hid hs2
  clear hL1
  go_wp2_with (first
    | (refine wpList_blk_build (cs := #[.int .u64 2, .int .i64 0]) rfl #[(0, .const (.int .u64 2))] rfl (by rw [List.map_toArray]; exact Tryd.aBc) ?_)
    | (refine wpList_blk_build (cs := iwA ⟨aX0, none, 0, 0⟩) rfl #[(2, .const (.int .u32 5))] rfl (by rw [List.map_toArray]; exact Tryd.aBi) ?_))
  refine (aw_reg hL2.out hs2.out).mono ?_
  rintro e w3 ⟨s3, F3, a3, c3, o, rfl, hL3, hs3, hO3, hov⟩
  obtain ⟨g, off, rfl, hg⟩ := Rd.addr hO3.1.1 (by decide)
  obtain ⟨o1, o2, o3, o4, o5⟩ := Ow.parts hO3.1.1 0 (by simp)
  simp only [Nat.zero_mul, Nat.add_zero, List.getElem_cons_zero] at o1 o2 o3 o4 o5
  have ek : o.kind = 1 := congrArg Ov.kind hov
  have ei : o.it.v = aX1 := congrArg Ov.it hov
  rw [ek] at o4
  have q1 : w3.cell? ⟨g, off + 1, none⟩ = some (.int .i64 2) := by have := o1 0 (.int .i64 o.it.v.kind) rfl; rw [ei] at this; exact this
  have q3 : w3.cell? ⟨g, off + 3, none⟩ = some (.int .u32 5) := by have := o1 2 (.int .u32 o.it.v.inc) rfl; rw [ei] at this; exact this
  have hix := (hO3.2 o (by simp)).it.1
  have hiw := (hO3.2 o (by simp)).iwf
  have hiL := Tryd.iwL o.it
  replace hL3 := Lib.hid hL3
  replace hs3 := Lib.hid hs3
  replace hix := Lib.hid hix
  replace ei := Lib.hid ei
  clear hL2 hs2 hO3 hov ek o2 o3 o5
  go_wp2_with (first
    | (refine wpList_load_mid rfl _ (.tmp 42) rfl g (off + 1) rfl (iwC o.it) _ o1 Tryd.underlying45 rfl hiL ?_))
  refine (aw_del1 o.it hL3.out hs3.out hix.out ei.out hiw).mono ?_
  rintro e w4 ⟨s4, a4, c4, o4, p4, rfl, hL4, hs4, hO4, hov, hpv⟩
  obtain ⟨g4, off4, rfl, _⟩ := Rd.addr hO4.1.1 (by decide)
  obtain ⟨_, o2, _, o4k, _⟩ := Ow.parts hO4.1.1 0 (by simp)
  obtain ⟨p1, _, _, _, _⟩ := Ow.parts hO4.1.1 1 (by simp)
  simp only [Nat.zero_mul, Nat.one_mul, Nat.add_zero, List.getElem_cons_zero, List.getElem_cons_succ] at o2 o4k p1
  rw [show o4.kind = 2 from congrArg Ov.kind hov] at o4k
  have eo4 : o4.rn = 1 := by
    have h1 := RdV.len (hO4.2 o4 (by simp)).rd.1
    rw [show o4.rc = ⟨aR1.last, [aV1]⟩ from congrArg Ov.rc hov] at h1
    exact h1.symm
  have q23 : w4.cell? ⟨g4, off4 + 23, none⟩ = some (.slice o4.ra 1 o4.rk) := by have := o2 4 (.slice o4.ra o4.rn o4.rk) rfl; rw [eo4] at this; exact this
  have epi : p4.it.v = attI aV1 := congrArg Ov.it hpv
  have q30 : w4.cell? ⟨g4, off4 + 29 + 1, none⟩ = some (.int .i64 3) := by have := p1 0 (.int .i64 p4.it.v.kind) rfl; rw [epi] at this; exact this
  have hpx := (hO4.2 p4 (by simp)).it.1
  have hpw := (hO4.2 p4 (by simp)).iwf
  have hpL := Tryd.iwL p4.it
  replace hL4 := Lib.hid hL4
  replace hs4 := Lib.hid hs4
  replace hpx := Lib.hid hpx
  replace epi := Lib.hid epi
  clear hL3 hs3 hO4 hov hpv o2 o1 q1 q3 hix ei hiw eo4
  go_wp2_with (first
    | (refine wpList_load_mid rfl _ (.tmp 75) rfl g4 (off4 + 29 + 1) rfl (iwC p4.it) _ p1 Tryd.underlying45 rfl hpL ?_))
  refine (aw_del2 p4.it hL4.out hs4.out hpx.out epi.out hpw).mono ?_
  rintro e w5 ⟨s5, a5, c5, r, rfl, hL5, hs5, hO5, hrv⟩
  obtain ⟨g5, off5, rfl, _⟩ := Rd.addr hO5.1.1 (by decide)
  obtain ⟨_, _, r3, r4, r5⟩ := Ow.parts hO5.1.1 0 (by simp)
  simp only [Nat.zero_mul, Nat.add_zero, List.getElem_cons_zero] at r3 r4 r5
  rw [show r.kind = 3 from congrArg Ov.kind hrv] at r4
  rw [show r.view = aV1 from congrArg Ov.view hrv] at r3
  have er5 : r.cn = 1 := by
    have h1 := Ow.cl_len (hO5.2 r (by simp))
    rw [← h1]
    have := congrArg (fun o : Ov => o.cl.length) hrv
    simpa [Ow.v] using this
  rw [er5] at r5
  have HE := fun W => run_eql_vw W aV1 aV1
  rw [show veq aV1 aV1 = true from veq_eq.2 rfl] at HE
  replace HE := Lib.hid HE
  have hvL : (Tryd.prog.info? 35).map (·.size) = some ([.int .u64 aV1.num, .int .u64 aV1.ce, .int .i64 aV1.cr, .int .u64 aV1.mem] : List Value).length := by show _ = some 4; kernel_rfl
  have hA5 := hL5.at_ 0 (b, s5) rfl
  have hfm := formedA s5 b w5 hA5
  have hrec := recordA s5 b w5 hA5
  rw [show s5.formed = true from congrArg Fs.formed hs5] at hfm
  have hrn : s5.rn = 0 := by
    have h1 := hA5.len
    rw [show s5.rc = ⟨aV1, []⟩ from congrArg Fs.rc hs5] at h1
    exact h1.symm
  rw [hrn] at hrec
  have hbF := hL5.bel
  replace hfm := Lib.hid hfm
  replace hrec := Lib.hid hrec
  clear hL4 hs4 hL5 hs5 hO5 hrv p1 q30 q23 o4k hpx hpw epi hA5 hrn er5
  go_wp2_with (first
    | (refine wpList_load_mid_g (by first | rfl | simp [Region.wanted, go_sem]) _ (.tmp 91) rfl g5 (off5 + 24) rfl [.int .u64 aV1.num, .int .u64 aV1.ce, .int .i64 aV1.cr, .int .u64 aV1.mem] _ r3 Tryd.underlying35 rfl hvL ?_)
    | (refine wpList_blk_build_g (cs := #[.int .u64 2, .int .i64 0]) (by first | rfl | simp [Region.wanted, go_sem]) #[(0, .const (.int .u64 2))] rfl (by rw [List.map_toArray]; exact Tryd.aBc) ?_)
    | (refine wpList_blk_build_g (cs := vwA aV1) (by first | rfl | simp [Region.wanted, go_sem]) #[(0, .const (.int .u64 1)), (1, .tmp 93), (2, .const (.int .u64 1))] rfl (by rw [List.map_toArray]; exact Tryd.aBv) ?_)
    | (refine wpList_agg_g (by first | rfl | simp [Region.wanted, go_sem]) Tryd.viewG (.tmp 92) (.tmp 94) _ rfl rfl rfl HE.out ?_))
  refine hfm.out.mono ?_
  rintro e w' ⟨rfl, rfl⟩
  clear r3 r4 r5
  go_wp2_with fail
  refine hrec.out.mono ?_
  rintro e w6 ⟨ra, rc, rfl, _, _, hb6⟩
  have hbZ := belS hbF hb6
  have hfl := fun W => Tryd.run_fld s5.rc.last ra 0 rc W
  go_wp2
  go_ret
  exact ⟨rfl, hbZ⟩
end Go.Proofs.YteeeikkapnchlaaDoor
