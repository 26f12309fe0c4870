/- filter: try -/
import Derived.Test.YteeeikkapnchlaaDoorFilD
namespace Go.Proofs.YteeeikkapnchlaaDoor
set_option linter.unusedSimpArgs false
set_option linter.unusedVariables false
open Go.RowKit Go.Sort
/-- The record's cells of an item. -/
def rcC (x : Iw) : List Value := [.int .u64 x.v.rc.last.num, .int .u64 x.v.rc.last.ce, .int .i64 x.v.rc.last.cr, .int .u64 x.v.rc.last.mem, .slice x.pa x.pn x.pc]
theorem rcC_len (x : Iw) : (rcC x).length = 5 := rfl
theorem rcC_one (x : Iw) : ∀ u ∈ rcC x, u.oneCell' = true := by
  intro u hu
  simp only [rcC, List.mem_cons, List.not_mem_nil, or_false] at hu
  rcases hu with rfl | rfl | rfl | rfl | rfl <;> rfl
theorem Tryd.rcE : Elt Tryd.prog 22 38 (.agg #[.int .u64 0, .int .u64 0, .int .i64 0, .int .u64 0, .slice none 0 0]) 5 56 := ⟨by kernel_rfl, by kernel_rfl, rfl, by decide⟩
theorem RdR.ofIw {w : World} {a : Option Addr} {n c : Nat} {cl : List Iw} (h : Rd w 5 a n c (cl.flatMap rcC)) (hc : ∀ x ∈ cl, RdV w x.pa x.pn x.pc x.v.rc.pend) : RdR w a n c (cl.map fun x => x.v.rc) := by
  have hl := h.length_eq
  rw [flatMap_len rcC_len] at hl
  refine ⟨⟨by rw [List.length_map]; omega, h.1.2⟩, ?_⟩
  rcases h.2 with h0 | ⟨b, off, rfl, hlt, hcs⟩
  · exact .inl h0
  · refine .inr ⟨b, off, rfl, hlt, fun i hi => ?_⟩
    have hi' : i < cl.length := by simpa using hi
    rw [List.getElem_map]
    have hj : ∀ j v, (rcC cl[i])[j]? = some v → j < 5 → w.cell? ⟨b, off + i * 5 + j, none⟩ = some v := fun j v hv h8 => by
      have h0 := flatMap_get (f := rcC) (sz := 5) rcC_len cl i j h8
      rw [List.getElem?_eq_getElem hi'] at h0
      rw [Nat.add_assoc]; exact hcs _ _ (h0.trans hv)
    exact ⟨cl[i].pa, cl[i].pn, cl[i].pc, ⟨hj 0 _ rfl (by decide), hj 1 _ rfl (by decide), hj 2 _ rfl (by decide), hj 3 _ rfl (by decide), hj 4 _ rfl (by decide)⟩, hc _ (List.getElem_mem hi')⟩
theorem iw_range {w : World} {b off n c : Nat} {cl : List Iw} (h : Rd w 18 (some ⟨b, off, none⟩) n c (cl.flatMap iwC)) (k : Nat) (hk : k < cl.length) : w.rangeAt b (off + k * 18) (iwC cl[k]) := by
  intro j v hj
  have hlt : j < 18 := (List.getElem?_eq_some_iff.1 hj).1
  rw [Nat.add_assoc]
  refine Rd.at h ((flatMap_get iwC_len cl k j hlt).trans ?_)
  rw [List.getElem?_eq_getElem hk]
  exact hj
theorem Tryd.bldV (n ce : Nat) (cr : Int) (mem : Nat) : Tryd.prog.built 35 [(0, .int .u64 n), (1, .agg #[.int .u64 ce, .int .i64 cr]), (2, .int .u64 mem)] = some (vwA ⟨n, ce, cr, mem⟩) := by kernel_rfl
def tryV (s : Fs) : Vw := ⟨nextL ((claimsV s).map (·.rc)), s.ce, s.cr, s.mem⟩
def tryR (s : Fs) : Rc := ⟨s.rc.last, s.rc.pend ++ [tryV s]⟩
def tryOk (s : Fs) : Bool := mayB s.mem ((claimsV s).map (·.rc)) && decide (s.rc.pend.length < 32)
def attI (v : Vw) : Itm := ⟨3, ⟨#[]⟩, 0, 0, false, false, ⟨.zero, []⟩, v, 0, 0, 0⟩
def tryS (s : Fs) : Fs × List Ov :=
  if tryOk s = true then ({ s with rc := tryR s, tried := some (tryV s) }, [⟨2, .zero, tryR s, tryV s, claimsV s⟩, ⟨1, attI (tryV s), ⟨.zero, []⟩, .zero, []⟩]) else (s, [])
theorem step_buildSlice2 {P : Program} {w : World} {ops : Array Oper} {o : Oper} {a : Act} {K : Act → World → Prop} {Q : Exit → Act → World → Prop} {E' : Prop} (d : Option Tmp) (hd : o.dst = d) (hgd : o.guard = none) (t e : TypeId) (x y : Operand) (ho : o.op = .buildSlice t 2 #[(0, x), (1, y)])
    {z : Value} {size bytes : Nat} (E : Elt P t e z size bytes) (hsm : size ≤ 1000) {cs ds : List Value} (hx : a.eval x = .agg cs.toArray) (hy : a.eval y = .agg ds.toArray) (hs : cs.length = size) (hs2 : ds.length = size)
    (h : K (a.put d (.slice (some ⟨w.heap.size, 0, none⟩) 2 2)) (w.alloc (.cells (cs ++ ds).toArray e))) : if Region.wanted o (yielded ops a.tmps) = true then Oper.wp P o a w K Q else E' := by
  refine step_buildSlice d hd hgd t e 2 #[(0, x), (1, y)] ho E (by decide) (by omega) (cs ++ ds).toArray ?_ h
  have he : (#[(0, x), (1, y)] : Array (Nat × Operand)).map (fun (i, x) => (i, a.eval x)) = #[(0, .agg cs.toArray), (1, .agg ds.toArray)] := by rw [← hx, ← hy, List.map_toArray]; rfl
  rw [he]
  have := Great.fill_whole (s := size) E.pos [.agg cs.toArray, .agg ds.toArray] ((Array.range (2 * size)).map (z.cells[· % z.cells.size]!)) (by intro v hv; simp at hv; rcases hv with rfl | rfl <;> simpa [Value.cells]) (by simp)
  rw [show (([Value.agg cs.toArray, .agg ds.toArray].zipIdx 0).map fun x => (x.2, x.1)) = [(0, Value.agg cs.toArray), (1, .agg ds.toArray)] from rfl] at this
  rw [this, List.flatMap_cons, List.flatMap_cons, List.flatMap_nil, List.append_nil]
  rfl
theorem Rd.lit2 {w : World} {e : TypeId} {cs ds : List Value} {sz b : Nat} (hb : b = w.heap.size) (hs : cs.length = sz) (hs2 : ds.length = sz) : Rd (w.alloc (.cells (cs ++ ds).toArray e)) sz (some ⟨b, 0, none⟩) 2 2 (cs ++ ds) := by
  subst hb
  refine ⟨⟨by rw [List.length_append]; omega, Nat.le_refl _, by decide, fun h => by cases h⟩, .inr ⟨_, 0, rfl, by simp, fun j u' hu => ?_⟩⟩
  rw [World.cell?_alloc_at _ _ _ _ rfl]
  simpa using hu
theorem Tryd.bldW (o : Ow) : Tryd.prog.built 47 [(0, .int .i64 2), (2, .agg #[.int .u64 o.rc.last.num, .int .u64 o.rc.last.ce, .int .i64 o.rc.last.cr, .int .u64 o.rc.last.mem, .slice o.ra o.rn o.rk]), (3, .agg (vwA o.view)), (4, .slice o.ca o.cn o.ck)] = some (owA ⟨2, .zero, o.rc, o.ra, o.rn, o.rk, o.view, o.ca, o.cn, o.ck, o.cl⟩) := by kernel_rfl
theorem Tryd.bldI (v : Vw) : Tryd.prog.built 45 [(0, .int .i64 3), (7, .agg (vwA v))] = some (iwA ⟨attI v, none, 0, 0⟩) := by kernel_rfl
theorem claims_wf {s : Fw} (h : s.Ok) : ∀ x ∈ claimsV s.s, x.Wf := by
  intro x hx
  obtain ⟨p, _, rfl⟩ := List.mem_map.1 hx
  show ((tGet (s.told.map fun p => (p.1, p.2.v)) p).getD .zero).Wf
  rw [← wGet_v]
  cases e : wGet s.told p with
  | none => exact Itm.zero_wf
  | some y => exact (h.told _ (wGet_mem e)).1
theorem nextL_lt (l : List Rc) (h : ∀ r ∈ l, r.Wf) : nextL l < 18446744073709551616 := by
  have := maxR_lt (l := l) (z := 0) (by decide) h
  unfold nextL sumN
  split <;> omega
theorem tot_le_of (l : List Rc) (h : ∀ r ∈ l, r.pend.length ≤ 1000) : tot l ≤ l.length * 1000 := by
  induction l with
  | nil => exact Nat.le_refl _
  | cons r l ih =>
    have h1 := h r (List.mem_cons_self ..)
    have h2 := ih (fun x hx => h x (List.mem_cons_of_mem _ hx))
    have : tot (r :: l) = r.pend.length + tot l := by simp [tot]
    rw [this, List.length_cons]
    omega
set_option maxHeartbeats 6400000 in
set_option maxRecDepth 100000 in
theorem try_any {F : Nat → Prop} (s : Fw) (b m : Nat) (w : World) (hT : Tab w) (hF : ∀ g, F g → g < w.heap.size) (h : FAt F w b s) (hm : s.mb = some m) :
    Calls Tryd.prog 28 #[.pointer (some ⟨b, 0, none⟩)] w fun e w' => ∃ (s' : Fw) (a : Option Addr) (n c : Nat) (os : List Ow), e = .returned (.slice a n c) ∧ FAt F w' b s' ∧ s'.s = (tryS s.s).1 ∧ s'.mb = s.mb ∧ RdO F w' a n c os ∧ os.map (·.v) = (tryS s.s).2 ∧ (∀ g off, a = some ⟨g, off, none⟩ → w.heap.size ≤ g) ∧ KpO (OwnF b none) w w' := by
  have HC := Lib.hid (claims_any s b m w hT hF h hm)
  have hcw := claims_wf h.ok
  have h0 := Lib.hid h
  have hc64 := cardN_le s.mem
  have hmem := h.ok.mem
  obtain ⟨cn, hcn⟩ : ∃ z, z = cardN s.mem := ⟨_, rfl⟩
  rw [← hcn] at HC hc64
  have hlt := h.blk.lt
  clear h hcn
  go_enter Tryd.func28, Tryd.ntmps28
  go_wp2_with fail
  refine HC.out.mono ?_
  rintro e w2 ⟨ca, cc, cl, rfl, hcl, hci, hcv, hcf, hb2⟩
  have h2 := Lib.hid (h0.out.below hb2)
  have hF2 : Hid (∀ g, F g → g < w2.heap.size) := Lib.hid (fun g hg => Nat.lt_of_lt_of_le (hF g hg) hb2.size)
  have hcn : cl.length = cn := by
    have := hcl.1.length_eq
    rw [flatMap_len iwC_len] at this
    omega
  have hcn' := Lib.hid hcn
  replace hcl := Lib.hid hcl
  replace hci := Lib.hid hci
  replace hb2 := Lib.hid hb2
  replace hcf := Lib.hid hcf
  have hcw2 : Hid (∀ x ∈ cl, x.v.Wf) := Lib.hid (fun x hx => hcw x.v (hcv ▸ List.mem_map.2 ⟨x, hx, rfl⟩))
  replace hcv := Lib.hid hcv
  clear hcw hcn HC
  go_wp2
  go_loopw [3, 6, 14] (fun ov _ iv wr => ∃ (i : Nat) (a : Option Addr) (c : Nat), i ≤ cn ∧ iv = .int .i64 i ∧ ov = .slice a i c ∧ Hid (wr.ownsRow w2.heap.size 38 5 (.slice a i c) i ((cl.take i).flatMap rcC)) ∧ Hid (Below w2.heap.size w2 wr)) (fun _ _ iv _ => cn - (RowKit.intOf iv).toNat)
  case atStart => exact ⟨0, none, 0, Nat.zero_le _, rfl, rfl, Lib.hid (World.ownsRow_nil _ _ _ _), Lib.hid (Below.refl _ _)⟩
  case round =>
    obtain ⟨i, a, c, hi, rfl, rfl, hR, hbr⟩ := hrel
    obtain ⟨wo, rfl⟩ : ∃ z, z = wr := ⟨_, rfl⟩
    by_cases hin : i < cn
    · have hiI : (i : Int) < cn := by omega
      have hil : i < cl.length := by rw [hcn'.out]; exact hin
      obtain ⟨gl, ol, rfl, _⟩ := Rd.addr hcl.out.1 (by omega)
      have hst := Lib.hid (show (cl.take (i + 1)).flatMap rcC = (cl.take i).flatMap rcC ++ rcC cl[i] from by rw [List.take_succ_eq_append_getElem hil, List.flatMap_append, List.flatMap_cons, List.flatMap_nil, List.append_nil])
      have hrg := iw_range (Rd.below hcl.out.1 hbr.out (Nat.le_refl _)) i hil
      generalize cl[i] = y at *
      have hZ := BlkAt.new wo 45 (iwA .zero)
      have hyL := Tryd.iwL y
      have hw2o := hbr.out.size
      go_upto_region 6 with (first
        | (refine wpList_load_mid rfl _ (.tmp 16) rfl gl (ol + i * 18) rfl (iwC y) _ hrg Tryd.underlying45 rfl hyL ?_)
        | (refine wpList_blk_alloc rfl rfl Tryd.iwZ wo.heap.size rfl ?_)
        | (refine wpList_blk_store (cs := iwA y) rfl (.tmp 6) (.tmp 17) rfl rfl rfl hZ (Tryd.iwI _) rfl (iwA_one y) ?_; intro w4 hB4 hK4 hsz4))
      have hb4 := alloc_store hK4
      have hb4s := hb4.size
      have hR5 := own_belowB hR.out (hb4.alloc hb4.size (.cells (rcC y).toArray 38))
      clear hZ hrg
      go_wp2_with (first
        | (refine wpList_blk_get (cs := #[.int .u64 y.v.rc.last.num, .int .u64 y.v.rc.last.ce, .int .i64 y.v.rc.last.cr, .int .u64 y.v.rc.last.mem, .slice y.pa y.pn y.pc]) rfl (.tmp 19) rfl rfl hB4 Tryd.underlying38 rfl Tryd.recI (iwA_rec y) ?_)
        | (refine wpList_buildSlice1 rfl 22 38 (.tmp 20) rfl Tryd.rcE (by decide) rfl rfl ?_)
        | (at_builtin; refine wpList_append_rd Tryd.rcE rfl (.tmp 18) (.tmp 21) rfl hR5 rfl (Rd.lit1 (cs := rcC y) (by first | rfl | exact hsz4.symm) rfl) rfl (rcC_one _) (by unfold maxLen; omega) (by omega) (by simp; omega) ?_; intro v' w8 ho8 hg8; obtain ⟨a', c', rfl, _⟩ := Rd.own ho8))
      have hbN := Lib.hid (belG (hbr.out.trans ((hb4.alloc hb4.size _).mono hw2o)) hg8 (by simp; omega) (fun g hg => (hR5.lt g hg).1))
      go_roundw
      case rel => exact ⟨i + 1, a', c', by omega, by go_num, rfl, Lib.hid (by rw [hst.out]; exact ho8), hbN⟩
      case measure => simp [RowKit.intOf]; omega
    · obtain rfl : i = cn := by omega
      have hrow : RdR wo a i c ((claimsV s.s).map (·.rc)) := by
        obtain ⟨_, _, e, hrd⟩ := Rd.own hR.out
        injection e with e1 _ e3
        subst e1 e3
        rw [List.take_of_length_le (Nat.le_of_eq hcn'.out)] at hrd
        have := RdR.ofIw hrd (fun x hx => ((hci.out x hx).below hbr.out).1)
        rw [← hcv.out, List.map_map]
        exact this
      have hll : ((claimsV s.s).map (·.rc)).length = i := by rw [List.length_map, ← hcv.out, List.length_map, hcn'.out]
      have hlw : ∀ r ∈ (claimsV s.s).map (·.rc), r.Wf ∧ r.pend.length ≤ 1000 := by
        intro r hr
        rw [← hcv.out, List.map_map] at hr
        obtain ⟨x, hx, rfl⟩ := List.mem_map.1 hr
        exact ⟨(hcw2.out x hx).1, (hcw2.out x hx).2.2⟩
      have htot := tot_le_of _ (fun r hr => (hlw r hr).2)
      have htot2 : tot ((claimsV s.s).map (·.rc)) ≤ 1000000 := by rw [hll] at htot; omega
      have hnlt := nextL_lt _ (fun r hr => (hlw r hr).1)
      have HN := Lib.hid (fun W (hb : Below wo.heap.size wo W) => next_any a i c _ (fun r hr => (hlw r hr).1) W (hrow.below hb))
      have HM := Lib.hid (fun W (hb : Below wo.heap.size wo W) => may_any s.mem hmem a i c _ (fun r hr => (hlw r hr).1) htot2 W (hrow.below hb))
      obtain ⟨v, hv⟩ : ∃ z, z = tryV s.s := ⟨_, rfl⟩
      have hvn : Hid (v.num = nextL ((claimsV s.s).map (·.rc)) ∧ v.ce = s.ce ∧ v.cr = s.cr ∧ v.mem = s.mem) := Lib.hid (by rw [hv]; exact ⟨rfl, rfl, rfl, rfl⟩)
      have hvw : Hid v.Wf := Lib.hid ⟨by rw [hvn.out.1]; exact hnlt, by rw [hvn.out.2.2.2]; exact hmem⟩
      obtain ⟨mayb, hmayb⟩ : ∃ z, z = mayB s.mem ((claimsV s.s).map (·.rc)) := ⟨_, rfl⟩
      rw [← hvn.out.1] at HN
      rw [← hmayb] at HM
      have hok : Hid (tryOk s.s = (mayb && decide (s.rc.pend.length < 32))) := Lib.hid (by rw [hmayb]; rfl)
      have hTS : Hid (tryS s.s = if tryOk s.s = true then ({ s.s with rc := ⟨s.rc.last, s.rc.pend ++ [v]⟩, tried := some v }, [⟨2, .zero, ⟨s.rc.last, s.rc.pend ++ [v]⟩, v, cl.map (·.v)⟩, ⟨1, attI v, ⟨.zero, []⟩, .zero, []⟩]) else (s.s, [])) := Lib.hid (by rw [hv, hcv.out]; rfl)
      have ho := Lib.hid (h2.out.below hbr.out)
      have hFo : Hid (∀ g, F g → g < wo.heap.size) := Lib.hid (fun g hg => Nat.lt_of_lt_of_le (hF2.out g hg) hbr.out.size)
      have hclo := Lib.hid (hcl.out.below hbr.out)
      have hcio := Lib.hid (fun x hx => (hci.out x hx).below hbr.out)
      have hbo := Lib.hid (belS hb2.out hbr.out)
      have hlo := ho.out.blk.lt
      replace hv := Lib.hid hv
      replace hmayb := Lib.hid hmayb
      clear hrow hll hlw htot htot2 hnlt hR hbr h2 hF2 hcl hci hb2 hin hi
      go_upto_region 8 with (fail)
      have hSt : Hid (∀ W, Below wo.heap.size wo W → W.rangeAt b 5 [.int .u64 s.ce, .int .i64 s.cr] ∧ W.cell? ⟨b, 7, none⟩ = some (.int .u64 s.mem)) := Lib.hid (fun W hb => ⟨(ho.out.below hb).blk.range (fwA_conf s), (ho.out.below hb).blk.cell rfl⟩)
      have hb0 : Below wo.heap.size wo wo.drew := (Below.refl wo.heap.size wo).drew
      have hcL := Tryd.confL s.ce s.cr
      have hbV : Tryd.prog.built 35 [(0, .int .u64 v.num), (1, .agg #[.int .u64 s.ce, .int .i64 s.cr]), (2, .int .u64 s.mem)] = some (vwA v) := by
        rw [← hvn.out.2.1, ← hvn.out.2.2.1, ← hvn.out.2.2.2]
        exact Tryd.bldV v.num v.ce v.cr v.mem
      go_cut [7] from 24 to 34 (fun p wx => ∃ vb, p = .pointer (some ⟨vb, 0, none⟩) ∧ wo.heap.size ≤ vb ∧ BlkAt wx vb 35 (vwA v) ∧ Below wo.heap.size wo wx)
      case first => as_aux_lemma =>
        refine wp_region_held_drew (S := fun W => W.rangeAt b 5 [.int .u64 s.ce, .int .i64 s.cr] ∧ W.cell? ⟨b, 7, none⟩ = some (.int .u64 s.mem)) (by kernel_rfl) (hSt.out _ hb0) ?_
        intro hHeld
        (refine wpAnyH_take (i := 0) (v := ?_) rfl (by kernel_rfl) (by kernel_rfl) (by kernel_rfl) (fun _ _ _ h => h) (Or.inl ⟨by rfl, ?_⟩) (by assumption) ?_; rotate_left; (focus (intro w hSw; clear hSw; go_simp; (try with_reducible rfl))); (try simp only [Act.put, List.getElem_toArray, List.getElem_cons_zero, List.getElem_cons_succ, List.setIfInBounds_toArray, List.set_cons_zero, List.set_cons_succ]))
        (refine wpAnyH_take (i := 2) (v := ?_) rfl (by kernel_rfl) (by kernel_rfl) (by kernel_rfl) (fun _ _ _ h => h) (Or.inl ⟨by rfl, ?_⟩) (by assumption) ?_; rotate_left; (focus (intro w hSw; clear hSw; go_simp; (try with_reducible rfl))); (try simp only [Act.put, List.getElem_toArray, List.getElem_cons_zero, List.getElem_cons_succ, List.setIfInBounds_toArray, List.set_cons_zero, List.set_cons_succ]))
        (refine wpAnyH_take (i := 3) (v := ?_) rfl (by kernel_rfl) (by kernel_rfl) (by kernel_rfl) (fun _ _ _ h => h) (Or.inl ⟨by rfl, ?_⟩) (by assumption) ?_; rotate_left; (focus (intro w hSw; clear hSw; go_simp; (try with_reducible rfl))); (try simp only [Act.put, List.getElem_toArray, List.getElem_cons_zero, List.getElem_cons_succ, List.setIfInBounds_toArray, List.set_cons_zero, List.set_cons_succ]))
        (refine wpAnyH_take (i := 4) (v := ?_) rfl (by kernel_rfl) (by kernel_rfl) (by kernel_rfl) (fun _ _ _ h => h) (Or.inl ⟨by rfl, ?_⟩) (by assumption) ?_; rotate_left; (focus (intro w hSw; clear hSw; go_simp; (try with_reducible rfl))); (try simp only [Act.put, List.getElem_toArray, List.getElem_cons_zero, List.getElem_cons_succ, List.setIfInBounds_toArray, List.set_cons_zero, List.set_cons_succ]))
        (refine wpAnyH_take (i := 5) (v := .agg #[.int .u64 s.ce, .int .i64 s.cr]) rfl (by kernel_rfl) (by kernel_rfl) (by kernel_rfl) (fun _ _ _ h => h) (yieldsIf_load_mid (by rfl) 30 (.tmp 28) rfl b 5 rfl [.int .u64 s.ce, .int .i64 s.cr] _ (fun W hW => hW.1) Tryd.underlying30 rfl hcL) (by assumption) ?_; (try simp only [Act.put, List.getElem_toArray, List.getElem_cons_zero, List.getElem_cons_succ, List.setIfInBounds_toArray, List.set_cons_zero, List.set_cons_succ]))
        (refine wpAnyH_take (i := 6) (v := ?_) rfl (by kernel_rfl) (by kernel_rfl) (by kernel_rfl) (fun _ _ _ h => h) (Or.inl ⟨by rfl, ?_⟩) (by assumption) ?_; rotate_left; (focus (intro w hSw; clear hSw; go_simp; (try with_reducible rfl))); (try simp only [Act.put, List.getElem_toArray, List.getElem_cons_zero, List.getElem_cons_succ, List.setIfInBounds_toArray, List.set_cons_zero, List.set_cons_succ]))
        (refine wpAnyH_take (i := 7) (v := ?_) rfl (by kernel_rfl) (by kernel_rfl) (by kernel_rfl) (fun _ _ _ h => h) (Or.inl ⟨by rfl, ?_⟩) (by assumption) ?_; rotate_left; (focus (intro w hSw; clear hSw; go_simp; (try with_reducible rfl))); (try simp only [Act.put, List.getElem_toArray, List.getElem_cons_zero, List.getElem_cons_succ, List.setIfInBounds_toArray, List.set_cons_zero, List.set_cons_succ]))
        (refine wpAnyH_take (i := 8) (v := ?_) rfl (by kernel_rfl) (by kernel_rfl) (by kernel_rfl) (fun _ _ _ h => h) (Or.inl ⟨by rfl, ?_⟩) (by assumption) ?_; rotate_left; (focus (intro w hSw; clear hSw; go_simp; (try with_reducible rfl))); (try simp only [Act.put, List.getElem_toArray, List.getElem_cons_zero, List.getElem_cons_succ, List.setIfInBounds_toArray, List.set_cons_zero, List.set_cons_succ]))
        (refine wpAnyH_take (i := 9) (v := ?_) rfl (by kernel_rfl) (by kernel_rfl) (by kernel_rfl) (fun _ _ _ h => h) (Or.inl ⟨by rfl, ?_⟩) (by assumption) ?_; rotate_left; (focus (intro w hSw; have hc := hSw.2; clear hSw; go_simp; (try with_reducible rfl))); (try simp only [Act.put, List.getElem_toArray, List.getElem_cons_zero, List.getElem_cons_succ, List.setIfInBounds_toArray, List.set_cons_zero, List.set_cons_succ]))
        (refine wpAnyH_ready (rs := [1, 11]) (by kernel_rfl) (by simp) ?_; refine AllReadyH.cons rfl (fun K hK => ?_) (AllReadyH.cons rfl (fun K hK => ?_) AllReadyH.nil))
        · go_simp
          refine (HN.out _ hb0).mono ?_
          rintro e wA ⟨rfl, hbA⟩
          have bA := belS hb0 hbA
          refine hK.out _ _ (hSt.out _ bA) (fun hHeld => ?_)
          clear hK K
          (refine wpAnyH_take (i := 10) (v := .agg (vwA v)) rfl (by kernel_rfl) (by kernel_rfl) (by kernel_rfl) (fun _ _ _ h => h) (yieldsIf_build (by rfl) 35 #[(0, .tmp 25), (1, .tmp 29), (2, .tmp 33)] rfl (by rw [List.map_toArray]; exact hbV)) (by assumption) ?_; (try simp only [Act.put, List.getElem_toArray, List.getElem_cons_zero, List.getElem_cons_succ, List.setIfInBounds_toArray, List.set_cons_zero, List.set_cons_succ]))
          (refine wpAnyH_ready (rs := [11]) (by kernel_rfl) (by simp) ?_; refine AllReadyH.cons rfl (fun K hK => ?_) AllReadyH.nil)
          refine step_blk_alloc rfl rfl Tryd.viewZ wA.heap.size rfl ?_
          (try simp only [Act.put, List.getElem_toArray, List.getElem_cons_zero, List.getElem_cons_succ, List.setIfInBounds_toArray, List.set_cons_zero, List.set_cons_succ])
          have bB := bA.alloc bA.size (.cells (vwA .zero) 35)
          refine hK.out _ _ (hSt.out _ bB) (fun hHeld => ?_)
          clear hK K
          (refine wpAnyH_ready (rs := [12]) (by kernel_rfl) (by simp) ?_; refine AllReadyH.cons rfl (fun K hK => ?_) AllReadyH.nil)
          refine step_blk_store (cs := vwA v) rfl (.tmp 7) (.tmp 34) rfl rfl rfl (BlkAt.new wA 35 (vwA .zero)) (Tryd.viewI _) rfl (vwA_one v) (fun wD hD hKD hsD => ?_)
          (try simp only [Act.put, List.getElem_toArray, List.getElem_cons_zero, List.getElem_cons_succ, List.setIfInBounds_toArray, List.set_cons_zero, List.set_cons_succ])
          have bD := Kp.below bB hKD bA.size bB.size
          refine hK.out _ _ (hSt.out _ bD) (fun hHeld => ?_)
          clear hK K
          refine wpAnyH_done (by kernel_rfl) ?_ _
          go_wp2_with fail
          go_meet
          exact ⟨_, rfl, bA.size, hD, bD⟩
        · refine step_blk_alloc rfl rfl Tryd.viewZ wo.heap.size rfl ?_
          (try simp only [Act.put, List.getElem_toArray, List.getElem_cons_zero, List.getElem_cons_succ, List.setIfInBounds_toArray, List.set_cons_zero, List.set_cons_succ])
          have hZ := BlkAt.new wo.drew 35 (vwA .zero)
          have bB := hb0.alloc hb0.size (.cells (vwA .zero) 35)
          have hlz := hZ.lt
          generalize wo.drew.alloc (.cells (vwA .zero) 35) = wB at *
          refine hK.out _ _ (hSt.out _ bB) (fun hHeld => ?_)
          clear hK K
          (refine wpAnyH_ready (rs := [1]) (by kernel_rfl) (by simp) ?_; refine AllReadyH.cons rfl (fun K hK => ?_) AllReadyH.nil)
          go_simp
          refine (HN.out _ bB).mono ?_
          rintro e wA ⟨rfl, hbA⟩
          have bA := belS bB hbA
          have hZA := hZ.below hbA hlz
          refine hK.out _ _ (hSt.out _ bA) (fun hHeld => ?_)
          clear hK K
          (refine wpAnyH_take (i := 10) (v := .agg (vwA v)) rfl (by kernel_rfl) (by kernel_rfl) (by kernel_rfl) (fun _ _ _ h => h) (yieldsIf_build (by rfl) 35 #[(0, .tmp 25), (1, .tmp 29), (2, .tmp 33)] rfl (by rw [List.map_toArray]; exact hbV)) (by assumption) ?_; (try simp only [Act.put, List.getElem_toArray, List.getElem_cons_zero, List.getElem_cons_succ, List.setIfInBounds_toArray, List.set_cons_zero, List.set_cons_succ]))
          (refine wpAnyH_ready (rs := [12]) (by kernel_rfl) (by simp) ?_; refine AllReadyH.cons rfl (fun K hK => ?_) AllReadyH.nil)
          refine step_blk_store (cs := vwA v) rfl (.tmp 7) (.tmp 34) rfl rfl rfl hZA (Tryd.viewI _) rfl (vwA_one v) (fun wD hD hKD hsD => ?_)
          (try simp only [Act.put, List.getElem_toArray, List.getElem_cons_zero, List.getElem_cons_succ, List.setIfInBounds_toArray, List.set_cons_zero, List.set_cons_succ])
          have bD := Kp.below bA hKD (Nat.le_refl _) bA.size
          refine hK.out _ _ (hSt.out _ bD) (fun hHeld => ?_)
          clear hK K
          refine wpAnyH_done (by kernel_rfl) ?_ _
          go_wp2_with fail
          go_meet
          exact ⟨_, rfl, Nat.le_refl _, hD, bD⟩
      case rest => as_aux_lemma =>
        obtain ⟨vb, rfl, hvb, hVB, hbc⟩ := hcut
        obtain ⟨w5, rfl⟩ : ∃ z, z = wc := ⟨_, rfl⟩
        have h5 := Lib.hid (ho.out.below hbc)
        obtain ⟨c7, c8, c9, c10, c11, c12⟩ := h5.out.cells
        go_wp2_with fail
        refine (HM.out _ hbc).mono ?_
        rintro e w6 ⟨rfl, hb56⟩
        have hb6o := belS hbc hb56
        have h6 := Lib.hid (h5.out.below hb56)
        have hVB6 := hVB.below hb56 hVB.lt
        have hlv := hVB6.lt
        have hkn := Lib.hid (KpO.ofBelow (O := OwnF b none) (belS hbo.out hb6o))
        have hlen6 := h6.out.len
        have hok6 := h6.out.ok.rc.2
        clear c7 c8 c9 c10 c11 c12 h5 hVB hbc hb56 HM HN hbV hSt hb0 hcL
        cases mayb with
        | false =>
          have hz := Lib.hid (hTS.out.trans (if_neg (by rw [hok.out]; simp)))
          go_wp2
          go_ret
          exact ⟨s, none, 0, 0, [], rfl, h6.out, by rw [hz.out], rfl, RdO.nil, by rw [hz.out]; rfl, (fun g off e => by cases e), hkn.out⟩
        | true =>
        have hS2 : Hid (∀ W, Below w6.heap.size w6 W → W.rangeAt b 0 [.int .u64 s.rc.last.num, .int .u64 s.rc.last.ce, .int .i64 s.rc.last.cr, .int .u64 s.rc.last.mem, .slice s.ra s.rn s.rk] ∧ W.rangeAt vb 0 [.int .u64 v.num, .int .u64 v.ce, .int .i64 v.cr, .int .u64 v.mem]) := Lib.hid (fun W hb => ⟨(h6.out.below hb).blk.range (fwA_rec s), (hVB6.below hb hlv).range (fun j u hj => by rw [Nat.zero_add]; simpa [vwA] using hj)⟩)
        have hb6 : Below w6.heap.size w6 w6.drew := (Below.refl w6.heap.size w6).drew
        have hrL := Tryd.recL s.rc.last (.slice s.ra s.rn s.rk)
        have hvL : (Tryd.prog.info? 35).map (·.size) = some ([.int .u64 v.num, .int .u64 v.ce, .int .i64 v.cr, .int .u64 v.mem] : List Value).length := by show _ = some 4; kernel_rfl
        go_upto_region 11 with (fail)
        by_cases hn32 : 32 ≤ s.rn
        · have hz := Lib.hid (hTS.out.trans (if_neg (by rw [hok.out]; simp; omega)))
          have hnm : s.rn ≤ 9223372036854775807 := by omega
          go_cut [9] from 42 to 50 (fun q wx => q = .bool false ∧ Below w6.heap.size w6 wx)
          case first => as_aux_lemma =>
            refine wp_region_held_drew (S := fun W => W.rangeAt b 0 [.int .u64 s.rc.last.num, .int .u64 s.rc.last.ce, .int .i64 s.rc.last.cr, .int .u64 s.rc.last.mem, .slice s.ra s.rn s.rk] ∧ W.rangeAt vb 0 [.int .u64 v.num, .int .u64 v.ce, .int .i64 v.cr, .int .u64 v.mem]) (by kernel_rfl) (hS2.out _ hb6) ?_
            intro hHeld
            (refine wpAnyH_take (i := 0) (v := ?_) rfl (by kernel_rfl) (by kernel_rfl) (by kernel_rfl) (fun _ _ _ h => h) (Or.inl ⟨by rfl, ?_⟩) (by assumption) ?_; rotate_left; (focus (intro w hSw; clear hSw; go_simp; (try with_reducible rfl))); (try simp only [Act.put, List.getElem_toArray, List.getElem_cons_zero, List.getElem_cons_succ, List.setIfInBounds_toArray, List.set_cons_zero, List.set_cons_succ]))
            (refine wpAnyH_take (i := 1) (v := ?_) rfl (by kernel_rfl) (by kernel_rfl) (by kernel_rfl) (fun _ _ _ h => h) (Or.inl ⟨by rfl, ?_⟩) (by assumption) ?_; rotate_left; (focus (intro w hSw; clear hSw; go_simp; (try with_reducible rfl))); (try simp only [Act.put, List.getElem_toArray, List.getElem_cons_zero, List.getElem_cons_succ, List.setIfInBounds_toArray, List.set_cons_zero, List.set_cons_succ]))
            (refine wpAnyH_take (i := 2) (v := ?_) rfl (by kernel_rfl) (by kernel_rfl) (by kernel_rfl) (fun _ _ _ h => h) (Or.inl ⟨by rfl, ?_⟩) (by assumption) ?_; rotate_left; (focus (intro w hSw; clear hSw; go_simp; (try with_reducible rfl))); (try simp only [Act.put, List.getElem_toArray, List.getElem_cons_zero, List.getElem_cons_succ, List.setIfInBounds_toArray, List.set_cons_zero, List.set_cons_succ]))
            (refine wpAnyH_take (i := 3) (v := .agg #[.int .u64 s.rc.last.num, .int .u64 s.rc.last.ce, .int .i64 s.rc.last.cr, .int .u64 s.rc.last.mem, .slice s.ra s.rn s.rk]) rfl (by kernel_rfl) (by kernel_rfl) (by kernel_rfl) (fun _ _ _ h => h) (yieldsIf_load_mid (by rfl) 38 (.tmp 45) rfl b 0 rfl [.int .u64 s.rc.last.num, .int .u64 s.rc.last.ce, .int .i64 s.rc.last.cr, .int .u64 s.rc.last.mem, .slice s.ra s.rn s.rk] _ (fun W hW => hW.1) Tryd.underlying38 rfl hrL) (by assumption) ?_; (try simp only [Act.put, List.getElem_toArray, List.getElem_cons_zero, List.getElem_cons_succ, List.setIfInBounds_toArray, List.set_cons_zero, List.set_cons_succ]))
            (refine wpAnyH_take (i := 4) (v := .agg #[.int .u64 v.num, .int .u64 v.ce, .int .i64 v.cr, .int .u64 v.mem]) rfl (by kernel_rfl) (by kernel_rfl) (by kernel_rfl) (fun _ _ _ h => h) (yieldsIf_load_mid (by rfl) 35 (.tmp 7) rfl vb 0 rfl [.int .u64 v.num, .int .u64 v.ce, .int .i64 v.cr, .int .u64 v.mem] _ (fun W hW => hW.2) Tryd.underlying35 rfl hvL) (by assumption) ?_; (try simp only [Act.put, List.getElem_toArray, List.getElem_cons_zero, List.getElem_cons_succ, List.setIfInBounds_toArray, List.set_cons_zero, List.set_cons_succ]))
            (refine wpAnyH_ready (rs := [5, 9]) (by kernel_rfl) (by simp) ?_; refine AllReadyH.cons rfl (fun K hK => ?_) (AllReadyH.cons rfl (fun K hK => ?_) AllReadyH.nil))
            · go_simp
              refine (add_no s.rc.last v s.ra s.rn s.rk hn32 hnm _).mono ?_
              rintro e wA ⟨rfl, hbA⟩
              have bA := belS hb6 hbA
              have hs6 : w6.heap.size ≤ wA.heap.size := bA.size
              have hsd : w6.drew.heap.size = w6.heap.size := rfl
              refine hK.out _ _ (hS2.out _ bA) (fun hHeld => ?_)
              clear hK K
              (refine wpAnyH_take (i := 6) (v := ?_) rfl (by kernel_rfl) (by kernel_rfl) (by kernel_rfl) (fun _ _ _ h => h) (Or.inl ⟨by rfl, ?_⟩) (by assumption) ?_; rotate_left; (focus (intro w hSw; clear hSw; go_simp; (try with_reducible rfl))); (try simp only [Act.put, List.getElem_toArray, List.getElem_cons_zero, List.getElem_cons_succ, List.setIfInBounds_toArray, List.set_cons_zero, List.set_cons_succ]))
              (refine wpAnyH_take (i := 7) (v := ?_) rfl (by kernel_rfl) (by kernel_rfl) (by kernel_rfl) (fun _ _ _ h => h) (Or.inl ⟨by rfl, ?_⟩) (by assumption) ?_; rotate_left; (focus (intro w hSw; clear hSw; go_simp; (try with_reducible rfl))); (try simp only [Act.put, List.getElem_toArray, List.getElem_cons_zero, List.getElem_cons_succ, List.setIfInBounds_toArray, List.set_cons_zero, List.set_cons_succ]))
              (refine wpAnyH_take (i := 8) (v := ?_) rfl (by kernel_rfl) (by kernel_rfl) (by kernel_rfl) (fun _ _ _ h => h) (Or.inl ⟨by rfl, ?_⟩) (by assumption) ?_; rotate_left; (focus (intro w hSw; clear hSw; go_simp; (try with_reducible rfl))); (try simp only [Act.put, List.getElem_toArray, List.getElem_cons_zero, List.getElem_cons_succ, List.setIfInBounds_toArray, List.set_cons_zero, List.set_cons_succ]))
              (refine wpAnyH_ready (rs := [9]) (by kernel_rfl) (by simp) ?_; refine AllReadyH.cons rfl (fun K hK => ?_) AllReadyH.nil)
              refine step_blk_alloc rfl rfl Tryd.recZ wA.heap.size rfl ?_
              (try simp only [Act.put, List.getElem_toArray, List.getElem_cons_zero, List.getElem_cons_succ, List.setIfInBounds_toArray, List.set_cons_zero, List.set_cons_succ])
              have bB := bA.alloc bA.size (.cells #[.int .u64 0, .int .u64 0, .int .i64 0, .int .u64 0, .slice none 0 0] 38)
              refine hK.out _ _ (hS2.out _ bB) (fun hHeld => ?_)
              clear hK K
              (refine wpAnyH_ready (rs := [10]) (by kernel_rfl) (by simp) ?_; refine AllReadyH.cons rfl (fun K hK => ?_) AllReadyH.nil)
              refine step_blk_store (cs := #[.int .u64 s.rc.last.num, .int .u64 s.rc.last.ce, .int .i64 s.rc.last.cr, .int .u64 s.rc.last.mem, .slice s.ra s.rn s.rk]) rfl (.tmp 8) (.tmp 49) rfl rfl rfl (BlkAt.new wA 38 #[.int .u64 0, .int .u64 0, .int .i64 0, .int .u64 0, .slice none 0 0]) Tryd.recI rfl (by simp [Value.oneCell']) (fun wD hD hK9 hsD => ?_)
              (try simp only [Act.put, List.getElem_toArray, List.getElem_cons_zero, List.getElem_cons_succ, List.setIfInBounds_toArray, List.set_cons_zero, List.set_cons_succ])
              have bD := Kp.below bB hK9 bA.size bB.size
              refine hK.out _ _ (hS2.out _ bD) (fun hHeld => ?_)
              clear hK K
              (refine wpAnyH_take (i := 11) (v := ?_) rfl (by kernel_rfl) (by kernel_rfl) (by kernel_rfl) (fun _ _ _ h => h) (Or.inl ⟨by rfl, ?_⟩) (by assumption) ?_; rotate_left; (focus (intro w hSw; clear hSw; go_simp; (try with_reducible rfl))); (try simp only [Act.put, List.getElem_toArray, List.getElem_cons_zero, List.getElem_cons_succ, List.setIfInBounds_toArray, List.set_cons_zero, List.set_cons_succ]))
              refine wpAnyH_done (by kernel_rfl) ?_ _
              go_wp2_with fail
              go_meet
              exact ⟨rfl, bD⟩
            · refine step_blk_alloc rfl rfl Tryd.recZ w6.heap.size rfl ?_
              (try simp only [Act.put, List.getElem_toArray, List.getElem_cons_zero, List.getElem_cons_succ, List.setIfInBounds_toArray, List.set_cons_zero, List.set_cons_succ])
              have hZ := BlkAt.new w6.drew 38 #[.int .u64 0, .int .u64 0, .int .i64 0, .int .u64 0, .slice none 0 0]
              have bB := hb6.alloc hb6.size (.cells #[.int .u64 0, .int .u64 0, .int .i64 0, .int .u64 0, .slice none 0 0] 38)
              have hlz := hZ.lt
              have hzz : w6.heap.size < (w6.drew.alloc (.cells #[.int .u64 0, .int .u64 0, .int .i64 0, .int .u64 0, .slice none 0 0] 38)).heap.size := by simp
              generalize w6.drew.alloc (.cells #[.int .u64 0, .int .u64 0, .int .i64 0, .int .u64 0, .slice none 0 0] 38) = wB at *
              refine hK.out _ _ (hS2.out _ bB) (fun hHeld => ?_)
              clear hK K
              (refine wpAnyH_ready (rs := [5]) (by kernel_rfl) (by simp) ?_; refine AllReadyH.cons rfl (fun K hK => ?_) AllReadyH.nil)
              go_simp
              refine (add_no s.rc.last v s.ra s.rn s.rk hn32 hnm _).mono ?_
              rintro e wA ⟨rfl, hbA⟩
              have bA := belS bB hbA
              have hZA := hZ.below hbA hlz
              refine hK.out _ _ (hS2.out _ bA) (fun hHeld => ?_)
              clear hK K
              (refine wpAnyH_take (i := 6) (v := ?_) rfl (by kernel_rfl) (by kernel_rfl) (by kernel_rfl) (fun _ _ _ h => h) (Or.inl ⟨by rfl, ?_⟩) (by assumption) ?_; rotate_left; (focus (intro w hSw; clear hSw; go_simp; (try with_reducible rfl))); (try simp only [Act.put, List.getElem_toArray, List.getElem_cons_zero, List.getElem_cons_succ, List.setIfInBounds_toArray, List.set_cons_zero, List.set_cons_succ]))
              (refine wpAnyH_take (i := 7) (v := ?_) rfl (by kernel_rfl) (by kernel_rfl) (by kernel_rfl) (fun _ _ _ h => h) (Or.inl ⟨by rfl, ?_⟩) (by assumption) ?_; rotate_left; (focus (intro w hSw; clear hSw; go_simp; (try with_reducible rfl))); (try simp only [Act.put, List.getElem_toArray, List.getElem_cons_zero, List.getElem_cons_succ, List.setIfInBounds_toArray, List.set_cons_zero, List.set_cons_succ]))
              (refine wpAnyH_take (i := 8) (v := ?_) rfl (by kernel_rfl) (by kernel_rfl) (by kernel_rfl) (fun _ _ _ h => h) (Or.inl ⟨by rfl, ?_⟩) (by assumption) ?_; rotate_left; (focus (intro w hSw; clear hSw; go_simp; (try with_reducible rfl))); (try simp only [Act.put, List.getElem_toArray, List.getElem_cons_zero, List.getElem_cons_succ, List.setIfInBounds_toArray, List.set_cons_zero, List.set_cons_succ]))
              (refine wpAnyH_ready (rs := [10]) (by kernel_rfl) (by simp) ?_; refine AllReadyH.cons rfl (fun K hK => ?_) AllReadyH.nil)
              refine step_blk_store (cs := #[.int .u64 s.rc.last.num, .int .u64 s.rc.last.ce, .int .i64 s.rc.last.cr, .int .u64 s.rc.last.mem, .slice s.ra s.rn s.rk]) rfl (.tmp 8) (.tmp 49) rfl rfl rfl hZA Tryd.recI rfl (by simp [Value.oneCell']) (fun wD hD hK9 hsD => ?_)
              (try simp only [Act.put, List.getElem_toArray, List.getElem_cons_zero, List.getElem_cons_succ, List.setIfInBounds_toArray, List.set_cons_zero, List.set_cons_succ])
              have bD := Kp.below bA hK9 (Nat.le_refl _) bA.size
              refine hK.out _ _ (hS2.out _ bD) (fun hHeld => ?_)
              clear hK K
              (refine wpAnyH_take (i := 11) (v := ?_) rfl (by kernel_rfl) (by kernel_rfl) (by kernel_rfl) (fun _ _ _ h => h) (Or.inl ⟨by rfl, ?_⟩) (by assumption) ?_; rotate_left; (focus (intro w hSw; clear hSw; go_simp; (try with_reducible rfl))); (try simp only [Act.put, List.getElem_toArray, List.getElem_cons_zero, List.getElem_cons_succ, List.setIfInBounds_toArray, List.set_cons_zero, List.set_cons_succ]))
              refine wpAnyH_done (by kernel_rfl) ?_ _
              go_wp2_with fail
              go_meet
              exact ⟨rfl, bD⟩
          case rest => as_aux_lemma =>
            obtain ⟨rfl, hbc⟩ := hcut
            obtain ⟨w7, rfl⟩ : ∃ z, z = wc := ⟨_, rfl⟩
            go_wp2
            go_ret
            exact ⟨s, none, 0, 0, [], rfl, h6.out.below hbc, by rw [hz.out], rfl, RdO.nil, by rw [hz.out]; rfl, (fun g off e => by cases e), hkn.out.trans (KpO.ofBelow (O := fun _ => False) hbc) (fun g hg => hg.elim)⟩
        · have hz := Lib.hid (hTS.out.trans (if_pos (by rw [hok.out]; simp; omega)))
          have hn31 : s.rn < 32 := by omega
          have HA := Lib.hid (fun W (hb : Below w6.heap.size w6 W) => add_new s.rc.last v s.ra s.rn s.rk s.rc.pend hn31 W (h6.out.below hb).rd.1)
          go_cut [8, 9] from 42 to 50 (fun p q wx => ∃ (rb : Nat) (na : Option Addr) (nc : Nat), p = .pointer (some ⟨rb, 0, none⟩) ∧ q = .bool true ∧ BlkAt wx rb 38 #[.int .u64 s.rc.last.num, .int .u64 s.rc.last.ce, .int .i64 s.rc.last.cr, .int .u64 s.rc.last.mem, .slice na (s.rn + 1) nc] ∧ RdV wx na (s.rn + 1) nc (s.rc.pend ++ [v]) ∧ (∀ g off, na = some ⟨g, off, none⟩ → w6.heap.size ≤ g) ∧ Below w6.heap.size w6 wx ∧ w6.heap.size ≤ rb)
          case first => as_aux_lemma =>
            refine wp_region_held_drew (S := fun W => W.rangeAt b 0 [.int .u64 s.rc.last.num, .int .u64 s.rc.last.ce, .int .i64 s.rc.last.cr, .int .u64 s.rc.last.mem, .slice s.ra s.rn s.rk] ∧ W.rangeAt vb 0 [.int .u64 v.num, .int .u64 v.ce, .int .i64 v.cr, .int .u64 v.mem]) (by kernel_rfl) (hS2.out _ hb6) ?_
            intro hHeld
            (refine wpAnyH_take (i := 0) (v := ?_) rfl (by kernel_rfl) (by kernel_rfl) (by kernel_rfl) (fun _ _ _ h => h) (Or.inl ⟨by rfl, ?_⟩) (by assumption) ?_; rotate_left; (focus (intro w hSw; clear hSw; go_simp; (try with_reducible rfl))); (try simp only [Act.put, List.getElem_toArray, List.getElem_cons_zero, List.getElem_cons_succ, List.setIfInBounds_toArray, List.set_cons_zero, List.set_cons_succ]))
            (refine wpAnyH_take (i := 1) (v := ?_) rfl (by kernel_rfl) (by kernel_rfl) (by kernel_rfl) (fun _ _ _ h => h) (Or.inl ⟨by rfl, ?_⟩) (by assumption) ?_; rotate_left; (focus (intro w hSw; clear hSw; go_simp; (try with_reducible rfl))); (try simp only [Act.put, List.getElem_toArray, List.getElem_cons_zero, List.getElem_cons_succ, List.setIfInBounds_toArray, List.set_cons_zero, List.set_cons_succ]))
            (refine wpAnyH_take (i := 2) (v := ?_) rfl (by kernel_rfl) (by kernel_rfl) (by kernel_rfl) (fun _ _ _ h => h) (Or.inl ⟨by rfl, ?_⟩) (by assumption) ?_; rotate_left; (focus (intro w hSw; clear hSw; go_simp; (try with_reducible rfl))); (try simp only [Act.put, List.getElem_toArray, List.getElem_cons_zero, List.getElem_cons_succ, List.setIfInBounds_toArray, List.set_cons_zero, List.set_cons_succ]))
            (refine wpAnyH_take (i := 3) (v := .agg #[.int .u64 s.rc.last.num, .int .u64 s.rc.last.ce, .int .i64 s.rc.last.cr, .int .u64 s.rc.last.mem, .slice s.ra s.rn s.rk]) rfl (by kernel_rfl) (by kernel_rfl) (by kernel_rfl) (fun _ _ _ h => h) (yieldsIf_load_mid (by rfl) 38 (.tmp 45) rfl b 0 rfl [.int .u64 s.rc.last.num, .int .u64 s.rc.last.ce, .int .i64 s.rc.last.cr, .int .u64 s.rc.last.mem, .slice s.ra s.rn s.rk] _ (fun W hW => hW.1) Tryd.underlying38 rfl hrL) (by assumption) ?_; (try simp only [Act.put, List.getElem_toArray, List.getElem_cons_zero, List.getElem_cons_succ, List.setIfInBounds_toArray, List.set_cons_zero, List.set_cons_succ]))
            (refine wpAnyH_take (i := 4) (v := .agg #[.int .u64 v.num, .int .u64 v.ce, .int .i64 v.cr, .int .u64 v.mem]) rfl (by kernel_rfl) (by kernel_rfl) (by kernel_rfl) (fun _ _ _ h => h) (yieldsIf_load_mid (by rfl) 35 (.tmp 7) rfl vb 0 rfl [.int .u64 v.num, .int .u64 v.ce, .int .i64 v.cr, .int .u64 v.mem] _ (fun W hW => hW.2) Tryd.underlying35 rfl hvL) (by assumption) ?_; (try simp only [Act.put, List.getElem_toArray, List.getElem_cons_zero, List.getElem_cons_succ, List.setIfInBounds_toArray, List.set_cons_zero, List.set_cons_succ]))
            (refine wpAnyH_ready (rs := [5, 9]) (by kernel_rfl) (by simp) ?_; refine AllReadyH.cons rfl (fun K hK => ?_) (AllReadyH.cons rfl (fun K hK => ?_) AllReadyH.nil))
            · go_simp
              refine (HA.out _ hb6).mono ?_
              rintro e wA ⟨na, nc, rfl, hrA, hbA, hgA⟩
              have bA := belS hb6 hbA
              have hs6 : w6.heap.size ≤ wA.heap.size := bA.size
              have hsd : w6.drew.heap.size = w6.heap.size := rfl
              refine hK.out _ _ (hS2.out _ bA) (fun hHeld => ?_)
              clear hK K
              (refine wpAnyH_take (i := 6) (v := ?_) rfl (by kernel_rfl) (by kernel_rfl) (by kernel_rfl) (fun _ _ _ h => h) (Or.inl ⟨by rfl, ?_⟩) (by assumption) ?_; rotate_left; (focus (intro w hSw; clear hSw; go_simp; (try with_reducible rfl))); (try simp only [Act.put, List.getElem_toArray, List.getElem_cons_zero, List.getElem_cons_succ, List.setIfInBounds_toArray, List.set_cons_zero, List.set_cons_succ]))
              (refine wpAnyH_take (i := 7) (v := ?_) rfl (by kernel_rfl) (by kernel_rfl) (by kernel_rfl) (fun _ _ _ h => h) (Or.inl ⟨by rfl, ?_⟩) (by assumption) ?_; rotate_left; (focus (intro w hSw; clear hSw; go_simp; (try with_reducible rfl))); (try simp only [Act.put, List.getElem_toArray, List.getElem_cons_zero, List.getElem_cons_succ, List.setIfInBounds_toArray, List.set_cons_zero, List.set_cons_succ]))
              (refine wpAnyH_take (i := 8) (v := ?_) rfl (by kernel_rfl) (by kernel_rfl) (by kernel_rfl) (fun _ _ _ h => h) (Or.inl ⟨by rfl, ?_⟩) (by assumption) ?_; rotate_left; (focus (intro w hSw; clear hSw; go_simp; (try with_reducible rfl))); (try simp only [Act.put, List.getElem_toArray, List.getElem_cons_zero, List.getElem_cons_succ, List.setIfInBounds_toArray, List.set_cons_zero, List.set_cons_succ]))
              (refine wpAnyH_ready (rs := [9]) (by kernel_rfl) (by simp) ?_; refine AllReadyH.cons rfl (fun K hK => ?_) AllReadyH.nil)
              refine step_blk_alloc rfl rfl Tryd.recZ wA.heap.size rfl ?_
              (try simp only [Act.put, List.getElem_toArray, List.getElem_cons_zero, List.getElem_cons_succ, List.setIfInBounds_toArray, List.set_cons_zero, List.set_cons_succ])
              have bB := bA.alloc bA.size (.cells #[.int .u64 0, .int .u64 0, .int .i64 0, .int .u64 0, .slice none 0 0] 38)
              refine hK.out _ _ (hS2.out _ bB) (fun hHeld => ?_)
              clear hK K
              (refine wpAnyH_ready (rs := [10]) (by kernel_rfl) (by simp) ?_; refine AllReadyH.cons rfl (fun K hK => ?_) AllReadyH.nil)
              refine step_blk_store (cs := #[.int .u64 s.rc.last.num, .int .u64 s.rc.last.ce, .int .i64 s.rc.last.cr, .int .u64 s.rc.last.mem, .slice na (s.rn + 1) nc]) rfl (.tmp 8) (.tmp 49) rfl rfl rfl (BlkAt.new wA 38 #[.int .u64 0, .int .u64 0, .int .i64 0, .int .u64 0, .slice none 0 0]) Tryd.recI rfl (by simp [Value.oneCell']) (fun wD hD hK9 hsD => ?_)
              (try simp only [Act.put, List.getElem_toArray, List.getElem_cons_zero, List.getElem_cons_succ, List.setIfInBounds_toArray, List.set_cons_zero, List.set_cons_succ])
              have bD := Kp.below bB hK9 bA.size bB.size
              have hrA9 : RdV (wA.alloc (.cells #[.int .u64 0, .int .u64 0, .int .i64 0, .int .u64 0, .slice none 0 0] 38)) na (s.rn + 1) nc (s.rc.pend ++ [v]) := hrA.below (alloc_below _ _) (Nat.le_refl _)
              have hltA : ∀ g off, na = some ⟨g, off, none⟩ → g < wA.heap.size := fun g off e => by
                obtain ⟨b', o', e', hl⟩ := Rd.addr hrA (by omega)
                rw [e] at e'; injection e' with e'; injection e' with e1; rw [e1]; exact hl
              refine hK.out _ _ (hS2.out _ bD) (fun hHeld => ?_)
              clear hK K
              (refine wpAnyH_take (i := 11) (v := ?_) rfl (by kernel_rfl) (by kernel_rfl) (by kernel_rfl) (fun _ _ _ h => h) (Or.inl ⟨by rfl, ?_⟩) (by assumption) ?_; rotate_left; (focus (intro w hSw; clear hSw; go_simp; (try with_reducible rfl))); (try simp only [Act.put, List.getElem_toArray, List.getElem_cons_zero, List.getElem_cons_succ, List.setIfInBounds_toArray, List.set_cons_zero, List.set_cons_succ]))
              refine wpAnyH_done (by kernel_rfl) ?_ _
              go_wp2_with fail
              go_meet
              exact ⟨_, na, nc, rfl, rfl, hD, hK9.rd hrA9 (fun g off e => by have := hltA g off e; omega), (fun g off e => by have := hgA g off e; omega), bD, hs6⟩
            · refine step_blk_alloc rfl rfl Tryd.recZ w6.heap.size rfl ?_
              (try simp only [Act.put, List.getElem_toArray, List.getElem_cons_zero, List.getElem_cons_succ, List.setIfInBounds_toArray, List.set_cons_zero, List.set_cons_succ])
              have hZ := BlkAt.new w6.drew 38 #[.int .u64 0, .int .u64 0, .int .i64 0, .int .u64 0, .slice none 0 0]
              have bB := hb6.alloc hb6.size (.cells #[.int .u64 0, .int .u64 0, .int .i64 0, .int .u64 0, .slice none 0 0] 38)
              have hlz := hZ.lt
              have hzz : w6.heap.size < (w6.drew.alloc (.cells #[.int .u64 0, .int .u64 0, .int .i64 0, .int .u64 0, .slice none 0 0] 38)).heap.size := by simp
              generalize w6.drew.alloc (.cells #[.int .u64 0, .int .u64 0, .int .i64 0, .int .u64 0, .slice none 0 0] 38) = wB at *
              refine hK.out _ _ (hS2.out _ bB) (fun hHeld => ?_)
              clear hK K
              (refine wpAnyH_ready (rs := [5]) (by kernel_rfl) (by simp) ?_; refine AllReadyH.cons rfl (fun K hK => ?_) AllReadyH.nil)
              go_simp
              refine (HA.out _ bB).mono ?_
              rintro e wA ⟨na, nc, rfl, hrA, hbA, hgA⟩
              have bA := belS bB hbA
              have hZA := hZ.below hbA hlz
              refine hK.out _ _ (hS2.out _ bA) (fun hHeld => ?_)
              clear hK K
              (refine wpAnyH_take (i := 6) (v := ?_) rfl (by kernel_rfl) (by kernel_rfl) (by kernel_rfl) (fun _ _ _ h => h) (Or.inl ⟨by rfl, ?_⟩) (by assumption) ?_; rotate_left; (focus (intro w hSw; clear hSw; go_simp; (try with_reducible rfl))); (try simp only [Act.put, List.getElem_toArray, List.getElem_cons_zero, List.getElem_cons_succ, List.setIfInBounds_toArray, List.set_cons_zero, List.set_cons_succ]))
              (refine wpAnyH_take (i := 7) (v := ?_) rfl (by kernel_rfl) (by kernel_rfl) (by kernel_rfl) (fun _ _ _ h => h) (Or.inl ⟨by rfl, ?_⟩) (by assumption) ?_; rotate_left; (focus (intro w hSw; clear hSw; go_simp; (try with_reducible rfl))); (try simp only [Act.put, List.getElem_toArray, List.getElem_cons_zero, List.getElem_cons_succ, List.setIfInBounds_toArray, List.set_cons_zero, List.set_cons_succ]))
              (refine wpAnyH_take (i := 8) (v := ?_) rfl (by kernel_rfl) (by kernel_rfl) (by kernel_rfl) (fun _ _ _ h => h) (Or.inl ⟨by rfl, ?_⟩) (by assumption) ?_; rotate_left; (focus (intro w hSw; clear hSw; go_simp; (try with_reducible rfl))); (try simp only [Act.put, List.getElem_toArray, List.getElem_cons_zero, List.getElem_cons_succ, List.setIfInBounds_toArray, List.set_cons_zero, List.set_cons_succ]))
              (refine wpAnyH_ready (rs := [10]) (by kernel_rfl) (by simp) ?_; refine AllReadyH.cons rfl (fun K hK => ?_) AllReadyH.nil)
              refine step_blk_store (cs := #[.int .u64 s.rc.last.num, .int .u64 s.rc.last.ce, .int .i64 s.rc.last.cr, .int .u64 s.rc.last.mem, .slice na (s.rn + 1) nc]) rfl (.tmp 8) (.tmp 49) rfl rfl rfl hZA Tryd.recI rfl (by simp [Value.oneCell']) (fun wD hD hK9 hsD => ?_)
              (try simp only [Act.put, List.getElem_toArray, List.getElem_cons_zero, List.getElem_cons_succ, List.setIfInBounds_toArray, List.set_cons_zero, List.set_cons_succ])
              have bD := Kp.below bA hK9 (Nat.le_refl _) bA.size
              refine hK.out _ _ (hS2.out _ bD) (fun hHeld => ?_)
              clear hK K
              (refine wpAnyH_take (i := 11) (v := ?_) rfl (by kernel_rfl) (by kernel_rfl) (by kernel_rfl) (fun _ _ _ h => h) (Or.inl ⟨by rfl, ?_⟩) (by assumption) ?_; rotate_left; (focus (intro w hSw; clear hSw; go_simp; (try with_reducible rfl))); (try simp only [Act.put, List.getElem_toArray, List.getElem_cons_zero, List.getElem_cons_succ, List.setIfInBounds_toArray, List.set_cons_zero, List.set_cons_succ]))
              refine wpAnyH_done (by kernel_rfl) ?_ _
              go_wp2_with fail
              go_meet
              exact ⟨_, na, nc, rfl, rfl, hD, hK9.rd hrA (fun g off e => by have := hgA g off e; omega), (fun g off e => by have := hgA g off e; omega), bD, Nat.le_refl _⟩
          case rest => as_aux_lemma =>
            obtain ⟨rb, na, nc, rfl, rfl, hRB, hrN, hgN, hbc, hrb⟩ := hcut
            obtain ⟨w7, rfl⟩ : ∃ z, z = wc := ⟨_, rfl⟩
            have h7 := h6.out.below hbc
            have hVB7 := hVB6.below hbc hlv
            have hs67 := hbc.size
            have hb67 := hb6o.size
            have f11 := h7.blk.fz 11
            have c11 := h7.blk.cell (i := 11) rfl
            clear hS2 hb6 hrL hvL
            go_wp2_with (first
              | (refine wpList_blk_load rfl (.tmp 8) rfl Tryd.underlying38 rfl rfl hRB Tryd.recI ?_)
              | (refine wpList_blk_put (cs := #[.int .u64 s.rc.last.num, .int .u64 s.rc.last.ce, .int .i64 s.rc.last.cr, .int .u64 s.rc.last.mem, .slice na (s.rn + 1) nc]) rfl (.tmp 57) (.tmp 55) rfl rfl rfl h7.blk Tryd.recI (by show 0 + 5 ≤ 13; decide) (by simp [Value.oneCell']) ?_; intro w8 hB8 hK8 hs8; rw [show setArr (fwA s) 0 (#[.int .u64 s.rc.last.num, .int .u64 s.rc.last.ce, .int .i64 s.rc.last.cr, .int .u64 s.rc.last.mem, .slice na (s.rn + 1) nc] : Array Value).toList = fwA { s with rc := ⟨s.rc.last, s.rc.pend ++ [v]⟩, ra := na, rn := s.rn + 1, rk := nc } from rfl] at hB8; have f8 := hB8.fz 11; have c8 := hB8.cell (i := 11) rfl))
            have hB9 : BlkAt (w8.setCell ⟨b, 11, none⟩ (.pointer (some ⟨vb, 0, none⟩))) b 71 (fwA { s with rc := ⟨s.rc.last, s.rc.pend ++ [v]⟩, ra := na, rn := s.rn + 1, rk := nc, tb := some vb, tv := v }) := hB8.set 11 _
            have hK9 : Kp b w7 (w8.setCell ⟨b, 11, none⟩ (.pointer (some ⟨vb, 0, none⟩))) := hK8.setCell ⟨b, 11, none⟩ rfl _
            have hs9 : (w8.setCell ⟨b, 11, none⟩ (.pointer (some ⟨vb, 0, none⟩))).heap.size = w7.heap.size := by simp [World.setCell, hs8]
            clear f8 c8 f11 c11 hB8 hK8 hs8
            generalize w8.setCell ⟨b, 11, none⟩ (.pointer (some ⟨vb, 0, none⟩)) = w9 at *
            have hO9 : KpO (fun g => g = b) w7 w9 := KpO.ofKp hK9 rfl
            have hFb : ∀ g, g = b → F g := fun g e => e ▸ h7.own
            have hFw : ∀ g, F g → g < w6.heap.size := fun g hg => by have := hFo.out g hg; omega
            have hX9 : RdF F w9 4 na (s.rn + 1) nc ((s.rc.pend ++ [v]).flatMap vwF) := ⟨hK9.rd hrN (fun g off e => by have := hgN g off e; omega), Off.fresh hgN hFw⟩
            have hVB9 := hK9.blk hVB7 (by omega)
            have hRB9 := hK9.blk hRB (by omega)
            have h9 : FAt F w9 b { s with rc := ⟨s.rc.last, s.rc.pend ++ [v]⟩, ra := na, rn := s.rn + 1, rk := nc, tb := some vb, tv := v } := by
              refine ⟨hB9, fun m e => ⟨(h7.map m e).1.kp hK9 (fun e2 => ((h7.map m e).1.ne_blk h7.blk) e2.symm), (h7.map m e).2⟩, h7.non, hX9, fun p hp => (h7.inn p hp).kpO hO9 hFb, fun t e => ?_, h7.own, ⟨h7.ok.mem, h7.ok.agr, ⟨⟨h7.ok.rc.1.1, fun u hu => ?_⟩, ?_⟩, h7.ok.told, hvw.out⟩⟩
              · obtain rfl : vb = t := by injection e
                exact ⟨hVB9, fun hf => by have := hFo.out vb hf; omega⟩
              · rcases List.mem_append.1 hu with hu | hu
                · exact h7.ok.rc.1.2 u hu
                · obtain rfl := List.mem_singleton.1 hu; exact hvw.out
              · show (s.rc.pend ++ [v]).length ≤ 1000
                rw [List.length_append, hlen6]
                show s.rn + 1 ≤ 1000
                omega
            have hcl9 := ((hclo.out.below hb6o).below hbc).kpO hO9 hFb
            have hci9 := fun x hx => (((hcio.out x hx).below hb6o).below hbc).kpO hO9 hFb
            have hk9 := Lib.hid ((hkn.out.trans (KpO.ofBelow (O := fun _ => False) hbc) (fun g hg => hg.elim)).trans hO9 (fun g e => .inl (.inl e)))
            have hcl64 : cl.length ≤ 64 := by rw [hcn'.out]; exact hc64
            have hrl1 := h9.len
            have hO := Lib.hid (fun W (hb : Below w9.heap.size w9 W) => own_any s.rc.last na (s.rn + 1) nc (s.rc.pend ++ [v]) (by omega) W (hX9.below hb).1)
            have hS3 : Hid (∀ W, Below w9.heap.size w9 W → W.rangeAt rb 0 [.int .u64 s.rc.last.num, .int .u64 s.rc.last.ce, .int .i64 s.rc.last.cr, .int .u64 s.rc.last.mem, .slice na (s.rn + 1) nc] ∧ W.rangeAt vb 0 [.int .u64 v.num, .int .u64 v.ce, .int .i64 v.cr, .int .u64 v.mem]) := Lib.hid (fun W hb => ⟨(hRB9.below hb hRB9.lt).range (fun j u hj => by rw [Nat.zero_add]; simpa using hj), (hVB9.below hb hVB9.lt).range (fun j u hj => by rw [Nat.zero_add]; simpa [vwA] using hj)⟩)
            have hb9 : Below w9.heap.size w9 w9.drew := (Below.refl w9.heap.size w9).drew
            have hrL := Tryd.recL s.rc.last (.slice na (s.rn + 1) nc)
            have hvL : (Tryd.prog.info? 35).map (·.size) = some ([.int .u64 v.num, .int .u64 v.ce, .int .i64 v.cr, .int .u64 v.mem] : List Value).length := by show _ = some 4; kernel_rfl
            replace h9 := Lib.hid h9
            replace hcl9 := Lib.hid hcl9
            replace hci9 := Lib.hid hci9
            clear hB9 hVB9 hRB9 hVB7 hRB hrN hX9 h7
            refine wp_region_held_drew (S := fun W => W.rangeAt rb 0 [.int .u64 s.rc.last.num, .int .u64 s.rc.last.ce, .int .i64 s.rc.last.cr, .int .u64 s.rc.last.mem, .slice na (s.rn + 1) nc] ∧ W.rangeAt vb 0 [.int .u64 v.num, .int .u64 v.ce, .int .i64 v.cr, .int .u64 v.mem]) (by kernel_rfl) (hS3.out _ hb9) ?_
            intro hHeld
            (refine wpAnyH_take (i := 0) (v := .agg #[.int .u64 s.rc.last.num, .int .u64 s.rc.last.ce, .int .i64 s.rc.last.cr, .int .u64 s.rc.last.mem, .slice na (s.rn + 1) nc]) rfl (by kernel_rfl) (by kernel_rfl) (by kernel_rfl) (fun _ _ _ h => h) (yieldsIf_load_mid (by rfl) 38 (.tmp 8) rfl rb 0 rfl [.int .u64 s.rc.last.num, .int .u64 s.rc.last.ce, .int .i64 s.rc.last.cr, .int .u64 s.rc.last.mem, .slice na (s.rn + 1) nc] _ (fun W hW => hW.1) Tryd.underlying38 rfl hrL) (by assumption) ?_; (try simp only [Act.put, List.getElem_toArray, List.getElem_cons_zero, List.getElem_cons_succ, List.setIfInBounds_toArray, List.set_cons_zero, List.set_cons_succ]))
            (refine wpAnyH_take (i := 2) (v := .agg #[.int .u64 v.num, .int .u64 v.ce, .int .i64 v.cr, .int .u64 v.mem]) rfl (by kernel_rfl) (by kernel_rfl) (by kernel_rfl) (fun _ _ _ h => h) (yieldsIf_load_mid (by rfl) 35 (.tmp 7) rfl vb 0 rfl [.int .u64 v.num, .int .u64 v.ce, .int .i64 v.cr, .int .u64 v.mem] _ (fun W hW => hW.2) Tryd.underlying35 rfl hvL) (by assumption) ?_; (try simp only [Act.put, List.getElem_toArray, List.getElem_cons_zero, List.getElem_cons_succ, List.setIfInBounds_toArray, List.set_cons_zero, List.set_cons_succ]))
            (refine wpAnyH_take (i := 3) (v := ?_) rfl (by kernel_rfl) (by kernel_rfl) (by kernel_rfl) (fun _ _ _ h => h) (Or.inl ⟨by rfl, ?_⟩) (by assumption) ?_; rotate_left; (focus (intro w hSw; clear hSw; go_simp; (try with_reducible rfl))); (try simp only [Act.put, List.getElem_toArray, List.getElem_cons_zero, List.getElem_cons_succ, List.setIfInBounds_toArray, List.set_cons_zero, List.set_cons_succ]))
            (refine wpAnyH_take (i := 5) (v := .agg #[.int .u64 v.num, .int .u64 v.ce, .int .i64 v.cr, .int .u64 v.mem]) rfl (by kernel_rfl) (by kernel_rfl) (by kernel_rfl) (fun _ _ _ h => h) (yieldsIf_load_mid (by rfl) 35 (.tmp 7) rfl vb 0 rfl [.int .u64 v.num, .int .u64 v.ce, .int .i64 v.cr, .int .u64 v.mem] _ (fun W hW => hW.2) Tryd.underlying35 rfl hvL) (by assumption) ?_; (try simp only [Act.put, List.getElem_toArray, List.getElem_cons_zero, List.getElem_cons_succ, List.setIfInBounds_toArray, List.set_cons_zero, List.set_cons_succ]))
            (refine wpAnyH_take (i := 6) (v := .agg (iwA ⟨attI v, none, 0, 0⟩)) rfl (by kernel_rfl) (by kernel_rfl) (by kernel_rfl) (fun _ _ _ h => h) (yieldsIf_build (by rfl) 45 #[(0, .const (.int .i64 3)), (7, .tmp 65)] rfl (by rw [List.map_toArray]; exact Tryd.bldI v)) (by assumption) ?_; (try simp only [Act.put, List.getElem_toArray, List.getElem_cons_zero, List.getElem_cons_succ, List.setIfInBounds_toArray, List.set_cons_zero, List.set_cons_succ]))
            (refine wpAnyH_take (i := 7) (v := .agg (owA ⟨1, ⟨attI v, none, 0, 0⟩, ⟨.zero, []⟩, none, 0, 0, .zero, none, 0, 0, []⟩)) rfl (by kernel_rfl) (by kernel_rfl) (by kernel_rfl) (fun _ _ _ h => h) (yieldsIf_build (by rfl) 47 #[(0, .const (.int .i64 1)), (1, .tmp 66)] rfl (by rw [List.map_toArray]; exact Tryd.bldO ⟨attI v, none, 0, 0⟩)) (by assumption) ?_; (try simp only [Act.put, List.getElem_toArray, List.getElem_cons_zero, List.getElem_cons_succ, List.setIfInBounds_toArray, List.set_cons_zero, List.set_cons_succ]))
            (refine wpAnyH_ready (rs := [1]) (by kernel_rfl) (by simp) ?_; refine AllReadyH.cons rfl (fun K hK => ?_) AllReadyH.nil)
            go_simp
            refine (hO.out _ hb9).mono ?_
            rintro e w10 ⟨oa, oc, rfl, hr10, hb10, hg10⟩
            have b10 := belS hb9 hb10
            refine hK.out _ _ (hS3.out _ b10) (fun hHeld => ?_)
            clear hK K
            (refine wpAnyH_take (i := 4) (v := .agg (owA ⟨2, .zero, ⟨s.rc.last, s.rc.pend ++ [v]⟩, oa, s.rn + 1, oc, v, ca, i, cc, cl⟩)) rfl (by kernel_rfl) (by kernel_rfl) (by kernel_rfl) (fun _ _ _ h => h) (yieldsIf_build (by rfl) 47 #[(0, .const (.int .i64 2)), (2, .tmp 61), (3, .tmp 62), (4, .tmp 63)] rfl (by rw [List.map_toArray]; exact Tryd.bldW ⟨2, .zero, ⟨s.rc.last, s.rc.pend ++ [v]⟩, oa, s.rn + 1, oc, v, ca, i, cc, cl⟩)) (by assumption) ?_; (try simp only [Act.put, List.getElem_toArray, List.getElem_cons_zero, List.getElem_cons_succ, List.setIfInBounds_toArray, List.set_cons_zero, List.set_cons_succ]))
            (refine wpAnyH_ready (rs := [8]) (by kernel_rfl) (by simp) ?_; refine AllReadyH.cons rfl (fun K hK => ?_) AllReadyH.nil)
            refine step_buildSlice2 (some 68) rfl rfl 41 47 (.tmp 64) (.tmp 67) rfl Tryd.owE (by decide) (cs := owC ⟨2, .zero, ⟨s.rc.last, s.rc.pend ++ [v]⟩, oa, s.rn + 1, oc, v, ca, i, cc, cl⟩) (ds := owC ⟨1, ⟨attI v, none, 0, 0⟩, ⟨.zero, []⟩, none, 0, 0, .zero, none, 0, 0, []⟩) rfl rfl rfl rfl ?_
            (try simp only [Act.put, List.getElem_toArray, List.getElem_cons_zero, List.getElem_cons_succ, List.setIfInBounds_toArray, List.set_cons_zero, List.set_cons_succ])
            have b11 := b10.alloc b10.size (.cells (owC ⟨2, .zero, ⟨s.rc.last, s.rc.pend ++ [v]⟩, oa, s.rn + 1, oc, v, ca, i, cc, cl⟩ ++ owC ⟨1, ⟨attI v, none, 0, 0⟩, ⟨.zero, []⟩, none, 0, 0, .zero, none, 0, 0, []⟩).toArray 47)
            refine hK.out _ _ (hS3.out _ b11) (fun hHeld => ?_)
            clear hK K
            (refine wpAnyH_take (i := 9) (v := ?_) rfl (by kernel_rfl) (by kernel_rfl) (by kernel_rfl) (fun _ _ _ h => h) (Or.inl ⟨by rfl, ?_⟩) (by assumption) ?_; rotate_left; (focus (intro w hSw; clear hSw; go_simp; (try with_reducible rfl))); (try simp only [Act.put, List.getElem_toArray, List.getElem_cons_zero, List.getElem_cons_succ, List.setIfInBounds_toArray, List.set_cons_zero, List.set_cons_succ]))
            refine wpAnyH_done (by kernel_rfl) ?_ _
            have hb1 := alloc_below w10 (.cells (owC ⟨2, .zero, ⟨s.rc.last, s.rc.pend ++ [v]⟩, oa, s.rn + 1, oc, v, ca, i, cc, cl⟩ ++ owC ⟨1, ⟨attI v, none, 0, 0⟩, ⟨.zero, []⟩, none, 0, 0, .zero, none, 0, 0, []⟩).toArray 47)
            have hR11 : Rd (w10.alloc (.cells (owC ⟨2, .zero, ⟨s.rc.last, s.rc.pend ++ [v]⟩, oa, s.rn + 1, oc, v, ca, i, cc, cl⟩ ++ owC ⟨1, ⟨attI v, none, 0, 0⟩, ⟨.zero, []⟩, none, 0, 0, .zero, none, 0, 0, []⟩).toArray 47)) 29 (some ⟨w10.heap.size, 0, none⟩) 2 2 _ := Rd.lit2 rfl rfl rfl
            have hXo : RdF F w10 4 oa (s.rn + 1) oc ((s.rc.pend ++ [v]).flatMap vwF) := ⟨hr10, Off.fresh hg10 (fun g hg => by have := hFw g hg; show g < w9.heap.size; omega)⟩
            have hXo2 := hXo.below hb1
            have h10s : w9.heap.size ≤ w10.heap.size := b10.size
            clear hHeld hr10 hXo hS3 hO
            generalize w10.alloc _ = w11 at *
            go_wp2
            go_ret
            refine ⟨_, some ⟨w10.heap.size, 0, none⟩, 2, 2, rfl, h9.out.below b11, by rw [hz.out]; rfl, hm, [⟨2, .zero, ⟨s.rc.last, s.rc.pend ++ [v]⟩, oa, s.rn + 1, oc, v, ca, i, cc, cl⟩, ⟨1, ⟨attI v, none, 0, 0⟩, ⟨.zero, []⟩, none, 0, 0, .zero, none, 0, 0, []⟩], ⟨⟨?_, fun _ g off e hg => ?_⟩, fun o ho => ?_⟩, by rw [hz.out]; rfl, fun g off e => ?_, hk9.out.trans (KpO.ofBelow (O := fun _ => False) b11) (fun g hg => hg.elim)⟩
            · rw [List.flatMap_cons, List.flatMap_cons, List.flatMap_nil, List.append_nil]
              exact hR11
            · have := hFw g hg
              injection e with e
              injection e with e
              omega
            · rcases List.mem_cons.1 ho with rfl | ho
              · exact ⟨InF.zero, Itm.zero_wf, hXo2, hcl9.out.below b11, fun x hx => (hci9.out x hx).below b11, hcl64⟩
              · obtain rfl := List.mem_singleton.1 ho
                exact ⟨RdF.nil, ⟨⟨vz_wf, fun u hu => by cases hu⟩, hvw.out, Nat.zero_le _⟩, RdF.nil, RdF.nil, (fun x hx => by cases hx), Nat.zero_le _⟩
            · injection e with e
              injection e with e
              have := hbo.out.size
              omega
end Go.Proofs.YteeeikkapnchlaaDoor
