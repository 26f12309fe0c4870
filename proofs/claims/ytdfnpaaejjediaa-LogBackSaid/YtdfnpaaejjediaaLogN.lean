/- log: the walk of Parse -/
import Derived.Test.YtdfnpaaejjediaaLogM
import Derived.Test.YtdfnpaaejjediaaPut
namespace Go.Proofs.Ytdfnpaaejjediaa
open Go.RowKit

/-- The results' blocks of Parse, ParseItem. -/
structure PaE (w W : World) (t : TypeId) (cs : Array Value) : Prop where
  bel : Below w.heap.size w W
  T : BlkAt W w.heap.size t cs
  E : BlkAt W (w.heap.size + 1) 36 #[.int .i64 0]
/-- Beside them the reader over s, at p. -/
structure PaS (w W : World) (g : Nat) (t : TypeId) (cs : Array Value) (s : ByteArray) (p : Nat) : Prop where
  e : PaE w W t cs
  R : BlkAt W g 82 #[.pointer (some ⟨w.heap.size + 1 + 1, 0, none⟩)]
  rd : Rdr W (w.heap.size + 1 + 1) s p
  hg : w.heap.size + 1 + 1 < g
section
variable {w W W' : World} {g p p' : Nat} {t : TypeId} {cs : Array Value} {s : ByteArray}
theorem PaE.kp (h : PaE w W t cs) (k : Kp (w.heap.size + 1 + 1) W W') : PaE w W' t cs := ⟨Kp.below h.bel k (by omega) h.bel.size, k.blk h.T (by omega), k.blk h.E (by omega)⟩
theorem PaS.kp (h : PaS w W g t cs s p) (k : Kp (w.heap.size + 1 + 1) W W') (hr : Rdr W' (w.heap.size + 1 + 1) s p') : PaS w W' g t cs s p' := ⟨h.e.kp k, k.blk h.R (by have := h.hg; omega), hr, h.hg⟩
theorem PaS.drew (h : PaS w W g t cs s p) : PaS w W.drew g t cs s p := h.kp ((Kp.refl _ _).drewN 1) (h.rd.drewN 1)
theorem PaS.set (h : PaS w W g t cs s p) (i : Nat) (u : Value) : PaS w (W.setCell ⟨w.heap.size, i, none⟩ u) g t (cs.setIfInBounds i u) s p :=
  have k := (Kp.refl w.heap.size W).setCell ⟨w.heap.size, i, none⟩ rfl u
  ⟨⟨h.e.bel.setCell (Nat.le_refl _) _, h.e.T.set i u, k.blk h.e.E (by omega)⟩, k.blk h.R (by have := h.hg; omega), h.rd.kp k (by omega), h.hg⟩
theorem PaS.put {cs' : Array Value} (h : PaS w W g t cs s p) (hB : BlkAt W' w.heap.size t cs') (k : Kp w.heap.size W W') : PaS w W' g t cs' s p :=
  ⟨⟨Kp.below h.e.bel k (Nat.le_refl _) h.e.bel.size, hB, k.blk h.e.E (by omega)⟩, k.blk h.R (by have := h.hg; omega), h.rd.kp k (by omega), h.hg⟩
theorem PaE.start (w : World) (t : TypeId) (cs : Array Value) : ∃ W, W = (w.alloc (.cells cs t)).alloc (.cells #[.int .i64 0] 36) ∧ PaE w W t cs ∧ Hid (W.heap.size = w.heap.size + 1 + 1) := by
  refine ⟨_, rfl, ⟨?_, ?_, ?_⟩, ?_⟩
  · exact ((Below.refl _ _).alloc (Nat.le_refl _) _).alloc (by simp) _
  · exact (BlkAt.new w _ _).alloc _
  · have := BlkAt.new (w.alloc (.cells cs t)) 36 #[.int .i64 0]
    simpa using this
  · have : ((w.alloc (.cells cs t)).alloc (.cells #[.int .i64 0] 36)).heap.size = w.heap.size + 1 + 1 := by simp
    exact this
end
/-- A region of a function that defers: it goes on at its end, or panics with what the deferred function needs. -/
def OnlyP (K : Act → World → Prop) (D : List Deferred) (x y : Value) (L : List PanicEntry → World → Prop) : Exit → Act → World → Prop
  | .normal, a, w => K a w
  | .panic c, a, w => a.defers = D ∧ a.tmps.getD 2 undef = x ∧ a.tmps.getD 3 undef = y ∧ L c w
  | _, _, _ => False
theorem wp_onlyP {P : Program} {c : Code} {K : Act → World → Prop} {fn : Func} {R : Ending → World → Prop} {a : Act} {w : World} {D : List Deferred} {x y : Value} {L : List PanicEntry → World → Prop}
    (hL : ∀ tmps c w, tmps.getD 2 undef = x → tmps.getD 3 undef = y → L c w → Leaves P fn tmps R D (.panicking c) w)
    (h : c.wp P (OnlyP K D x y L) a w) : c.wp P (Exit.then K (bodyPostD P fn R)) a w :=
  wp_mono h fun e a w hq => by
    cases e with
    | normal => exact hq
    | panic c => obtain ⟨h1, h2, h3, h4⟩ := hq; show Leaves P fn a.tmps R a.defers (.panicking c) w; rw [h1]; exact hL _ _ _ h2 h3 h4
    | _ => exact hq.elim
theorem onlyP_at {K : Act → World → Prop} {a : Act} {w : World} {D : List Deferred} {x y : Value} {L : List PanicEntry → World → Prop} (h : K a w) : OnlyP K D x y L .normal a w := h
theorem onlyP_put {K : Act → World → Prop} {a : Act} {w : World} {D : List Deferred} {x y v : Value} {L : List PanicEntry → World → Prop} {d : Option Tmp} {c : List PanicEntry} (hd : d ≠ some 2 ∧ d ≠ some 3)
    (h : OnlyP K D x y L (.panic c) (a.put d v) w) : OnlyP K D x y L (.panic c) a w := by
  obtain ⟨h1, h2, h3, h4⟩ := h
  cases d with
  | none => exact ⟨h1, h2, h3, h4⟩
  | some d =>
    have n2 : d ≠ 2 := fun e => hd.1 (by rw [e])
    have n3 : d ≠ 3 := fun e => hd.2 (by rw [e])
    refine ⟨h1, ?_, ?_, h4⟩
    · rw [← h2]; simp [Act.put, Array.getElem?_setIfInBounds, n2]
    · rw [← h3]; simp [Act.put, Array.getElem?_setIfInBounds, n3]
/-- The results' values, of two cells: a struct, and an error's number. -/
theorem results_cells2 {fn : Func} {p q : Tmp} {ty : TypeId} (h : fn.results = #[.cell p ty, .cell q 36]) (tmps : Array Value) (w : World) (g k : Nat) (t : TypeId) (cs : Array Value) (e : Int) (fs : Array Field)
    (hp : tmps.getD p undef = .pointer (some ⟨g, 0, none⟩)) (hq : tmps.getD q undef = .pointer (some ⟨k, 0, none⟩)) (hg : BlkAt w g t cs) (hk : w.cell? ⟨k, 0, none⟩ = some (.int .i64 e))
    (hu : Try.prog.underlying ty = some (.struct fs)) (hi : (Try.prog.info? ty).map (·.size) = some cs.size) :
    (results fn tmps).run Try.prog w = .ok (.tuple #[.agg cs, .int .i64 e]) w := by
  have hp' : tmps[p]?.getD undef = .pointer (some ⟨g, 0, none⟩) := by simpa using hp
  have hq' : tmps[q]?.getD undef = .pointer (some ⟨k, 0, none⟩) := by simpa using hq
  have he : (loadVar 36 ⟨k, 0, none⟩).run Try.prog w = .ok (.int .i64 e) w := by simp [go_sem, hk]
  simp [results, h, hp', hq', asAddr, run_loadVar_row w g t ty cs (0, 0) _ hg hu rfl hi, Result.andThen, he]
def deferS (w : World) : List Deferred := [{ target := .fn (.func 34) #[.pointer (some ⟨w.heap.size, 0, none⟩), .pointer (some ⟨w.heap.size + 1, 0, none⟩)], args := #[] }]
theorem pan_leaveS {w W : World} {cs : Array Value} {tmps : Array Value} {R : Ending → World → Prop} (h2 : tmps.getD 2 undef = .pointer (some ⟨w.heap.size, 0, none⟩)) (h3 : tmps.getD 3 undef = .pointer (some ⟨w.heap.size + 1, 0, none⟩))
    (h : PaE w W 32 cs) (hs : cs.size = 7) (e : Int) (he : e ≠ 0) (hR : ∀ w', Below w.heap.size w w' → R (.returned (.tuple #[.agg zST, .int .i64 e])) w') :
    Leaves Try.prog Try.f14 tmps R (deferS w) (.panicking [{ v := .iface 36 (.int .i64 e), recovered := false }]) W := by
  unfold deferS
  refine leaves_cons (f := 34) (args := #[.pointer (some ⟨w.heap.size, 0, none⟩), .pointer (some ⟨w.heap.size + 1, 0, none⟩)]) (by simp) (by simp [go_sem]) ?_
  refine (catchS_err _ _ _ hs _ e he [] _ h.T h.E (by omega)).mono ?_
  rintro x u' w'' ⟨rfl, rfl, w4, hB, hK, rfl⟩
  have k := (Kp.refl (w.heap.size + 1) w4).setCell ⟨w.heap.size + 1, 0, none⟩ rfl (.int .i64 e)
  have hE := hK.blk h.E (by omega)
  show Leaves _ _ _ _ [] .returning _
  exact ⟨_, results_cells2 rfl tmps _ w.heap.size (w.heap.size + 1) 32 zST e _ h2 h3 (k.blk hB (by omega)) ((hE.set 0 _).cell rfl) Try.underlying32 Try.stI, hR _ ((Kp.below h.bel hK (Nat.le_refl _) h.bel.size).setCell (by simp) _)⟩
theorem fin_leaveS {w W : World} {cs : Array Value} {tmps : Array Value} {R : Ending → World → Prop} (h2 : tmps.getD 2 undef = .pointer (some ⟨w.heap.size, 0, none⟩)) (h3 : tmps.getD 3 undef = .pointer (some ⟨w.heap.size + 1, 0, none⟩))
    (hT : BlkAt W w.heap.size 32 cs) (hs : cs.size = 7) (hE : W.cell? ⟨w.heap.size + 1, 0, none⟩ = some (.int .i64 0)) (hR : R (.returned (.tuple #[.agg cs, .int .i64 0])) W) :
    Leaves Try.prog Try.f14 tmps R (deferS w) .returning W := by
  unfold deferS
  refine leaves_cons (f := 34) (args := #[.pointer (some ⟨w.heap.size, 0, none⟩), .pointer (some ⟨w.heap.size + 1, 0, none⟩)]) (by simp) (by simp [go_sem]) ?_
  refine (catchS_idle _ _ _).mono ?_
  rintro x u' w'' ⟨rfl, rfl, rfl⟩
  show Leaves _ _ _ _ [] .returning _
  exact ⟨_, results_cells2 rfl tmps _ w.heap.size (w.heap.size + 1) 32 cs 0 _ h2 h3 hT hE Try.underlying32 (by rw [hs]; exact Try.stI), hR⟩
/-- What Parse returns. -/
def PaPost (s : ByteArray) (w : World) (e : Ending) (w' : World) : Prop := (∃ (x : St) (pa : Option Addr) (pn pc : Nat), e = .returned (.tuple #[.agg #[.int .u64 x.epoch, .int .u32 x.inc, .int .u64 x.rc.last.num, .int .u64 x.rc.last.ce, .int .i64 x.rc.last.cr, .int .u64 x.rc.last.mem, .slice pa pn pc], .int .i64 (stE (bI s))]) ∧ Hid (stE (bI s) = 0 → x = stV (bI s)) ∧ Hid (stE (bI s) ≠ 0 → x = ⟨0, 0, .zero, []⟩) ∧ RdV w' pa pn pc x.rc.pend) ∧ Below w.heap.size w w'
theorem PaPost.bad {s : ByteArray} {w w' : World} {e : Int} (he : stE (bI s) = e) (h0 : e ≠ 0) (hb : Below w.heap.size w w') : PaPost s w (.returned (.tuple #[.agg zST, .int .i64 e])) w' :=
  ⟨⟨⟨0, 0, .zero, []⟩, none, 0, 0, by rw [he]; rfl, (fun h => absurd (he.symm.trans h) h0), (fun _ => rfl), Rd.mk_nil _ _⟩, hb⟩
theorem stE_l {L : List Int} (h : L.length < 1) : stE L = 2 := if_pos h
theorem stE_f {L : List Int} (h : ¬ L.length < 1) (h1 : nv L 0 1 ≠ 1) : stE L = 10 := by unfold stE; rw [if_neg h, if_pos h1]
theorem stE_s {L : List Int} (h : ¬ L.length < 1) (h1 : nv L 0 1 = 1) (h2 : L.length < 13) : stE L = 2 := by unfold stE; rw [if_neg h, if_neg (by simpa using h1), if_pos h2]
theorem stE_r {L : List Int} (h : ¬ L.length < 1) (h1 : nv L 0 1 = 1) (h2 : ¬ L.length < 13) (h3 : rcE L 13 ≠ 0) : stE L = rcE L 13 := by unfold stE; rw [if_neg h, if_neg (by simpa using h1), if_neg h2, if_pos h3]
theorem stE_e {L : List Int} (h : ¬ L.length < 1) (h1 : nv L 0 1 = 1) (h2 : ¬ L.length < 13) (h3 : rcE L 13 = 0) (h4 : rcEnd L 13 < L.length) : stE L = 4 := by unfold stE; rw [if_neg h, if_neg (by simpa using h1), if_neg h2, if_neg (by simpa using h3), if_pos h4]
/-- What a panic in Parse leaves. -/
def PanS (s : ByteArray) (w : World) (c : List PanicEntry) (W : World) : Prop := ∃ e : Int, c = [{ v := .iface 36 (.int .i64 e), recovered := false }] ∧ e ≠ 0 ∧ stE (bI s) = e ∧ ∃ cs : Array Value, cs.size = 7 ∧ PaE w W 32 cs
theorem panS_leave {s : ByteArray} {w W : World} {c : List PanicEntry} {tmps : Array Value} (h2 : tmps.getD 2 undef = .pointer (some ⟨w.heap.size, 0, none⟩)) (h3 : tmps.getD 3 undef = .pointer (some ⟨w.heap.size + 1, 0, none⟩)) (h : PanS s w c W) :
    Leaves Try.prog Try.f14 tmps (PaPost s w) (deferS w) (.panicking c) W := by
  obtain ⟨e, rfl, h0, he, cs, hc, hP⟩ := h
  exact pan_leaveS h2 h3 hP hc e h0 (fun w' hb => PaPost.bad he h0 hb)
set_option maxHeartbeats 3200000 in
set_option maxRecDepth 100000 in
theorem parse_any (s : ByteArray) (w : World) (hz : s.size ≤ 5000) : Calls Try.prog 14 #[.string s] w (PaPost s w) := by
  (have hmf : ∀ (fn : Fn) (first cap : Array Value) (w : World), (Instr.makeFunc fn first cap).run Try.prog w = .ok (.func fn first cap) w := fun _ _ _ _ => rfl)
  obtain ⟨wS, hwS, PE, hsz⟩ := PaE.start w 32 zST
  replace hwS := Lib.hid hwS
  have hL : (bI s).length = s.size := bI_len s
  have hB := bI_mem s
  have hN := Lib.hid (fun (W : World) (b q : Nat) (h : Rdr W b s q) => rn_any (n := 1) 1 rfl h (by omega))
  have hN8 := Lib.hid (fun (W : World) (b q : Nat) (h : Rdr W b s q) => rn_any (n := 8) 8 rfl h (by omega))
  have hN4 := Lib.hid (fun (W : World) (b q : Nat) (h : Rdr W b s q) => rn_any (n := 4) 4 rfl h (by omega))
  have hRc := Lib.hid (fun (W : World) (b q : Nat) (h : Rdr W b s q) => rrec_any h hz)
  have hEn := Lib.hid (fun (W : World) (b q : Nat) (h : Rdr W b s q) => rend_any h (by omega))
  have e1 := Lib.hid (fun h => stE_l (L := bI s) h)
  have e2 := Lib.hid (fun h h1 => stE_f (L := bI s) h h1)
  have e3 := Lib.hid (fun h h1 h2 => stE_s (L := bI s) h h1 h2)
  have e4 := Lib.hid (fun h h1 h2 h3 => stE_r (L := bI s) h h1 h2 h3)
  have e5 := Lib.hid (fun h h1 h2 h3 h4 => stE_e (L := bI s) h h1 h2 h3 h4)
  have e6 := Lib.hid (stE_zero (L := bI s)).2
  rw [hL] at e1 e2 e3 e4 e5 e6
  rw [← nvN_cast hB] at e2 e3 e4 e5 e6
  have hx1 : nvN (bI s) 0 1 < 256 := nvN_lt hB 0 1
  clear hL hB
  go_enter_defers Try.func14, Try.ntmps14
  go_wp2_with fail
  rw [show #[Value.int .u64 0, .int .u32 0, .int .u64 0, .int .u64 0, .int .i64 0, .int .u64 0, .slice none 0 0] = zST from rfl, ← hwS.out]
  refine (new_any s _).mono ?_
  rintro e w1 ⟨rfl, hR1, hb1⟩
  have hsz1 := hsz.out
  rw [hsz1] at hR1 hb1 ⊢
  have hAl : Below w1.heap.size w1 (w1.alloc (.cells #[.pointer (some ⟨w.heap.size + 1 + 1, 0, none⟩)] 82)) := (Below.refl _ _).alloc (Nat.le_refl _) _
  have PS : PaS w (w1.alloc (.cells #[.pointer (some ⟨w.heap.size + 1 + 1, 0, none⟩)] 82)) w1.heap.size 32 zST s 0 :=
    ⟨(PE.kp ⟨hb1.os, hb1.tape, hb1.output, hb1.size, fun i hi _ => hb1.block i (by omega)⟩).kp (Kp.ofBelow hAl), BlkAt.new _ _ _, hR1.below hAl hR1.lt, hR1.lt⟩
  have hc0 := PS.R.cell (i := 0) rfl
  go_wp2_with fail
  refine (hN.out _ _ _ PS.rd).mono ?_
  rintro e w2 ⟨⟨g1, rfl, h2⟩ | ⟨g1, rfl⟩, k2⟩
  case inr => exact panS_leave rfl rfl ⟨2, rfl, by decide, e1.out (by omega), zST, rfl, PS.e.kp k2⟩
  replace PS := PS.kp k2 h2
  generalize w1.heap.size = g at *
  clear hc0 h2 k2 hb1 hR1 hAl PE hsz1
  go_wp2_with fail
  by_cases hf : nvN (bI s) 0 1 = 1
  case neg =>
    refine (bad_t (by simp; omega) 10 _).mono ?_
    rintro e w' ⟨rfl, rfl⟩
    exact panS_leave rfl rfl ⟨10, rfl, by decide, e2.out (by omega) (by omega), zST, rfl, PS.e⟩
  refine (bad_f (by simp [hf]) 10 _).mono ?_
  rintro e w' ⟨rfl, rfl⟩
  have hc0 := PS.R.cell (i := 0) rfl
  go_wp2_with fail
  refine wp_onlyP (D := deferS w) (x := .pointer (some ⟨w.heap.size, 0, none⟩)) (y := .pointer (some ⟨w.heap.size + 1, 0, none⟩)) (L := PanS s w) (fun _ _ _ h2 h3 h => panS_leave h2 h3 h) ?_
  refine wp_region_held_drew (S := fun W => W.cell? ⟨g, 0, none⟩ = some (.pointer (some ⟨w.heap.size + 1 + 1, 0, none⟩))) (by kernel_rfl) hc0 ?_
  intro hHeld
  (refine wpAnyH_take (i := 0) (v := ?_) rfl (by kernel_rfl) (by kernel_rfl) (by kernel_rfl) (fun _ _ _ h => onlyP_put (by decide) h) (Or.inl ⟨by rfl, ?_⟩) (by assumption) ?_; rotate_left; (focus (intro w hSw; (try dsimp only at hSw); go_simp; (try with_reducible rfl))); (try simp only [Act.put, List.setIfInBounds_toArray, List.set_cons_zero, List.set_cons_succ]))
  (refine wpAnyH_take (i := 1) (v := ?_) rfl (by kernel_rfl) (by kernel_rfl) (by kernel_rfl) (fun _ _ _ h => onlyP_put (by decide) h) (Or.inl ⟨by rfl, ?_⟩) (by assumption) ?_; rotate_left; (focus (intro w hSw; (try dsimp only at hSw); go_simp; (try with_reducible rfl))); (try simp only [Act.put, List.setIfInBounds_toArray, List.set_cons_zero, List.set_cons_succ]))
  (refine wpAnyH_take (i := 3) (v := ?_) rfl (by kernel_rfl) (by kernel_rfl) (by kernel_rfl) (fun _ _ _ h => onlyP_put (by decide) h) (Or.inl ⟨by rfl, ?_⟩) (by assumption) ?_; rotate_left; (focus (intro w hSw; (try dsimp only at hSw); go_simp; (try with_reducible rfl))); (try simp only [Act.put, List.setIfInBounds_toArray, List.set_cons_zero, List.set_cons_succ]))
  (refine wpAnyH_take (i := 4) (v := ?_) rfl (by kernel_rfl) (by kernel_rfl) (by kernel_rfl) (fun _ _ _ h => onlyP_put (by decide) h) (Or.inl ⟨by rfl, ?_⟩) (by assumption) ?_; rotate_left; (focus (intro w hSw; (try dsimp only at hSw); go_simp; (try with_reducible rfl))); (try simp only [Act.put, List.setIfInBounds_toArray, List.set_cons_zero, List.set_cons_succ]))
  (refine wpAnyH_ready (rs := [2]) (by kernel_rfl) (by simp) ?_; refine AllReadyH.cons rfl (fun K hK => ?_) AllReadyH.nil; go_simp)
  replace PS := PS.drew
  refine (hN8.out _ _ _ PS.rd).mono ?_
  rintro e w3 ⟨⟨g3, rfl, h3⟩ | ⟨g3, rfl⟩, k3⟩
  case inr => exact ⟨rfl, rfl, rfl, 2, rfl, by decide, e3.out (by omega) (by omega) (by omega), zST, rfl, PS.e.kp k3⟩
  replace PS := PS.kp k3 h3
  refine hK.out _ _ (PS.R.cell (i := 0) rfl) (fun hHeld3 => ?_)
  clear hK K hHeld hc0 k3 h3
  have hx8 : nvN (bI s) 1 8 < 18446744073709551616 := nvN_lt (bI_mem s) 1 8
  generalize hv8 : nvN (bI s) (0 + 1) 8 = x8 at *
  (refine wpAnyH_take (i := 7) (v := ?_) rfl (by kernel_rfl) (by kernel_rfl) (by kernel_rfl) (fun _ _ _ h => onlyP_put (by decide) h) (Or.inl ⟨by rfl, ?_⟩) (by assumption) ?_; rotate_left; (focus (intro w hSw; (try dsimp only at hSw); go_simp; (try with_reducible rfl))); (try simp only [Act.put, List.setIfInBounds_toArray, List.set_cons_zero, List.set_cons_succ]))
  (refine wpAnyH_ready (rs := [5]) (by kernel_rfl) (by simp) ?_; refine AllReadyH.cons rfl (fun K hK => ?_) AllReadyH.nil; go_simp)
  refine (hN4.out _ _ _ PS.rd).mono ?_
  rintro e w4 ⟨⟨g4, rfl, h4⟩ | ⟨g4, rfl⟩, k4⟩
  case inr => exact ⟨rfl, rfl, rfl, 2, rfl, by decide, e3.out (by omega) (by omega) (by omega), zST, rfl, PS.e.kp k4⟩
  replace PS := PS.kp k4 h4
  refine hK.out _ _ (PS.R.cell (i := 0) rfl) (fun hHeld4 => ?_)
  clear hK K hHeld3 k4 h4
  have hx4 : nvN (bI s) 9 4 < 4294967296 := nvN_lt (bI_mem s) 9 4
  generalize hv4 : nvN (bI s) (0 + 1 + 8) 4 = x4 at *
  have hw4 : IntKind.u32.wrap (x4 : Int) = x4 := by rw [IntKind.wrap_u32]; omega
  (refine wpAnyH_take (i := 6) (v := ?_) rfl (by kernel_rfl) (by kernel_rfl) (by kernel_rfl) (fun _ _ _ h => onlyP_put (by decide) h) (Or.inl ⟨by rfl, ?_⟩) (by assumption) ?_; rotate_left; (focus (intro w hSw; (try dsimp only at hSw); go_simp; (try with_reducible rfl))); (try simp only [Act.put, List.setIfInBounds_toArray, List.set_cons_zero, List.set_cons_succ]))
  have y0 := PS.e.T.cell (i := 0) rfl
  have z0 := PS.e.T.fz 0
  (refine wpAnyH_ready (rs := [8]) (by kernel_rfl) (by simp) ?_; refine AllReadyH.cons rfl (fun K hK => ?_) AllReadyH.nil; go_simp)
  replace PS := PS.set 0 (.int .u64 (x8 : Int))
  refine hK.out _ _ (PS.R.cell (i := 0) rfl) (fun hHeld5 => ?_)
  clear hK K hHeld4 y0 z0
  have y1 := PS.e.T.cell (i := 1) rfl
  have z1 := PS.e.T.fz 1
  (refine wpAnyH_take (i := 9) (v := ?_) rfl (by kernel_rfl) (by kernel_rfl) (by kernel_rfl) (fun _ _ _ h => onlyP_put (by decide) h) (Or.inl ⟨by rfl, ?_⟩) (by assumption) ?_; rotate_left; (focus (intro w hSw; (try dsimp only at hSw); go_simp; (try with_reducible rfl))); (try simp only [Act.put, List.setIfInBounds_toArray, List.set_cons_zero, List.set_cons_succ]))
  (refine wpAnyH_ready (rs := [10]) (by kernel_rfl) (by simp) ?_; refine AllReadyH.cons rfl (fun K hK => ?_) AllReadyH.nil; go_simp)
  replace PS := PS.set 1 (.int .u32 (x4 : Int))
  refine hK.out _ _ (PS.R.cell (i := 0) rfl) (fun hHeld6 => ?_)
  clear hK K hHeld5 y1 z1
  generalize (World.setCell _ _ _) = w5 at *
  refine wpAnyH_done (by kernel_rfl) ?_ _
  refine onlyP_at ?_
  have bR := PS.R
  go_wp2_with (first
    | (refine wpList_blk_load rfl (.tmp 4) rfl Try.underlying82 rfl rfl bR (by kernel_rfl) ?_))
  refine (hRc.out _ _ _ PS.rd).mono ?_
  rintro e w6 ⟨⟨g5, ⟨a, c, rfl, hown⟩, h5⟩ | ⟨g5, rfl⟩, k5⟩
  case inr => exact panS_leave rfl rfl ⟨_, rfl, g5, e4.out (by omega) (by omega) (by omega) g5, _, rfl, PS.e.kp k5⟩
  have hlo := PS.e.bel.size
  have hlo2 := PS.rd.lt
  replace PS := PS.kp k5 h5
  have hV := Lib.hid (show vwsAt (bI s) 13 (rcN (bI s) 13) = (rcAt (bI s) 13).pend from rfl)
  have hT := PS.e.T
  have hT2 : BlkAt w6 w.heap.size 32 #[.int .u64 (x8 : Int), .int .u32 (x4 : Int), .int .u64 0, .int .u64 0, .int .i64 0, .int .u64 0, .slice none 0 0] := hT
  clear hHeld6 k5 h5 hT bR
  go_wp2_with (first
    | (refine wpList_blk_put rfl (.tmp 25) (.tmp 24) rfl rfl rfl hT2 (Try.recI _ _) (Nat.le_refl 7) (by simp [Value.oneCell']) ?_; intro w7 hT7 hK7 hs7; replace PS := PS.put hT7 hK7)
    | (refine wpList_blk_load rfl (.tmp 4) rfl Try.underlying82 rfl rfl PS.R (by kernel_rfl) ?_))
  have hown7 := Lib.hid (own_keep hown fun g' hg hl => hK7.block g' hl (by have := (hown.lt g' hg).1; omega))
  have hs7' := Lib.hid hs7
  clear hT7 hK7 hown hs7 hT2
  refine (hEn.out _ _ _ PS.rd).mono ?_
  rintro e w8 ⟨⟨g6, rfl⟩ | ⟨g6, rfl⟩, b8⟩
  case inr => exact panS_leave rfl rfl ⟨_, rfl, by decide, e5.out (by omega) (by omega) (by omega) g5 g6, _, rfl, PS.e.kp (Kp.ofBelow b8)⟩
  replace PS := PS.kp (Kp.ofBelow b8) (PS.rd.below b8 PS.rd.lt)
  have hown8 := Lib.hid (own_belowB hown7.out b8)
  have hE0 := Lib.hid (e6.out ⟨by omega, by omega, g5, g6⟩)
  have hT : BlkAt w8 w.heap.size 32 #[.int .u64 (x8 : Int), .int .u32 (x4 : Int), .int .u64 (vwAt (bI s) 13).num, .int .u64 (vwAt (bI s) 13).ce, .int .i64 (vwAt (bI s) 13).cr, .int .u64 (vwAt (bI s) 13).mem, .slice a (rcN (bI s) 13) c] := PS.e.T
  have ho := fun g' hg => (hown8.out.lt g' hg).1
  go_wp2_with (first
    | (refine wpList_blk_load rfl (.tmp 2) rfl Try.underlying32 rfl rfl hT Try.stI ?_)
    | (refine wpList_blk_store (cs := #[.int .u64 (x8 : Int), .int .u32 (x4 : Int), .int .u64 (vwAt (bI s) 13).num, .int .u64 (vwAt (bI s) 13).ce, .int .i64 (vwAt (bI s) 13).cr, .int .u64 (vwAt (bI s) 13).mem, .slice a (rcN (bI s) 13) c]) rfl (.tmp 2) (.tmp 28) rfl rfl rfl hT Try.stI rfl (by simp [Value.oneCell']) ?_; intro w9 hT9 hK9 hs9; replace PS := PS.put hT9 hK9; have y9 := PS.e.E.cell (i := 0) rfl; have z9 := PS.e.E.fz 0; clear hT))
  have k9 := (Kp.refl (w.heap.size + 1) w9).setCell ⟨w.heap.size + 1, 0, none⟩ rfl (.int .i64 0)
  have hT10 := k9.blk PS.e.T (by omega)
  have hE10 := (PS.e.E.set 0 (.int .i64 0)).cell (i := 0) rfl
  have hb10 := Kp.below PS.e.bel k9 (by omega) PS.e.bel.size
  have ho10 := own_keep (own_keep hown8.out fun g' hg hl => hK9.block g' hl (by have := ho g' hg; omega)) fun g' hg hl => k9.block g' hl (by have := ho g' hg; omega)
  obtain ⟨a', c', e10, r10⟩ := Rd.own ho10
  simp only [Value.slice.injEq, true_and] at e10
  obtain ⟨rfl, rfl⟩ := e10
  refine fin_leaveS rfl rfl hT10 rfl hE10 ⟨⟨stV (bI s), a, rcN (bI s) 13, c, ?_, fun _ => rfl, fun h => absurd hE0.out h, r10⟩, hb10⟩
  rw [hE0.out, ← hv8, ← hv4]
  rfl
end Go.Proofs.Ytdfnpaaejjediaa
