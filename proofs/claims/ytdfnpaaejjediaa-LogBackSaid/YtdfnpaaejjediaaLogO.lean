/- log: the walk of ParseItem: what it needs; kinds that are none -/
import Derived.Test.YtdfnpaaejjediaaLogN
namespace Go.Proofs.Ytdfnpaaejjediaa
open Go.RowKit

/-- The same inside a switch. -/
theorem wp_onlyQ {P : Program} {c : Code} {Q : Exit → Act → World → Prop} {fn : Func} {R : Ending → World → Prop} {a : Act} {w : World} {D : List Deferred} {x y : Value} {L : List PanicEntry → World → Prop}
    (hp : ∀ c a w, Leaves P fn a.tmps R a.defers (.panicking c) w → Q (.panic c) a w)
    (hL : ∀ tmps c w, tmps.getD 2 undef = x → tmps.getD 3 undef = y → L c w → Leaves P fn tmps R D (.panicking c) w)
    (h : c.wp P (OnlyP (Q .normal) D x y L) a w) : c.wp P Q a w :=
  wp_mono h fun e a w hq => by
    cases e with
    | normal => exact hq
    | panic c => obtain ⟨h1, h2, h3, h4⟩ := hq; exact hp _ _ _ (by rw [h1]; exact hL _ _ _ h2 h3 h4)
    | _ => exact hq.elim
def deferT (w : World) : List Deferred := [{ target := .fn (.func 42) #[.pointer (some ⟨w.heap.size, 0, none⟩), .pointer (some ⟨w.heap.size + 1, 0, none⟩)], args := #[] }]
theorem pan_leaveT {w W : World} {cs : Array Value} {tmps : Array Value} {R : Ending → World → Prop} (h2 : tmps.getD 2 undef = .pointer (some ⟨w.heap.size, 0, none⟩)) (h3 : tmps.getD 3 undef = .pointer (some ⟨w.heap.size + 1, 0, none⟩))
    (h : PaE w W 34 cs) (hs : cs.size = 18) (e : Int) (he : e ≠ 0) (hR : ∀ w', Below w.heap.size w w' → R (.returned (.tuple #[.agg zIT, .int .i64 e])) w') :
    Leaves Try.prog Try.f16 tmps R (deferT w) (.panicking [{ v := .iface 36 (.int .i64 e), recovered := false }]) W := by
  unfold deferT
  refine leaves_cons (f := 42) (args := #[.pointer (some ⟨w.heap.size, 0, none⟩), .pointer (some ⟨w.heap.size + 1, 0, none⟩)]) (by simp) (by simp [go_sem]) ?_
  refine (catchT_err _ _ _ hs _ e he [] _ h.T h.E (by omega)).mono ?_
  rintro x u' w'' ⟨rfl, rfl, w4, hB, hK, rfl⟩
  have k := (Kp.refl (w.heap.size + 1) w4).setCell ⟨w.heap.size + 1, 0, none⟩ rfl (.int .i64 e)
  have hE := hK.blk h.E (by omega)
  show Leaves _ _ _ _ [] .returning _
  exact ⟨_, results_cells2 rfl tmps _ w.heap.size (w.heap.size + 1) 34 zIT e _ h2 h3 (k.blk hB (by omega)) ((hE.set 0 _).cell rfl) Try.underlying34 Try.itI, hR _ ((Kp.below h.bel hK (Nat.le_refl _) h.bel.size).setCell (by simp) _)⟩
theorem fin_leaveT {w W : World} {cs : Array Value} {tmps : Array Value} {R : Ending → World → Prop} (h2 : tmps.getD 2 undef = .pointer (some ⟨w.heap.size, 0, none⟩)) (h3 : tmps.getD 3 undef = .pointer (some ⟨w.heap.size + 1, 0, none⟩))
    (hT : BlkAt W w.heap.size 34 cs) (hs : cs.size = 18) (hE : W.cell? ⟨w.heap.size + 1, 0, none⟩ = some (.int .i64 0)) (hR : R (.returned (.tuple #[.agg cs, .int .i64 0])) W) :
    Leaves Try.prog Try.f16 tmps R (deferT w) .returning W := by
  unfold deferT
  refine leaves_cons (f := 42) (args := #[.pointer (some ⟨w.heap.size, 0, none⟩), .pointer (some ⟨w.heap.size + 1, 0, none⟩)]) (by simp) (by simp [go_sem]) ?_
  refine (catchT_idle _ _ _).mono ?_
  rintro x u' w'' ⟨rfl, rfl, rfl⟩
  show Leaves _ _ _ _ [] .returning _
  exact ⟨_, results_cells2 rfl tmps _ w.heap.size (w.heap.size + 1) 34 cs 0 _ h2 h3 hT hE Try.underlying34 (by rw [hs]; exact Try.itI), hR⟩
def It.none : It := ⟨0, [], 0, 0, false, false, ⟨.zero, []⟩, .zero, 0, 0, 0⟩
/-- What ParseItem returns. -/
def PiPost (s : ByteArray) (w : World) (e : Ending) (w' : World) : Prop := (∃ (x : It) (D : ByteArray) (pa : Option Addr) (pn pc : Nat), e = .returned (.tuple #[.agg #[.int .i64 x.kind, .string D, .int .u32 x.inc, .int .u64 x.holds, .bool x.has, .bool x.direct, .int .u64 x.rc.last.num, .int .u64 x.rc.last.ce, .int .i64 x.rc.last.cr, .int .u64 x.rc.last.mem, .slice pa pn pc, .int .u64 x.view.num, .int .u64 x.view.ce, .int .i64 x.view.cr, .int .u64 x.view.mem, .int .u64 x.number, .int .i64 x.index, .int .i64 x.total], .int .i64 (itPE (bI s))]) ∧ Hid (itPE (bI s) = 0 → x = itPV (bI s)) ∧ Hid (itPE (bI s) ≠ 0 → x = It.none) ∧ x.data = bI D ∧ RdV w' pa pn pc x.rc.pend) ∧ Below w.heap.size w w'
theorem PiPost.bad {s : ByteArray} {w w' : World} {e : Int} (he : itPE (bI s) = e) (h0 : e ≠ 0) (hb : Below w.heap.size w w') : PiPost s w (.returned (.tuple #[.agg zIT, .int .i64 e])) w' :=
  ⟨⟨It.none, ⟨#[]⟩, none, 0, 0, by rw [he]; rfl, (fun h => absurd (he.symm.trans h) h0), (fun _ => rfl), rfl, Rd.mk_nil _ _⟩, hb⟩
/-- What a panic in ParseItem leaves. -/
def PanT (s : ByteArray) (w : World) (c : List PanicEntry) (W : World) : Prop := ∃ e : Int, c = [{ v := .iface 36 (.int .i64 e), recovered := false }] ∧ e ≠ 0 ∧ itPE (bI s) = e ∧ ∃ cs : Array Value, cs.size = 18 ∧ PaE w W 34 cs
theorem panT_leave {s : ByteArray} {w W : World} {c : List PanicEntry} {tmps : Array Value} (h2 : tmps.getD 2 undef = .pointer (some ⟨w.heap.size, 0, none⟩)) (h3 : tmps.getD 3 undef = .pointer (some ⟨w.heap.size + 1, 0, none⟩)) (h : PanT s w c W) :
    Leaves Try.prog Try.f16 tmps (PiPost s w) (deferT w) (.panicking c) W := by
  obtain ⟨e, rfl, h0, he, cs, hc, hP⟩ := h
  exact pan_leaveT h2 h3 hP hc e h0 (fun w' hb => PiPost.bad he h0 hb)
section
variable {L : List Int}
theorem pE_l (h : L.length < 1) : itPE L = 2 := if_pos h
theorem pE_k (h : ¬ L.length < 1) (h1 : nv L 0 1 < 1 ∨ 4 < nv L 0 1) : itPE L = 10 := by unfold itPE; rw [if_neg h, if_pos h1]
theorem pE_o (h : ¬ L.length < 1) (h1 : ¬ (nv L 0 1 < 1 ∨ 4 < nv L 0 1)) (h2 : 1024 < L.length) : itPE L = 3 := by unfold itPE; rw [if_neg h, if_neg h1, if_pos h2]
theorem pE_2 (h : ¬ L.length < 1) (h2 : ¬ 1024 < L.length) (hk : nv L 0 1 = 2) : itPE L = (if L.length < 14 then 2 else if 3 < nv L 13 1 then 1 else if rcE L 14 ≠ 0 then rcE L 14 else if rcEnd L 14 < L.length then 4 else 0) := by
  unfold itPE; rw [if_neg h, if_neg (by omega), if_neg h2, if_pos hk]
theorem pE_3 (h : ¬ L.length < 1) (h2 : ¬ 1024 < L.length) (hk : nv L 0 1 = 3) : itPE L = (if vwE L 1 ≠ 0 then vwE L 1 else if 26 < L.length then 4 else 0) := by
  unfold itPE; rw [if_neg h, if_neg (by omega), if_neg h2, if_neg (by omega), if_pos hk]
theorem pE_4 (h : ¬ L.length < 1) (h2 : ¬ 1024 < L.length) (hk : nv L 0 1 = 4) : itPE L = (if L.length < 13 then 2 else 0) := by
  unfold itPE; rw [if_neg h, if_neg (by omega), if_neg h2, if_neg (by omega), if_neg (by omega), if_pos hk]
theorem pE_1 (h : ¬ L.length < 1) (h2 : ¬ 1024 < L.length) (hk : nv L 0 1 = 1) : itPE L = 0 := by
  unfold itPE; rw [if_neg h, if_neg (by omega), if_neg h2, if_neg (by omega), if_neg (by omega), if_neg (by omega)]
theorem pV_1 (hk : nv L 0 1 = 1) : itPV L = ⟨1, L.drop 1, 0, 0, false, false, ⟨.zero, []⟩, .zero, 0, 0, 0⟩ := by unfold itPV; rw [if_neg (by omega), if_neg (by omega), if_neg (by omega)]
theorem pV_2 (hk : nv L 0 1 = 2) : itPV L = ⟨2, [], (nv L 1 4).toNat, (nv L 5 8).toNat, decide (nv L 13 1 % 2 = 1), decide (nv L 13 1 / 2 = 1), rcAt L 14, .zero, 0, 0, 0⟩ := by unfold itPV; rw [if_pos hk]
theorem pV_3 (hk : nv L 0 1 = 3) : itPV L = ⟨3, [], 0, 0, false, false, ⟨.zero, []⟩, vwAt L 1, 0, 0, 0⟩ := by unfold itPV; rw [if_neg (by omega), if_pos hk]
theorem pV_4 (hk : nv L 0 1 = 4) : itPV L = ⟨4, L.drop 13, 0, 0, false, false, ⟨.zero, []⟩, .zero, (nv L 1 8).toNat, nv L 9 2, nv L 11 2⟩ := by unfold itPV; rw [if_neg (by omega), if_neg (by omega), if_pos hk]
end
section
variable {w W W' : World} {g p p' : Nat} {cs : Array Value} {s : ByteArray}
/-- The reader's Left, and what is left as text: never panics. -/
theorem left_rd {b : Nat} (h : Rdr W b s p) (hz : s.size ≤ 5000) : Calls Try.prog 45 #[.pointer (some ⟨b, 0, none⟩)] W fun e w' => e = .returned (.int .i64 ((s.size - p : Nat) : Int)) ∧ Rdr w' b s p ∧ Kp b W w' := by
  refine (left_any b s p W h (by omega)).mono ?_
  rintro e w' ⟨n, rfl, rfl⟩
  exact ⟨rfl, h.drewN n, (Kp.refl _ _).drewN n⟩
theorem text_rd {b : Nat} (h : Rdr W b s p) (hz : s.size ≤ 5000) : Calls Try.prog 44 #[.pointer (some ⟨b, 0, none⟩), .int .i64 ((s.size - p : Nat) : Int)] W fun e w' => ∃ D : ByteArray, e = .returned (.string D) ∧ Hid (bI D = (bI s).drop p) ∧ Rdr w' b s s.size ∧ Kp b W w' := by
  have hle := h.le
  refine (text_yes b s p _ W h (by omega) (by omega)).mono ?_
  rintro e w' ⟨rfl, h1, k1⟩
  rw [Int.toNat_natCast, show p + (s.size - p) = s.size by omega] at h1
  refine ⟨_, rfl, ?_, h1, Kp.ofKeep k1⟩
  show bI _ = _
  rw [bI_extract, Int.toNat_natCast, show p + (s.size - p) = s.size by omega, ← bI_len s, List.take_length]
end
set_option maxHeartbeats 3200000 in
set_option maxRecDepth 100000 in
theorem pitem_none (s : ByteArray) (w : World) (hz : s.size ≤ 5000) (hk : ¬ s.size < 1 → nvN (bI s) 0 1 < 1 ∨ 4 < nvN (bI s) 0 1) : Calls Try.prog 16 #[.string s] w (PiPost s w) := by
  (have hmf : ∀ (fn : Fn) (first cap : Array Value) (w : World), (Instr.makeFunc fn first cap).run Try.prog w = .ok (.func fn first cap) w := fun _ _ _ _ => rfl)
  obtain ⟨wS, hwS, PE, hsz⟩ := PaE.start w 34 zIT
  replace hwS := Lib.hid hwS
  have hL : (bI s).length = s.size := bI_len s
  have hB := bI_mem s
  have hN := Lib.hid (fun (W : World) (b q : Nat) (h : Rdr W b s q) => rn_any (n := 1) 1 rfl h (by omega))
  have e1 := Lib.hid (fun h => pE_l (L := bI s) h)
  have e2 := Lib.hid (fun h h1 => pE_k (L := bI s) h h1)
  rw [hL] at e1 e2
  rw [← nvN_cast hB] at e2
  have hx1 : nvN (bI s) 0 1 < 256 := nvN_lt hB 0 1
  clear hL hB
  go_enter_defers Try.func16, Try.ntmps16
  go_wp2_with fail
  rw [show #[.int .i64 0, .string ⟨#[]⟩, .int .u32 0, .int .u64 0, .bool false, .bool false, .int .u64 0, .int .u64 0, .int .i64 0, .int .u64 0, .slice none 0 0, .int .u64 0, .int .u64 0, .int .i64 0, .int .u64 0, .int .u64 0, .int .i64 0, .int .i64 0] = zIT from rfl, ← hwS.out]
  refine (new_any s _).mono ?_
  rintro e w1 ⟨rfl, hR1, hb1⟩
  have hsz1 := hsz.out
  rw [hsz1] at hR1 hb1 ⊢
  have hAl : Below w1.heap.size w1 (w1.alloc (.cells #[.pointer (some ⟨w.heap.size + 1 + 1, 0, none⟩)] 82)) := (Below.refl _ _).alloc (Nat.le_refl _) _
  have PS : PaS w (w1.alloc (.cells #[.pointer (some ⟨w.heap.size + 1 + 1, 0, none⟩)] 82)) w1.heap.size 34 zIT s 0 :=
    ⟨(PE.kp ⟨hb1.os, hb1.tape, hb1.output, hb1.size, fun i hi _ => hb1.block i (by omega)⟩).kp (Kp.ofBelow hAl), BlkAt.new _ _ _, hR1.below hAl hR1.lt, hR1.lt⟩
  have hc0 := PS.R.cell (i := 0) rfl
  go_wp2_with fail
  refine (hN.out _ _ _ PS.rd).mono ?_
  rintro e w2 ⟨⟨g1, rfl, h2⟩ | ⟨g1, rfl⟩, k2⟩
  case inr => exact panT_leave rfl rfl ⟨2, rfl, by decide, e1.out (by omega), zIT, rfl, PS.e.kp k2⟩
  replace PS := PS.kp k2 h2
  generalize w1.heap.size = g at *
  have hk' := hk (by omega)
  have he2 := e2.out (by omega) (by omega)
  clear hc0 h2 k2 hb1 hR1 hAl PE hsz1 hk e1 e2
  have y0 : w2.cell? ⟨w.heap.size, 0, none⟩ = some (.int .i64 0) := PS.e.T.cell rfl
  have z0 := PS.e.T.fz 0
  generalize nvN (bI s) 0 1 = k at *
  have hw : IntKind.i64.wrap (k : Int) = k := by rw [IntKind.wrap_i64]; omega
  go_wp2_with fail
  all_goals
    have PS := PS.set 0 (.int .i64 (k : Int))
    refine (bad_t (by first | (simp; done) | (simp; omega)) 10 _).mono ?_
    rintro e w' ⟨rfl, rfl⟩
    exact panT_leave rfl rfl ⟨10, rfl, by decide, he2, _, by simp [zIT], PS.e⟩
end Go.Proofs.Ytdfnpaaejjediaa
