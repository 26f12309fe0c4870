/- plan: the walk of awake -/
import Derived.Test.YtikhpafdnohhkaaDoorPlanD
import Derived.Test.YtikhpafdnohhkaaDoorPlanJ
namespace Go.Proofs.YtikhpafdnohhkaaDoor
set_option linter.unusedSimpArgs false
set_option linter.unusedVariables false
open Go.RowKit
theorem fill_many {z : Value} {size : Nat} (hp : 0 < size) (vs : List Value) (L : List (Array Value)) (hL : vs = L.map Value.agg) (hs : ∀ c ∈ L, c.size = size) (ps : List (Nat × Value)) (hps : ps = (vs.zipIdx 0).map fun x => (x.2, x.1)) :
    Instr.fill (fun i => some (i * size, size)) ((Array.range (L.length * size)).map (z.cells[· % z.cells.size]!)) ps = some (L.flatMap (·.toList)).toArray := by
  subst hL hps
  have := Great.fill_whole (s := size) hp (L.map Value.agg) ((Array.range (L.length * size)).map (z.cells[· % z.cells.size]!)) (by intro v hv; obtain ⟨c, hc, rfl⟩ := List.mem_map.1 hv; exact hs c hc) (by simp)
  rw [this]
  congr 2
  rw [List.flatMap_map]
  rfl
theorem Tryd.bldX3 (a b c : Int) (sa : Option Addr) (n k : Nat) : Tryd.prog.built 64 [(0, .int .i64 a), (1, .agg #[.int .u64 b, .int .i64 c]), (2, .slice sa n k)] = some #[.int .i64 a, .int .u64 b, .int .i64 c, .slice sa n k, .int .u64 0, .int .i64 0] := by kernel_rfl
theorem Tryd.bldX4 (a b c d e : Int) (sa : Option Addr) (n k : Nat) : Tryd.prog.built 64 [(0, .int .i64 a), (1, .agg #[.int .u64 b, .int .i64 c]), (2, .slice sa n k), (3, .agg #[.int .u64 d, .int .i64 e])] = some #[.int .i64 a, .int .u64 b, .int .i64 c, .slice sa n k, .int .u64 d, .int .i64 e] := by kernel_rfl
theorem Tryd.bldX1 (a : Int) : Tryd.prog.built 64 [(0, .int .i64 a)] = some #[.int .i64 a, .int .u64 0, .int .i64 0, .slice none 0 0, .int .u64 0, .int .i64 0] := by kernel_rfl
theorem Tryd.bldM2 (a b : Int) : Tryd.prog.built 59 [(0, .int .i64 a), (1, .int .u32 b)] = some #[.int .i64 a, .int .u32 b, .int .u64 0, .int .i64 0, .slice none 0 0, .string (ByteArray.mk #[])] := by kernel_rfl
theorem Tryd.bldM3 (a b : Int) (sa : Option Addr) (n k : Nat) : Tryd.prog.built 59 [(0, .int .i64 a), (1, .int .u32 b), (4, .slice sa n k)] = some #[.int .i64 a, .int .u32 b, .int .u64 0, .int .i64 0, .slice sa n k, .string (ByteArray.mk #[])] := by kernel_rfl
theorem wpList_buildSlice3 {P : Program} {w : World} {ops : Array Oper} {rest : List Oper} {o : Oper} {a : Act} {Q : Exit → Act → World → Prop} (hgd : o.guard = none) (t e : TypeId) (x y u : Operand) (ho : o.op = .buildSlice t 3 #[(0, x), (1, y), (2, u)])
    {z : Value} {size bytes : Nat} (E : Elt P t e z size bytes) (hsm : 3 * size ≤ 16777216) {cx cy cu : Array Value} (hx : a.eval x = .agg cx) (hy : a.eval y = .agg cy) (hu : a.eval u = .agg cu) (h1 : cx.size = size) (h2 : cy.size = size) (h3 : cu.size = size)
    (h : wpList P ops Q rest (a.put o.dst (.slice (some ⟨w.heap.size, 0, none⟩) 3 3)) (w.alloc (.cells ([cx, cy, cu].flatMap (·.toList)).toArray e))) : wpList P ops Q (o :: rest) a w := by
  obtain ⟨i, hi, hz0, hz1, hz2⟩ := info_parts E.info
  have hp := E.pos
  refine wpList_buildSlice hgd t e 3 #[(0, x), (1, y), (2, u)] ho ([cx, cy, cu].flatMap (·.toList)).toArray i z E.ty hi hz0 (by rw [hz1]; omega) (by rw [hz1]; omega) ?_ h
  rw [hz1]
  exact fill_many hp [.agg cx, .agg cy, .agg cu] [cx, cy, cu] rfl (by intro c hc; simp at hc; rcases hc with rfl | rfl | rfl <;> assumption) _ (by rw [List.map_toArray]; simp [hx, hy, hu])
theorem wpList_buildSlice2 {P : Program} {w : World} {ops : Array Oper} {rest : List Oper} {o : Oper} {a : Act} {Q : Exit → Act → World → Prop} (hgd : o.guard = none) (t e : TypeId) (x y : Operand) (ho : o.op = .buildSlice t 2 #[(0, x), (1, y)])
    {z : Value} {size bytes : Nat} (E : Elt P t e z size bytes) (hsm : 2 * size ≤ 16777216) {cx cy : Array Value} (hx : a.eval x = .agg cx) (hy : a.eval y = .agg cy) (h1 : cx.size = size) (h2 : cy.size = size)
    (h : wpList P ops Q rest (a.put o.dst (.slice (some ⟨w.heap.size, 0, none⟩) 2 2)) (w.alloc (.cells ([cx, cy].flatMap (·.toList)).toArray e))) : wpList P ops Q (o :: rest) a w := by
  obtain ⟨i, hi, hz0, hz1, hz2⟩ := info_parts E.info
  have hp := E.pos
  refine wpList_buildSlice hgd t e 2 #[(0, x), (1, y)] ho ([cx, cy].flatMap (·.toList)).toArray i z E.ty hi hz0 (by rw [hz1]; omega) (by rw [hz1]; omega) ?_ h
  rw [hz1]
  exact fill_many hp [.agg cx, .agg cy] [cx, cy] rfl (by intro c hc; simp at hc; rcases hc with rfl | rfl <;> assumption) _ (by rw [List.map_toArray]; simp [hx, hy])
def awX0 : Xv := ⟨0, 3, 0, [0, 2], 0, 0⟩
def awX1 : Xv := ⟨2, 3, 0, [0, 3], 4, 1⟩
def awX2 : Xv := ⟨3, 0, 0, [], 0, 0⟩
def awM1 : Ms := ⟨1, 2, 0, 0, [], ⟨#[]⟩⟩
def awM2 : Ms := ⟨1, 3, 0, 0, [1], ⟨#[]⟩⟩
theorem aw_facts : wholeV [awX0, awX1] 1 = 3 ∧ holdV [awX0, awX1] 1 = 2 ∧ maskV [awX0, awX1] = 5 ∧ bndV [awX0, awX1] = (4, 1) ∧ withN 0 [0, 2] = 5 := by decide +kernel
theorem aw_gaps : (gapsV [awX0, awX1] [0, 2] 64).flatMap gpC = [.int .i64 1, .int .i64 2, .int .u32 3, .int .u32 3] := by
  have e : gapsV [awX0, awX1] [0, 2] 64 = [⟨1, 2, 3, 3⟩] := by kernel_rfl
  rw [e]; rfl
theorem aw_rounds : roundsN (wholeV [awX0, awX1]) [awM1, awM2] 3 = [false, true] := by decide +kernel
theorem aw_kept1 : keptB (wholeV [awX0, awX1]) [awM1, awM2] awM1 = true := by
  rw [keptB_t]
  refine ⟨by decide +kernel, fun h => ?_⟩
  have := (roundsN_eq (wholeV [awX0, awX1]) [awM1, awM2] 0 awM1 rfl).2 h
  rw [show ([awM1, awM2].length + 1) = 3 from rfl, aw_rounds] at this
  cases this
theorem aw_kept2 : keptB (wholeV [awX0, awX1]) [awM1, awM2] awM2 = false := by
  rw [Bool.eq_false_iff, Ne, keptB_t]
  rintro ⟨_, h⟩
  exact h ((roundsN_eq (wholeV [awX0, awX1]) [awM1, awM2] 1 awM2 rfl).1 (by rw [show ([awM1, awM2].length + 1) = 3 from rfl, aw_rounds]; rfl))
theorem aw_comp : compV 0 [awX0, awX1, awX2] = [awX0, awX1] := by kernel_rfl
theorem Rd.blkn {w : World} {e : TypeId} {cs : List Value} {sz b n : Nat} (hb : BlkAt w b e cs.toArray) (hs : cs.length = n * sz) (hn : n ≤ maxLen) : Rd w sz (some ⟨b, 0, none⟩) n n cs :=
  ⟨⟨hs, Nat.le_refl _, hn, (fun h => by cases h)⟩, .inr ⟨b, 0, rfl, hb.lt, fun j u hu => hb.cell (by rw [Nat.zero_add, List.getElem?_toArray]; exact hu)⟩⟩
theorem RdU.blk {w : World} {e : TypeId} {b : Nat} {l : List Nat} (hb : BlkAt w b e (u32s l).toArray) (hn : l.length ≤ maxLen) : RdU w (some ⟨b, 0, none⟩) l.length l.length l :=
  Rd.blkn hb (by simp [u32s]) hn
/-- The first New of awake. -/
theorem aw_new (W : World) (b1 b2 b3 t1 t2 t3 : Nat) (h1 : BlkAt W b1 t1 #[.int .u32 0, .int .u32 2]) (h2 : BlkAt W b2 t2 #[.int .u32 0, .int .u32 3])
    (h3 : BlkAt W b3 t3 #[.int .i64 0, .int .u64 3, .int .i64 0, .slice (some ⟨b1, 0, none⟩) 2 2, .int .u64 0, .int .i64 0, .int .i64 2, .int .u64 3, .int .i64 0, .slice (some ⟨b2, 0, none⟩) 2 2, .int .u64 4, .int .i64 1, .int .i64 3, .int .u64 0, .int .i64 0, .slice none 0 0, .int .u64 0, .int .i64 0]) :
    Calls Tryd.prog 11 #[.int .i64 0, .slice (some ⟨b3, 0, none⟩) 3 3] W fun e w' => ∃ p l', e = .returned (.tuple #[.pointer (some ⟨p, 0, none⟩), .bool true]) ∧ PlAt w' p l' ∧ vX l' = [awX0, awX1] ∧ Below W.heap.size W w' := by
  have hr : RdX W (some ⟨b3, 0, none⟩) 3 3 [⟨awX0, some ⟨b1, 0, none⟩, 2, 2⟩, ⟨awX1, some ⟨b2, 0, none⟩, 2, 2⟩, ⟨awX2, none, 0, 0⟩] := by
    refine ⟨Rd.blkn (e := t3) h3 rfl (by decide), fun x hx => ?_⟩
    simp only [List.mem_cons, List.not_mem_nil, or_false] at hx
    rcases hx with rfl | rfl | rfl
    · exact RdU.blk (l := [0, 2]) h1 (by decide)
    · exact RdU.blk (l := [0, 3]) h2 (by decide)
    · exact Rd.mk_nil _ _
  have hok : okV [awX0, awX1, awX2] ∧ ∃ x ∈ [awX0, awX1, awX2], x.who = 0 := ⟨⟨by decide, by decide⟩, awX0, by simp, rfl⟩
  refine (new_any 0 _ 3 3 _ W hr (by intro x hx; simp only [List.mem_cons, List.not_mem_nil, or_false] at hx; rcases hx with rfl | rfl | rfl <;> simp) (by decide) true ⟨fun _ => hok, fun _ => rfl⟩).mono ?_
  rintro e w' ⟨p, rfl, _, h, hb⟩
  obtain ⟨q, l', rfl, hp, hl⟩ := h rfl
  exact ⟨q, l', rfl, hp, hl.trans aw_comp, hb⟩
section
variable (W : World) (p : Nat) (pl : List Xc) (hp : PlAt W p pl) (hl : vX pl = [awX0, awX1])
include hp hl
theorem aw_whole : Calls Tryd.prog 16 #[.pointer (some ⟨p, 0, none⟩), .int .i64 1] W fun e w' => e = .returned (.int .u32 3) ∧ Below W.heap.size W w' := by
  have h := whole_any p pl 1 W hp
  rw [hl, aw_facts.1] at h
  exact h
theorem aw_hold (hT : Tab W) : Calls Tryd.prog 18 #[.pointer (some ⟨p, 0, none⟩), .int .i64 1] W fun e w' => e = .returned (.int .i64 2) ∧ Below W.heap.size W w' := by
  have h := hold_any p pl 1 W hp hT
  rw [hl, aw_facts.2.1] at h
  exact h
theorem aw_comps : Calls Tryd.prog 14 #[.pointer (some ⟨p, 0, none⟩)] W fun e w' => e = .returned (.int .u64 5) ∧ Below W.heap.size W w' := by
  have h := comps_any p pl W hp
  rw [hl, aw_facts.2.2.1] at h
  exact h
theorem aw_bnd : Calls Tryd.prog 20 #[.pointer (some ⟨p, 0, none⟩)] W fun e w' => e = .returned (.agg #[.int .u64 4, .int .i64 1]) ∧ Below W.heap.size W w' :=
  bnd_any p pl 4 1 (by rw [hl]; exact aw_facts.2.2.2.1) (by have := congrArg List.length hl; rw [vX_len] at this; rw [this]; decide) W hp
end
theorem aw_of (W : World) (b t : Nat) (h : BlkAt W b t #[.int .i64 0, .int .i64 2]) : Calls Tryd.prog 32 #[.slice (some ⟨b, 0, none⟩) 2 2] W fun e w' => e = .returned (.int .u64 5) ∧ W = w' := by
  have h := of_any 2 2 (some ⟨b, 0, none⟩) [0, 2] W (by decide) (Rd.blkn (e := t) h rfl (by decide))
  rw [aw_facts.2.2.2.2] at h
  exact h
/-- The second one. -/
theorem aw_lacks (W : World) (p b1 t1 : Nat) (pl : List Xc) (hp : PlAt W p pl) (hl : vX pl = [awX0, awX1]) (h1 : BlkAt W b1 t1 #[.int .u32 0, .int .u32 2]) (hT : Tab W) :
    Calls Tryd.prog 22 #[.pointer (some ⟨p, 0, none⟩), .slice (some ⟨b1, 0, none⟩) 2 2] W fun e w' => ∃ g off c, e = .returned (.slice (some ⟨g, off, none⟩) 1 c) ∧ g < w'.heap.size ∧ (w'.cell? ⟨g, off, none⟩ = some (.int .i64 1) ∧ w'.cell? ⟨g, off + 1, none⟩ = some (.int .i64 2) ∧ w'.cell? ⟨g, off + 2, none⟩ = some (.int .u32 3) ∧ w'.cell? ⟨g, off + 3, none⟩ = some (.int .u32 3)) ∧ Below W.heap.size W w' := by
  refine (lacks_any p pl _ 2 2 [0, 2] W hp (RdU.blk (l := [0, 2]) h1 (by decide)) hT (by rw [hl]; decide)).mono ?_
  rintro e w' ⟨a, m, c, rfl, hr, hb⟩
  rw [hl, aw_gaps] at hr
  have hm := hr.length_eq
  simp at hm
  obtain rfl : m = 1 := by omega
  obtain ⟨g, off, rfl, hlt⟩ := hr.addr (by decide)
  exact ⟨g, off, c, rfl, hlt, ⟨hr.at (j := 0) rfl, hr.at (j := 1) rfl, hr.at (j := 2) rfl, hr.at (j := 3) rfl⟩, hb⟩
theorem aw_new2 (W : World) (b3 t3 : Nat) (h3 : BlkAt W b3 t3 #[.int .i64 0, .int .u64 0, .int .i64 0, .slice none 0 0, .int .u64 0, .int .i64 0]) :
    Calls Tryd.prog 11 #[.int .i64 1, .slice (some ⟨b3, 0, none⟩) 1 1] W fun e w' => e = .returned (.tuple #[.pointer none, .bool false]) ∧ Below W.heap.size W w' := by
  have hr : RdX W (some ⟨b3, 0, none⟩) 1 1 [⟨⟨0, 0, 0, [], 0, 0⟩, none, 0, 0⟩] := by
    refine ⟨Rd.blkn (e := t3) h3 rfl (by decide), fun x hx => ?_⟩
    obtain rfl := List.mem_singleton.1 hx
    exact Rd.mk_nil _ _
  refine (new_any 1 _ 1 1 _ W hr (by decide) (by decide) false ⟨(fun h => by cases h), fun ⟨_, x, hx, hw⟩ => ?_⟩).mono ?_
  · obtain rfl := List.mem_singleton.1 hx
    cases hw
  · rintro e w' ⟨p, rfl, hp, _, hb⟩
    rw [hp rfl]
    exact ⟨rfl, hb⟩
/-- Keep in awake. -/
theorem aw_keep (W : World) (p b1 b2 t1 t2 : Nat) (pl : List Xc) (hp : PlAt W p pl) (hl : vX pl = [awX0, awX1]) (h1 : BlkAt W b1 t1 #[.int .u32 1])
    (h2 : BlkAt W b2 t2 #[.int .i64 1, .int .u32 2, .int .u64 0, .int .i64 0, .slice none 0 0, .string (ByteArray.mk #[]), .int .i64 1, .int .u32 3, .int .u64 0, .int .i64 0, .slice (some ⟨b1, 0, none⟩) 1 1, .string (ByteArray.mk #[])]) :
    Calls Tryd.prog 26 #[.pointer (some ⟨p, 0, none⟩), .slice (some ⟨b2, 0, none⟩) 2 2] W fun e w' => ∃ a c, e = .returned (.slice a 1 c) ∧ Below W.heap.size W w' := by
  have hr : RdM W (some ⟨b2, 0, none⟩) 2 2 [⟨awM1, none, 0, 0⟩, ⟨awM2, some ⟨b1, 0, none⟩, 1, 1⟩] := by
    refine ⟨Rd.blkn (e := t2) h2 rfl (by decide), fun x hx => ?_⟩
    simp only [List.mem_cons, List.not_mem_nil, or_false] at hx
    rcases hx with rfl | rfl
    · exact Rd.mk_nil _ _
    · exact RdU.blk (l := [1]) h1 (by decide)
  refine (keep_any p pl _ 2 2 _ W hp hr (by rw [hl]; decide) (by decide)).mono ?_
  rintro e w' ⟨a, m, c, rfl, hr', hb⟩
  have hm := hr'.len
  rw [hl] at hm
  have e1 : mX [⟨awM1, none, 0, 0⟩, ⟨awM2, some ⟨b1, 0, none⟩, 1, 1⟩] = [awM1, awM2] := rfl
  rw [e1, List.filter_cons_of_pos (by exact aw_kept1), List.filter_cons_of_neg (by rw [Bool.not_eq_true]; exact aw_kept2)] at hm
  simp at hm
  subst hm
  exact ⟨a, c, rfl, hb⟩
set_option maxHeartbeats 3200000 in
set_option maxRecDepth 100000 in
theorem awake_any (w : World) (hT : Tab w) : Calls Tryd.prog 9 #[] w fun e w' => e = .returned (.bool true) ∧ Below w.heap.size w w' := by
  have hC1 := BlkAt.new w 62 #[.int .u64 3, .int .i64 0]
  have hb1 := alloc_below w (.cells #[.int .u64 3, .int .i64 0] 62)
  have hz1 : (w.alloc (.cells #[.int .u64 3, .int .i64 0] 62)).heap.size = w.heap.size + 1 := by simp
  obtain ⟨w1, hw1⟩ : ∃ w1, w1 = w.alloc (.cells #[.int .u64 3, .int .i64 0] 62) := ⟨_, rfl⟩
  rw [← hw1] at hC1 hb1 hz1
  have hD2 := BlkAt.new w1 35 #[.int .u32 0, .int .u32 2]
  have hb2 := alloc_below w1 (.cells #[.int .u32 0, .int .u32 2] 35)
  have hz2 : (w1.alloc (.cells #[.int .u32 0, .int .u32 2] 35)).heap.size = w.heap.size + 1 + 1 := by simp [hz1]
  obtain ⟨w2, hw2⟩ : ∃ w2, w2 = w1.alloc (.cells #[.int .u32 0, .int .u32 2] 35) := ⟨_, rfl⟩
  rw [← hw2] at hD2 hb2 hz2
  have hE3 := BlkAt.new w2 35 #[.int .u32 0, .int .u32 3]
  have hb3 := alloc_below w2 (.cells #[.int .u32 0, .int .u32 3] 35)
  have hz3 : (w2.alloc (.cells #[.int .u32 0, .int .u32 3] 35)).heap.size = w.heap.size + 1 + 1 + 1 := by simp [hz2]
  obtain ⟨w3, hw3⟩ : ∃ w3, w3 = w2.alloc (.cells #[.int .u32 0, .int .u32 3] 35) := ⟨_, rfl⟩
  rw [← hw3] at hE3 hb3 hz3
  have hF4 := BlkAt.new w3 64 #[.int .i64 0, .int .u64 3, .int .i64 0, .slice (some ⟨w1.heap.size, 0, none⟩) 2 2, .int .u64 0, .int .i64 0, .int .i64 2, .int .u64 3, .int .i64 0, .slice (some ⟨w2.heap.size, 0, none⟩) 2 2, .int .u64 4, .int .i64 1, .int .i64 3, .int .u64 0, .int .i64 0, .slice none 0 0, .int .u64 0, .int .i64 0]
  have hb4 := alloc_below w3 (.cells #[.int .i64 0, .int .u64 3, .int .i64 0, .slice (some ⟨w1.heap.size, 0, none⟩) 2 2, .int .u64 0, .int .i64 0, .int .i64 2, .int .u64 3, .int .i64 0, .slice (some ⟨w2.heap.size, 0, none⟩) 2 2, .int .u64 4, .int .i64 1, .int .i64 3, .int .u64 0, .int .i64 0, .slice none 0 0, .int .u64 0, .int .i64 0] 64)
  have hD4 := (hD2.below hb3 hD2.lt)
  replace hD4 := hD4.below hb4 hD4.lt
  have hE4 := hE3.below hb4 hE3.lt
  have HN := Lib.hid (aw_new _ _ _ _ _ _ _ hD4 hE4 hF4)
  rw [hz1, hz2, hz3] at HN
  have hB4 := Lib.hid (belS (belS hb1 hb2) (belS hb3 hb4))
  have hc0 := Lib.hid (show Below w1.heap.size w1 (w3.alloc _) from belS hb2 (belS hb3 hb4))
  clear hD2 hE3 hF4 hD4 hE4 hb2 hb3 hb4
  rw [hz1, hz2] at hB4
  go_enter Tryd.func9, Tryd.ntmps9
  go_wp2_with (first
    | (refine wpList_blk_build rfl #[(0, .const (.int .i64 0)), (1, .tmp 10), (2, .tmp 11)] rfl (by rw [List.map_toArray]; exact Tryd.bldX3 _ _ _ _ _ _) ?_)
    | (refine wpList_blk_build rfl #[(0, .const (.int .i64 2)), (1, .tmp 13), (2, .tmp 14), (3, .tmp 15)] rfl (by rw [List.map_toArray]; exact Tryd.bldX4 _ _ _ _ _ _ _ _) ?_)
    | (refine wpList_blk_build rfl #[(0, .const (.int .i64 3))] rfl (by rw [List.map_toArray]; exact Tryd.bldX1 _) ?_)
    | (refine wpList_buildSlice3 rfl 22 64 (.tmp 12) (.tmp 16) (.tmp 17) rfl Tryd.exE (by decide) rfl rfl rfl rfl rfl rfl ?_))
  rw [← hw1, ← hw2, ← hw3]
  refine HN.out.mono ?_
  rintro e w5 ⟨p, l', rfl, hp, hl, hb5⟩
  have hB5 := Lib.hid (belS hB4.out hb5)
  clear HN hc0 hB4 hb5 hC1 hb1 hw1 hw2 hw3 hz1 hz2 hz3
  have hX6 := BlkAt.new w5 64 #[.int .i64 0, .int .u64 0, .int .i64 0, .slice none 0 0, .int .u64 0, .int .i64 0]
  have HN2 := Lib.hid (aw_new2 _ _ _ hX6)
  have hb6 := Lib.hid (alloc_below w5 (.cells #[.int .i64 0, .int .u64 0, .int .i64 0, .slice none 0 0, .int .u64 0, .int .i64 0] 64))
  clear hX6
  go_wp2_with (first
    | (refine wpList_blk_build rfl #[(0, .const (.int .i64 0))] rfl (by rw [List.map_toArray]; exact Tryd.bldX1 _) ?_)
    | (refine wpList_buildSlice1 (cs := #[.int .i64 0, .int .u64 0, .int .i64 0, .slice none 0 0, .int .u64 0, .int .i64 0]) rfl 22 64 (.tmp 23) rfl Tryd.exE (by decide) (by rfl) rfl ?_))
  refine HN2.out.mono ?_
  rintro e w7 ⟨rfl, hb7⟩
  have hB7 := Lib.hid (belS hb6.out hb7)
  have hP7 := Lib.hid (hp.below hB7.out)
  replace hB7 := Lib.hid (belS hB5.out hB7.out)
  clear HN2 hb6 hb7 hp hB5
  have hD8 := BlkAt.new w7 35 #[.int .u32 0, .int .u32 2]
  have hb8 := Lib.hid (alloc_below w7 (.cells #[.int .u32 0, .int .u32 2] 35))
  have HL := Lib.hid (aw_lacks _ p _ _ l' (hP7.out.below hb8.out) hl hD8 (hT.below (belS hB7.out hb8.out) hT.1))
  clear hD8
  go_wp2_with fail
  refine HL.out.mono ?_
  rintro e w9 ⟨lg, lo, lc, rfl, hlg, hcs, hb9⟩
  have hB9 := Lib.hid (belS hb8.out hb9)
  have hP9 := Lib.hid (hP7.out.below hB9.out)
  replace hB9 := Lib.hid (belS hB7.out hB9.out)
  clear HL hb8 hb9 hP7 hB7
  replace hcs := Lib.hid hcs
  have hD8 := BlkAt.new w9 35 #[.int .u32 1]
  have hb8 := alloc_below w9 (.cells #[.int .u32 1] 35)
  have hD9 := BlkAt.new (w9.alloc (.cells #[.int .u32 1] 35)) 59 #[.int .i64 1, .int .u32 2, .int .u64 0, .int .i64 0, .slice none 0 0, .string (ByteArray.mk #[]), .int .i64 1, .int .u32 3, .int .u64 0, .int .i64 0, .slice (some ⟨w9.heap.size, 0, none⟩) 1 1, .string (ByteArray.mk #[])]
  have hb10 := alloc_below (w9.alloc (.cells #[.int .u32 1] 35)) (.cells #[.int .i64 1, .int .u32 2, .int .u64 0, .int .i64 0, .slice none 0 0, .string (ByteArray.mk #[]), .int .i64 1, .int .u32 3, .int .u64 0, .int .i64 0, .slice (some ⟨w9.heap.size, 0, none⟩) 1 1, .string (ByteArray.mk #[])] 59)
  have hb11 := Lib.hid (belS hb8 hb10)
  have HK := Lib.hid (aw_keep _ p _ _ _ _ l' (hP9.out.below hb11.out) hl (hD8.below hb10 hD8.lt) hD9)
  simp only [World.size_alloc] at HK
  clear hD8 hD9 hb8 hb10
  go_wp2_with (first
    | (refine wpList_blk_build rfl #[(0, .const (.int .i64 1)), (1, .const (.int .u32 2))] rfl (by rw [List.map_toArray]; exact Tryd.bldM2 _ _) ?_)
    | (refine wpList_blk_build rfl #[(0, .const (.int .i64 1)), (1, .const (.int .u32 3)), (4, .tmp 42)] rfl (by rw [List.map_toArray]; exact Tryd.bldM3 _ _ _ _ _) ?_)
    | (refine wpList_buildSlice2 rfl 50 59 (.tmp 41) (.tmp 43) rfl Tryd.msE (by decide) rfl rfl rfl rfl ?_))
  refine HK.out.mono ?_
  rintro e w12 ⟨ka, kc, rfl, hb12⟩
  have hB12 := Lib.hid (hb11.out.trans (hb12.mono (by omega)))
  clear HK hb11 hb12
  have HWh := Lib.hid (fun W (hb : Below w9.heap.size w9 W) => aw_whole W p l' (hP9.out.below hb) hl)
  have HHo := Lib.hid (fun W (hb : Below w9.heap.size w9 W) => aw_hold W p l' (hP9.out.below hb) hl (hT.below (belS hB9.out hb) hT.1))
  have HCo := Lib.hid (fun W (hb : Below w9.heap.size w9 W) => aw_comps W p l' (hP9.out.below hb) hl)
  have HBo := Lib.hid (fun W (hb : Below w9.heap.size w9 W) => aw_bnd W p l' (hP9.out.below hb) hl)
  have HLg := Lib.hid (fun W (hb : Below w9.heap.size w9 W) => show W.cell? ⟨lg, lo, none⟩ = some (.int .i64 1) ∧ W.cell? ⟨lg, lo + 1, none⟩ = some (.int .i64 2) ∧ W.cell? ⟨lg, lo + 2, none⟩ = some (.int .u32 3) ∧ W.cell? ⟨lg, lo + 3, none⟩ = some (.int .u32 3) from
    ⟨(hb.cell (p := ⟨lg, lo, none⟩) hlg).trans hcs.out.1, (hb.cell (p := ⟨lg, lo + 1, none⟩) hlg).trans hcs.out.2.1, (hb.cell (p := ⟨lg, lo + 2, none⟩) hlg).trans hcs.out.2.2.1, (hb.cell (p := ⟨lg, lo + 3, none⟩) hlg).trans hcs.out.2.2.2⟩)
  clear hcs
  go_wp2_with fail
  refine (HWh.out _ hB12.out).mono ?_
  rintro e w13 ⟨rfl, hb⟩
  have hB13 := Lib.hid (belS hB12.out hb)
  clear hb hB12
  go_wp2_with fail
  refine (HHo.out _ hB13.out).mono ?_
  rintro e w14 ⟨rfl, hb⟩
  have hB14 := Lib.hid (belS hB13.out hb)
  clear hb hB13
  obtain ⟨c0, c1, c2, c3⟩ := HLg.out _ hB14.out
  go_wp2_with fail
  refine (HCo.out _ hB14.out).mono ?_
  rintro e w15 ⟨rfl, hb⟩
  have hB15 := Lib.hid (belS hB14.out hb)
  clear hb hB14 c0 c1 c2 c3
  have HOf := Lib.hid (aw_of _ _ _ (BlkAt.new w15 3 #[.int .i64 0, .int .i64 2]))
  go_wp2_with fail
  refine HOf.out.mono ?_
  rintro e w16 ⟨rfl, rfl⟩
  have hB16 := Lib.hid (belS hB15.out (alloc_below w15 (.cells #[.int .i64 0, .int .i64 2] 3)))
  clear hB15 HOf
  go_wp2_with fail
  refine (HBo.out _ hB16.out).mono ?_
  rintro e w17 ⟨rfl, hb⟩
  have hB17 := Lib.hid (belS hB16.out hb)
  clear hb hB16
  go_wp2
  go_ret
  exact ⟨rfl, belS hB9.out hB17.out⟩
end Go.Proofs.YtikhpafdnohhkaaDoor
