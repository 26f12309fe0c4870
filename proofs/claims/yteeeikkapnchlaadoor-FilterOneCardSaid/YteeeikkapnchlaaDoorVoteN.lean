/- the walk of awake -/
import Derived.Test.YteeeikkapnchlaaDoorVoteK
import Derived.Test.YteeeikkapnchlaaDoorVoteM
namespace Go.Proofs.YteeeikkapnchlaaDoor
set_option linter.unusedSimpArgs false
set_option linter.unusedVariables false
open Go.RowKit Go.Sort

def r0 : Rc := ⟨⟨0, 0, 0, 7⟩, []⟩
def v1 : Vw := ⟨1, 0, 0, 3⟩
def r1 : Rc := ⟨⟨0, 0, 0, 7⟩, [v1]⟩
theorem RdR.one {W : World} {b : Nat} {t : TypeId} {r : Rc} {pa : Option Addr} {pn pc : Nat} (h : BlkAt W b t #[.int .u64 r.last.num, .int .u64 r.last.ce, .int .i64 r.last.cr, .int .u64 r.last.mem, .slice pa pn pc]) (hp : RdV W pa pn pc r.pend) : RdR W (some ⟨b, 0, none⟩) 1 1 [r] := by
  refine ⟨⟨rfl, Nat.le_refl _, by decide, by simp⟩, .inr ⟨b, 0, rfl, h.lt, fun i hi => ?_⟩⟩
  obtain rfl : i = 0 := by simp at hi; exact hi
  exact ⟨pa, pn, pc, ⟨h.cell rfl, h.cell rfl, h.cell rfl, h.cell rfl, h.cell rfl⟩, hp⟩
theorem Tryd.recZ : (Tryd.prog.info? 38).map (·.zero) = some (some (.agg #[.int .u64 0, .int .u64 0, .int .i64 0, .int .u64 0, .slice none 0 0])) := by kernel_rfl
theorem RdV.nil (w : World) : RdV w none 0 0 [] := Rd.mk_nil w 4
theorem aw_first (w : World) : Calls Tryd.prog 22 #[.int .i64 3] w fun e w' => e = .returned (.agg #[.int .u64 0, .int .u64 0, .int .i64 0, .int .u64 7, .slice none 0 0]) ∧ Below w.heap.size w w' := first_any 3 w
theorem aw_add (w : World) : Calls Tryd.prog 43 #[.agg #[.int .u64 0, .int .u64 0, .int .i64 0, .int .u64 7, .slice none 0 0], .agg #[.int .u64 1, .int .u64 0, .int .i64 0, .int .u64 3]] w fun e w' => ∃ a c, e = .returned (.tuple #[.agg #[.int .u64 0, .int .u64 0, .int .i64 0, .int .u64 7, .slice a 1 c], .bool true]) ∧ RdV w' a 1 c [v1] ∧ Below w.heap.size w w' := add_yes ⟨0, 0, 0, 7⟩ v1 none 0 0 [] (by decide) w (RdV.nil w)
theorem aw_form (a : Option Addr) (c : Nat) (w : World) (h : RdV w a 1 c [v1]) : Calls Tryd.prog 30 #[.agg #[.int .u64 0, .int .u64 0, .int .i64 0, .int .u64 7, .slice a 1 c], .agg #[.int .u64 1, .int .u64 0, .int .i64 0, .int .u64 3]] w fun e w' => ∃ a c, e = .returned (.agg #[.int .u64 1, .int .u64 0, .int .i64 0, .int .u64 3, .slice a 0 c]) ∧ Below w.heap.size w w' :=
  (form_any ⟨0, 0, 0, 7⟩ v1 a 1 c [v1] (by decide) w h).mono (by rintro e w' ⟨a', c', rfl, _, hb⟩; exact ⟨a', c', rfl, hb⟩)
theorem aw_may (x : Nat) (hx : x < 18446744073709551616) (b : Bool) (r : Rc) (hr : r.Wf) (ht : r.pend.length ≤ 1000000) (hb : mayB x [r] = b) {t : TypeId} {pa : Option Addr} {pn pc g : Nat} (w : World) (h : BlkAt w g t #[.int .u64 r.last.num, .int .u64 r.last.ce, .int .i64 r.last.cr, .int .u64 r.last.mem, .slice pa pn pc]) (hp : RdV w pa pn pc r.pend) :
    Calls Tryd.prog 13 #[.int .u64 x, .slice (some ⟨g, 0, none⟩) 1 1] w fun e w' => e = .returned (.bool b) ∧ Below w.heap.size w w' := by
  have := may_any x hx (some ⟨g, 0, none⟩) 1 1 [r] (by simpa using hr) (by simpa [tot] using ht) w (RdR.one h hp)
  rw [hb] at this
  exact this
theorem r0_wf : r0.Wf := ⟨⟨by decide, by decide⟩, by intro v hv; cases hv⟩
theorem r1_wf : r1.Wf := ⟨⟨by decide, by decide⟩, by intro v hv; have e : v = v1 := (by simpa [r1] using hv); rw [e]; exact ⟨by decide, by decide⟩⟩
theorem aw_f : mayB 3 [r0] = true ∧ mayB 4 [r0] = false ∧ mayB 6 [r1] = false ∧ mayB 3 [r1] = true ∧ nextL [r1] = 2 ∧ mayB 7 [] = false ∧ nextL [] = 1 := by decide +kernel
theorem aw_next (w : World) {t : TypeId} {pa : Option Addr} {pc g : Nat} (h : BlkAt w g t #[.int .u64 0, .int .u64 0, .int .i64 0, .int .u64 7, .slice pa 1 pc]) (hp : RdV w pa 1 pc [v1]) :
    Calls Tryd.prog 7 #[.slice (some ⟨g, 0, none⟩) 1 1] w fun e w' => e = .returned (.int .u64 2) ∧ Below w.heap.size w w' := by
  have := next_any (some ⟨g, 0, none⟩) 1 1 [r1] (by intro r hr; have e : r = r1 := (by simpa using hr); rw [e]; exact r1_wf) w (RdR.one (r := r1) h hp)
  rw [aw_f.2.2.2.2.1] at this
  exact this
theorem aw_may0 (w : World) : Calls Tryd.prog 13 #[.int .u64 7, .slice none 0 0] w fun e w' => e = .returned (.bool false) ∧ Below w.heap.size w w' := may_any 7 (by decide) none 0 0 [] (by simp) (by decide) w (RdR.nil w)
theorem aw_next0 (w : World) : Calls Tryd.prog 7 #[.slice none 0 0] w fun e w' => e = .returned (.int .u64 1) ∧ Below w.heap.size w w' := next_any none 0 0 [] (by simp) w (RdR.nil w)
theorem aw_last0 (w : World) : Calls Tryd.prog 33 #[.slice none 0 0] w fun e w' => e = .returned (.agg #[.int .u64 0, .int .u64 0, .int .i64 0, .int .u64 0]) ∧ Below w.heap.size w w' := last_any none 0 0 [] w (RdR.nil w)
theorem wpList_blk_load_g {P : Program} {w : World} {ops : Array Oper} {rest : List Oper} {o : Oper} {a : Act} {Q : Exit → Act → World → Prop} {t : TypeId} (hw : Region.wanted o (yielded ops a.tmps) = true) (x : Operand) (ho : o.op = .load t x) {d : TypeDesc} (hu : P.underlying t = some d) (hd : (match d with | .struct _ | .array _ _ => true | _ => false) = true)
    {b : Nat} (hx : a.eval x = .pointer (some ⟨b, 0, none⟩)) {t' : TypeId} {cs : Array Value} (hb : BlkAt w b t' cs) (hi : (P.info? t).map (·.size) = some cs.size)
    (h : wpList P ops Q rest (a.put o.dst (.agg cs)) w) : wpList P ops Q (o :: rest) a w :=
  wpList_step fun K hK => by
    rw [if_pos hw]
    exact wp_load_row t x ho b hx t' cs (0, 0) d hb hu hd hi (hK _ _ h)
theorem alloc_store {w w' : World} {o : Obj} (k : Kp w.heap.size (w.alloc o) w') : Below w.heap.size w w' := Kp.below ((Below.refl _ _).alloc (Nat.le_refl _) _) k (Nat.le_refl _) (by simp)
theorem alloc_below (w : World) (o : Obj) : Below w.heap.size w (w.alloc o) := (Below.refl _ _).alloc (Nat.le_refl _) _
end Go.Proofs.YteeeikkapnchlaaDoor
