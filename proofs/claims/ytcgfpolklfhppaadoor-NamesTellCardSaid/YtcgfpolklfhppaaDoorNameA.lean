/- names: claims as cells; walks of Stay's functions, of those -/
import Derived.Test.YtcgfpolklfhppaaDoorSetB
import Derived.Test.YtcgfpolklfhppaaDoorRow
import Derived.Test.YtcgfpolklfhppaaDoorQui
import Derived.Deep.MidRow
namespace Go.Proofs.YtcgfpolklfhppaaDoor
open Go.RowKit Go.Sort

/-- A claim: its cells, and those that count. -/
structure It where
  cs : List Value
  inc : Nat
  holds : Nat
  has : Bool
  direct : Bool
structure It.Wf (x : It) : Prop where
  len : x.cs.length = 18
  c2 : x.cs[2]? = some (.int .u32 x.inc)
  c3 : x.cs[3]? = some (.int .u64 x.holds)
  c4 : x.cs[4]? = some (.bool x.has)
  c5 : x.cs[5]? = some (.bool x.direct)
  i32 : x.inc < 4294967296
  h64 : x.holds < 18446744073709551616
  one : ∀ v ∈ x.cs, v.oneCell' = true
def It.hold (n : Nat) (x : It) : Bool := x.has && decide (x.holds = n)
def RdI (w : World) (a : Option Addr) (n c : Nat) (l : List It) : Prop := Rd w 18 a n c (l.flatMap (·.cs))
theorem flat_len18 {l : List It} (h : ∀ x ∈ l, x.Wf) : (l.flatMap (·.cs)).length = l.length * 18 := by
  induction l with
  | nil => rfl
  | cons x l ih =>
    rw [List.flatMap_cons, List.length_append, ih (fun y hy => h y (List.mem_cons_of_mem _ hy)), (h x (List.mem_cons_self ..)).len, List.length_cons]
    omega
theorem RdI.len {w : World} {a : Option Addr} {n c : Nat} {l : List It} (h : RdI w a n c l) (hw : ∀ x ∈ l, x.Wf) : l.length = n := by
  have := Rd.length_eq h
  rw [flat_len18 hw] at this
  omega
theorem flat_get18 {l : List It} (h : ∀ x ∈ l, x.Wf) : ∀ k j (hk : k < l.length), j < 18 → (l.flatMap (·.cs))[k * 18 + j]? = l[k].cs[j]? := by
  induction l with
  | nil => intro k j hk; cases hk
  | cons x l ih =>
    intro k j hk hj
    have h18 := (h x (List.mem_cons_self ..)).len
    rw [List.flatMap_cons]
    cases k with
    | zero => rw [List.getElem?_append_left (by omega)]; simp
    | succ k =>
      rw [List.getElem?_append_right (by omega), show (k + 1) * 18 + j - x.cs.length = k * 18 + j from by omega]
      exact ih (fun y hy => h y (List.mem_cons_of_mem _ hy)) k j (by simpa using hk) hj
theorem RdI.range {w : World} {b off n c : Nat} {l : List It} (h : RdI w (some ⟨b, off, none⟩) n c l) (hw : ∀ x ∈ l, x.Wf) (k : Nat) (hk : k < l.length) : w.rangeAt b (off + k * 18) l[k].cs := by
  intro j v hj
  have hlt : j < l[k].cs.length := (List.getElem?_eq_some_iff.1 hj).1
  rw [(hw _ (List.getElem_mem hk)).len] at hlt
  rw [Nat.add_assoc]
  exact Rd.at h ((flat_get18 hw k j hk hlt).trans hj)
theorem Tryd.itI {x : It} (h : x.Wf) : (Tryd.prog.info? 48).map (·.size) = some x.cs.length := by rw [h.len]; kernel_rfl
theorem wpList_load_mid_g {P : Program} {w : World} {ops : Array Oper} {rest : List Oper} {o : Oper} {a : Act} {Q : Exit → Act → World → Prop} (hw : Region.wanted o (yielded ops a.tmps) = true) (ty : TypeId) (x : Operand) (ho : o.op = .load ty x)
    (b off : Nat) (hx : a.eval x = .pointer (some ⟨b, off, none⟩)) (cs : List Value) (d : TypeDesc) (hc : w.rangeAt b off cs)
    (hu : P.underlying ty = some d) (hd : d.isRow = true) (hi : (P.info? ty).map (·.size) = some cs.length)
    (h : wpList P ops Q rest (a.put o.dst (.agg cs.toArray)) w) : wpList P ops Q (o :: rest) a w :=
  wpList_step fun K hK => by
    rw [if_pos hw]
    exact wp_load_mid ty x ho b off hx cs d hc hu hd hi (hK _ _ h)
theorem It.blk {w : World} {b : Nat} {t : TypeId} {x : It} (h : BlkAt w b t x.cs.toArray) (hx : x.Wf) : w.cell? ⟨b, 2, none⟩ = some (.int .u32 x.inc) ∧ w.cell? ⟨b, 3, none⟩ = some (.int .u64 x.holds) ∧ w.cell? ⟨b, 4, none⟩ = some (.bool x.has) ∧ w.cell? ⟨b, 5, none⟩ = some (.bool x.direct) :=
  ⟨h.cell (by simpa using hx.c2), h.cell (by simpa using hx.c3), h.cell (by simpa using hx.c4), h.cell (by simpa using hx.c5)⟩
set_option maxHeartbeats 800000 in
set_option maxRecDepth 100000 in
theorem holds_any (n : Nat) (x : It) (hx : x.Wf) (cb : Nat) (w : World) (h : BlkAt w cb 22 #[.int .u64 n]) :
    Calls Tryd.prog 27 #[.agg x.cs.toArray, .pointer (some ⟨cb, 0, none⟩)] w fun e w' => e = .returned (.bool (x.hold n)) ∧ Below w.heap.size w w' := by
  have hb1 : Below w.heap.size w (w.alloc (.cells x.cs.toArray 48)) := (Below.refl _ _).alloc (Nat.le_refl _) _
  have c0 : (w.alloc (.cells x.cs.toArray 48)).cell? ⟨cb, 0, none⟩ = some (.int .u64 n) := (h.below hb1 h.lt).cell rfl
  obtain ⟨i2, i3, i4, i5⟩ := It.blk (BlkAt.new w 48 x.cs.toArray) hx
  have HH := Lib.hid (show x.hold n = (x.has && decide (x.holds = n)) from rfl)
  cases hh : x.has with
  | false =>
    rw [hh] at i4 HH
    go_enter Tryd.func27, Tryd.ntmps27
    go_wp2_with (refine wpList_blk_box rfl (.tmp 0) rfl rfl w.heap.size rfl ?_)
    go_ret
    exact ⟨ret_bool (by rw [HH.out]; rfl), hb1⟩
  | true =>
    rw [hh] at i4 HH
    go_enter Tryd.func27, Tryd.ntmps27
    go_wp2_with (refine wpList_blk_box rfl (.tmp 0) rfl rfl w.heap.size rfl ?_)
    go_ret
    exact ⟨ret_bool (by rw [HH.out, Bool.true_and, Bool.eq_iff_iff]; simp <;> omega), hb1⟩
set_option maxHeartbeats 800000 in
set_option maxRecDepth 100000 in
theorem direct_any (n : Nat) (x : It) (hx : x.Wf) (cb fb : Nat) (w : World) (h : BlkAt w cb 22 #[.int .u64 n]) (ht : TypeId) (hf : BlkAt w fb ht #[.func (Fn.func 27) #[] #[.pointer (some ⟨cb, 0, none⟩)]]) :
    Calls Tryd.prog 29 #[.agg x.cs.toArray, .pointer (some ⟨fb, 0, none⟩)] w fun e w' => e = .returned (.bool (x.hold n && x.direct)) ∧ Below w.heap.size w w' := by
  have hb1 : Below w.heap.size w (w.alloc (.cells x.cs.toArray 48)) := (Below.refl _ _).alloc (Nat.le_refl _) _
  have f0 : (w.alloc (.cells x.cs.toArray 48)).cell? ⟨fb, 0, none⟩ = some (.func (Fn.func 27) #[] #[.pointer (some ⟨cb, 0, none⟩)]) := (hf.below hb1 hf.lt).cell rfl
  have hI := BlkAt.new w 48 x.cs.toArray
  have HC := Lib.hid (holds_any n x hx cb _ (h.below hb1 h.lt))
  have hsz : (Tryd.prog.info? 48).map (·.size) = some x.cs.toArray.size := by rw [List.size_toArray]; exact Tryd.itI hx
  generalize x.hold n = hn at *
  cases hn with
  | false =>
    go_enter Tryd.func29, Tryd.ntmps29
    go_wp2_with (first
      | (refine wpList_blk_box rfl (.tmp 0) rfl rfl w.heap.size rfl ?_)
      | (refine wpList_blk_load rfl (.tmp 2) rfl Tryd.underlying48 rfl rfl hI hsz ?_))
    refine HC.out.mono ?_
    rintro e w4 ⟨rfl, hb4⟩
    go_wp2
    go_ret
    exact ⟨rfl, belS hb1 hb4⟩
  | true =>
    go_enter Tryd.func29, Tryd.ntmps29
    go_wp2_with (first
      | (refine wpList_blk_box rfl (.tmp 0) rfl rfl w.heap.size rfl ?_)
      | (refine wpList_blk_load rfl (.tmp 2) rfl Tryd.underlying48 rfl rfl hI hsz ?_))
    refine HC.out.mono ?_
    rintro e w4 ⟨rfl, hb4⟩
    obtain ⟨i2, i3, i4, i5⟩ := It.blk (hI.below hb4 hI.lt) hx
    go_wp2
    go_ret
    exact ⟨ret_bool (by simp), belS hb1 hb4⟩
end Go.Proofs.YtcgfpolklfhppaaDoor
