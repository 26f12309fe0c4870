/- the net: walks of slices.Clone, Copy -/
import Derived.Test.YtmlkmonapnebiaaDoorRNetL
import Derived.Test.YtmlkmonapnebiaaDoorRHeld
import Derived.Deep.MidRow
namespace Go.Proofs.YtmlkmonapnebiaaDoorR
open Go.RowKit Go.Sort

set_option maxHeartbeats 1600000 in
set_option maxRecDepth 100000 in
theorem nclone_any (a : Option Addr) (n c : Nat) (l : List Dg) (hn : n ≤ 1000000) (w : World) (hr : RdD w a n c l) :
    Calls Tryd.prog 32 #[.slice a n c] w fun e w' => ∃ v, e = .returned v ∧ w'.ownsRow w.heap.size 35 4 v n (l.flatMap dgF) ∧ Below w.heap.size w w' := by
  have he := fun W => Lib.run_eql_slice_nil (P := Tryd.prog) W 48 35 a n c 0 0 Tryd.underlying48
  cases a with
  | none =>
    obtain ⟨rfl, rfl⟩ := hr.1.2.2.2 rfl
    obtain rfl := List.eq_nil_of_length_eq_zero hr.len
    go_enter Tryd.func32, Tryd.ntmps32
    go_wp2
    go_ret
    exact ⟨_, rfl, World.ownsRow_nil _ _ _ _, Below.refl _ _⟩
  | some ad =>
    have ho := World.ownsRow_made (base := w.heap.size) (e := 35) (size := 4) w #[] 0 (Nat.le_refl _) (Nat.zero_le _) rfl
    have hb : Below w.heap.size w (w.alloc (.cells #[] 35)) := (Below.refl _ _).alloc (Nat.le_refl _) _
    have hr2 := Rd.below hr hb (Nat.le_refl _)
    have h1 := dg_ones l
    go_enter Tryd.func32, Tryd.ntmps32
    go_wp2_with (at_builtin; refine wpList_append_rd Tryd.dgE rfl (.tmp 5) (.tmp 6) rfl ho rfl hr2 rfl h1 (by unfold maxLen; omega) (by omega) (by simp) ?_; intro v' w' hown' hg')
    go_ret
    exact ⟨_, rfl, by simpa using hown', hb.grown hg' (by simp) (fun g hg => (ho.lt g hg).1)⟩
def rowsL (f : Nat → Nat) : List Value := (List.range 64).flatMap fun i => [Value.int .u64 (f i)]
theorem rowsL_len (f : Nat → Nat) : (rowsL f).length = 64 := (flatMap_len (f := fun i => [Value.int .u64 (f i)]) (sz := 1) (fun _ => rfl) (List.range 64)).trans rfl
theorem Tryd.netB3 (n : Nat) (f : Nat → Nat) (a : Option Addr) (m c : Nat) : Tryd.prog.built 55 [(0, .int .i64 n), (1, .agg (rowsL f).toArray), (2, .slice a m c)] = some (netC ⟨n, f, []⟩ (.slice a m c)) := by kernel_rfl
theorem NetAt.range {B : Nat} {w : World} {O : Nat → Prop} {b : Nat} {s : NS} {v : Value} (h : NetAt B w O b s v) : w.rangeAt b 1 (rowsL s.links) := by
  intro j u hu
  have hj : j < 64 := by
    have := (List.getElem?_eq_some_iff.1 hu).1
    rwa [rowsL_len] at this
  have e := rangeFlat_get (f := fun i => [Value.int .u64 (s.links i)]) (n := 64) (sz := 1) (fun _ => rfl) hj (j := 0) (by decide)
  rw [Nat.mul_one, Nat.add_zero] at e
  have hu' : ((List.range 64).flatMap fun i => [Value.int .u64 (s.links i)])[j]? = some u := hu
  rw [e] at hu'
  cases hu'
  exact h.cl j hj
theorem step_load_mid {P : Program} {w : World} {ops : Array Oper} {o : Oper} {a : Act} {K : Act → World → Prop} {Q : Exit → Act → World → Prop} {E' : Prop} (hgd : o.guard = none) (ty : TypeId) (x : Operand) (ho : o.op = .load ty x)
    (b off : Nat) (hx : a.eval x = .pointer (some ⟨b, off, none⟩)) (cs : List Value) (d : TypeDesc) (hc : w.rangeAt b off cs)
    (hu : P.underlying ty = some d) (hd : d.isRow = true) (hi : (P.info? ty).map (·.size) = some cs.length) (h : K (a.put o.dst (.agg cs.toArray)) w) : if Region.wanted o (yielded ops a.tmps) = true then Oper.wp P o a w K Q else E' := by
  rw [if_pos (by simp [Region.wanted, hgd])]
  exact wp_load_mid ty x ho b off hx cs d hc hu hd hi h
theorem step_box {P : Program} {w : World} {ops : Array Oper} {o : Oper} {a : Act} {K : Act → World → Prop} {Q : Exit → Act → World → Prop} {E' : Prop} {t : TypeId} (hgd : o.guard = none) (x : Operand) (ho : o.op = .box t x) {cs : Array Value} (hx : a.eval x = .agg cs)
    (h : K (a.put o.dst (.pointer (some ⟨w.heap.size, 0, none⟩))) (w.alloc (.cells cs t))) : if Region.wanted o (yielded ops a.tmps) = true then Oper.wp P o a w K Q else E' := by
  rw [if_pos (by simp [Region.wanted, hgd])]
  unfold Oper.wp
  simp [execOp, ho, hx, Instr.box, newVar, newRow, Value.cells, Result.andThen]
  exact h
section
variable {B : Nat} {w : World} {O : Nat → Prop} {b : Nat} {s : NS} {v : Value}
set_option maxHeartbeats 1600000 in
set_option maxRecDepth 100000 in
theorem ncopy_any (hs : s.Ok) (h : NetAt B w O b s v) :
    Calls Tryd.prog 20 #[.pointer (some ⟨b, 0, none⟩)] w fun e w' => ∃ b2 O2 v2, e = .returned (.pointer (some ⟨b2, 0, none⟩)) ∧ NetAt B w' O2 b2 s v2 ∧ (∀ g, O2 g → w.heap.size ≤ g) ∧ Below w.heap.size w w' := by
  have c0 := h.c0
  have cv := h.cv
  have hlo : B ≤ w.heap.size := Nat.le_trans (h.lo b h.ob) (Nat.le_of_lt h.lt)
  obtain ⟨a, c, rfl, hr⟩ := h.sl
  have hlen := hs.len
  have hsz : (Tryd.prog.info? 53).map (·.size) = some (rowsL s.links).length := by rw [rowsL_len]; kernel_rfl
  have HB3 := Lib.hid (fun a m c => Tryd.netB3 s.n s.links a m c)
  have HNC := Lib.hid (fun v => show netC ⟨s.n, s.links, []⟩ v = netC s v from rfl)
  have HR := Lib.hid (fun W (hb : Below w.heap.size w W) => show W.cell? ⟨b, 0, none⟩ = some (.int .i64 s.n) ∧ W.cell? ⟨b, 65, none⟩ = some (.slice a s.l.length c) ∧ W.rangeAt b 1 (rowsL s.links) from ⟨(h.below hb).c0, (h.below hb).cv, (h.below hb).range⟩)
  have HCl := Lib.hid (fun W (hb : Below w.heap.size w W) => nclone_any a s.l.length c s.l (by omega) W (Rd.below hr hb (Nat.le_refl _)))
  have hb0 : Below w.heap.size w w.drew := (Below.refl _ _).drew
  obtain ⟨_, _, hrg⟩ := HR.out _ hb0
  have hu := Tryd.underlying53
  generalize hrs : rowsL s.links = rs at *
  clear hrs
  go_enter Tryd.func20, Tryd.ntmps20
  go_wp2
  refine wp_region_held_drew (S := fun W => W.cell? ⟨b, 0, none⟩ = some (.int .i64 s.n) ∧ W.cell? ⟨b, 65, none⟩ = some (.slice a s.l.length c) ∧ W.rangeAt b 1 rs) (by kernel_rfl) (HR.out _ hb0) ?_
  intro hHeld
  (refine wpAnyH_take (i := 0) (v := ?_) rfl (by kernel_rfl) (by kernel_rfl) (by kernel_rfl) (fun _ _ _ h => h) (Or.inl ⟨by rfl, ?_⟩) (by assumption) ?_; rotate_left; (focus (intro w hSw; obtain ⟨s1, s2, s3⟩ := hSw; clear s3; go_simp; (try with_reducible rfl))); (try simp only [Act.put, List.getElem_toArray, List.getElem_cons_zero, List.getElem_cons_succ, List.setIfInBounds_toArray, List.set_cons_zero, List.set_cons_succ]))
  (refine wpAnyH_take (i := 1) (v := ?_) rfl (by kernel_rfl) (by kernel_rfl) (by kernel_rfl) (fun _ _ _ h => h) (Or.inl ⟨by rfl, ?_⟩) (by assumption) ?_; rotate_left; (focus (intro w hSw; obtain ⟨s1, s2, s3⟩ := hSw; clear s3; go_simp; (try with_reducible rfl))); (try simp only [Act.put, List.getElem_toArray, List.getElem_cons_zero, List.getElem_cons_succ, List.setIfInBounds_toArray, List.set_cons_zero, List.set_cons_succ]))
  (refine wpAnyH_take (i := 2) (v := ?_) rfl (by kernel_rfl) (by kernel_rfl) (by kernel_rfl) (fun _ _ _ h => h) (Or.inl ⟨by rfl, ?_⟩) (by assumption) ?_; rotate_left; (focus (intro w hSw; obtain ⟨s1, s2, s3⟩ := hSw; clear s3; go_simp; (try with_reducible rfl))); (try simp only [Act.put, List.getElem_toArray, List.getElem_cons_zero, List.getElem_cons_succ, List.setIfInBounds_toArray, List.set_cons_zero, List.set_cons_succ]))
  (refine wpAnyH_take (i := 3) (v := ?_) rfl (by kernel_rfl) (by kernel_rfl) (by kernel_rfl) (fun _ _ _ h => h) (Or.inl ⟨by rfl, ?_⟩) (by assumption) ?_; rotate_left; (focus (intro w hSw; obtain ⟨s1, s2, s3⟩ := hSw; clear s3; go_simp; (try with_reducible rfl))); (try simp only [Act.put, List.getElem_toArray, List.getElem_cons_zero, List.getElem_cons_succ, List.setIfInBounds_toArray, List.set_cons_zero, List.set_cons_succ]))
  (refine wpAnyH_take (i := 4) (v := ?_) rfl (by kernel_rfl) (by kernel_rfl) (by kernel_rfl) (fun _ _ _ h => h) (Or.inl ⟨by rfl, ?_⟩) (by assumption) ?_; rotate_left; (focus (intro w hSw; obtain ⟨s1, s2, s3⟩ := hSw; clear s3; go_simp; (try with_reducible rfl))); (try simp only [Act.put, List.getElem_toArray, List.getElem_cons_zero, List.getElem_cons_succ, List.setIfInBounds_toArray, List.set_cons_zero, List.set_cons_succ]))
  (refine wpAnyH_take (i := 5) (v := ?_) rfl (by kernel_rfl) (by kernel_rfl) (by kernel_rfl) (fun _ _ _ h => h) (Or.inl ⟨by rfl, ?_⟩) (by assumption) ?_; rotate_left; (focus (intro w hSw; obtain ⟨s1, s2, s3⟩ := hSw; clear s3; go_simp; (try with_reducible rfl))); (try simp only [Act.put, List.getElem_toArray, List.getElem_cons_zero, List.getElem_cons_succ, List.setIfInBounds_toArray, List.set_cons_zero, List.set_cons_succ]))
  (refine wpAnyH_take (i := 6) (v := ?_) rfl (by kernel_rfl) (by kernel_rfl) (by kernel_rfl) (fun _ _ _ h => h) (Or.inl ⟨by rfl, ?_⟩) (by assumption) ?_; rotate_left; (focus (intro w hSw; obtain ⟨s1, s2, s3⟩ := hSw; clear s3; go_simp; (try with_reducible rfl))); (try simp only [Act.put, List.getElem_toArray, List.getElem_cons_zero, List.getElem_cons_succ, List.setIfInBounds_toArray, List.set_cons_zero, List.set_cons_succ]))
  refine wpAnyH_take (i := 7) (v := .agg rs.toArray) rfl (by kernel_rfl) (by kernel_rfl) (by kernel_rfl) (fun _ _ _ h => h) ?_ (by assumption) ?_
  · exact yieldsIf_load_mid (by rfl) 53 (.tmp 9) rfl b 1 rfl rs _ (fun W hW => hW.2.2) hu rfl hsz
  (try simp only [Act.put, List.getElem_toArray, List.getElem_cons_zero, List.getElem_cons_succ, List.setIfInBounds_toArray, List.set_cons_zero, List.set_cons_succ])
  (refine wpAnyH_take (i := 8) (v := ?_) rfl (by kernel_rfl) (by kernel_rfl) (by kernel_rfl) (fun _ _ _ h => h) (Or.inl ⟨by rfl, ?_⟩) (by assumption) ?_; rotate_left; (focus (intro w hSw; obtain ⟨s1, s2, s3⟩ := hSw; clear s3; go_simp; (try with_reducible rfl))); (try simp only [Act.put, List.getElem_toArray, List.getElem_cons_zero, List.getElem_cons_succ, List.setIfInBounds_toArray, List.set_cons_zero, List.set_cons_succ]))
  (refine wpAnyH_take (i := 9) (v := ?_) rfl (by kernel_rfl) (by kernel_rfl) (by kernel_rfl) (fun _ _ _ h => h) (Or.inl ⟨by rfl, ?_⟩) (by assumption) ?_; rotate_left; (focus (intro w hSw; obtain ⟨s1, s2, s3⟩ := hSw; clear s3; go_simp; (try with_reducible rfl))); (try simp only [Act.put, List.getElem_toArray, List.getElem_cons_zero, List.getElem_cons_succ, List.setIfInBounds_toArray, List.set_cons_zero, List.set_cons_succ]))
  (refine wpAnyH_take (i := 10) (v := ?_) rfl (by kernel_rfl) (by kernel_rfl) (by kernel_rfl) (fun _ _ _ h => h) (Or.inl ⟨by rfl, ?_⟩) (by assumption) ?_; rotate_left; (focus (intro w hSw; obtain ⟨s1, s2, s3⟩ := hSw; clear s3; go_simp; (try with_reducible rfl))); (try simp only [Act.put, List.getElem_toArray, List.getElem_cons_zero, List.getElem_cons_succ, List.setIfInBounds_toArray, List.set_cons_zero, List.set_cons_succ]))
  (refine wpAnyH_take (i := 11) (v := ?_) rfl (by kernel_rfl) (by kernel_rfl) (by kernel_rfl) (fun _ _ _ h => h) (Or.inl ⟨by rfl, ?_⟩) (by assumption) ?_; rotate_left; (focus (intro w hSw; obtain ⟨s1, s2, s3⟩ := hSw; clear s3; go_simp; (try with_reducible rfl))); (try simp only [Act.put, List.getElem_toArray, List.getElem_cons_zero, List.getElem_cons_succ, List.setIfInBounds_toArray, List.set_cons_zero, List.set_cons_succ]))
  (refine wpAnyH_ready (rs := [12]) (by kernel_rfl) (by simp) ?_; refine AllReadyH.cons rfl (fun K hK => ?_) AllReadyH.nil; go_simp)
  refine (HCl.out _ hb0).mono ?_
  rintro e w4 ⟨v2, rfl, hown, hb4'⟩
  have hb4 := Lib.hid (hb0.trans (hb4'.mono hb0.size))
  obtain ⟨a2, c2, rfl, _⟩ := Rd.own hown
  refine hK.out _ _ (HR.out _ hb4.out) (fun hHeld2 => ?_)
  clear hK K hHeld hb4'
  refine wpAnyH_take (i := 13) (v := .agg (netC ⟨s.n, s.links, []⟩ (.slice a2 s.l.length c2))) rfl (by kernel_rfl) (by kernel_rfl) (by kernel_rfl) (fun _ _ _ h => h) ?_ (by assumption) ?_
  · exact yieldsIf_build (by rfl) 55 #[(0, .tmp 6), (1, .tmp 10), (2, .tmp 15)] rfl (by rw [List.map_toArray]; exact HB3.out _ _ _)
  (try simp only [Act.put, List.getElem_toArray, List.getElem_cons_zero, List.getElem_cons_succ, List.setIfInBounds_toArray, List.set_cons_zero, List.set_cons_succ])
  (refine wpAnyH_ready (rs := [14]) (by kernel_rfl) (by simp) ?_; refine AllReadyH.cons rfl (fun K hK => ?_) AllReadyH.nil)
  refine step_box rfl (.tmp 16) rfl rfl ?_
  (try simp only [Act.put, List.getElem_toArray, List.getElem_cons_zero, List.getElem_cons_succ, List.setIfInBounds_toArray, List.set_cons_zero, List.set_cons_succ])
  have hb5 := Lib.hid (hb4.out.alloc hb4.out.size (.cells (netC ⟨s.n, s.links, []⟩ (.slice a2 s.l.length c2)) 55))
  refine hK.out _ _ (HR.out _ hb5.out) (fun hHeld3 => ?_)
  clear hK K hHeld2
  (refine wpAnyH_take (i := 15) (v := ?_) rfl (by kernel_rfl) (by kernel_rfl) (by kernel_rfl) (fun _ _ _ h => h) (Or.inl ⟨by rfl, ?_⟩) (by assumption) ?_; rotate_left; (focus (intro w hSw; obtain ⟨s1, s2, s3⟩ := hSw; clear s3; go_simp; (try with_reducible rfl))); (try simp only [Act.put, List.getElem_toArray, List.getElem_cons_zero, List.getElem_cons_succ, List.setIfInBounds_toArray, List.set_cons_zero, List.set_cons_succ]))
  refine wpAnyH_done (by kernel_rfl) ?_ _
  have hlt := hown.lt
  have h4 := hb4.out.size
  have e3 := BlkAt.new w4 55 (netC ⟨s.n, s.links, []⟩ (.slice a2 s.l.length c2))
  rw [HNC.out] at e3 hb5
  have H := Lib.hid (show NetAt B (w4.alloc (.cells (netC s (.slice a2 s.l.length c2)) 55)) (fun g => g = w4.heap.size ∨ (Value.slice a2 s.l.length c2).ownBlock = some g) w4.heap.size s (.slice a2 s.l.length c2) from
    ⟨e3, own_mono (hown.alloc _) hlo, fun g hg => .inr hg, fun hg => by have := (hlt _ hg).2; omega, .inl rfl,
      fun g hg => by rcases hg with rfl | hg; omega; have := (hlt _ hg).1; exact Nat.le_trans hlo this,
      fun g hg => by rcases hg with rfl | hg; simp; have := (hlt _ hg).2; simp; omega⟩)
  rw [HNC.out]
  go_wp2
  go_ret
  exact ⟨_, _, _, rfl, H.out, fun g hg => by rcases hg with rfl | hg; exact h4; exact (hlt _ hg).1, hb5.out⟩
end
end Go.Proofs.YtmlkmonapnebiaaDoorR
