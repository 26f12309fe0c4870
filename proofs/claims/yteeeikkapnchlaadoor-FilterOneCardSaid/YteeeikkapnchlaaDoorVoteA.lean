/- views and records: their cells, their readings; walks of slices.Index, Contains at views, of Sum -/
import Derived.Test.YteeeikkapnchlaaDoorSetB
import Derived.Test.YteeeikkapnchlaaDoorRow
import Derived.Test.YteeeikkapnchlaaDoorQui
import Derived.StillTailTactics
import Derived.RegionTactic
import Derived.BigRegion
namespace Go.Proofs.YteeeikkapnchlaaDoor
set_option linter.unusedSimpArgs false
set_option linter.unusedVariables false
open Go.RowKit Go.Sort

/-- A view. -/
structure Vw where
  num : Nat
  ce : Nat
  cr : Int
  mem : Nat
def Vw.zero : Vw := ⟨0, 0, 0, 0⟩
def vwF (v : Vw) : List Value := [.int .u64 v.num, .int .u64 v.ce, .int .i64 v.cr, .int .u64 v.mem]
def vwA (v : Vw) : Array Value := #[.int .u64 v.num, .int .u64 v.ce, .int .i64 v.cr, .int .u64 v.mem]
theorem vwF_len (v : Vw) : (vwF v).length = 4 := rfl
def veq (v u : Vw) : Bool := decide (v.num = u.num ∧ v.ce = u.ce ∧ v.cr = u.cr ∧ v.mem = u.mem)
theorem veq_eq {v u : Vw} : veq v u = true ↔ v = u := by
  unfold veq
  rw [decide_eq_true_eq]
  cases v; cases u; simp
/-- The views that a slice reads as. -/
def RdV (w : World) (a : Option Addr) (n c : Nat) (l : List Vw) : Prop := Rd w 4 a n c (l.flatMap vwF)
section
variable {w w' : World} {a : Option Addr} {n c : Nat} {l : List Vw}
theorem RdV.len (h : RdV w a n c l) : l.length = n := by
  have := Rd.length_eq h
  rw [flatMap_len vwF_len] at this
  omega
theorem RdV.below {B : Nat} (h : RdV w a n c l) (hb : Below B w w') (hB : w.heap.size ≤ B) : RdV w' a n c l := Rd.below h hb hB
theorem RdV.at {b off : Nat} (h : RdV w (some ⟨b, off, none⟩) n c l) (k : Nat) (hk : k < l.length) :
    w.cell? ⟨b, off + k * 4, none⟩ = some (.int .u64 l[k].num) ∧ w.cell? ⟨b, off + k * 4 + 1, none⟩ = some (.int .u64 l[k].ce) ∧ w.cell? ⟨b, off + k * 4 + 2, none⟩ = some (.int .i64 l[k].cr) ∧ w.cell? ⟨b, off + k * 4 + 3, none⟩ = some (.int .u64 l[k].mem) := by
  have hj : ∀ j v, (vwF l[k])[j]? = some v → j < 4 → w.cell? ⟨b, off + k * 4 + j, none⟩ = some v := fun j v hv h8 => by
    have h0 := flatMap_get (f := vwF) (sz := 4) vwF_len l k j h8
    rw [List.getElem?_eq_getElem hk] at h0
    rw [Nat.add_assoc]; exact Rd.at h (h0.trans hv)
  exact ⟨hj 0 _ rfl (by decide), hj 1 _ rfl (by decide), hj 2 _ rfl (by decide), hj 3 _ rfl (by decide)⟩
end
theorem run_eql_view (w : World) (a1 a2 a4 b1 b2 b4 : Nat) (a3 b3 : Int) : (binOp .eql 35 (.agg #[.int .u64 a1, .int .u64 a2, .int .i64 a3, .int .u64 a4]) (.agg #[.int .u64 b1, .int .u64 b2, .int .i64 b3, .int .u64 b4])).run Tryd.prog w = .ok (.bool (decide (a1 = b1 ∧ a2 = b2 ∧ a3 = b3 ∧ a4 = b4))) w := by
  by_cases h1 : a1 = b1 <;> by_cases h2 : a2 = b2 <;> by_cases h3 : a3 = b3 <;> by_cases h4 : a4 = b4 <;> simp [go_sem, h1, h2, h3, h4] <;> omega
theorem run_eql_vw (w : World) (v u : Vw) : (binOp .eql 35 (.agg #[.int .u64 v.num, .int .u64 v.ce, .int .i64 v.cr, .int .u64 v.mem]) (.agg #[.int .u64 u.num, .int .u64 u.ce, .int .i64 u.cr, .int .u64 u.mem])).run Tryd.prog w = .ok (.bool (veq v u)) w := run_eql_view w _ _ _ _ _ _ _ _
theorem Tryd.viewG : Tryd.prog.eqGuardType Tryd.prog.depth 35 = false := by kernel_rfl
/-- Where a view stands in a list. -/
def idxV (l : List Vw) (v : Vw) : Int := match l.findIdx? (veq v) with | some i => i | none => -1
theorem idxV_nonneg (l : List Vw) (v : Vw) : decide (0 ≤ idxV l v) = l.any (veq v) := by
  unfold idxV
  cases h : l.findIdx? (veq v) with
  | some i =>
    have := List.findIdx?_eq_some_iff_getElem.1 h
    obtain ⟨hi, h1, _⟩ := this
    have : l.any (veq v) = true := List.any_eq_true.2 ⟨_, List.getElem_mem hi, h1⟩
    rw [this]; simp
  | none =>
    have := List.findIdx?_eq_none_iff.1 h
    have e : l.any (veq v) = false := by
      rw [Bool.eq_false_iff]; intro h2
      obtain ⟨x, hx, h3⟩ := List.any_eq_true.1 h2
      rw [this x hx] at h3; cases h3
    rw [e]; simp
theorem findIdx?_at {α : Type} {q : α → Bool} {l : List α} {k : Nat} (hk : k < l.length) (h : ∀ i (hi : i < k), q (l[i]'(by omega)) = false) (h1 : q l[k] = true) : l.findIdx? q = some k :=
  List.findIdx?_eq_some_iff_getElem.2 ⟨hk, h1, fun j hj => by simpa using h j hj⟩
theorem findIdx?_no {α : Type} {q : α → Bool} {l : List α} (h : ∀ i (hi : i < l.length), q l[i] = false) : l.findIdx? q = none :=
  List.findIdx?_eq_none_iff.2 fun x hx => by obtain ⟨i, hi, rfl⟩ := List.mem_iff_getElem.1 hx; exact h i hi

set_option maxHeartbeats 800000 in
set_option maxRecDepth 100000 in
theorem index_any (a : Option Addr) (n c : Nat) (l : List Vw) (v : Vw) (w : World) (hr : RdV w a n c l) :
    Calls Tryd.prog 53 #[.slice a n c, .agg #[.int .u64 v.num, .int .u64 v.ce, .int .i64 v.cr, .int .u64 v.mem]] w fun e w' => e = .returned (.int .i64 (idxV l v)) ∧ Below w.heap.size w w' := by
  have hln := hr.len
  have hmx := Rd.le_max hr
  unfold maxLen at hmx
  have hB := BlkAt.new w 35 #[.int .u64 v.num, .int .u64 v.ce, .int .i64 v.cr, .int .u64 v.mem]
  have hb1 : Below w.heap.size w (w.alloc (.cells #[.int .u64 v.num, .int .u64 v.ce, .int .i64 v.cr, .int .u64 v.mem] 35)) := (Below.refl _ _).alloc (Nat.le_refl _) _
  have hr1 := hr.below hb1 (Nat.le_refl _)
  have hl := Lib.hid hln
  clear hln hr
  go_enter Tryd.func53, Tryd.ntmps53
  go_wp2
  generalize w.alloc _ = w1 at *
  go_loopw [5, 8] (fun _ i wr => ∃ k : Nat, k ≤ n ∧ i = .int .i64 k ∧ Hid (∀ i (_ : i < k) (hi : i < l.length), veq v l[i] = false) ∧ Below w1.heap.size w1 wr) (fun _ i _ => n - (intOf i).toNat)
  case atStart => exact ⟨0, Nat.zero_le _, rfl, (fun i h => by omega), Below.refl _ _⟩
  case round =>
    obtain ⟨k, hk, rfl, hno, hbr⟩ := hrel
    by_cases hlt : k < n
    · have hkl : k < l.length := by rw [hl.out]; exact hlt
      obtain ⟨bs, off, rfl, _⟩ := Rd.addr hr1 (by omega)
      obtain ⟨c0, c1, c2, c3⟩ := (hr1.below hbr (Nat.le_refl _)).at k hkl
      have hBr := hB.below hbr hB.lt
      have v0 : wr.cell? ⟨w.heap.size, 0, none⟩ = some (.int .u64 v.num) := hBr.cell rfl
      have v1 : wr.cell? ⟨w.heap.size, 1, none⟩ = some (.int .u64 v.ce) := hBr.cell rfl
      have v2 : wr.cell? ⟨w.heap.size, 2, none⟩ = some (.int .i64 v.cr) := hBr.cell rfl
      have v3 : wr.cell? ⟨w.heap.size, 3, none⟩ = some (.int .u64 v.mem) := hBr.cell rfl
      have hkI : (k : Int) < n := by omega
      have HE := fun W => run_eql_vw W v l[k]
      cases he : veq v l[k] with
      | true =>
        have HF := Lib.hid (show idxV l v = k from by unfold idxV; rw [findIdx?_at hkl (fun i hi => hno.out i hi (by omega)) he])
        rw [he] at HE
        have HE := Lib.hid HE
        generalize l[k] = u at *
        clear he
        go_wp2
        refine wp_region_quiet_lit (by kernel_rfl) (by kernel_rfl) ?_
        iterate 5 go_big_quiet_step (fail)
        refine wpQuiet_agg (by rfl) Tryd.viewG (.tmp 11) (.tmp 15) _ rfl rfl rfl HE.out ?_
        refine wpQuiet_nil ?_
        rintro _ ⟨nq, rfl⟩
        go_wp2
        go_ret
        exact ⟨ret_int (by rw [HF.out]), hb1.trans ((belN hbr _).mono hb1.size)⟩
      | false =>
        have HN : Hid (∀ i (_ : i < k + 1) (hi : i < l.length), veq v l[i] = false) := fun i hi h => by
          by_cases e : i = k
          · subst e; exact he
          · exact hno.out i (by omega) h
        rw [he] at HE
        have HE := Lib.hid HE
        generalize l[k] = u at *
        clear he
        go_wp2
        refine wp_region_quiet_lit (by kernel_rfl) (by kernel_rfl) ?_
        iterate 5 go_big_quiet_step (fail)
        refine wpQuiet_agg (by rfl) Tryd.viewG (.tmp 11) (.tmp 15) _ rfl rfl rfl HE.out ?_
        refine wpQuiet_nil ?_
        rintro _ ⟨nq, rfl⟩
        go_wp2
        go_roundw
        case rel => exact ⟨k + 1, by omega, by go_num, HN, belN hbr _⟩
        case measure => simp [intOf]; omega
    · obtain rfl : k = n := by omega
      have HF := Lib.hid (show idxV l v = -1 from by unfold idxV; rw [findIdx?_no (fun i hi => hno.out i (by have := hl.out; omega) hi)])
      go_wp2
      go_ret
      exact ⟨ret_int (by rw [HF.out]), hb1.trans (hbr.mono hb1.size)⟩
end Go.Proofs.YteeeikkapnchlaaDoor
