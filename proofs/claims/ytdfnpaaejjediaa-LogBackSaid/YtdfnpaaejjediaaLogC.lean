/- log: views and records, their cells and their readings -/
import Derived.Test.YtdfnpaaejjediaaLogB
import Derived.Test.YtdfnpaaejjediaaBlk
import Derived.Test.YtdfnpaaejjediaaSz
namespace Go.Proofs.Ytdfnpaaejjediaa
open Go.RowKit

def vwF (v : Vw) : List Value := [.int .u64 v.num, .int .u64 v.ce, .int .i64 v.cr, .int .u64 v.mem]
def vwA (v : Vw) : Array Value := #[.int .u64 v.num, .int .u64 v.ce, .int .i64 v.cr, .int .u64 v.mem]
theorem vwF_len (v : Vw) : (vwF v).length = 4 := rfl
/-- The views that a slice reads as. -/
def RdV (w : World) (a : Option Addr) (n c : Nat) (l : List Vw) : Prop := Rd w 4 a n c (l.flatMap vwF)
section
variable {w w' : World} {a : Option Addr} {n c : Nat} {l : List Vw}
theorem RdV.len (h : RdV w a n c l) : l.length = n := by
  have := Rd.length_eq h
  rw [flatMap_len vwF_len] at this
  omega
theorem RdV.below {B : Nat} (h : RdV w a n c l) (hb : Below B w w') (hB : w.heap.size ≤ B) : RdV w' a n c l := Rd.below h hb hB
theorem RdV.at {b off : Nat} (h : RdV w (some ⟨b, off, none⟩) n c l) (k : Nat) (hk : k < l.length) :
    w.cell? ⟨b, off + k * 4, none⟩ = some (.int .u64 l[k].num) ∧ w.cell? ⟨b, off + k * 4 + 1, none⟩ = some (.int .u64 l[k].ce) ∧ w.cell? ⟨b, off + k * 4 + 2, none⟩ = some (.int .i64 l[k].cr) ∧ w.cell? ⟨b, off + k * 4 + 3, none⟩ = some (.int .u64 l[k].mem) := by
  have hj : ∀ j v, (vwF l[k])[j]? = some v → j < 4 → w.cell? ⟨b, off + k * 4 + j, none⟩ = some v := fun j v hv h8 => by
    have h0 := flatMap_get (f := vwF) (sz := 4) vwF_len l k j h8
    rw [List.getElem?_eq_getElem hk] at h0
    rw [Nat.add_assoc]; exact Rd.at h (h0.trans hv)
  exact ⟨hj 0 _ rfl (by decide), hj 1 _ rfl (by decide), hj 2 _ rfl (by decide), hj 3 _ rfl (by decide)⟩
end
theorem Try.viewE : Elt Try.prog 28 27 (.agg #[.int .u64 0, .int .u64 0, .int .i64 0, .int .u64 0]) 4 32 := ⟨by kernel_rfl, by kernel_rfl, rfl, by decide⟩
theorem Try.viewI (v : Vw) : (Try.prog.info? 27).map (·.size) = some (vwA v).size := by show _ = some 4; kernel_rfl
theorem Try.viewZ : (Try.prog.info? 27).map (·.zero) = some (some (.agg (vwA .zero))) := by kernel_rfl
theorem vwA_one (v : Vw) : (vwA v).all (·.oneCell') = true := by simp [vwA, Value.oneCell']
theorem flat_ones (l : List Vw) : ∀ u ∈ l.flatMap vwF, u.oneCell' = true := by
  intro u hu
  obtain ⟨v, _, hv⟩ := List.mem_flatMap.1 hu
  simp [vwF] at hv
  rcases hv with rfl | rfl | rfl | rfl <;> rfl

def RConf : World → List Value → Int × Int → Prop := RPair (RInt .u64) (RInt .i64)
def RView : World → List Value → Int × (Int × Int) × Int → Prop := RPair (RInt .u64) (RPair RConf (RInt .u64))
def RRec : World → List Value → (Int × (Int × Int) × Int) × List (Int × (Int × Int) × Int) → Prop := RPair RView (RSlz RView 4 32)
def RStab := RPair (RInt .u64) (RPair (RInt .u32) RRec)
def RItem := RPair (RInt .i64) (RPair RStr (RPair (RInt .u32) (RPair (RInt .u64) (RPair RBool (RPair RBool (RPair RRec (RPair RView (RPair (RInt .u64) (RPair (RInt .i64) (RInt .i64))))))))))
section
variable {H : Type} {enc : TypeId × Value → H} {W : World}
theorem opens_view : Opens enc Try.prog W 27 RView :=
  have hc : Opens enc Try.prog W 25 RConf := opens_struct Try.underlying25 (by kernel_rfl) (OpensFs.cons (sz := 1) (total := 1) rfl (by kernel_rfl) (opens_int Try.underlying22) (OpensFs.one rfl (by kernel_rfl) (opens_int Try.underlying3)))
  opens_struct Try.underlying27 (by kernel_rfl) (OpensFs.cons (sz := 1) (total := 3) rfl (by kernel_rfl) (opens_int Try.underlying22) (OpensFs.cons (sz := 2) (total := 1) rfl (by kernel_rfl) hc (OpensFs.one rfl (by kernel_rfl) (opens_int Try.underlying22))))
theorem sopens_views : SOpens enc Try.prog W 28 (RSlz RView 4 32) :=
  sopens_slice Try.underlying28 (by kernel_rfl) (by kernel_rfl) (by decide) (SOpens.of opens_view)
theorem sopens_rec : SOpens enc Try.prog W 30 RRec :=
  sopens_struct Try.underlying30 (by kernel_rfl) (SOpensFs.cons (sz := 4) (total := 1) rfl (by kernel_rfl) (SOpens.of opens_view) (SOpensFs.one rfl (by kernel_rfl) sopens_views))
theorem sopens_stab : SOpens enc Try.prog W 32 RStab :=
  sopens_struct Try.underlying32 (by kernel_rfl) (SOpensFs.cons (sz := 1) (total := 6) rfl (by kernel_rfl) (SOpens.of (opens_int Try.underlying22)) (SOpensFs.cons (sz := 1) (total := 5) rfl (by kernel_rfl) (SOpens.of (opens_int Try.underlying23)) (SOpensFs.one rfl (by kernel_rfl) sopens_rec)))
theorem sopens_item : SOpens enc Try.prog W 34 RItem :=
  have oi := SOpens.of (opens_int (enc := enc) (w := W) Try.underlying3)
  have o64 := SOpens.of (opens_int (enc := enc) (w := W) Try.underlying22)
  have o32 := SOpens.of (opens_int (enc := enc) (w := W) Try.underlying23)
  have ob := SOpens.of (opens_bool (enc := enc) (w := W) Try.underlying4)
  have os := SOpens.of (opens_str (enc := enc) (w := W) Try.underlying9)
  sopens_struct Try.underlying34 (by kernel_rfl) (SOpensFs.cons (sz := 1) (total := 17) rfl (by kernel_rfl) oi (SOpensFs.cons (sz := 1) (total := 16) rfl (by kernel_rfl) os (SOpensFs.cons (sz := 1) (total := 15) rfl (by kernel_rfl) o32 (SOpensFs.cons (sz := 1) (total := 14) rfl (by kernel_rfl) o64 (SOpensFs.cons (sz := 1) (total := 13) rfl (by kernel_rfl) ob (SOpensFs.cons (sz := 1) (total := 12) rfl (by kernel_rfl) ob (SOpensFs.cons (sz := 5) (total := 7) rfl (by kernel_rfl) sopens_rec (SOpensFs.cons (sz := 4) (total := 3) rfl (by kernel_rfl) (SOpens.of opens_view) (SOpensFs.cons (sz := 1) (total := 2) rfl (by kernel_rfl) o64 (SOpensFs.cons (sz := 1) (total := 1) rfl (by kernel_rfl) oi (SOpensFs.one rfl (by kernel_rfl) oi)))))))))))
end
def toVw (x : Int × (Int × Int) × Int) : Vw := ⟨x.1.toNat, x.2.1.1.toNat, x.2.1.2, x.2.2.toNat⟩
def toRc (x : (Int × (Int × Int) × Int) × List (Int × (Int × Int) × Int)) : Rc := ⟨toVw x.1, x.2.map toVw⟩
theorem RView.vw {w : World} {cs : List Value} {x : Int × (Int × Int) × Int} (h : RView w cs x) : cs = vwF (toVw x) ∧ (toVw x).Wf := by
  obtain ⟨p, ⟨e, r⟩, m⟩ := x
  obtain ⟨c1, c2, rfl, ⟨rfl, f1⟩, c3, c4, rfl, ⟨c5, c6, rfl, ⟨rfl, f2⟩, rfl, f3⟩, rfl, f4⟩ := h
  have g1 := wf_u64_bounds f1
  have g2 := wf_u64_bounds f2
  have g3 := wf_i64_bounds f3
  have g4 := wf_u64_bounds f4
  simp only at g1 g2 g3 g4
  refine ⟨?_, ?_, ?_, ?_, ?_⟩
  · simp only [vwF, toVw]
    rw [Int.toNat_of_nonneg g1.1, Int.toNat_of_nonneg g2.1, Int.toNat_of_nonneg g4.1]
    rfl
  · simp only [toVw]; omega
  · simp only [toVw]; omega
  · exact g3
  · simp only [toVw]; omega
theorem RSl.views {w : World} {a : Option Addr} {n c : Nat} {l : List (Int × (Int × Int) × Int)} (h : RSl RView 4 w a n c l) : RdV w a n c (l.map toVw) ∧ ∀ v ∈ l.map toVw, v.Wf := by
  refine ⟨?_, ?_⟩
  · show Rd w 4 a n c ((l.map toVw).flatMap vwF)
    rw [List.flatMap_map]
    exact h.flat (fun x => vwF (toVw x)) (fun _ => rfl) (by decide) (fun w cs x hx => hx.vw.1)
  · intro v hv
    obtain ⟨x, hx, rfl⟩ := List.mem_map.1 hv
    exact h.all (Q := fun x => (toVw x).Wf) (fun cs x hx => hx.vw.2) x hx
/-- A record that an argument's cells read as. -/
theorem RRec.rc {w : World} {cs : List Value} {x : (Int × (Int × Int) × Int) × List (Int × (Int × Int) × Int)} (h : RRec w cs x) :
    ∃ pa pn pc, cs = vwF (toRc x).last ++ [.slice pa pn pc] ∧ RdV w pa pn pc (toRc x).pend ∧ (toRc x).Wf := by
  obtain ⟨c1, c2, rfl, h1, pa, pn, pc, rfl, h2, h3⟩ := h
  exact ⟨pa, pn, pc, by rw [h1.vw.1]; rfl, h2.views.1, ⟨h1.vw.2, h2.views.2⟩⟩
theorem wf_u32_bounds {x : Int} (h : (Lit.int .u32 x).wf = true) : 0 ≤ x ∧ x < 4294967296 := by
  simp [Lit.wf, IntKind.min, IntKind.max, IntKind.bits, IntKind.signed] at h
  omega
/-- A stable record that an argument's cells read as. -/
theorem RStab.st {w : World} {cs : Array Value} {x} (h : RStab w cs.toList x) : ∃ (s : St) (pa : _) (pn pc : Nat), cs = #[.int .u64 s.epoch, .int .u32 s.inc, .int .u64 s.rc.last.num, .int .u64 s.rc.last.ce, .int .i64 s.rc.last.cr, .int .u64 s.rc.last.mem, .slice pa pn pc] ∧ RdV w pa pn pc s.rc.pend ∧ s.Wf := by
  obtain ⟨e, i, r⟩ := x
  obtain ⟨_, _, hc, ⟨rfl, f1⟩, _, _, rfl, ⟨rfl, f2⟩, h3⟩ := h
  obtain ⟨pa, pn, pc, rfl, h4, h5⟩ := h3.rc
  have g1 := wf_u64_bounds f1
  have g2 := wf_u32_bounds f2
  simp only at g1 g2
  refine ⟨⟨e.toNat, i.toNat, toRc r⟩, pa, pn, pc, ?_, h4, by simp only; omega, by simp only; omega, h5⟩
  apply Array.toList_inj.1
  rw [hc]
  simp only
  rw [Int.toNat_of_nonneg g1.1, Int.toNat_of_nonneg g2.1]
  rfl
/-- An item that an argument's cells read as. -/
theorem RItem.it {w : World} {cs : Array Value} {x} (h : RItem w cs.toList x) : ∃ (s : It) (D : ByteArray) (pa : _) (pn pc : Nat), cs = #[.int .i64 s.kind, .string D, .int .u32 s.inc, .int .u64 s.holds, .bool s.has, .bool s.direct, .int .u64 s.rc.last.num, .int .u64 s.rc.last.ce, .int .i64 s.rc.last.cr, .int .u64 s.rc.last.mem, .slice pa pn pc, .int .u64 s.view.num, .int .u64 s.view.ce, .int .i64 s.view.cr, .int .u64 s.view.mem, .int .u64 s.number, .int .i64 s.index, .int .i64 s.total] ∧ s.data = bI D ∧ D.size ≤ maxLen ∧ RdV w pa pn pc s.rc.pend ∧ s.Wf ∧ (Lit.int .i64 s.kind).wf = true ∧ (Lit.int .i64 s.index).wf = true ∧ (Lit.int .i64 s.total).wf = true := by
  obtain ⟨k, D, i, ho, ha, di, r, v, nu, ix, to⟩ := x
  obtain ⟨_, _, hc, ⟨rfl, f0⟩, _, _, rfl, ⟨rfl, hD⟩, _, _, rfl, ⟨rfl, f1⟩, _, _, rfl, ⟨rfl, f2⟩, _, _, rfl, rfl, _, _, rfl, rfl, _, _, rfl, hr, _, _, rfl, hv, _, _, rfl, ⟨rfl, f3⟩, _, _, rfl, ⟨rfl, f4⟩, rfl, f5⟩ := h
  obtain ⟨pa, pn, pc, rfl, h4, h5⟩ := hr.rc
  obtain ⟨rfl, hvw⟩ := hv.vw
  have g1 := wf_u32_bounds f1
  have g2 := wf_u64_bounds f2
  have g3 := wf_u64_bounds f3
  simp only at g1 g2 g3
  refine ⟨⟨k, bI D, i.toNat, ho.toNat, ha, di, toRc r, toVw v, nu.toNat, ix, to⟩, D, pa, pn, pc, ?_, rfl, hD, h4, ⟨by simp only; omega, by simp only; omega, h5, hvw, by simp only; omega, bI_mem D⟩, f0, f4, f5⟩
  apply Array.toList_inj.1
  rw [hc]
  simp only
  rw [Int.toNat_of_nonneg g1.1, Int.toNat_of_nonneg g2.1, Int.toNat_of_nonneg g3.1]
  rfl
end Go.Proofs.Ytdfnpaaejjediaa
