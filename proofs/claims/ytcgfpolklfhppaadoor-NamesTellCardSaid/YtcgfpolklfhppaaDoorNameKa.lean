/- names: readings of claims -/
import Derived.Test.YtcgfpolklfhppaaDoorNameI
namespace Go.Proofs.YtcgfpolklfhppaaDoor
open Go.RowKit Go.Sort

def RConf : World → List Value → Int × Int → Prop := RPair (RInt .u64) (RInt .i64)
def RView : World → List Value → Int × (Int × Int) × Int → Prop := RPair (RInt .u64) (RPair RConf (RInt .u64))
def RRec : World → List Value → (Int × (Int × Int) × Int) × List (Int × (Int × Int) × Int) → Prop := RPair RView (RSlc RView 4)
def RItem := RPair (RInt .i64) (RPair RStr (RPair (RInt .u32) (RPair (RInt .u64) (RPair RBool (RPair RBool (RPair RRec (RPair RView (RPair (RInt .u64) (RPair (RInt .i64) (RInt .i64))))))))))
theorem opens_view {H : Type} {enc : TypeId × Value → H} {W : World} : Opens enc Tryd.prog W 43 RView :=
  have hc : Opens enc Tryd.prog W 41 RConf := opens_struct Tryd.underlying41 (by kernel_rfl) (OpensFs.cons (sz := 1) (total := 1) rfl (by kernel_rfl) (opens_int Tryd.underlying22) (OpensFs.one rfl (by kernel_rfl) (opens_int Tryd.underlying3)))
  opens_struct Tryd.underlying43 (by kernel_rfl) (OpensFs.cons (sz := 1) (total := 3) rfl (by kernel_rfl) (opens_int Tryd.underlying22) (OpensFs.cons (sz := 2) (total := 1) rfl (by kernel_rfl) hc (OpensFs.one rfl (by kernel_rfl) (opens_int Tryd.underlying22))))
theorem opens_rec {H : Type} {enc : TypeId × Value → H} {W : World} : Opens enc Tryd.prog W 46 RRec :=
  opens_struct Tryd.underlying46 (by kernel_rfl) (OpensFs.cons (sz := 4) (total := 1) rfl (by kernel_rfl) opens_view (OpensFs.one rfl (by kernel_rfl) (opens_slice Tryd.underlying44 (by kernel_rfl) (by decide) opens_view)))
theorem opens_item {H : Type} {enc : TypeId × Value → H} {W : World} : Opens enc Tryd.prog W 48 RItem :=
  opens_struct Tryd.underlying48 (by kernel_rfl) (OpensFs.cons (sz := 1) (total := 17) rfl (by kernel_rfl) (opens_int Tryd.underlying3) (OpensFs.cons (sz := 1) (total := 16) rfl (by kernel_rfl) (opens_str Tryd.underlying9)
    (OpensFs.cons (sz := 1) (total := 15) rfl (by kernel_rfl) (opens_int Tryd.underlying28) (OpensFs.cons (sz := 1) (total := 14) rfl (by kernel_rfl) (opens_int Tryd.underlying22)
    (OpensFs.cons (sz := 1) (total := 13) rfl (by kernel_rfl) (opens_bool Tryd.underlying4) (OpensFs.cons (sz := 1) (total := 12) rfl (by kernel_rfl) (opens_bool Tryd.underlying4)
    (OpensFs.cons (sz := 5) (total := 7) rfl (by kernel_rfl) opens_rec (OpensFs.cons (sz := 4) (total := 3) rfl (by kernel_rfl) opens_view
    (OpensFs.cons (sz := 1) (total := 2) rfl (by kernel_rfl) (opens_int Tryd.underlying22) (OpensFs.cons (sz := 1) (total := 1) rfl (by kernel_rfl) (opens_int Tryd.underlying3) (OpensFs.one rfl (by kernel_rfl) (opens_int Tryd.underlying3))))))))))))
theorem opens_items {H : Type} {enc : TypeId × Value → H} {W : World} : Opens enc Tryd.prog W 23 (RSlc RItem 18) :=
  opens_slice Tryd.underlying23 (by kernel_rfl) (by decide) opens_item
theorem RView.cells {w : World} {cs : List Value} {x : Int × (Int × Int) × Int} (h : RView w cs x) : cs = [.int .u64 x.1, .int .u64 x.2.1.1, .int .i64 x.2.1.2, .int .u64 x.2.2] := by
  obtain ⟨c1, c2, rfl, ⟨rfl, f1⟩, c3, c4, rfl, ⟨c5, c6, rfl, ⟨rfl, f2⟩, rfl, f3⟩, rfl, f4⟩ := h
  rfl
theorem wf_u32_bounds {x : Int} (h : (Lit.int .u32 x).wf = true) : 0 ≤ x ∧ x < 4294967296 := by
  simp [Lit.wf, IntKind.min, IntKind.max, IntKind.bits, IntKind.signed] at h
  omega
theorem RItem.it {w : World} {cs : List Value} {x} (h : RItem w cs x) : ∃ y : It, y.cs = cs ∧ y.Wf := by
  obtain ⟨k, s, inc, ho, ha, dr, rc, vw, nr, ix, tl⟩ := x
  obtain ⟨_, _, rfl, ⟨rfl, _⟩, _, _, rfl, ⟨rfl, _⟩, _, _, rfl, ⟨rfl, fi⟩, _, _, rfl, ⟨rfl, fh⟩, _, _, rfl, rfl, _, _, rfl, rfl, _, _, rfl, ⟨cv, cp, rfl, hv, pa, pn, pc, rfl, _⟩, _, _, rfl, hw, _, _, rfl, ⟨rfl, _⟩, _, _, rfl, ⟨rfl, _⟩, rfl, _⟩ := h
  have g1 := wf_u32_bounds fi
  have g2 := wf_u64_bounds fh
  rw [hv.cells, hw.cells]
  refine ⟨⟨_, inc.toNat, ho.toNat, ha, dr⟩, rfl, rfl, ?_, ?_, rfl, rfl, ?_, ?_, ?_⟩
  · show some (Value.int .u32 inc) = some (Value.int .u32 (inc.toNat : Int))
    rw [Int.toNat_of_nonneg g1.1]
  · show some (Value.int .u64 ho) = some (Value.int .u64 (ho.toNat : Int))
    rw [Int.toNat_of_nonneg g2.1]
  · show inc.toNat < _
    simp only at g1; omega
  · show ho.toNat < _
    simp only at g2; omega
  · exact fun v hv => List.all_eq_true.1 (by rfl) v hv
theorem RdI.of {w : World} {b off n c : Nat} {L : List It} (hw : ∀ x ∈ L, x.Wf) (hl : L.length = n) (hnc : n ≤ c) (hcm : c ≤ maxLen) (hb : b < w.heap.size) (h : ∀ i (hi : i < L.length), ∀ j u, L[i].cs[j]? = some u → w.cell? ⟨b, off + i * 18 + j, none⟩ = some u) : RdI w (some ⟨b, off, none⟩) n c L := by
  refine ⟨⟨by rw [flat_len18 hw, hl], hnc, hcm, fun h => by cases h⟩, .inr ⟨b, off, rfl, hb, fun j u hu => ?_⟩⟩
  have hlt := (List.getElem?_eq_some_iff.1 hu).1
  rw [flat_len18 hw] at hlt
  have hq : j / 18 < L.length := by omega
  have hj : j = j / 18 * 18 + j % 18 := by omega
  rw [hj, flat_get18 hw _ _ hq (Nat.mod_lt _ (by decide))] at hu
  have := h _ hq _ _ hu
  rw [Nat.add_assoc, ← hj] at this
  exact this
theorem RSl.its {α : Type} {R : World → List Value → α → Prop} (hR : ∀ w cs x, R w cs x → ∃ y : It, y.cs = cs ∧ y.Wf) {w : World} {a : Option Addr} {n c : Nat} {l : List α} (h : RSl R 18 w a n c l) : ∃ L : List It, RdI w a n c L ∧ ∀ x ∈ L, x.Wf := by
  rcases h.2 with h0 | ⟨b, off, rfl, hb, hc⟩
  · subst h0
    exact ⟨[], ⟨⟨rfl, h.1.2.1, h.1.2.2.1, h.1.2.2.2⟩, .inl rfl⟩, fun x hx => by cases hx⟩
  · have hl := h.1.1
    have hy : ∀ i, i < n → ∃ y : It, y.Wf ∧ ∀ j u, y.cs[j]? = some u → w.cell? ⟨b, off + i * 18 + j, none⟩ = some u := fun i hi => by
      obtain ⟨cs, _, h1, h2⟩ := hc i (by omega)
      obtain ⟨y, rfl, hy⟩ := hR _ _ _ h2
      exact ⟨y, hy, h1⟩
    have hW : ∀ x ∈ List.ofFn (fun i : Fin n => Classical.choose (hy i.1 i.2)), x.Wf := by
      intro x hx
      obtain ⟨i, rfl⟩ := List.mem_ofFn.1 hx
      exact (Classical.choose_spec (hy i.1 i.2)).1
    refine ⟨List.ofFn (fun i : Fin n => Classical.choose (hy i.1 i.2)), RdI.of hW (by simp) h.1.2.1 h.1.2.2.1 hb (fun i hi j u hu => ?_), hW⟩
    rw [List.getElem_ofFn] at hu
    exact (Classical.choose_spec (hy i (by simpa using hi))).2 j u hu
theorem u64n {x : Int} (h : (Lit.int .u64 x).wf = true) : ∃ n : Nat, x = n ∧ n < 18446744073709551616 := by
  have := wf_u64_bounds h
  exact ⟨x.toNat, by omega, by omega⟩
end Go.Proofs.YtcgfpolklfhppaaDoor
