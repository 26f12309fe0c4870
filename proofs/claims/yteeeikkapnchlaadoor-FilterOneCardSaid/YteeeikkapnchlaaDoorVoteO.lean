/- readings of records; plain laws; the walk of VoteMeets -/
import Derived.Test.YteeeikkapnchlaaDoorVoteN
import Derived.Test.YteeeikkapnchlaaDoorSz
import Derived.Test.YteeeikkapnchlaaDoorSetN
namespace Go.Proofs.YteeeikkapnchlaaDoor
set_option linter.unusedSimpArgs false
set_option linter.unusedVariables false
open Go.RowKit Go.Sort

def RConf : World → List Value → Int × Int → Prop := RPair (RInt .u64) (RInt .i64)
def RView : World → List Value → Int × (Int × Int) × Int → Prop := RPair (RInt .u64) (RPair RConf (RInt .u64))
def RRec : World → List Value → (Int × (Int × Int) × Int) × List (Int × (Int × Int) × Int) → Prop := RPair RView (RSlz RView 4 32)
theorem opens_view {H : Type} {enc : TypeId × Value → H} {W : World} : Opens enc Tryd.prog W 35 RView :=
  have hc : Opens enc Tryd.prog W 30 RConf := opens_struct Tryd.underlying30 (by kernel_rfl) (OpensFs.cons (sz := 1) (total := 1) rfl (by kernel_rfl) (opens_int Tryd.underlying25) (OpensFs.one rfl (by kernel_rfl) (opens_int Tryd.underlying3)))
  opens_struct Tryd.underlying35 (by kernel_rfl) (OpensFs.cons (sz := 1) (total := 3) rfl (by kernel_rfl) (opens_int Tryd.underlying25) (OpensFs.cons (sz := 2) (total := 1) rfl (by kernel_rfl) hc (OpensFs.one rfl (by kernel_rfl) (opens_int Tryd.underlying25))))
theorem sopens_views {H : Type} {enc : TypeId × Value → H} {W : World} : SOpens enc Tryd.prog W 36 (RSlz RView 4 32) :=
  sopens_slice Tryd.underlying36 (by kernel_rfl) (by kernel_rfl) (by decide) (SOpens.of opens_view)
theorem sopens_rec {H : Type} {enc : TypeId × Value → H} {W : World} : SOpens enc Tryd.prog W 38 RRec :=
  sopens_struct Tryd.underlying38 (by kernel_rfl) (SOpensFs.cons (sz := 4) (total := 1) rfl (by kernel_rfl) (SOpens.of opens_view) (SOpensFs.one rfl (by kernel_rfl) sopens_views))
theorem sopens_recs {H : Type} {enc : TypeId × Value → H} {W : World} : SOpens enc Tryd.prog W 22 (RSlz RRec 5 56) :=
  sopens_slice Tryd.underlying22 (by kernel_rfl) (by kernel_rfl) (by decide) sopens_rec
def toVw (x : Int × (Int × Int) × Int) : Vw := ⟨x.1.toNat, x.2.1.1.toNat, x.2.1.2, x.2.2.toNat⟩
def toRc (x : (Int × (Int × Int) × Int) × List (Int × (Int × Int) × Int)) : Rc := ⟨toVw x.1, x.2.map toVw⟩
theorem RView.vw {w : World} {cs : List Value} {x : Int × (Int × Int) × Int} (h : RView w cs x) : cs = vwF (toVw x) ∧ (toVw x).Wf := by
  obtain ⟨p, ⟨e, r⟩, m⟩ := x
  obtain ⟨c1, c2, rfl, ⟨rfl, f1⟩, c3, c4, rfl, ⟨c5, c6, rfl, ⟨rfl, f2⟩, rfl, f3⟩, rfl, f4⟩ := h
  have g1 := wf_u64_bounds f1
  have g2 := wf_u64_bounds f2
  have g4 := wf_u64_bounds f4
  simp only at g1 g2 g4
  refine ⟨?_, ?_, ?_⟩
  · simp only [vwF, toVw]
    rw [Int.toNat_of_nonneg g1.1, Int.toNat_of_nonneg g2.1, Int.toNat_of_nonneg g4.1]
    rfl
  · simp only [toVw]; omega
  · simp only [toVw]; omega
theorem RSl.views {w : World} {a : Option Addr} {n c : Nat} {l : List (Int × (Int × Int) × Int)} (h : RSl RView 4 w a n c l) : RdV w a n c (l.map toVw) ∧ ∀ v ∈ l.map toVw, v.Wf := by
  refine ⟨?_, ?_⟩
  · show Rd w 4 a n c ((l.map toVw).flatMap vwF)
    rw [List.flatMap_map]
    exact h.flat (fun x => vwF (toVw x)) (fun _ => rfl) (by decide) (fun w cs x hx => hx.vw.1)
  · intro v hv
    obtain ⟨x, hx, rfl⟩ := List.mem_map.1 hv
    exact h.all (Q := fun x => (toVw x).Wf) (fun cs x hx => hx.vw.2) x hx
/-- A record that an argument's cells read as. -/
theorem RRec.rc {w : World} {cs : List Value} {x : (Int × (Int × Int) × Int) × List (Int × (Int × Int) × Int)} (h : RRec w cs x) :
    ∃ pa pn pc, cs = vwF (toRc x).last ++ [.slice pa pn pc] ∧ RdV w pa pn pc (toRc x).pend ∧ (toRc x).Wf ∧ (toRc x).pend.length ≤ 4398046511104 := by
  obtain ⟨c1, c2, rfl, h1, pa, pn, pc, rfl, h2, h3⟩ := h
  refine ⟨pa, pn, pc, by rw [h1.vw.1]; rfl, h2.views.1, ⟨h1.vw.2, h2.views.2⟩, ?_⟩
  show (x.2.map toVw).length ≤ _
  rw [List.length_map, h2.1.1]
  unfold reachBytes at h3
  omega
theorem RSl.recs {w : World} {a : Option Addr} {n c : Nat} {l : List ((Int × (Int × Int) × Int) × List (Int × (Int × Int) × Int))} (h : RSl RRec 5 w a n c l) :
    RdR w a n c (l.map toRc) ∧ (∀ r ∈ l.map toRc, r.Wf) ∧ ∀ r ∈ l.map toRc, r.pend.length ≤ 4398046511104 := by
  refine ⟨?_, ?_, ?_⟩
  · refine ⟨⟨by rw [List.length_map]; exact h.1.1, h.1.2⟩, ?_⟩
    rcases h.2 with h0 | ⟨b, off, rfl, hlt, hc⟩
    · exact .inl h0
    · refine .inr ⟨b, off, rfl, hlt, fun i hi => ?_⟩
      obtain ⟨cs, _, h2, h3⟩ := hc i (by simpa using hi)
      obtain ⟨pa, pn, pc, rfl, h4, _⟩ := h3.rc
      rw [List.getElem_map]
      exact ⟨pa, pn, pc, ⟨h2 0 _ rfl, h2 1 _ rfl, h2 2 _ rfl, h2 3 _ rfl, h2 4 _ rfl⟩, h4⟩
  · intro v hv
    obtain ⟨x, hx, rfl⟩ := List.mem_map.1 hv
    exact h.all (Q := fun x => (toRc x).Wf) (fun cs x hx => by obtain ⟨_, _, _, _, _, h, _⟩ := hx.rc; exact h) x hx
  · intro v hv
    obtain ⟨x, hx, rfl⟩ := List.mem_map.1 hv
    exact h.all (Q := fun x => (toRc x).pend.length ≤ 4398046511104) (fun cs x hx => by obtain ⟨_, _, _, _, _, _, h⟩ := hx.rc; exact h) x hx

theorem most_t {x y : Nat} : mostB x y = true ↔ mostP x y := by rw [mostB, decide_eq_true_eq, mostP]
theorem mayB_t {x : Nat} {l : List Rc} : mayB x l = true ↔ l ≠ [] ∧ mostP x (lastL l).mem ∧ ∀ v ∈ pendL l, mostP x v.mem := by
  unfold mayB
  simp only [Bool.and_eq_true, Bool.not_eq_true', most_t]
  refine and_congr ?_ (and_congr Iff.rfl ?_)
  · cases l <;> simp
  · rw [Bool.eq_false_iff, Ne, List.any_eq_true]
    constructor
    · intro h v hv
      rw [← most_t]
      cases hm : mostB x v.mem with
      | true => rfl
      | false => exact absurd ⟨v, hv, by rw [hm]; rfl⟩ h
    · rintro h ⟨v, hv, hm⟩
      rw [most_t.2 (h v hv)] at hm
      cases hm
theorem may_more {x y : Nat} {l : List Rc} (h : mayB x l = true) : mayB (x ||| y) l = true := by
  obtain ⟨h0, h1, h2⟩ := mayB_t.1 h
  exact mayB_t.2 ⟨h0, most_more h1, fun v hv => most_more (h2 v hv)⟩
theorem meet_ne {x y z : Nat} (h1 : mostP x z) (h2 : mostP y z) : (x &&& y) &&& z ≠ 0 := by
  intro h
  have := most_meet h1 h2
  rw [h, card_zero] at this
  omega
theorem may_meet {x y : Nat} {l : List Rc} (h : mayB x l = true) (k : mayB y l = true) : (∀ v ∈ pendL l, (x &&& y) &&& v.mem ≠ 0) ∧ (x &&& y) &&& (lastL l).mem ≠ 0 := by
  obtain ⟨_, h1, h2⟩ := mayB_t.1 h
  obtain ⟨_, k1, k2⟩ := mayB_t.1 k
  exact ⟨fun v hv => meet_ne (h2 v hv) (k2 v hv), meet_ne h1 k1⟩
end Go.Proofs.YteeeikkapnchlaaDoor
