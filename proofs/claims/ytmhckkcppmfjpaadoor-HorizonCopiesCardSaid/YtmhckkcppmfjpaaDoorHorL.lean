/- the horizon: readings; HorizonRises' law -/
import Derived.Test.YtmhckkcppmfjpaaDoorHorK
namespace Go.Proofs.YtmhckkcppmfjpaaDoor
open Go.RowKit Go.Sort

def RAc : World → List Value → Int × Int × Int × Int → Prop := RPair (RInt .i64) (RPair (RInt .i64) (RPair (RInt .u32) (RInt .u64)))
theorem opens_ac {H : Type} {enc : TypeId × Value → H} {W : World} : Opens enc Tryd.prog W 23 (RSlc RAc 4) :=
  opens_slice (sz := 4) Tryd.underlying23 (by kernel_rfl) (by decide) (opens_struct Tryd.underlying32 (by kernel_rfl) (OpensFs.cons (sz := 1) (total := 3) rfl (by kernel_rfl) (opens_int Tryd.underlying3) (OpensFs.cons (sz := 1) (total := 2) rfl (by kernel_rfl) (opens_int Tryd.underlying3) (OpensFs.cons (sz := 1) (total := 1) rfl (by kernel_rfl) (opens_int Tryd.underlying30) (OpensFs.one rfl (by kernel_rfl) (opens_int Tryd.underlying22))))))
theorem wf_u32_bounds {x : Int} (h : (Lit.int .u32 x).wf = true) : 0 ≤ x ∧ x < 4294967296 := by
  simp [Lit.wf, IntKind.min, IntKind.max, IntKind.bits, IntKind.signed] at h
  omega
def toAc (x : Int × Int × Int × Int) : AcH := ⟨x.1, x.2.1, x.2.2.1.toNat, x.2.2.2.toNat⟩
theorem RAc.ac {w : World} {cs : List Value} {x : Int × Int × Int × Int} (h : RAc w cs x) : cs = acC (toAc x) ∧ (toAc x).Ok := by
  obtain ⟨k, p, q, s⟩ := x
  obtain ⟨_, _, rfl, ⟨rfl, _⟩, _, _, rfl, ⟨rfl, _⟩, _, _, rfl, ⟨rfl, f1⟩, rfl, f2⟩ := h
  have g1 := wf_u32_bounds f1
  have g2 := wf_u64_bounds f2
  simp only at g1 g2
  refine ⟨?_, ?_, ?_⟩
  · simp only [acC, toAc]
    rw [Int.toNat_of_nonneg g1.1, Int.toNat_of_nonneg g2.1]
    rfl
  · simp only [toAc]; omega
  · simp only [toAc]; omega
theorem RSl.acs {w : World} {a : Option Addr} {n c : Nat} {l : List (Int × Int × Int × Int)} (h : RSl RAc 4 w a n c l) : RdA w a n c (l.map toAc) ∧ ∀ v ∈ l.map toAc, v.Ok := by
  refine ⟨?_, ?_⟩
  · show Rd w 4 a n c ((l.map toAc).flatMap acC)
    rw [List.flatMap_map]
    exact h.flat (fun x => acC (toAc x)) (fun _ => rfl) (by decide) (fun w cs x hx => hx.ac.1)
  · intro v hv
    obtain ⟨x, hx, rfl⟩ := List.mem_map.1 hv
    exact h.all (Q := fun x => (toAc x).Ok) (fun cs x hx => hx.ac.2) x hx
theorem u64n {x : Int} (h : (Lit.int .u64 x).wf = true) : ∃ n : Nat, x = n ∧ n < 18446744073709551616 := by
  have := wf_u64_bounds h
  exact ⟨x.toNat, by omega, by omega⟩
theorem rises_law (me x : Int) (a : Option Addr) (n c : Nat) (w : World) (hT : Tab w) (hme : (Lit.int .i64 me).wf = true) (hx : (Lit.int .u64 x).wf = true) (hl : ∃ l, RSl RAc 4 w a n c l) :
    Calls Tryd.prog 3 #[.int .i64 me, .int .u64 x, .slice a n c] w fun e w' => e = .returned (.bool true) ∧ Below w.heap.size w w' := by
  obtain ⟨l, hl⟩ := hl
  obtain ⟨h1, h2⟩ := hl.acs
  obtain ⟨x, rfl, gx⟩ := u64n hx
  exact rises_any me x gx a n c _ h2 w h1 hT
end Go.Proofs.YtmhckkcppmfjpaaDoor
