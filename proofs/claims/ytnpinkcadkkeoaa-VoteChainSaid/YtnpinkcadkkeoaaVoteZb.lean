/- VoteChain: its argument's reading -/
import Derived.Test.YtnpinkcadkkeoaaVoteZ
namespace Go.Proofs.Ytnpinkcadkkeoaa
open Go.RowKit Go.Sort

theorem RdN.of {w : World} {a : Option Addr} {n c : Nat} {l : List (Int × Int × Int)} (h : RSl (RPair (RInt .u64) (RPair (RInt .u64) (RInt .u64))) 3 w a n c l) : RdN w a n c (l.map fun x => ⟨x.1.toNat, x.2.1.toNat, x.2.2.toNat⟩) ∧ ∀ r ∈ l.map (fun x => (⟨x.1.toNat, x.2.1.toNat, x.2.2.toNat⟩ : Rnd)), r.Wf := by
  have key : ∀ (w : World) cs (x : Int × Int × Int), RPair (RInt .u64) (RPair (RInt .u64) (RInt .u64)) w cs x → cs = rdF ⟨x.1.toNat, x.2.1.toNat, x.2.2.toNat⟩ ∧ Rnd.Wf ⟨x.1.toNat, x.2.1.toNat, x.2.2.toNat⟩ := by
    rintro w cs ⟨p, q, r⟩ ⟨c1, c2, rfl, ⟨rfl, f1⟩, c3, c4, rfl, ⟨rfl, f2⟩, rfl, f3⟩
    have g1 := wf_u64_bounds f1
    have g2 := wf_u64_bounds f2
    have g3 := wf_u64_bounds f3
    simp only at g1 g2 g3
    refine ⟨?_, by simp only; omega, by simp only; omega, by simp only; omega⟩
    simp only [rdF]
    rw [Int.toNat_of_nonneg g1.1, Int.toNat_of_nonneg g2.1, Int.toNat_of_nonneg g3.1]
    rfl
  refine ⟨?_, ?_⟩
  · show Rd w 3 a n c ((l.map _).flatMap rdF)
    rw [List.flatMap_map]
    exact h.flat _ (fun _ => rfl) (by decide) (fun w cs x hx => (key w cs x hx).1)
  · intro v hv
    obtain ⟨x, hx, rfl⟩ := List.mem_map.1 hv
    exact h.all (Q := fun x => Rnd.Wf ⟨x.1.toNat, x.2.1.toNat, x.2.2.toNat⟩) (fun cs x hx => (key _ cs x hx).2) x hx
theorem opens_rnd {H : Type} {enc : TypeId × Value → H} {W : World} : Opens enc Try.prog W 58 (RPair (RInt .u64) (RPair (RInt .u64) (RInt .u64))) :=
  opens_struct Try.underlying58 (by kernel_rfl) (OpensFs.cons (sz := 1) (total := 2) rfl (by kernel_rfl) (opens_int Try.underlying23) (OpensFs.cons (sz := 1) (total := 1) rfl (by kernel_rfl) (opens_int Try.underlying23) (OpensFs.one rfl (by kernel_rfl) (opens_int Try.underlying23))))
theorem opens_rnds {H : Type} {enc : TypeId × Value → H} {W : World} : Opens enc Try.prog W 55 (RSlc (RPair (RInt .u64) (RPair (RInt .u64) (RInt .u64))) 3) :=
  opens_slice Try.underlying55 (by kernel_rfl) (by decide) opens_rnd
theorem chain_law (a : Option Addr) (n c : Nat) (w : World) (hl : ∃ l, RSl (RPair (RInt .u64) (RPair (RInt .u64) (RInt .u64))) 3 w a n c l) :
    Calls Try.prog 6 #[.slice a n c] w fun e w' => e = .returned (.bool true) ∧ Below w.heap.size w w' := by
  obtain ⟨l, hl⟩ := hl
  obtain ⟨h1, h2⟩ := RdN.of hl
  exact chain_law0 a n c _ h2 w h1
end Go.Proofs.Ytnpinkcadkkeoaa
