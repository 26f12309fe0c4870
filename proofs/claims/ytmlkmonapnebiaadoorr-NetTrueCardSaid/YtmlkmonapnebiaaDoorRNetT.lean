/- the net: NetTrue, from what an argument reads as -/
import Derived.Test.YtmlkmonapnebiaaDoorRNetS
namespace Go.Proofs.YtmlkmonapnebiaaDoorR
open Go.RowKit Go.Sort

theorem RNa.mask {w : World} {cs : List Value} {x} (h : RNa w cs x) : 0 ≤ (toNa x).mask ∧ (toNa x).mask < 256 := by
  obtain ⟨k, ⟨sr, ds, da, to_⟩, i, at_, m, s⟩ := x
  obtain ⟨_, _, rfl, _, _, _, rfl, _, _, _, rfl, _, _, _, rfl, _, _, _, rfl, ⟨rfl, f1⟩, _⟩ := h
  exact wf_u8_bounds f1
theorem ntrue_law (n : Int) (a : Option Addr) (cn c : Nat) (w : World) (hT : Tab w) (hn : (Lit.int .i64 n).wf = true) (hl : ∃ l, RSl RNa 9 w a cn c l) :
    Calls Tryd.prog 4 #[.int .i64 n, .slice a cn c] w fun e w' => e = .returned (.bool true) ∧ Below w.heap.size w w' := by
  obtain ⟨l, hl⟩ := hl
  obtain ⟨h1, h2⟩ := hl.nas
  refine ntrue_any n a cn c _ h2 ?_ w h1 hT
  intro v hv
  obtain ⟨x, hx, rfl⟩ := List.mem_map.1 hv
  exact hl.all (Q := fun x => 0 ≤ (toNa x).mask ∧ (toNa x).mask < 256) (fun cs x hx => hx.mask) x hx
end Go.Proofs.YtmlkmonapnebiaaDoorR
