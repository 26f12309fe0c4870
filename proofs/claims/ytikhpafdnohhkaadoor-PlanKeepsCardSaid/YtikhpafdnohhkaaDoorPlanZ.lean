/- plan: the reference's counts, lost -/
import Derived.Test.YtikhpafdnohhkaaDoorPlanW
import Derived.Test.YtikhpafdnohhkaaDoorPlanI
namespace Go.Proofs.YtikhpafdnohhkaaDoor
set_option linter.unusedSimpArgs false
set_option linter.unusedVariables false
open Go.RowKit
set_option maxHeartbeats 1600000 in
set_option maxRecDepth 100000 in
theorem rcounts_any (a : Option Addr) (n c : Nat) (l : List Xc) (x : Mc) (t : Bool) (ht : t = cntM (wholeV (vX l)) x.m) (w : World) (hr : RdX w a n c l) :
    Calls Tryd.prog 41 #[.slice a n c, .agg (mcA x)] w fun e w' => e = .returned (.bool t) ∧ Below w.heap.size w w' := by
  have ht' := Lib.hid (show t = decide (0 < x.m.seq ∧ x.m.seq ≤ wholeV (vX l) x.m.src) from ht)
  clear ht
  have hX := BlkAt.new w 59 (mcA x)
  have hb1 := alloc_below w (.cells (mcA x) 59)
  obtain ⟨w1, hw1⟩ : ∃ w1, w1 = w.alloc (.cells (mcA x) 59) := ⟨_, rfl⟩
  rw [← hw1] at hX hb1
  have HWh := Lib.hid (fun W (hb : Below w.heap.size w W) q => rwhole_any a n c l q W (hr.below hb))
  have hin := Lib.hid (fun (h : 0 < wholeV (vX l) x.m.src) => (by unfold wholeV at h; split at h; assumption; omega : 0 ≤ x.m.src ∧ x.m.src < 64))
  obtain ⟨x0, x1, x2, x3, x4, x5⟩ := blk6 hX
  obtain ⟨⟨s, seq, stamp, service, deps, payload⟩, xa, xn, xc⟩ := x
  simp only at ht' hin
  have HX2 := Lib.hid (fun W (hb : Below w1.heap.size w1 W) => HWh.out W (belS hb1 hb) s)
  generalize wholeV (vX l) s = wn at *
  by_cases hs0 : s < 0
  · have hz := Lib.hid (show t = false from ht'.out.trans (decide_eq_false (fun h => by have := hin.out (by omega); omega)))
    have e0 : decide (0 ≤ s) = false := decide_eq_false (by omega)
    clear hin ht' HWh HX2
    go_enter Tryd.func41, Tryd.ntmps41
    go_wp2_with (first | (refine wpList_blk_box rfl (.tmp 1) rfl rfl w.heap.size rfl ?_; rw [← hw1]; clear hw1))
    go_quiet (fail)
    go_wp2
    go_ret
    exact ⟨by rw [hz.out]; rfl, belN hb1 _⟩
  have e0 : decide (0 ≤ s) = true := decide_eq_true (by omega)
  by_cases hs1 : 64 ≤ s
  · have hz := Lib.hid (show t = false from ht'.out.trans (decide_eq_false (fun h => by have := hin.out (by omega); omega)))
    have e1 : decide (s < 64) = false := decide_eq_false (by omega)
    clear hin ht' HWh HX2
    go_enter Tryd.func41, Tryd.ntmps41
    go_wp2_with (first | (refine wpList_blk_box rfl (.tmp 1) rfl rfl w.heap.size rfl ?_; rw [← hw1]; clear hw1))
    go_quiet (fail)
    go_wp2
    go_ret
    exact ⟨by rw [hz.out]; rfl, belN hb1 _⟩
  have e1 : decide (s < 64) = true := decide_eq_true (by omega)
  by_cases hq : seq = 0
  · have hz := Lib.hid (show t = false from ht'.out.trans (decide_eq_false (fun h => by omega)))
    have e2 : decide ((1 : Int) ≤ seq) = false := decide_eq_false (by omega)
    clear hin ht' HWh HX2 hq
    generalize (seq : Int) = sq at *
    go_enter Tryd.func41, Tryd.ntmps41
    go_wp2_with (first | (refine wpList_blk_box rfl (.tmp 1) rfl rfl w.heap.size rfl ?_; rw [← hw1]; clear hw1))
    go_quiet (fail)
    go_wp2
    go_ret
    exact ⟨by rw [hz.out]; rfl, belN hb1 _⟩
  have e2 : decide ((1 : Int) ≤ seq) = true := decide_eq_true (by omega)
  have hz := Lib.hid (show t = decide ((seq : Int) ≤ wn) from ht'.out.trans (by rw [decide_eq_decide]; omega))
  clear hin ht' HWh hq hs0 hs1
  generalize (seq : Int) = sq at *
  go_enter Tryd.func41, Tryd.ntmps41
  go_wp2_with (first | (refine wpList_blk_box rfl (.tmp 1) rfl rfl w.heap.size rfl ?_; rw [← hw1]; clear hw1))
  go_quiet (first | (go_at_call 17; exact qS (HX2.out _ (belN (Below.refl _ _) _))))
  go_wp2
  go_ret
  exact ⟨by rw [hz.out]; rfl, belN hb1 _⟩
end Go.Proofs.YtikhpafdnohhkaaDoor
