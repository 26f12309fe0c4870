/- plan: counts -/
import Derived.Test.YtikhpafdnohhkaaDoorPlanG
namespace Go.Proofs.YtikhpafdnohhkaaDoor
set_option linter.unusedSimpArgs false
set_option linter.unusedVariables false
open Go.RowKit
set_option maxHeartbeats 1600000 in
set_option maxRecDepth 100000 in
theorem counts_any (b : Nat) (l : List Xc) (x : Mc) (t : Bool) (ht : t = cntM (wholeV (vX l)) x.m) (w : World) (h : PlAt w b l) :
    Calls Tryd.prog 40 #[.pointer (some ⟨b, 0, none⟩), .agg (mcA x)] w fun e w' => e = .returned (.bool t) ∧ Below w.heap.size w w' := by
  have ht' := Lib.hid (show t = decide (0 < x.m.seq ∧ x.m.seq ≤ wholeV (vX l) x.m.src) from ht)
  clear ht
  have hX := BlkAt.new w 59 (mcA x)
  have hb1 := alloc_below w (.cells (mcA x) 59)
  have HW := Lib.hid (fun W (hb : Below w.heap.size w W) q => whole_any b l q W (h.below hb))
  go_enter Tryd.func40, Tryd.ntmps40
  go_wp2_with (first
    | (refine wpList_blk_box rfl (.tmp 1) rfl rfl w.heap.size rfl ?_; generalize (w.alloc (.cells (mcA x) 59)) = w1 at *))
  have HW1 := fun W (hb : Below w1.heap.size w1 W) => HW.out W (belS hb1 hb) x.m.src
  have d0 := fun W (hb : Below w1.heap.size w1 W) => (hX.below hb hX.lt).cell (i := 0) (v := .int .i64 x.m.src) rfl
  have d1 := fun W (hb : Below w1.heap.size w1 W) => (hX.below hb hX.lt).cell (i := 1) (v := .int .u32 x.m.seq) rfl
  have hS0 := Below.refl w1.heap.size w1
  clear hX HW
  generalize wholeV (vX l) x.m.src = wn at *
  by_cases h0 : 0 < x.m.seq
  · have h0I : (0 : Int) < x.m.seq := by omega
    by_cases h1 : x.m.seq ≤ wn
    · have hz := Lib.hid (ht'.out.trans (decide_eq_true ⟨h0, h1⟩))
      have h1I : decide ((x.m.seq : Int) ≤ wn) = true := decide_eq_true (by omega)
      replace h0I : decide ((0 : Int) < x.m.seq) = true := decide_eq_true h0I
      clear ht' h0 h1
      generalize (x.m.seq : Int) = s at *
      generalize (wn : Int) = v at *
      go_region_held3 (fun w' => Below w1.heap.size w1 w') (first | assumption | exact Below.drew (by assumption) | (refine belS ?_ (by assumption); assumption))
        (first | (go_at_call 16; (with_reducible refine (HW1 _ (by assumption)).mono ?_); rintro e w4 ⟨rfl, hb⟩))
      all_goals
        go_wp2
        go_ret
        exact ⟨by rw [hz.out]; rfl, by refine belS hb1 ?_; assumption⟩
    · have hz := Lib.hid (ht'.out.trans (decide_eq_false (fun h => h1 h.2)))
      have h1I : decide ((x.m.seq : Int) ≤ wn) = false := decide_eq_false (by omega)
      replace h0I : decide ((0 : Int) < x.m.seq) = true := decide_eq_true h0I
      clear ht' h0 h1
      generalize (x.m.seq : Int) = s at *
      generalize (wn : Int) = v at *
      go_region_held3 (fun w' => Below w1.heap.size w1 w') (first | assumption | exact Below.drew (by assumption) | (refine belS ?_ (by assumption); assumption))
        (first | (go_at_call 16; (with_reducible refine (HW1 _ (by assumption)).mono ?_); rintro e w4 ⟨rfl, hb⟩))
      all_goals
        go_wp2
        go_ret
        exact ⟨by rw [hz.out]; rfl, by refine belS hb1 ?_; assumption⟩
  · have hz := Lib.hid (ht'.out.trans (decide_eq_false (fun h => h0 h.1)))
    have h0I : decide ((0 : Int) < x.m.seq) = false := decide_eq_false (by omega)
    clear ht' h0
    have e0 := d0 _ hS0
    have e1 := d1 _ hS0
    clear d0 d1 HW1
    generalize (x.m.seq : Int) = s at *
    go_quiet (fail)
    go_wp2
    go_ret
    exact ⟨by rw [hz.out]; rfl, belN hb1 _⟩
end Go.Proofs.YtikhpafdnohhkaaDoor
