/- walks of Form, First, Add -/
import Derived.Test.YteeeikkapnchlaaDoorVoteI
namespace Go.Proofs.YteeeikkapnchlaaDoor
set_option linter.unusedSimpArgs false
set_option linter.unusedVariables false
open Go.RowKit Go.Sort

theorem Tryd.recI : (Tryd.prog.info? 38).map (·.size) = some 5 := by kernel_rfl
def formL (u : Vw) (pd : List Vw) : List Vw := pd.filter fun v => !decide (v.num ≤ u.num)
set_option maxHeartbeats 1600000 in
set_option maxRecDepth 100000 in
theorem form_new (x u : Vw) (pa : Option Addr) (pn pc : Nat) (pd : List Vw) (hn : pn ≤ 1000000) (w : World) (hr : RdV w pa pn pc pd) :
    Calls Tryd.prog 30 #[.agg #[.int .u64 x.num, .int .u64 x.ce, .int .i64 x.cr, .int .u64 x.mem, .slice pa pn pc], .agg #[.int .u64 u.num, .int .u64 u.ce, .int .i64 u.cr, .int .u64 u.mem]] w fun e w' => ∃ a c, e = .returned (.agg #[.int .u64 u.num, .int .u64 u.ce, .int .i64 u.cr, .int .u64 u.mem, .slice a (formL u pd).length c]) ∧ RdV w' a (formL u pd).length c (formL u pd) ∧ Below w.heap.size w w' ∧ ∀ g off, a = some ⟨g, off, none⟩ → w.heap.size ≤ g := by
  obtain ⟨W3, hW3⟩ : ∃ W, W = ((w.alloc (.cells #[.int .u64 x.num, .int .u64 x.ce, .int .i64 x.cr, .int .u64 x.mem, .slice pa pn pc] 38)).alloc (.cells #[.int .u64 u.num, .int .u64 u.ce, .int .i64 u.cr, .int .u64 u.mem] 35)).alloc (.cells #[.int .u64 0, .int .u64 0, .int .i64 0, .int .u64 0, .slice none 0 0] 38) := ⟨_, rfl⟩
  have hb : Below w.heap.size w W3 := by rw [hW3]; exact (((Below.refl _ _).alloc (Nat.le_refl _) _).alloc (by simp) _).alloc (by simp; omega) _
  have hA : BlkAt W3 w.heap.size 38 #[.int .u64 x.num, .int .u64 x.ce, .int .i64 x.cr, .int .u64 x.mem, .slice pa pn pc] := by rw [hW3]; exact BlkAt.alloc (BlkAt.alloc (BlkAt.new w _ _) _) _
  have hB : BlkAt W3 (w.heap.size + 1) 35 #[.int .u64 u.num, .int .u64 u.ce, .int .i64 u.cr, .int .u64 u.mem] := by rw [hW3]; exact BlkAt.alloc (by simpa using BlkAt.new (w.alloc (.cells #[.int .u64 x.num, .int .u64 x.ce, .int .i64 x.cr, .int .u64 x.mem, .slice pa pn pc] 38)) 35 #[.int .u64 u.num, .int .u64 u.ce, .int .i64 u.cr, .int .u64 u.mem]) _
  have hC : BlkAt W3 (w.heap.size + 2) 38 #[.int .u64 0, .int .u64 0, .int .i64 0, .int .u64 0, .slice none 0 0] := by rw [hW3]; simpa using BlkAt.new ((w.alloc (.cells #[.int .u64 x.num, .int .u64 x.ce, .int .i64 x.cr, .int .u64 x.mem, .slice pa pn pc] 38)).alloc (.cells #[.int .u64 u.num, .int .u64 u.ce, .int .i64 u.cr, .int .u64 u.mem] 35)) 38 #[.int .u64 0, .int .u64 0, .int .i64 0, .int .u64 0, .slice none 0 0]
  have hs : W3.heap.size = w.heap.size + 3 := by rw [hW3]; simp
  have hs1 : w.heap.size + 3 ≤ W3.heap.size := Nat.le_of_eq hs.symm
  have hr3 := hr.below hb (Nat.le_refl _)
  have HCl := Lib.hid (clone_any pa pn pc pd hn W3 hr3)
  have HF := Lib.hid (show formL u pd = pd.filter fun v => !decide (v.num ≤ u.num) from rfl)
  have HW := Lib.hid hW3.symm
  clear hs hW3
  go_enter Tryd.func30, Tryd.ntmps30
  go_wp2_with fail
  rw [HW.out]
  refine HCl.out.mono ?_
  rintro e w4 ⟨sv, rfl, hown, hb4⟩
  have hB4 := hB.below hb4 hB.lt
  have HD := Lib.hid (deleteF_any u (w.heap.size + 1) W3.heap.size pn sv pd w4 hn hown (by omega) hb4.size hB4)
  rw [← HF.out] at HD
  go_wp2_with fail
  refine HD.out.mono ?_
  rintro e w5 ⟨v, rfl, hown5, hb5⟩
  obtain ⟨a5, c5, rfl, hr5⟩ := Rd.own hown5
  have hge : ∀ g off, a5 = some ⟨g, off, none⟩ → W3.heap.size ≤ g := by
    intro g off e
    rcases hown5.2 with ⟨hv, _⟩ | ⟨g', cap, cur, hv, hb', _⟩
    · simp at hv; rw [e] at hv; simp at hv
    · simp at hv; rw [e] at hv; simp at hv; omega
  have hbW : Below W3.heap.size W3 w5 := hb4.trans hb5
  have hB5 := hB.below hbW hB.lt
  have hC5 := hC.below hbW hC.lt
  have u0 : w5.cell? ⟨w.heap.size + 1, 0, none⟩ = some (.int .u64 u.num) := hB5.cell rfl
  have u1 : w5.cell? ⟨w.heap.size + 1, 1, none⟩ = some (.int .u64 u.ce) := hB5.cell rfl
  have u2 : w5.cell? ⟨w.heap.size + 1, 2, none⟩ = some (.int .i64 u.cr) := hB5.cell rfl
  have u3 : w5.cell? ⟨w.heap.size + 1, 3, none⟩ = some (.int .u64 u.mem) := hB5.cell rfl
  go_wp2_with (refine wpList_blk_store rfl (.tmp 4) (.tmp 13) rfl rfl rfl hC5 Tryd.recI rfl (by simp [Value.oneCell']) ?_; intro w6 hC6 hK6 hsz6)
  refine bodyPost_ret (results_cell_row rfl _ _ (w.heap.size + 2) 38 _ (0, 0) _ rfl hC6 Tryd.underlying38 rfl Tryd.recI) rfl ⟨a5, c5, rfl, ?_, ?_, fun g off e => Nat.le_trans hb.size (hge g off e)⟩
  · exact hK6.rd hr5 (fun g off e => by have := hge g off e; omega)
  · have hall : Below w.heap.size w w5 := hb.trans (hbW.mono hb.size)
    exact Kp.below hall hK6 (by omega) hall.size
theorem form_any (x u : Vw) (pa : Option Addr) (pn pc : Nat) (pd : List Vw) (hn : pn ≤ 1000000) (w : World) (hr : RdV w pa pn pc pd) :
    Calls Tryd.prog 30 #[.agg #[.int .u64 x.num, .int .u64 x.ce, .int .i64 x.cr, .int .u64 x.mem, .slice pa pn pc], .agg #[.int .u64 u.num, .int .u64 u.ce, .int .i64 u.cr, .int .u64 u.mem]] w fun e w' => ∃ a c, e = .returned (.agg #[.int .u64 u.num, .int .u64 u.ce, .int .i64 u.cr, .int .u64 u.mem, .slice a (formL u pd).length c]) ∧ RdV w' a (formL u pd).length c (formL u pd) ∧ Below w.heap.size w w' :=
  (form_new x u pa pn pc pd hn w hr).mono fun _ _ ⟨a, c, h1, h2, h3, _⟩ => ⟨a, c, h1, h2, h3⟩
set_option maxHeartbeats 800000 in
set_option maxRecDepth 100000 in
theorem first_any (n : Int) (w : World) :
    Calls Tryd.prog 22 #[.int .i64 n] w fun e w' => e = .returned (.agg #[.int .u64 0, .int .u64 0, .int .i64 0, .int .u64 (allN n), .slice none 0 0]) ∧ Below w.heap.size w w' := by
  have HA := Lib.hid (fun W => allS_any n W)
  generalize allN n = x at *
  go_enter Tryd.func22, Tryd.ntmps22
  go_wp2_with fail
  refine (HA.out _).mono ?_
  rintro e w' ⟨rfl, rfl⟩
  go_wp2
  refine bodyPost_ret (v := .agg #[.int .u64 0, .int .u64 0, .int .i64 0, .int .u64 x, .slice none 0 0]) (by simp [results, Tryd.results22, go_sem]) rfl ⟨rfl, ?_⟩
  exact (Below.refl _ _).alloc (Nat.le_refl _) _
end Go.Proofs.YteeeikkapnchlaaDoor
