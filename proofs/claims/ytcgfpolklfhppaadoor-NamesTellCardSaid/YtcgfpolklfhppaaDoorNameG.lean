/- the walk of awake -/
import Derived.Test.YtcgfpolklfhppaaDoorNameF
namespace Go.Proofs.YtcgfpolklfhppaaDoor
open Go.RowKit Go.Sort

def aw0 : It := ⟨[.int .i64 0, .string ⟨#[]⟩, .int .u32 5, .int .u64 3, .bool true, .bool true, .int .u64 0, .int .u64 0, .int .i64 0, .int .u64 0, .slice none 0 0, .int .u64 0, .int .u64 0, .int .i64 0, .int .u64 0, .int .u64 0, .int .i64 0, .int .i64 0], 5, 3, true, true⟩
def aw1 : It := ⟨[.int .i64 0, .string ⟨#[]⟩, .int .u32 2, .int .u64 0, .bool false, .bool false, .int .u64 0, .int .u64 0, .int .i64 0, .int .u64 0, .slice none 0 0, .int .u64 0, .int .u64 0, .int .i64 0, .int .u64 0, .int .u64 0, .int .i64 0, .int .i64 0], 2, 0, false, false⟩
theorem one18 {v0 v1 v2 v3 v4 v5 v6 v7 v8 v9 v10 v11 v12 v13 v14 v15 v16 v17 : Value} (h : [v0, v1, v2, v3, v4, v5, v6, v7, v8, v9, v10, v11, v12, v13, v14, v15, v16, v17].all (·.oneCell') = true) : ∀ v ∈ [v0, v1, v2, v3, v4, v5, v6, v7, v8, v9, v10, v11, v12, v13, v14, v15, v16, v17], v.oneCell' = true := fun v hv => List.all_eq_true.1 h v hv
theorem aw_wf : ∀ x ∈ [aw0, aw1], x.Wf := by
  intro x hx
  rcases List.mem_cons.1 hx with rfl | hx
  · exact ⟨rfl, rfl, rfl, rfl, rfl, by decide, by decide, one18 rfl⟩
  · rw [List.mem_singleton.1 hx]
    exact ⟨rfl, rfl, rfl, rfl, rfl, by decide, by decide, one18 rfl⟩
theorem aw_names : namesN 3 3 [aw0, aw1] true = [⟨0, 5⟩, ⟨1, 3⟩] := by rfl
theorem aw_stay : stayN 3 3 [aw0, aw1] = 1 ∧ stayN 4 3 [aw0, aw1] = 0 ∧ butN 3 1 = 2 ∧ cardN 3 = 2 := by decide +kernel
theorem aw_of : ofM [⟨0, 5⟩, ⟨1, 3⟩] 1 = (⟨1, 3⟩, true) ∧ ofM [⟨0, 5⟩, ⟨1, 3⟩] 2 = (⟨0, 0⟩, false) := ⟨rfl, rfl⟩
theorem aw_rd (w : World) : RdI (w.alloc (.cells #[.int .i64 0, .string ⟨#[]⟩, .int .u32 5, .int .u64 3, .bool true, .bool true, .int .u64 0, .int .u64 0, .int .i64 0, .int .u64 0, .slice none 0 0, .int .u64 0, .int .u64 0, .int .i64 0, .int .u64 0, .int .u64 0, .int .i64 0, .int .i64 0, .int .i64 0, .string ⟨#[]⟩, .int .u32 2, .int .u64 0, .bool false, .bool false, .int .u64 0, .int .u64 0, .int .i64 0, .int .u64 0, .slice none 0 0, .int .u64 0, .int .u64 0, .int .i64 0, .int .u64 0, .int .u64 0, .int .i64 0, .int .i64 0] 48)) (some ⟨w.heap.size, 0, none⟩) 2 2 [aw0, aw1] := by
  refine ⟨⟨rfl, Nat.le_refl _, by decide, fun h => by cases h⟩, .inr ⟨_, 0, rfl, by simp, fun j u hu => ?_⟩⟩
  rw [World.cell?_alloc_at _ _ _ _ rfl]
  simpa [aw0, aw1] using hu
theorem aw_stay1 (a : Option Addr) (c : Nat) (w : World) (hr : RdI w a 2 c [aw0, aw1]) (hT : Tab w) : Calls Tryd.prog 11 #[.int .u64 3, .int .u64 3, .slice a 2 c] w fun e w' => e = .returned (.int .u64 1) ∧ Below w.heap.size w w' := by
  have := stay_any 3 3 (by decide) a 2 c [aw0, aw1] aw_wf w hr hT
  rw [aw_stay.1] at this
  exact this
theorem aw_stay2 (a : Option Addr) (c : Nat) (w : World) (hr : RdI w a 2 c [aw0, aw1]) (hT : Tab w) : Calls Tryd.prog 11 #[.int .u64 4, .int .u64 3, .slice a 2 c] w fun e w' => e = .returned (.int .u64 0) ∧ Below w.heap.size w w' := by
  have := stay_any 4 3 (by decide) a 2 c [aw0, aw1] aw_wf w hr hT
  rw [aw_stay.2.1] at this
  exact this
theorem aw_joins (a : Option Addr) (c : Nat) (w : World) (hr : RdI w a 2 c [aw0, aw1]) (hT : Tab w) : Calls Tryd.prog 12 #[.int .u64 3, .int .u64 3, .slice a 2 c] w fun e w' => e = .returned (.int .u64 2) ∧ Below w.heap.size w w' := by
  have := joins_any 3 3 (by decide) a 2 c [aw0, aw1] aw_wf w hr hT
  rw [aw_stay.1, aw_stay.2.2.1] at this
  exact this
theorem aw_names1 (a : Option Addr) (c : Nat) (w : World) (hr : RdI w a 2 c [aw0, aw1]) (hT : Tab w) : Calls Tryd.prog 14 #[.int .u64 3, .int .u64 3, .slice a 2 c, .bool true] w fun e w' => ∃ a c, e = .returned (.slice a 2 c) ∧ RdM w' a 2 c [⟨0, 5⟩, ⟨1, 3⟩] ∧ Below w.heap.size w w' := by
  refine (names_any 3 3 (by decide) a 2 c [aw0, aw1] aw_wf true w hr hT).mono ?_
  rintro e w' ⟨v, rfl, hown, hb⟩
  rw [aw_names, aw_stay.2.2.2] at hown
  obtain ⟨va, vc, rfl, hv⟩ := Rd.own hown
  exact ⟨va, vc, rfl, hv, hb⟩
set_option maxHeartbeats 1600000 in
set_option maxRecDepth 100000 in
theorem awake_any (w : World) (hT : Tab w) : Calls Tryd.prog 6 #[] w fun e w' => e = .returned (.bool true) ∧ Below w.heap.size w w' := by
  have hb0 : Below w.heap.size w (w.alloc (.cells #[.int .i64 0, .string ⟨#[]⟩, .int .u32 5, .int .u64 3, .bool true, .bool true, .int .u64 0, .int .u64 0, .int .i64 0, .int .u64 0, .slice none 0 0, .int .u64 0, .int .u64 0, .int .i64 0, .int .u64 0, .int .u64 0, .int .i64 0, .int .i64 0, .int .i64 0, .string ⟨#[]⟩, .int .u32 2, .int .u64 0, .bool false, .bool false, .int .u64 0, .int .u64 0, .int .i64 0, .int .u64 0, .slice none 0 0, .int .u64 0, .int .u64 0, .int .i64 0, .int .u64 0, .int .u64 0, .int .i64 0, .int .i64 0] 48)) := (Below.refl _ _).alloc (Nat.le_refl _) _
  have hC := aw_rd w
  have hT0 := hT.below hb0 hT.1
  go_enter Tryd.func6, Tryd.ntmps6
  go_wp2_with fail
  generalize w.alloc _ = w0 at *
  refine (aw_names1 _ _ _ hC hT0).mono ?_
  rintro e w1 ⟨a, c, rfl, hM, hb⟩
  have hC1 : RdI w1 _ _ _ _ := Rd.below hC hb (Nat.le_refl _)
  have hT1 := hT0.below hb hT0.1
  replace hb0 := belS hb0 hb
  clear hC hT0 hb
  go_wp2_with fail
  refine (nof_any 1 a 2 c _ _ hM).mono ?_
  rw [aw_of.1]
  rintro e w2 ⟨rfl, hb⟩
  unfold nmV
  have hb1 : Below w1.heap.size w1 (w2.alloc (.cells #[.int .i64 1, .int .u32 3] 30)) := hb.alloc hb.size _
  have hM2 : RdM (w2.alloc (.cells #[.int .i64 1, .int .u32 3] 30)) a 2 c _ := Rd.below hM hb1 (Nat.le_refl _)
  have hC2 : RdI (w2.alloc (.cells #[.int .i64 1, .int .u32 3] 30)) _ _ _ _ := Rd.below hC1 hb1 (Nat.le_refl _)
  have hX := BlkAt.new w2 30 #[.int .i64 1, .int .u32 3]
  have hT2 := hT1.below hb1 hT1.1
  replace hb0 := belS hb0 hb1
  clear hM hC1 hT1 hb1
  go_wp2_with fail
  generalize w2.alloc _ = w3 at *
  generalize w2.heap.size = xb at *
  refine (nof_any 2 a 2 c _ _ hM2).mono ?_
  rw [aw_of.2]
  rintro e w4 ⟨rfl, hb4⟩
  unfold nmV
  have hb5 : Below w3.heap.size w3 (w4.alloc (.cells #[.int .i64 0, .int .u32 0] 30)) := hb4.alloc hb4.size _
  have hM3 : RdM (w4.alloc (.cells #[.int .i64 0, .int .u32 0] 30)) a 2 c _ := Rd.below hM2 hb5 (Nat.le_refl _)
  have hC3 : RdI (w4.alloc (.cells #[.int .i64 0, .int .u32 0] 30)) _ _ _ _ := Rd.below hC2 hb5 (Nat.le_refl _)
  have hX3 := hX.below hb5 hX.lt
  have hT3 := hT2.below hb5 hT2.1
  replace hb0 := belS hb0 hb5
  clear hM2 hC2 hX hT2 hb5 hb4
  go_wp2_with fail
  generalize w4.alloc _ = w5 at *
  refine (aw_stay1 _ _ _ hC3 hT3).mono ?_
  rintro e w6 ⟨rfl, hb⟩
  have hM4 : RdM w6 _ _ _ _ := Rd.below hM3 hb (Nat.le_refl _)
  have hC4 : RdI w6 _ _ _ _ := Rd.below hC3 hb (Nat.le_refl _)
  have hX4 := hX3.below hb hX3.lt
  have hT4 := hT3.below hb hT3.1
  replace hb0 := belS hb0 hb
  clear hM3 hC3 hX3 hT3 hb
  go_wp2_with fail
  refine (aw_joins _ _ _ hC4 hT4).mono ?_
  rintro e w7 ⟨rfl, hb⟩
  have hM5 : RdM w7 _ _ _ _ := Rd.below hM4 hb (Nat.le_refl _)
  have hC5 : RdI w7 _ _ _ _ := Rd.below hC4 hb (Nat.le_refl _)
  have hX5 := hX4.below hb hX4.lt
  have hT5 := hT4.below hb hT4.1
  replace hb0 := belS hb0 hb
  clear hM4 hC4 hX4 hT4 hb
  obtain ⟨bs, off, rfl, _⟩ := Rd.addr hM5 (by decide)
  have m0 : w7.cell? ⟨bs, off, none⟩ = some (.int .i64 0) := (hM5.at 0 (by decide)).1
  have m1 : w7.cell? ⟨bs, off + 1, none⟩ = some (.int .u32 5) := (hM5.at 0 (by decide)).2
  have x0 : w7.cell? ⟨xb, 0, none⟩ = some (.int .i64 1) := hX5.cell rfl
  have x1 : w7.cell? ⟨xb, 1, none⟩ = some (.int .u32 3) := hX5.cell rfl
  go_wp2_with fail
  refine (aw_stay2 _ _ _ hC5 hT5).mono ?_
  rintro e w8 ⟨rfl, hb⟩
  go_wp2
  go_ret
  exact ⟨ret_bool (by simp), belS hb0 hb⟩
end Go.Proofs.YtcgfpolklfhppaaDoor
