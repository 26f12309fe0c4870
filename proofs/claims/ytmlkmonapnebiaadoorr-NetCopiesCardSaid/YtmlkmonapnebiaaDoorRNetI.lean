/- the net: the walk of awake -/
import Derived.Test.YtmlkmonapnebiaaDoorRNetH
namespace Go.Proofs.YtmlkmonapnebiaaDoorR
open Go.RowKit Go.Sort

theorem aw_x : withN 0 [0] < 18446744073709551616 := by decide +kernel
theorem aw_h1 : 0 < aw1.l.length := by rw [aw_l1]; decide
theorem aw_g1 : aw1.l[0]'aw_h1 = awd := by
  have h := aw_l1
  simp only [h]; rfl
theorem aw_h2 : 0 < aw2.l.length := by rw [aw_l2]; decide
theorem aw_g2 : aw2.l[0]'aw_h2 = awf := by
  have h := aw_l2
  simp only [h]; rfl
theorem links3 : aw3.inn 0 = true ∧ aw3.inn 1 = true ∧ aw3.linked 0 1 = false ∧ aw3.linked 1 2 = true := by decide +kernel
theorem aw_c5 : aw3.send awe = (aw3, 5) := by
  unfold NS.send
  rw [if_pos ⟨links3.1, links3.2.1⟩]
  show (if aw3.linked 0 1 = true then _ else _ : NS × Nat) = _
  rw [if_neg (by rw [links3.2.2.1]; decide)]
theorem aw_t : aw3.take 0 = (aw3.less 0, (awf, true)) := by
  have h0 : aw3.there 0 = true := by unfold NS.there; rw [aw_l3]; decide
  have h1 : aw3.l.getD 0 .zero = awf := by rw [aw_l3]; rfl
  unfold NS.take
  rw [if_pos h0]
  show (aw3.less 0, if aw3.linked (aw3.l.getD 0 .zero).src (aw3.l.getD 0 .zero).dst = true then (aw3.l.getD 0 .zero, true) else (.zero, false)) = _
  rw [h1]
  show (aw3.less 0, if aw3.linked 1 2 = true then _ else _) = _
  rw [if_pos links3.2.2.2]
theorem aw_l4 : (aw3.less 0).l.length = 0 := by show (aw3.l.eraseIdx 0).length = 0; rw [aw_l3]; rfl
theorem links4 : (aw3.less 0).linked 0 1 = false ∧ (aw3.less 0).linked 1 2 = true := ⟨links3.2.2.1, links3.2.2.2⟩
set_option maxHeartbeats 3200000 in
set_option maxRecDepth 100000 in
theorem awake_any (w : World) (hT : Tab w) : Calls Tryd.prog 7 #[] w fun e w' => e = .returned (.bool true) ∧ Below w.heap.size w w' := by
  have HN := Lib.hid (NEn.new (w0 := w) (W := w) 3 hT (Below.refl _ _))
  have hO := Lib.hid (fun (W : World) => of_any 1 1 (some ⟨W.heap.size, 0, none⟩) [0] (W.alloc (.cells #[.int .i64 0] 3)) (by decide) (Rd.one rfl))
  have hx := aw_x
  have hx3 : Hid (aw2.cut (withN 0 [0]) = aw3) := rfl
  generalize withN 0 [0] = x at *
  go_enter Tryd.func7, Tryd.ntmps7
  go_wp2_with fail
  refine HN.out.mono ?_
  rintro e w1 ⟨b, rfl, E, _, _⟩
  clear HN
  replace E : NEn w b aw0 _ w1 := E
  go_wp2_with fail
  refine (E.send awd).mono ?_
  rw [aw_c1]
  rintro e w2 ⟨rfl, O2, E2, _, _⟩
  replace E2 : NEn w b aw1 O2 w2 := E2
  clear E
  go_wp2_with fail
  refine (E2.turn 0 1 1 aw_h1 (by rw [aw_g1]; rfl) (by rw [aw_g1]; decide) (by rw [aw_g1]; decide) (by decide)).mono ?_
  rw [aw_g1]
  rintro e w3 ⟨rfl, O3, E3, _, _⟩
  replace E3 : NEn w b aw2 O3 w3 := E3
  clear E2
  go_wp2_with fail
  refine (E3.torn 0 1 1 aw_h2 (by rw [aw_g2]; rfl)).mono ?_
  rintro e w4 ⟨rfl, E4⟩
  clear E3
  go_wp2_with fail
  replace E4 := E4.below ((Below.refl w4.heap.size w4).alloc (Nat.le_refl _) (.cells #[.int .i64 0] 3))
  refine (hO.out _).mono ?_
  rintro e w' ⟨rfl, rfl⟩
  generalize World.alloc _ _ = w5 at *
  go_wp2_with fail
  refine (E4.cut x hx hT).mono ?_
  rw [hx3.out]
  rintro e w6 ⟨rfl, O6, E6, _, _⟩
  clear E4 hO
  go_wp2_with fail
  refine (E6.send awe).mono ?_
  rw [aw_c5]
  rintro e w7 ⟨rfl, O7, E7, _, _⟩
  replace E7 : NEn w b aw3 O7 w7 := E7
  clear E6
  go_wp2_with fail
  refine (E7.take 0).mono ?_
  rw [aw_t]
  rintro e w8 ⟨rfl, O8, E8, _, _⟩
  replace E8 : NEn w b (aw3.less 0) O8 w8 := E8
  clear E7
  unfold dgV awf
  have hZ := BlkAt.new w8 35 #[.int .i64 0, .int .i64 0, .string ⟨#[]⟩, .bool false]
  have HL0 := Lib.hid aw_l4
  have HK1 := Lib.hid links4.1
  have HK2 := Lib.hid links4.2
  generalize aw3.less 0 = s4 at *
  go_wp2_with (first
    | (refine wpList_blk_alloc rfl rfl Tryd.dgZ w8.heap.size rfl ?_)
    | (refine wpList_blk_store (cs := #[.int .i64 1, .int .i64 2, .string ⟨#[97, 99]⟩, .bool true]) rfl (.tmp 6) (.tmp 28) rfl rfl rfl hZ Tryd.dgI rfl (by simp [Value.oneCell']) ?_; intro w9 hB9 hK9 hsz9; clear hsz9; have E9 := E8.below (alloc_store hK9); obtain ⟨x0, x1, x2, x3⟩ : w9.cell? ⟨w8.heap.size, 0, none⟩ = some (.int .i64 1) ∧ w9.cell? ⟨w8.heap.size, 1, none⟩ = some (.int .i64 2) ∧ w9.cell? ⟨w8.heap.size, 2, none⟩ = some (.string ⟨#[97, 99]⟩) ∧ w9.cell? ⟨w8.heap.size, 3, none⟩ = some (.bool true) := ⟨hB9.cell rfl, hB9.cell rfl, hB9.cell rfl, hB9.cell rfl⟩))
  refine (E9.len HL0).mono ?_
  rintro e w' ⟨rfl, rfl⟩
  go_wp2_with fail
  refine (E9.linked HK2).mono ?_
  rintro e w' ⟨rfl, rfl⟩
  go_wp2_with fail
  refine (E9.linked HK1).mono ?_
  rintro e w' ⟨rfl, rfl⟩
  go_wp2
  go_ret
  exact ⟨rfl, E9.bel⟩
end Go.Proofs.YtmlkmonapnebiaaDoorR
