/- Add, Form once more: where the new list lies; five records in an array -/
import Derived.Test.YtnpinkcadkkeoaaVoteX
import Derived.Deep.RegionLaw
namespace Go.Proofs.Ytnpinkcadkkeoaa
open Go.RowKit Go.Sort

set_option maxHeartbeats 3200000 in
set_option maxRecDepth 100000 in
theorem add_yes2 (x u : Vw) (pa : Option Addr) (pn pc : Nat) (pd : List Vw) (hn : pn < 32) (w : World) (hr : RdV w pa pn pc pd) :
    Calls Try.prog 21 #[.agg #[.int .u64 x.num, .int .u64 x.ce, .int .i64 x.cr, .int .u64 x.mem, .slice pa pn pc], .agg #[.int .u64 u.num, .int .u64 u.ce, .int .i64 u.cr, .int .u64 u.mem]] w fun e w' => ∃ a c, e = .returned (.tuple #[.agg #[.int .u64 x.num, .int .u64 x.ce, .int .i64 x.cr, .int .u64 x.mem, .slice a (pn + 1) c], .bool true]) ∧ RdV w' a (pn + 1) c (pd ++ [u]) ∧ Below w.heap.size w w' ∧ ∀ g off, a = some ⟨g, off, none⟩ → w.heap.size ≤ g := by
  obtain ⟨W3, hW3⟩ : ∃ W, W = ((w.alloc (.cells #[.int .u64 x.num, .int .u64 x.ce, .int .i64 x.cr, .int .u64 x.mem, .slice pa pn pc] 34)).alloc (.cells #[.int .u64 u.num, .int .u64 u.ce, .int .i64 u.cr, .int .u64 u.mem] 31)).alloc (.cells #[.int .u64 0, .int .u64 0, .int .i64 0, .int .u64 0, .slice none 0 0] 34) := ⟨_, rfl⟩
  have hb : Below w.heap.size w W3 := by rw [hW3]; exact (((Below.refl _ _).alloc (Nat.le_refl _) _).alloc (by simp) _).alloc (by simp; omega) _
  have hA : BlkAt W3 w.heap.size 34 #[.int .u64 x.num, .int .u64 x.ce, .int .i64 x.cr, .int .u64 x.mem, .slice pa pn pc] := by rw [hW3]; exact BlkAt.alloc (BlkAt.alloc (BlkAt.new w _ _) _) _
  have hB : BlkAt W3 (w.heap.size + 1) 31 #[.int .u64 u.num, .int .u64 u.ce, .int .i64 u.cr, .int .u64 u.mem] := by rw [hW3]; exact BlkAt.alloc (by simpa using BlkAt.new (w.alloc (.cells #[.int .u64 x.num, .int .u64 x.ce, .int .i64 x.cr, .int .u64 x.mem, .slice pa pn pc] 34)) 31 #[.int .u64 u.num, .int .u64 u.ce, .int .i64 u.cr, .int .u64 u.mem]) _
  have hC : BlkAt W3 (w.heap.size + 2) 34 #[.int .u64 0, .int .u64 0, .int .i64 0, .int .u64 0, .slice none 0 0] := by rw [hW3]; simpa using BlkAt.new ((w.alloc (.cells #[.int .u64 x.num, .int .u64 x.ce, .int .i64 x.cr, .int .u64 x.mem, .slice pa pn pc] 34)).alloc (.cells #[.int .u64 u.num, .int .u64 u.ce, .int .i64 u.cr, .int .u64 u.mem] 31)) 34 #[.int .u64 0, .int .u64 0, .int .i64 0, .int .u64 0, .slice none 0 0]
  have hs : W3.heap.size = w.heap.size + 3 := by rw [hW3]; simp
  have hs1 : w.heap.size + 3 ≤ W3.heap.size := Nat.le_of_eq hs.symm
  have hr3 := hr.below hb (Nat.le_refl _)
  have HCl := Lib.hid (fun W (h : Below W3.heap.size W3 W) => clone_any pa pn pc pd (by omega) W (hr3.below h (Nat.le_refl _)))
  have HW := Lib.hid hW3.symm
  have c4 : W3.cell? ⟨w.heap.size, 4, none⟩ = some (.slice pa pn pc) := hA.cell rfl
  have u0 : W3.cell? ⟨w.heap.size + 1, 0, none⟩ = some (.int .u64 u.num) := hB.cell rfl
  have u1 : W3.cell? ⟨w.heap.size + 1, 1, none⟩ = some (.int .u64 u.ce) := hB.cell rfl
  have u2 : W3.cell? ⟨w.heap.size + 1, 2, none⟩ = some (.int .i64 u.cr) := hB.cell rfl
  have u3 : W3.cell? ⟨w.heap.size + 1, 3, none⟩ = some (.int .u64 u.mem) := hB.cell rfl
  have hnI : (pn : Int) < 32 := by omega
  have hB1 := hB.lt
  have c4a : ∀ o, (W3.alloc o).cell? ⟨w.heap.size, 4, none⟩ = some (.slice pa pn pc) := fun o => (hA.alloc o).cell rfl
  have hS : Below W3.heap.size W3 W3 := Below.refl _ _
  clear hs hW3
  go_enter Try.func21, Try.ntmps21
  go_wp2_with fail
  rw [HW.out]
  go_region_law (first
      | (go_simp; go_at_call 33; refine (HCl.out _ (by first | exact hS.drew | exact hS.drew.alloc (Nat.le_refl _) _)).mono ?_; rintro e w4 ⟨sv, rfl, hown, hb4⟩;
         have hb3 : Below W3.heap.size W3 w4 := (by first | exact belS hS.drew hb4 | exact belS (hS.drew.alloc (Nat.le_refl _) _) hb4);
         obtain ⟨z0, z1, z2, z3⟩ := vcells (hB.below hb3 hB1))
      | (refine step_append_rd Try.viewE rfl (.tmp 13) (.tmp 15) rfl (base := W3.heap.size) (v := sv) (n := pn) (xs := pd.flatMap vwF) (by simp [Act.eval, Act.put]) (own_below hown ((Below.refl _ _).alloc (Nat.le_refl _) _)) (b := w4.heap.size) (off := 0) (m := 1) (c := 1) (news := vwF u) (by simp [Act.eval, Act.put]) (Rd.vw1 rfl) (by decide) (vwF_one u) (by unfold maxLen; omega) (by omega) (by simpa using Nat.le_succ_of_le hb3.size) ?_; intro v' w' hown' hg'; obtain ⟨a', c', rfl, hr'⟩ := Rd.own hown';
         have hbF : Below W3.heap.size W3 w' := belG (hb3.alloc hb3.size _) hg' (by simpa using Nat.le_succ_of_le hb3.size) (fun g hg => (hown.lt g hg).1);
         have c4' : w'.cell? ⟨w.heap.size, 4, none⟩ = some (.slice pa pn pc) := (hA.below hbF hA.lt).cell rfl;
         have f4' : w'.frozen? ⟨w.heap.size, 4, none⟩ = false := (hA.below hbF hA.lt).fz 4)
      | (refine step_append_rd Try.viewE rfl (.tmp 13) (.tmp 15) rfl (base := W3.heap.size) (v := sv) (n := pn) (xs := pd.flatMap vwF) (by simp [Act.eval, Act.put]) (own_mono hown (by show W3.heap.size ≤ (W3.alloc _).heap.size; simp)) (b := W3.heap.size) (off := 0) (m := 1) (c := 1) (news := vwF u) (by simp [Act.eval, Act.put]) ((Rd.vw1 (w := W3.drew) rfl).below hb4 (Nat.le_refl _)) (by decide) (vwF_one u) (by unfold maxLen; omega) (by omega) hb3.size ?_; intro v' w' hown' hg'; obtain ⟨a', c', rfl, hr'⟩ := Rd.own hown';
         have hbF : Below W3.heap.size W3 w' := belG hb3 hg' hb3.size (fun g hg => Nat.le_trans (by show W3.heap.size ≤ (W3.alloc _).heap.size; simp) (hown.lt g hg).1);
         have c4' : w'.cell? ⟨w.heap.size, 4, none⟩ = some (.slice pa pn pc) := (hA.below hbF hA.lt).cell rfl;
         have f4' : w'.frozen? ⟨w.heap.size, 4, none⟩ = false := (hA.below hbF hA.lt).fz 4))
  all_goals
    have hA5 := hA.below hbF hA.lt
    have hB5 := hB.below hbF hB.lt
    have hC5 := (hC.below hbF hC.lt).other (a := ⟨w.heap.size, 4, none⟩) (by simp) (.slice a' (pn + 1) c')
    have hA6 := hA5.set 4 (.slice a' (pn + 1) c')
    simp only [List.setIfInBounds_toArray, List.set_cons_zero, List.set_cons_succ] at hA6
    have hge : ∀ g off, a' = some ⟨g, off, none⟩ → W3.heap.size ≤ g := by
      intro g off e
      rcases hown'.2 with ⟨hv, _⟩ | ⟨g', cap, cur, hv, hb', _⟩
      · simp at hv
      · simp at hv; rw [e] at hv; simp at hv; omega
    have hK5 := (Kp.refl w.heap.size w').setCell ⟨w.heap.size, 4, none⟩ rfl (.slice a' (pn + 1) c')
    generalize w'.setCell ⟨w.heap.size, 4, none⟩ (.slice a' (pn + 1) c') = w5 at *
    go_wp2_with (first
      | (refine wpList_blk_load rfl (.tmp 2) rfl Try.underlying34 rfl rfl hA6 Try.recI ?_)
      | (refine wpList_blk_store rfl (.tmp 4) (.tmp 18) rfl rfl rfl hC5 Try.recI rfl (by simp [Value.oneCell']) ?_; intro w6 hC6 hK6 hsz6))
    refine bodyPost_ret (results_row1 rfl _ _ (w.heap.size + 2) 34 _ (0, 0) _ rfl hC6 Try.underlying34 rfl Try.recI) rfl ⟨a', c', rfl, ?_, ?_, fun g off e => Nat.le_trans hb.size (hge g off e)⟩
    · have h6 := hK6.rd (hK5.rd hr' (fun g off e => by have := hge g off e; omega)) (fun g off e => by have := hge g off e; omega)
      show Rd _ 4 a' (pn + 1) c' ((pd ++ [u]).flatMap vwF)
      rw [List.flatMap_append]
      simpa using h6
    · have hall : Below w.heap.size w w' := hb.trans (hbF.mono hb.size)
      exact Kp.below (Kp.below hall hK5 (Nat.le_refl _) hall.size) hK6 (by omega) (Nat.le_trans hall.size hK5.size)
set_option maxHeartbeats 1600000 in
set_option maxRecDepth 100000 in
theorem form_any2 (x u : Vw) (pa : Option Addr) (pn pc : Nat) (pd : List Vw) (hn : pn ≤ 1000000) (w : World) (hr : RdV w pa pn pc pd) :
    Calls Try.prog 22 #[.agg #[.int .u64 x.num, .int .u64 x.ce, .int .i64 x.cr, .int .u64 x.mem, .slice pa pn pc], .agg #[.int .u64 u.num, .int .u64 u.ce, .int .i64 u.cr, .int .u64 u.mem]] w fun e w' => ∃ a c, e = .returned (.agg #[.int .u64 u.num, .int .u64 u.ce, .int .i64 u.cr, .int .u64 u.mem, .slice a (formL u pd).length c]) ∧ RdV w' a (formL u pd).length c (formL u pd) ∧ Below w.heap.size w w' ∧ ∀ g off, a = some ⟨g, off, none⟩ → w.heap.size ≤ g := by
  obtain ⟨W3, hW3⟩ : ∃ W, W = ((w.alloc (.cells #[.int .u64 x.num, .int .u64 x.ce, .int .i64 x.cr, .int .u64 x.mem, .slice pa pn pc] 34)).alloc (.cells #[.int .u64 u.num, .int .u64 u.ce, .int .i64 u.cr, .int .u64 u.mem] 31)).alloc (.cells #[.int .u64 0, .int .u64 0, .int .i64 0, .int .u64 0, .slice none 0 0] 34) := ⟨_, rfl⟩
  have hb : Below w.heap.size w W3 := by rw [hW3]; exact (((Below.refl _ _).alloc (Nat.le_refl _) _).alloc (by simp) _).alloc (by simp; omega) _
  have hA : BlkAt W3 w.heap.size 34 #[.int .u64 x.num, .int .u64 x.ce, .int .i64 x.cr, .int .u64 x.mem, .slice pa pn pc] := by rw [hW3]; exact BlkAt.alloc (BlkAt.alloc (BlkAt.new w _ _) _) _
  have hB : BlkAt W3 (w.heap.size + 1) 31 #[.int .u64 u.num, .int .u64 u.ce, .int .i64 u.cr, .int .u64 u.mem] := by rw [hW3]; exact BlkAt.alloc (by simpa using BlkAt.new (w.alloc (.cells #[.int .u64 x.num, .int .u64 x.ce, .int .i64 x.cr, .int .u64 x.mem, .slice pa pn pc] 34)) 31 #[.int .u64 u.num, .int .u64 u.ce, .int .i64 u.cr, .int .u64 u.mem]) _
  have hC : BlkAt W3 (w.heap.size + 2) 34 #[.int .u64 0, .int .u64 0, .int .i64 0, .int .u64 0, .slice none 0 0] := by rw [hW3]; simpa using BlkAt.new ((w.alloc (.cells #[.int .u64 x.num, .int .u64 x.ce, .int .i64 x.cr, .int .u64 x.mem, .slice pa pn pc] 34)).alloc (.cells #[.int .u64 u.num, .int .u64 u.ce, .int .i64 u.cr, .int .u64 u.mem] 31)) 34 #[.int .u64 0, .int .u64 0, .int .i64 0, .int .u64 0, .slice none 0 0]
  have hs : W3.heap.size = w.heap.size + 3 := by rw [hW3]; simp
  have hs1 : w.heap.size + 3 ≤ W3.heap.size := Nat.le_of_eq hs.symm
  have hr3 := hr.below hb (Nat.le_refl _)
  have HCl := Lib.hid (clone_any pa pn pc pd hn W3 hr3)
  have HF := Lib.hid (show formL u pd = pd.filter fun v => !decide (v.num ≤ u.num) from rfl)
  have HW := Lib.hid hW3.symm
  clear hs hW3
  go_enter Try.func22, Try.ntmps22
  go_wp2_with fail
  rw [HW.out]
  refine HCl.out.mono ?_
  rintro e w4 ⟨sv, rfl, hown, hb4⟩
  have hB4 := hB.below hb4 hB.lt
  have HD := Lib.hid (deleteF_any u (w.heap.size + 1) W3.heap.size pn sv pd w4 hn hown (by omega) hb4.size hB4)
  rw [← HF.out] at HD
  go_wp2_with fail
  refine HD.out.mono ?_
  rintro e w5 ⟨v, rfl, hown5, hb5⟩
  obtain ⟨a5, c5, rfl, hr5⟩ := Rd.own hown5
  have hge : ∀ g off, a5 = some ⟨g, off, none⟩ → W3.heap.size ≤ g := by
    intro g off e
    rcases hown5.2 with ⟨hv, _⟩ | ⟨g', cap, cur, hv, hb', _⟩
    · simp at hv; rw [e] at hv; simp at hv
    · simp at hv; rw [e] at hv; simp at hv; omega
  have hbW : Below W3.heap.size W3 w5 := hb4.trans hb5
  have hB5 := hB.below hbW hB.lt
  have hC5 := hC.below hbW hC.lt
  have u0 : w5.cell? ⟨w.heap.size + 1, 0, none⟩ = some (.int .u64 u.num) := hB5.cell rfl
  have u1 : w5.cell? ⟨w.heap.size + 1, 1, none⟩ = some (.int .u64 u.ce) := hB5.cell rfl
  have u2 : w5.cell? ⟨w.heap.size + 1, 2, none⟩ = some (.int .i64 u.cr) := hB5.cell rfl
  have u3 : w5.cell? ⟨w.heap.size + 1, 3, none⟩ = some (.int .u64 u.mem) := hB5.cell rfl
  go_wp2_with (refine wpList_blk_store rfl (.tmp 4) (.tmp 13) rfl rfl rfl hC5 Try.recI rfl (by simp [Value.oneCell']) ?_; intro w6 hC6 hK6 hsz6)
  refine bodyPost_ret (results_cell_row rfl _ _ (w.heap.size + 2) 34 _ (0, 0) _ rfl hC6 Try.underlying34 rfl Try.recI) rfl ⟨a5, c5, rfl, ?_, ?_, fun g off e => Nat.le_trans hb.size (hge g off e)⟩
  · exact hK6.rd hr5 (fun g off e => by have := hge g off e; omega)
  · have hall : Below w.heap.size w w5 := hb.trans (hbW.mono hb.size)
    exact Kp.below hall hK6 (by omega) hall.size

/-- A record, and where its list lies. -/
structure RA where
  r : Rc
  a : Option Addr
  n : Nat
  c : Nat
def raC (x : RA) : List Value := [.int .u64 x.r.last.num, .int .u64 x.r.last.ce, .int .i64 x.r.last.cr, .int .u64 x.r.last.mem, .slice x.a x.n x.c]
theorem raC_len (x : RA) : (raC x).length = 5 := rfl
def RaOk (w : World) (b : Nat) (x : RA) : Prop := RdV w x.a x.n x.c x.r.pend ∧ ∀ g off, x.a = some ⟨g, off, none⟩ → g ≠ b
def setR (S : Nat → RA) (p : Nat) (x : RA) : Nat → RA := fun k => if k = p then x else S k
structure RecsAt (w : World) (b : Nat) (S : Nat → RA) : Prop where
  row : BlkAt w b 56 (rowC [] (fun p => raC (S p)) 5)
  ok : ∀ p, p < 5 → RaOk w b (S p)
section
variable {w w' : World} {b : Nat} {S : Nat → RA}
theorem RecsAt.lt (h : RecsAt w b S) : b < w.heap.size := h.row.lt
theorem RecsAt.below (h : RecsAt w b S) (k : Below w.heap.size w w') : RecsAt w' b S := ⟨h.row.below k h.lt, fun p hp => ⟨(h.ok p hp).1.below k (Nat.le_refl _), (h.ok p hp).2⟩⟩
theorem RecsAt.cj (h : RecsAt w b S) (p j : Nat) (hp : p < 5) (hj : j < 5) {v : Value} (hv : (raC (S p))[j]? = some v) : w.cell? ⟨b, p * 5 + j, none⟩ = some v := by
  have := BlkAt.cell h.row ((rowC_at (pre := []) (f := fun p => raC (S p)) (fun _ => rfl) hp hj).trans hv)
  simpa using this
theorem RecsAt.at5 (h : RecsAt w b S) (p : Nat) (hp : p < 5) : w.cell? ⟨b, p * 5, none⟩ = some (.int .u64 (S p).r.last.num) ∧ w.cell? ⟨b, p * 5 + 1, none⟩ = some (.int .u64 (S p).r.last.ce) ∧ w.cell? ⟨b, p * 5 + 2, none⟩ = some (.int .i64 (S p).r.last.cr) ∧ w.cell? ⟨b, p * 5 + 3, none⟩ = some (.int .u64 (S p).r.last.mem) ∧ w.cell? ⟨b, p * 5 + 4, none⟩ = some (.slice (S p).a (S p).n (S p).c) :=
  ⟨h.cj p 0 hp (by decide) rfl, h.cj p 1 hp (by decide) rfl, h.cj p 2 hp (by decide) rfl, h.cj p 3 hp (by decide) rfl, h.cj p 4 hp (by decide) rfl⟩
theorem RecsAt.fz5 (h : RecsAt w b S) (p : Nat) : w.frozen? ⟨b, p * 5, none⟩ = false ∧ w.frozen? ⟨b, p * 5 + 1, none⟩ = false ∧ w.frozen? ⟨b, p * 5 + 2, none⟩ = false ∧ w.frozen? ⟨b, p * 5 + 3, none⟩ = false ∧ w.frozen? ⟨b, p * 5 + 4, none⟩ = false := ⟨h.row.fz _, h.row.fz _, h.row.fz _, h.row.fz _, h.row.fz _⟩
theorem row_set (f : Nat → List Value) (hf : ∀ i, (f i).length = 5) (p j : Nat) (hp : p < 5) (hj : j < 5) (v : Value) : (rowC [] f 5).setIfInBounds (p * 5 + j) v = rowC [] (fun k => if k = p then (f p).set j v else f k) 5 := by
  have := rowC_set_at (pre := []) (f := f) hf hp hj v
  simpa using this
theorem row_five (f : Nat → List Value) (hf : ∀ i, (f i).length = 5) (p : Nat) (hp : p < 5) (v0 v1 v2 v3 v4 : Value) :
    (((((rowC [] f 5).setIfInBounds (p * 5) v0).setIfInBounds (p * 5 + 1) v1).setIfInBounds (p * 5 + 2) v2).setIfInBounds (p * 5 + 3) v3).setIfInBounds (p * 5 + 4) v4 = rowC [] (fun k => if k = p then [v0, v1, v2, v3, v4] else f k) 5 := by
  have hg : ∀ (g : Nat → List Value) (x : List Value), (∀ i, (g i).length = 5) → x.length = 5 → ∀ i, ((fun k => if k = p then x else g k) i).length = 5 := fun g x h1 h2 i => by dsimp only; split; exact h2; exact h1 i
  have h0 := row_set f hf p 0 hp (by decide) v0
  rw [Nat.add_zero] at h0
  have e : ∀ (g : Nat → List Value), (fun k => if k = p then (g p) else g k) = g := fun g => by funext k; by_cases h : k = p <;> simp [h]
  obtain ⟨a0, a1, a2, a3, a4, he⟩ : ∃ a0 a1 a2 a3 a4, f p = [a0, a1, a2, a3, a4] := by
    have := hf p
    match hfp : f p, this with
    | [a0, a1, a2, a3, a4], _ => exact ⟨a0, a1, a2, a3, a4, rfl⟩
  rw [h0, row_set _ (hg f _ hf (by rw [List.length_set, hf])) p 1 hp (by decide)]
  rw [row_set _ (hg _ _ (hg f _ hf (by rw [List.length_set, hf])) (by simp [he])) p 2 hp (by decide)]
  rw [row_set _ (hg _ _ (hg _ _ (hg f _ hf (by rw [List.length_set, hf])) (by simp [he])) (by simp [he])) p 3 hp (by decide)]
  rw [row_set _ (hg _ _ (hg _ _ (hg _ _ (hg f _ hf (by rw [List.length_set, hf])) (by simp [he])) (by simp [he])) (by simp [he])) p 4 hp (by decide)]
  refine rowC_congr fun i _ => ?_
  by_cases hi : i = p
  · subst hi; simp [he]
  · simp [hi]
/-- A record is stored. -/
theorem RecsAt.store (h : RecsAt w b S) (p : Nat) (hp : p < 5) (x : RA) (hx : RaOk w b x) :
    RecsAt (((((w.setCell ⟨b, p * 5, none⟩ (.int .u64 x.r.last.num)).setCell ⟨b, p * 5 + 1, none⟩ (.int .u64 x.r.last.ce)).setCell ⟨b, p * 5 + 2, none⟩ (.int .i64 x.r.last.cr)).setCell ⟨b, p * 5 + 3, none⟩ (.int .u64 x.r.last.mem)).setCell ⟨b, p * 5 + 4, none⟩ (.slice x.a x.n x.c)) b (setR S p x) ∧
    Kp b w (((((w.setCell ⟨b, p * 5, none⟩ (.int .u64 x.r.last.num)).setCell ⟨b, p * 5 + 1, none⟩ (.int .u64 x.r.last.ce)).setCell ⟨b, p * 5 + 2, none⟩ (.int .i64 x.r.last.cr)).setCell ⟨b, p * 5 + 3, none⟩ (.int .u64 x.r.last.mem)).setCell ⟨b, p * 5 + 4, none⟩ (.slice x.a x.n x.c)) := by
  have hK := ((((Kp.refl b w).setCell ⟨b, p * 5, none⟩ rfl (.int .u64 x.r.last.num)).setCell ⟨b, p * 5 + 1, none⟩ rfl (.int .u64 x.r.last.ce)).setCell ⟨b, p * 5 + 2, none⟩ rfl (.int .i64 x.r.last.cr)).setCell ⟨b, p * 5 + 3, none⟩ rfl (.int .u64 x.r.last.mem)
  have hK := hK.setCell ⟨b, p * 5 + 4, none⟩ rfl (.slice x.a x.n x.c)
  refine ⟨⟨?_, fun q hq => ?_⟩, hK⟩
  · have h5 := ((((BlkAt.set h.row (p * 5) (.int .u64 x.r.last.num)).set (p * 5 + 1) (.int .u64 x.r.last.ce)).set (p * 5 + 2) (.int .i64 x.r.last.cr)).set (p * 5 + 3) (.int .u64 x.r.last.mem)).set (p * 5 + 4) (.slice x.a x.n x.c)
    rw [row_five (fun p => raC (S p)) (fun _ => rfl) p hp] at h5
    have e : rowC [] (fun k => if k = p then [.int .u64 x.r.last.num, .int .u64 x.r.last.ce, .int .i64 x.r.last.cr, .int .u64 x.r.last.mem, .slice x.a x.n x.c] else raC (S k)) 5 = rowC [] (fun k => raC (setR S p x k)) 5 := rowC_congr fun i _ => by
      unfold setR
      by_cases hi : i = p
      · rw [if_pos hi, if_pos hi]; rfl
      · rw [if_neg hi, if_neg hi]
    rw [e] at h5
    exact h5
  · unfold setR
    split
    · exact ⟨hK.rd hx.1 (fun g off e => hx.2 g off e), hx.2⟩
    · exact ⟨hK.rd (h.ok q hq).1 (fun g off e => (h.ok q hq).2 g off e), (h.ok q hq).2⟩
end
theorem Try.recsZ : (Try.prog.info? 56).map (·.zero) = some (some (.agg (rowC [] (fun _ => raC ⟨⟨.zero, []⟩, none, 0, 0⟩) 5))) := by kernel_rfl
theorem Try.recE : Elt Try.prog 22 34 (.agg #[.int .u64 0, .int .u64 0, .int .i64 0, .int .u64 0, .slice none 0 0]) 5 56 := ⟨by kernel_rfl, by kernel_rfl, rfl, by decide⟩
end Go.Proofs.Ytnpinkcadkkeoaa
