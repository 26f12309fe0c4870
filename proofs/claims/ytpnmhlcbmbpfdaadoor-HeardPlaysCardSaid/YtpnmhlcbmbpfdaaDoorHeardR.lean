/- the walk of the reference's Add -/
import Derived.Test.YtpnmhlcbmbpfdaaDoorHeardO
import Derived.Deep.RegionLaw
namespace Go.Proofs.YtpnmhlcbmbpfdaaDoor
open Go.RowKit Go.Sort

theorem Tryd.sdE : Elt Tryd.prog 29 39 (.agg #[.int .i64 Sd.zero.p, .int .i64 Sd.zero.at_, .bool Sd.zero.beat, .bool Sd.zero.gone, .int .u64 Sd.zero.b.ce, .int .i64 Sd.zero.b.cr, .int .u64 Sd.zero.b.pe, .int .i64 Sd.zero.b.pr, .int .u64 Sd.zero.b.ep]) 9 64 := ⟨by kernel_rfl, by kernel_rfl, rfl, by decide⟩
theorem Tryd.rearZ : (Tryd.prog.info? 31).map (·.zero) = some (some (.agg #[.int .i64 0, .int .i64 0, .int .i64 0, .int .i64 0, .slice none 0 0])) := by kernel_rfl
theorem Tryd.rearI : (Tryd.prog.info? 31).map (·.size) = some 5 := by kernel_rfl
set_option maxHeartbeats 1600000 in
set_option maxRecDepth 100000 in
theorem radd_no (me n tm : Int) (now : Nat) (a : Option Addr) (c cp : Nat) (x : Sd) (hh : other me n x.p = false) (w : World) :
    Calls Tryd.prog 11 #[.agg #[.int .i64 me, .int .i64 n, .int .i64 tm, .int .i64 now, .slice a c cp], .agg #[.int .i64 x.p, .int .i64 x.at_, .bool x.beat, .bool x.gone, .int .u64 x.b.ce, .int .i64 x.b.cr, .int .u64 x.b.pe, .int .i64 x.b.pr, .int .u64 x.b.ep]] w fun e w' => e = .returned (.agg #[.int .i64 me, .int .i64 n, .int .i64 tm, .int .i64 now, .slice a c cp]) ∧ Below w.heap.size w w' := by
  have HO := fun W => other_any me n tm now a c cp x.p W
  rw [hh] at HO
  replace HO := Lib.hid HO
  obtain ⟨W3, hW3⟩ : ∃ W, W = ((w.alloc (.cells #[.int .i64 me, .int .i64 n, .int .i64 tm, .int .i64 now, .slice a c cp] 31)).alloc (.cells #[.int .i64 x.p, .int .i64 x.at_, .bool x.beat, .bool x.gone, .int .u64 x.b.ce, .int .i64 x.b.cr, .int .u64 x.b.pe, .int .i64 x.b.pr, .int .u64 x.b.ep] 39)).alloc (.cells #[.int .i64 0, .int .i64 0, .int .i64 0, .int .i64 0, .slice none 0 0] 31) := ⟨_, rfl⟩
  have hb : Below w.heap.size w W3 := by rw [hW3]; exact (((Below.refl _ _).alloc (Nat.le_refl _) _).alloc (by simp) _).alloc (by simp; omega) _
  have hA : BlkAt W3 w.heap.size 31 #[.int .i64 me, .int .i64 n, .int .i64 tm, .int .i64 now, .slice a c cp] := by rw [hW3]; exact BlkAt.alloc (BlkAt.alloc (BlkAt.new w _ _) _) _
  have hC : BlkAt W3 (w.heap.size + 2) 31 #[.int .i64 0, .int .i64 0, .int .i64 0, .int .i64 0, .slice none 0 0] := by rw [hW3]; simpa using BlkAt.new ((w.alloc (.cells #[.int .i64 me, .int .i64 n, .int .i64 tm, .int .i64 now, .slice a c cp] 31)).alloc (.cells #[.int .i64 x.p, .int .i64 x.at_, .bool x.beat, .bool x.gone, .int .u64 x.b.ce, .int .i64 x.b.cr, .int .u64 x.b.pe, .int .i64 x.b.pr, .int .u64 x.b.ep] 39)) 31 #[.int .i64 0, .int .i64 0, .int .i64 0, .int .i64 0, .slice none 0 0]
  have hB : BlkAt W3 (w.heap.size + 1) 39 #[.int .i64 x.p, .int .i64 x.at_, .bool x.beat, .bool x.gone, .int .u64 x.b.ce, .int .i64 x.b.cr, .int .u64 x.b.pe, .int .i64 x.b.pr, .int .u64 x.b.ep] := by rw [hW3]; exact BlkAt.alloc (by simpa using BlkAt.new (w.alloc (.cells #[.int .i64 me, .int .i64 n, .int .i64 tm, .int .i64 now, .slice a c cp] 31)) 39 #[.int .i64 x.p, .int .i64 x.at_, .bool x.beat, .bool x.gone, .int .u64 x.b.ce, .int .i64 x.b.cr, .int .u64 x.b.pe, .int .i64 x.b.pr, .int .u64 x.b.ep]) _
  have p0 : W3.cell? ⟨w.heap.size + 1, 0, none⟩ = some (.int .i64 x.p) := hB.cell rfl
  have HW := Lib.hid hW3.symm
  clear hW3
  go_enter Tryd.func11, Tryd.ntmps11
  go_wp2_with (first
    | (refine wpList_blk_alloc rfl rfl Tryd.rearZ (w.heap.size + 2) (by simp) ?_; rw [HW.out])
    | (refine wpList_blk_load rfl (.tmp 2) rfl Tryd.underlying31 rfl rfl hA Tryd.rearI ?_))
  refine (HO.out _).mono ?_
  rintro e w4 ⟨rfl, hb4⟩
  have hA4 := hA.below hb4 hA.lt
  have hC4 := hC.below hb4 hC.lt
  have hb5 := belS hb hb4
  go_wp2_with (first
    | (refine wpList_blk_load rfl (.tmp 2) rfl Tryd.underlying31 rfl rfl hA4 Tryd.rearI ?_)
    | (refine wpList_blk_store rfl (.tmp 4) (.tmp 20) rfl rfl rfl hC4 Tryd.rearI rfl (by simp [Value.oneCell']) ?_; intro w6 hC6 hK6 hsz6))
  refine bodyPost_ret (results_cell_row rfl _ _ (w.heap.size + 2) 31 _ (0, 0) _ rfl hC6 Tryd.underlying31 rfl Tryd.rearI) rfl ⟨rfl, ?_⟩
  exact Kp.below hb5 hK6 (by omega) hb5.size
/-- 'append(v, x...)' in a drawn region: v the call's own, x from anywhere but nil. -/
theorem step_append_rd {P : Program} {w : World} {ops : Array Oper} {o : Oper} {a : Act} {K : Act → World → Prop} {Q : Exit → Act → World → Prop} {E' : Prop} {t e : TypeId} {z : Value} {size bytes : Nat} (E : Elt P t e z size bytes) (hgd : o.guard = none) (s x : Operand)
    (ho : o.op = .call { callee := .builtin .append, args := #[s, x], argTypes := #[t, t] })
    {base : Nat} {v : Value} {n : Nat} {xs : List Value} (hs : a.eval s = v) (hown : w.ownsRow base e size v n xs)
    {xa : Option Addr} {m c : Nat} {news : List Value} (hx : a.eval x = .slice xa m c) (hr : Rd w size xa m c news) (h1 : ∀ u ∈ news, u.oneCell' = true)
    (h63 : n + m ≤ maxLen) (hbytes : (n + m) * bytes ≤ 140737488355328) (hbase : base ≤ w.heap.size)
    (h : ∀ v' w', w'.ownsRow base e size v' (n + m) (xs ++ news) → w.grownBy w' v.ownBlock → K (a.put o.dst v') w') : if Region.wanted o (yielded ops a.tmps) = true then Oper.wp P o a w K Q else E' := by
  obtain ⟨i, hi, hz0, hz1, hz2⟩ := info_parts E.info
  rw [if_pos (by simp [Region.wanted, hgd])]
  rcases hr with ⟨⟨hl, _, _, hnil⟩, rfl | ⟨b, off, rfl, _, hc⟩⟩
  · have hn : news = [] := List.eq_nil_of_length_eq_zero (by simpa using hl)
    subst hn
    cases xa with
    | some ad => exact wp_append_own w s x t ho base e i z size bytes E.ty hi hz0 hz1 hz2 E.cells E.pos v n xs hs hown ad 0 c [] hx hl (fun j u hu => by simp at hu) h1 h63 hbytes hbase (fun v' w' h2 h3 _ => h v' w' h2 h3)
    | none =>
    obtain ⟨_, rfl⟩ := hnil rfl
    have hrun := run_append_owned_none (P := P) (w := w) base t o.type e i size E.ty hi v n xs hown
    unfold Oper.wp
    simp [execOp, ho, resolve, invoke, builtin, hs, hx, hrun, Result.andThen]
    exact h v w (by simpa using hown) ⟨rfl, rfl, rfl, Nat.le_refl _, fun _ _ _ => rfl⟩
  · refine wp_append_own w s x t ho base e i z size bytes E.ty hi hz0 hz1 hz2 E.cells E.pos v n xs hs hown ⟨b, off, none⟩ m c news hx hl ?_ h1 h63 hbytes hbase (fun v' w' h2 h3 _ => h v' w' h2 h3)
    intro j u hu
    rw [add_zero_off]; exact hc j u hu
theorem b9 {W : World} {b t : Nat} {x : Sd} (h : BlkAt W b t #[.int .i64 x.p, .int .i64 x.at_, .bool x.beat, .bool x.gone, .int .u64 x.b.ce, .int .i64 x.b.cr, .int .u64 x.b.pe, .int .i64 x.b.pr, .int .u64 x.b.ep]) : W.cell? ⟨b, 0, none⟩ = some (.int .i64 x.p) ∧ W.cell? ⟨b, 1, none⟩ = some (.int .i64 x.at_) ∧ W.cell? ⟨b, 2, none⟩ = some (.bool x.beat) ∧ W.cell? ⟨b, 3, none⟩ = some (.bool x.gone) ∧ W.cell? ⟨b, 4, none⟩ = some (.int .u64 x.b.ce) ∧ W.cell? ⟨b, 5, none⟩ = some (.int .i64 x.b.cr) ∧ W.cell? ⟨b, 6, none⟩ = some (.int .u64 x.b.pe) ∧ W.cell? ⟨b, 7, none⟩ = some (.int .i64 x.b.pr) ∧ W.cell? ⟨b, 8, none⟩ = some (.int .u64 x.b.ep) :=
  ⟨h.cell rfl, h.cell rfl, h.cell rfl, h.cell rfl, h.cell rfl, h.cell rfl, h.cell rfl, h.cell rfl, h.cell rfl⟩
theorem own_drew {w : World} {base : Nat} {e : TypeId} {size : Nat} {v : Value} {n : Nat} {xs : List Value} (h : w.ownsRow base e size v n xs) : w.drew.ownsRow base e size v n xs := h
theorem Rd.blk1 {w : World} {e : TypeId} {cs : List Value} {sz b : Nat} (hb : b = w.heap.size) (hs : cs.length = sz) : Rd (w.alloc (.cells cs.toArray e)) sz (some ⟨b, 0, none⟩) 1 1 cs := by
  subst hb
  refine ⟨⟨by omega, Nat.le_refl _, by decide, fun h => by cases h⟩, .inr ⟨_, 0, rfl, by simp, fun j u' hu => ?_⟩⟩
  rw [World.cell?_alloc_at _ _ _ _ rfl]
  simpa using hu
theorem Rd.grown1 {V V' : World} {size g off n c : Nat} {xs : List Value} {row : Option Nat} (h : Rd V size (some ⟨g, off, none⟩) n c xs) (hg : V.drew.grownBy V' row) (hne : row ≠ some g) : Rd V' size (some ⟨g, off, none⟩) n c xs := by
  refine ⟨h.1, ?_⟩
  rcases h.2 with h0 | ⟨b, o, he, hlt, hc⟩
  · exact .inl h0
  · simp only [Option.some.injEq, Addr.mk.injEq, and_true] at he
    obtain ⟨rfl, rfl⟩ := he
    exact .inr ⟨_, _, rfl, Nat.lt_of_lt_of_le hlt hg.size, fun j u hu => hg.cell (w := V.drew) (hc j u hu) (fun e => hne e.symm)⟩
theorem sd_one1 (y : Sd) : ∀ u ∈ sdF y, u.oneCell' = true := by
  intro u hu
  simp [sdF] at hu
  rcases hu with rfl | rfl | rfl | rfl | rfl | rfl | rfl | rfl | rfl <;> rfl
theorem sd_one (l : List Sd) : ∀ u ∈ l.flatMap sdF, u.oneCell' = true := by
  intro u hu
  obtain ⟨y, _, hy⟩ := List.mem_flatMap.1 hu
  exact sd_one1 y u hy
theorem own_lit1 {w : World} {size : Nat} {e : TypeId} {o : Obj} : ((w.alloc o).alloc (.cells #[] e)).ownsRow w.heap.size e size (.slice (some ⟨w.heap.size + 1, 0, none⟩) 0 0) 0 [] := by
  refine ⟨by simp, .inr ⟨w.heap.size + 1, 0, #[], rfl, Nat.le_succ _, ?_, Nat.le_refl _, Nat.zero_le _, by simp, by simp⟩⟩
  have := heap_alloc_new (w.alloc o) (.cells #[] e)
  simpa using this
theorem own_lit0 {w : World} {base size : Nat} {e : TypeId} (hb : base ≤ w.heap.size) : (w.alloc (.cells #[] e)).ownsRow base e size (.slice (some ⟨w.heap.size, 0, none⟩) 0 0) 0 [] := by
  refine ⟨by simp, .inr ⟨w.heap.size, 0, #[], rfl, hb, heap_alloc_new w _, Nat.le_refl _, Nat.zero_le _, by simp, by simp⟩⟩
def rAt (x : Sd) (now : Nat) : Sd := { x with at_ := now }
set_option maxHeartbeats 6400000 in
set_option maxRecDepth 100000 in
theorem radd_yes (me n tm : Int) (now : Nat) (a : Option Addr) (c cp : Nat) (all : List Sd) (x : Sd) (hh : other me n x.p = true) (hc : c ≤ 100000) (w : World) (hr : Rd w 9 a c cp (all.flatMap sdF)) :
    Calls Tryd.prog 11 #[.agg #[.int .i64 me, .int .i64 n, .int .i64 tm, .int .i64 now, .slice a c cp], .agg #[.int .i64 x.p, .int .i64 x.at_, .bool x.beat, .bool x.gone, .int .u64 x.b.ce, .int .i64 x.b.cr, .int .u64 x.b.pe, .int .i64 x.b.pr, .int .u64 x.b.ep]] w fun e w' => ∃ a' c', e = .returned (.agg #[.int .i64 me, .int .i64 n, .int .i64 tm, .int .i64 now, .slice a' (c + 1) c']) ∧ Rd w' 9 a' (c + 1) c' ((all ++ [rAt x now]).flatMap sdF) ∧ Hid (∀ g off, a' = some ⟨g, off, none⟩ → w.heap.size ≤ g) ∧ Below w.heap.size w w' := by
  have HO := fun W => other_any me n tm now a c cp x.p W
  rw [hh] at HO
  replace HO := Lib.hid HO
  obtain ⟨W3, hW3⟩ : ∃ W, W = ((w.alloc (.cells #[.int .i64 me, .int .i64 n, .int .i64 tm, .int .i64 now, .slice a c cp] 31)).alloc (.cells #[.int .i64 x.p, .int .i64 x.at_, .bool x.beat, .bool x.gone, .int .u64 x.b.ce, .int .i64 x.b.cr, .int .u64 x.b.pe, .int .i64 x.b.pr, .int .u64 x.b.ep] 39)).alloc (.cells #[.int .i64 0, .int .i64 0, .int .i64 0, .int .i64 0, .slice none 0 0] 31) := ⟨_, rfl⟩
  have hb : Below w.heap.size w W3 := by rw [hW3]; exact (((Below.refl _ _).alloc (Nat.le_refl _) _).alloc (by simp) _).alloc (by simp; omega) _
  have hA : BlkAt W3 w.heap.size 31 #[.int .i64 me, .int .i64 n, .int .i64 tm, .int .i64 now, .slice a c cp] := by rw [hW3]; exact BlkAt.alloc (BlkAt.alloc (BlkAt.new w _ _) _) _
  have hC : BlkAt W3 (w.heap.size + 2) 31 #[.int .i64 0, .int .i64 0, .int .i64 0, .int .i64 0, .slice none 0 0] := by rw [hW3]; simpa using BlkAt.new ((w.alloc (.cells #[.int .i64 me, .int .i64 n, .int .i64 tm, .int .i64 now, .slice a c cp] 31)).alloc (.cells #[.int .i64 x.p, .int .i64 x.at_, .bool x.beat, .bool x.gone, .int .u64 x.b.ce, .int .i64 x.b.cr, .int .u64 x.b.pe, .int .i64 x.b.pr, .int .u64 x.b.ep] 39)) 31 #[.int .i64 0, .int .i64 0, .int .i64 0, .int .i64 0, .slice none 0 0]
  have hB : BlkAt W3 (w.heap.size + 1) 39 #[.int .i64 x.p, .int .i64 x.at_, .bool x.beat, .bool x.gone, .int .u64 x.b.ce, .int .i64 x.b.cr, .int .u64 x.b.pe, .int .i64 x.b.pr, .int .u64 x.b.ep] := by rw [hW3]; exact BlkAt.alloc (by simpa using BlkAt.new (w.alloc (.cells #[.int .i64 me, .int .i64 n, .int .i64 tm, .int .i64 now, .slice a c cp] 31)) 39 #[.int .i64 x.p, .int .i64 x.at_, .bool x.beat, .bool x.gone, .int .u64 x.b.ce, .int .i64 x.b.cr, .int .u64 x.b.pe, .int .i64 x.b.pr, .int .u64 x.b.ep]) _
  have hsz3 : w.heap.size + 3 ≤ W3.heap.size := by rw [hW3]; simp
  have p0 : W3.cell? ⟨w.heap.size + 1, 0, none⟩ = some (.int .i64 x.p) := hB.cell rfl
  have HW := Lib.hid hW3.symm
  clear hW3
  go_enter Tryd.func11, Tryd.ntmps11
  go_wp2_with (first
    | (refine wpList_blk_alloc rfl rfl Tryd.rearZ (w.heap.size + 2) (by simp) ?_; rw [HW.out])
    | (refine wpList_blk_load rfl (.tmp 2) rfl Tryd.underlying31 rfl rfl hA Tryd.rearI ?_))
  refine (HO.out _).mono ?_
  rintro e w4 ⟨rfl, hb4⟩
  have hA4 := hA.below hb4 hA.lt
  have hB4 := hB.below hb4 hB.lt
  have hC4 := hC.below hb4 hC.lt
  have hb5 := belS hb hb4
  have hsz4 := Nat.le_trans hsz3 hb4.size
  have q3 : w4.cell? ⟨w.heap.size, 3, none⟩ = some (.int .i64 now) := hA4.cell rfl
  have q1 : w4.cell? ⟨w.heap.size + 1, 1, none⟩ = some (.int .i64 x.at_) := hB4.cell rfl
  have f1 := hB4.fz 1
  clear hA hB hC hb hb4 hsz3 p0 HO HW
  go_wp2
  have hA5 : BlkAt (w4.setCell ⟨w.heap.size + 1, 1, none⟩ (.int .i64 now)) w.heap.size 31 #[.int .i64 me, .int .i64 n, .int .i64 tm, .int .i64 now, .slice a c cp] := hA4.other (by simp) _
  have hC5 : BlkAt (w4.setCell ⟨w.heap.size + 1, 1, none⟩ (.int .i64 now)) (w.heap.size + 2) 31 #[.int .i64 0, .int .i64 0, .int .i64 0, .int .i64 0, .slice none 0 0] := hC4.other (by simp) _
  have hB5 : BlkAt (w4.setCell ⟨w.heap.size + 1, 1, none⟩ (.int .i64 now)) (w.heap.size + 1) 39 #[.int .i64 (rAt x now).p, .int .i64 (rAt x now).at_, .bool (rAt x now).beat, .bool (rAt x now).gone, .int .u64 (rAt x now).b.ce, .int .i64 (rAt x now).b.cr, .int .u64 (rAt x now).b.pe, .int .i64 (rAt x now).b.pr, .int .u64 (rAt x now).b.ep] := by
    have := hB4.set 1 (.int .i64 now)
    simp only [List.setIfInBounds_toArray, List.set_cons_zero, List.set_cons_succ] at this
    exact this
  have hb6 := Kp.below hb5 ((Kp.refl (w.heap.size + 1) w4).setCell ⟨w.heap.size + 1, 1, none⟩ rfl (.int .i64 now)) (by omega) hb5.size
  have hsz5 : w.heap.size + 3 ≤ (w4.setCell ⟨w.heap.size + 1, 1, none⟩ (.int .i64 now)).heap.size := by simpa [World.setCell] using hsz4
  clear hA4 hB4 hC4 hb5 hsz4 q3 q1 f1
  generalize w4.setCell _ _ = w5 at *
  generalize hy : rAt x now = y at *
  replace hy := Lib.hid hy
  have hr5 := Lib.hid (fun V (h : Below w5.heap.size w5 V) => Rd.below hr (hb6.trans (h.mono hb6.size)) (Nat.le_refl _))
  have e4 : w5.cell? ⟨w.heap.size, 4, none⟩ = some (.slice a c cp) := hA5.cell rfl
  obtain ⟨s0, s1, s2, s3, s4, s5, s6, s7, s8⟩ := b9 hB5
  have hS0 : Below w5.heap.size w5 w5 := Below.refl _ _
  have E4 := fun o => (hA5.alloc o).cell (i := 4) rfl
  have E42 := fun o o' => ((hA5.alloc o).alloc o').cell (i := 4) rfl
  have S0 := fun o => (b9 (hB5.alloc o)).1
  have S1 := fun o => (b9 (hB5.alloc o)).2.1
  have S2 := fun o => (b9 (hB5.alloc o)).2.2.1
  have S3 := fun o => (b9 (hB5.alloc o)).2.2.2.1
  have S4 := fun o => (b9 (hB5.alloc o)).2.2.2.2.1
  have S5 := fun o => (b9 (hB5.alloc o)).2.2.2.2.2.1
  have S6 := fun o => (b9 (hB5.alloc o)).2.2.2.2.2.2.1
  have S7 := fun o => (b9 (hB5.alloc o)).2.2.2.2.2.2.2.1
  have S8 := fun o => (b9 (hB5.alloc o)).2.2.2.2.2.2.2.2
  go_region_law (first
    | (refine step_append_rd Tryd.sdE rfl (.tmp 12) (.tmp 14) rfl (base := w5.heap.size) (n := 0) (xs := []) (by simp [Act.eval, Act.put]; rfl) (by first | exact own_drew (own_lit0 (w := w5) (Nat.le_refl _)) | exact own_drew ((own_lit0 (w := w5) (Nat.le_refl _)).alloc _) | exact own_drew (own_lit1 (w := w5))) (by simp [Act.eval, Act.put]) (hr5.out _ (by first | exact (hS0.alloc (Nat.le_refl _) _).drew | exact ((hS0.alloc (Nat.le_refl _) _).alloc (by simp) _).drew)) (sd_one all) (by unfold maxLen; omega) (by omega) (by first | exact (Nat.le_succ _) | (simp; done) | (simp; omega)) ?_; intro v6 w6 hown6 hg6;
       simp only [Nat.zero_add, List.nil_append] at hown6;
       have hbw6 : Below w5.heap.size w5 w6 := belG (by first | exact (hS0.alloc (Nat.le_refl _) _).drew | exact ((hS0.alloc (Nat.le_refl _) _).alloc (by simp) _).drew) hg6 (by first | exact (Nat.le_succ _) | (simp; done) | (simp; omega)) (fun g hg => by simp [Value.ownBlock] at hg; omega);
       obtain ⟨z0, z1, z2, z3, z4, z5, z6, z7, z8⟩ := b9 (hB5.below hbw6 hB5.lt);
       try (have h17 := Rd.grown1 (Rd.alloc (Rd.blk1 (w := w5) (e := 39) (cs := sdF y) (sz := 9) rfl rfl) (.cells #[] 39)) hg6 (by simp [Value.ownBlock]));
       try (have h17 := Rd.grown1 (Rd.blk1 (w := w5.alloc (.cells #[] 39)) (e := 39) (cs := sdF y) (sz := 9) (b := w5.heap.size + 1) (by simp) rfl) hg6 (by simp [Value.ownBlock])))
    | (refine step_append_rd Tryd.sdE rfl (.tmp 15) (.tmp 17) rfl (base := w5.heap.size) (v := v6) (n := c) (xs := all.flatMap sdF) (by simp [Act.eval, Act.put]) (by first | exact hown6 | exact hown6.alloc _) (by simp [Act.eval, Act.put]; exact ⟨rfl, rfl, rfl⟩) (by first | exact h17 | exact Rd.blk1 (cs := sdF y) rfl rfl) (sd_one1 y) (by unfold maxLen; omega) (by omega) (by first | exact hbw6.size | exact Nat.le_succ_of_le hbw6.size | (simp; have := hbw6.size; omega)) ?_; intro v7 w7 hown7 hg7; obtain ⟨a', c', rfl, hr'⟩ := Rd.own hown7;
       have hbF : Below w5.heap.size w5 w7 := belG (by first | exact hbw6 | exact hbw6.alloc hbw6.size _) hg7 (by first | exact hbw6.size | exact Nat.le_succ_of_le hbw6.size | (simp; have := hbw6.size; omega)) (fun g hg => (hown6.lt g hg).1);
       have c4' : w7.cell? ⟨w.heap.size, 4, none⟩ = some (.slice a c cp) := (hA5.below hbF hA5.lt).cell rfl;
       have f4' : w7.frozen? ⟨w.heap.size, 4, none⟩ = false := (hA5.below hbF hA5.lt).fz 4))
  all_goals
    have hge : ∀ g off, a' = some ⟨g, off, none⟩ → w5.heap.size ≤ g := by
      intro g off e
      rcases hown7.2 with ⟨hv, _⟩ | ⟨g', cap, cur, hv, hb', _⟩
      · simp at hv
      · simp at hv; rw [e] at hv; simp at hv; omega
    have hC7 := (hC5.below hbF hC5.lt).other (a := ⟨w.heap.size, 4, none⟩) (by simp) (.slice a' (c + 1) c')
    have hA8 := (hA5.below hbF hA5.lt).set 4 (.slice a' (c + 1) c')
    simp only [List.setIfInBounds_toArray, List.set_cons_zero, List.set_cons_succ] at hA8
    have hK7 := (Kp.refl w.heap.size w7).setCell ⟨w.heap.size, 4, none⟩ rfl (.slice a' (c + 1) c')
    have hr8 := hK7.rd hr' (fun g off e => by have := hge g off e; omega)
    have hb8 := Kp.below (hb6.trans (hbF.mono hb6.size)) hK7 (Nat.le_refl _) (Nat.le_trans hb6.size hbF.size)
    clear c4' f4' hbF hr' hown7 hg7 hbw6 hown6 hg6 z0 z1 z2 z3 z4 z5 z6 z7 z8 hK7 hA5 hB5 hC5 S0 S1 S2 S3 S4 S5 S6 S7 S8 E4 E42 s0 s1 s2 s3 s4 s5 s6 s7 s8 e4 hr5 hS0
    generalize w7.setCell ⟨w.heap.size, 4, none⟩ (.slice a' (c + 1) c') = w8 at *
    go_wp2_with (first
      | (refine wpList_blk_load rfl (.tmp 2) rfl Tryd.underlying31 rfl rfl hA8 Tryd.rearI ?_)
      | (refine wpList_blk_store rfl (.tmp 4) (.tmp 20) rfl rfl rfl hC7 Tryd.rearI rfl (by simp [Value.oneCell']) ?_; intro w9 hC9 hK9 hsz9))
    refine bodyPost_ret (results_cell_row rfl _ _ (w.heap.size + 2) 31 _ (0, 0) _ rfl hC9 Tryd.underlying31 rfl Tryd.rearI) rfl ⟨a', c', rfl, ?_, fun g off e => by have := hge g off e; omega, ?_⟩
    · have h9 := hK9.rd hr8 (fun g off e => by have := hge g off e; omega)
      rw [hy.out, List.flatMap_append]
      simpa using h9
    · exact Kp.below hb8 hK9 (by omega) hb8.size
end Go.Proofs.YtpnmhlcbmbpfdaaDoor
