/- plan: key.greatest, key.Last, Boundary -/
import Derived.Test.YtikhpafdnohhkaaDoorPlanE
namespace Go.Proofs.YtikhpafdnohhkaaDoor
set_option linter.unusedSimpArgs false
set_option linter.unusedVariables false
open Go.RowKit
def kC (k : Int × Int) : List Value := [.int .u64 k.1, .int .i64 k.2]
def RdK (w : World) (a : Option Addr) (n c : Nat) (l : List (Int × Int)) : Prop := Rd w 2 a n c (l.flatMap kC)
section
variable {w w' : World} {a : Option Addr} {n c : Nat} {l : List (Int × Int)}
theorem RdK.len (h : RdK w a n c l) : l.length = n := by
  have := Rd.length_eq h
  rw [flatMap_len (sz := 2) (fun _ => rfl)] at this
  omega
theorem RdK.le_max (h : RdK w a n c l) : n ≤ 9223372036854775807 := by have := Rd.le_max h; unfold maxLen at this; omega
theorem RdK.below (h : RdK w a n c l) (hb : Below w.heap.size w w') : RdK w' a n c l := Rd.below h hb (Nat.le_refl _)
theorem RdK.at (h : RdK w a n c l) {k : Nat} (hk : k < l.length) : ∃ b off, a = some ⟨b, off, none⟩ ∧ b < w.heap.size ∧ w.cell? ⟨b, off + k * 2, none⟩ = some (.int .u64 l[k].1) ∧ w.cell? ⟨b, off + k * 2 + 1, none⟩ = some (.int .i64 l[k].2) := by
  have hl := h.len
  obtain ⟨b, off, rfl, hlt⟩ := Rd.addr h (by omega)
  have g : ∀ j (hj : j < 2) v, (kC l[k])[j]? = some v → w.cell? ⟨b, off + (k * 2 + j), none⟩ = some v := fun j hj v hv => by
    refine Rd.at h ?_
    rw [flatMap_get (sz := 2) (fun _ => rfl) _ _ _ hj, List.getElem?_eq_getElem hk]
    exact hv
  exact ⟨b, off, rfl, hlt, g 0 (by decide) _ rfl, g 1 (by decide) _ rfl⟩
end
theorem Tryd.keyI (a b : Int) : (Tryd.prog.info? 41).map (·.size) = some (#[Value.int .u64 a, .int .i64 b] : Array Value).size := by show _ = some 2; kernel_rfl
theorem Tryd.keyZ : (Tryd.prog.info? 41).map (·.zero) = some (some (.agg #[.int .u64 0, .int .i64 0])) := by kernel_rfl
theorem Tryd.keyE : Elt Tryd.prog 73 41 (.agg #[.int .u64 0, .int .i64 0]) 2 16 := ⟨by kernel_rfl, by kernel_rfl, rfl, by decide⟩
theorem blk2 {W : World} {b t : Nat} {c0 c1 : Value} (h : BlkAt W b t #[c0, c1]) : W.cell? ⟨b, 0, none⟩ = some c0 ∧ W.cell? ⟨b, 1, none⟩ = some c1 := ⟨h.cell rfl, h.cell rfl⟩
set_option maxHeartbeats 1600000 in
set_option maxRecDepth 100000 in
theorem great_any (a : Option Addr) (n c : Nat) (l : List (Int × Int)) (r1 r2 : Int) (hres : bndK l = (r1, r2)) (w : World) (hr : RdK w a n c l) :
    Calls Tryd.prog 49 #[.func (.func 30) #[] #[], .slice a n c] w fun e w' => e = .returned (.agg #[.int .u64 r1, .int .i64 r2]) ∧ Below w.heap.size w w' := by
  have hmx := hr.le_max
  have hl := Lib.hid hr.len
  replace hres := Lib.hid hres
  have hA : BlkAt ((w.alloc (.cells #[.int .u64 0, .int .i64 0] 41)).alloc (.cells #[.int .u64 0, .int .i64 0] 41)) w.heap.size 41 #[.int .u64 0, .int .i64 0] := BlkAt.alloc (BlkAt.new w _ _) _
  have hB : BlkAt ((w.alloc (.cells #[.int .u64 0, .int .i64 0] 41)).alloc (.cells #[.int .u64 0, .int .i64 0] 41)) (w.heap.size + 1) 41 #[.int .u64 0, .int .i64 0] := by simpa using BlkAt.new (w.alloc (.cells #[.int .u64 0, .int .i64 0] 41)) 41 #[.int .u64 0, .int .i64 0]
  have hb1 : Below w.heap.size w ((w.alloc (.cells #[.int .u64 0, .int .i64 0] 41)).alloc (.cells #[.int .u64 0, .int .i64 0] 41)) := ((Below.refl _ _).alloc (Nat.le_refl _) _).alloc (by simp) _
  go_enter Tryd.func49, Tryd.ntmps49
  go_wp2_with (first
    | (refine wpList_blk_alloc rfl rfl Tryd.keyZ w.heap.size rfl ?_)
    | (refine wpList_blk_alloc rfl rfl Tryd.keyZ (w.heap.size + 1) (by simp) ?_; generalize (w.alloc _).alloc _ = w1 at *))
  go_loopw [6, 7, 10] (fun _ _ i wr => ∃ (k : Nat) (bs bf : Int), k ≤ n ∧ i = .int .i64 k ∧ Hid (bndK (l.take k) = (bs, bf)) ∧ BlkAt wr (w.heap.size + 1) 41 #[.int .u64 bs, .int .i64 bf] ∧ BlkAt wr w.heap.size 41 #[.int .u64 0, .int .i64 0] ∧ Below w.heap.size w wr) (fun _ _ i _ => n - (intOf i).toNat)
  case atStart => exact ⟨0, 0, 0, Nat.zero_le _, rfl, rfl, hB, hA, hb1⟩
  case round =>
    clear hA hB hb1
    obtain ⟨k, bs, bf, hk, rfl, hv, hB, hA, hbr⟩ := hrel
    by_cases hlt : k < n
    · have hkl : k < l.length := by rw [hl.out]; exact hlt
      obtain ⟨g, off, rfl, hg, c0, c1⟩ := (hr.below hbr).at hkl
      have HS := Lib.hid (show bndK (l.take (k + 1)) = if k = 0 ∨ kLt (bs, bf) l[k] = true then l[k] else (bs, bf) from by
        rw [List.take_succ_eq_append_getElem hkl, bndK_snoc, hv.out, List.length_take, Nat.min_eq_left (by omega)])
      generalize l[k] = x at *
      obtain ⟨xs, xf⟩ := x
      simp only at c0 c1 HS
      have hkI : (k : Int) < n := by omega
      obtain ⟨v0, v1⟩ := blk2 hB
      have hsz := hB.lt
      by_cases h0 : k = 0
      · have HZ := Lib.hid (HS.out.trans (if_pos (.inl h0)))
        subst h0
        simp only [Nat.zero_mul, Nat.add_zero] at c0 c1
        clear HS
        go_wp2_with (first
          | (refine wpList_blk_store (cs := #[.int .u64 xs, .int .i64 xf]) rfl (.tmp 5) (.tmp 24) rfl rfl rfl (BlkAt.alloc hB _) (Tryd.keyI _ _) rfl (by simp [Value.oneCell']) ?_; intro w4 hB4 hK4 hsz4))
        have hA5 : BlkAt w4 w.heap.size 41 #[.int .u64 0, .int .i64 0] := hK4.blk (BlkAt.alloc hA _) (by omega)
        have hb5 : Below w.heap.size w w4 := Kp.below (hbr.alloc hbr.size _) hK4 (Nat.le_succ _) (by simp; have := hbr.size; omega)
        go_roundw
        case rel => exact ⟨1, xs, xf, by omega, by go_num, HZ, hB4, hA5, hb5⟩
        case measure => simp [intOf]; omega
      · have h0B : ((k : Int) == 0) = false := by simpa using h0
        have HC := Lib.hid (keyC_pos (xs, xf) (bs, bf))
        simp only at HC
        generalize hkc : keyC xs xf bs bf = kc at *
        replace hkc := Lib.hid hkc
        by_cases h1 : kLt (bs, bf) (xs, xf) = true
        · have HZ := Lib.hid (HS.out.trans (if_pos (.inr h1)))
          have hp : 0 < kc := HC.out.2 h1
          clear HS HC h0 h1
          go_wp2_with fail
          refine (cmp_any xs xf bs bf _).mono ?_
          rintro e w3 ⟨rfl, hb3⟩
          rw [hkc.out]
          have hbr3 := belS (hbr.alloc hbr.size (.cells #[.int .u64 xs, .int .i64 xf] 41)) hb3
          have hB3 := (BlkAt.alloc hB (.cells #[.int .u64 xs, .int .i64 xf] 41)).below hb3 (BlkAt.alloc hB _).lt
          have hA3 := (BlkAt.alloc hA (.cells #[.int .u64 xs, .int .i64 xf] 41)).below hb3 (BlkAt.alloc hA _).lt
          have hX3 := (BlkAt.new wr 41 #[.int .u64 xs, .int .i64 xf]).below hb3 (BlkAt.new wr 41 #[.int .u64 xs, .int .i64 xf]).lt
          obtain ⟨x0, x1⟩ := blk2 hX3
          clear hb3 c0 c1 v0 v1
          go_wp2_with (first
            | (refine wpList_blk_store (cs := #[.int .u64 xs, .int .i64 xf]) rfl (.tmp 5) (.tmp 24) rfl rfl rfl hB3 (Tryd.keyI _ _) rfl (by simp [Value.oneCell']) ?_; intro w4 hB4 hK4 hsz4))
          have hA5 : BlkAt w4 w.heap.size 41 #[.int .u64 0, .int .i64 0] := hK4.blk hA3 (by omega)
          have hb5 : Below w.heap.size w w4 := Kp.below hbr3 hK4 (Nat.le_succ _) hbr3.size
          go_roundw
          case rel => exact ⟨k + 1, xs, xf, by omega, by go_num, HZ, hB4, hA5, hb5⟩
          case measure => simp [intOf]; omega
        · have HZ := Lib.hid (HS.out.trans (if_neg (by rintro (h | h); exact h0 h; exact h1 h)))
          have hp : kc ≤ 0 := by
            have := mt HC.out.1 h1
            omega
          clear HS HC h0 h1
          go_wp2_with fail
          refine (cmp_any xs xf bs bf _).mono ?_
          rintro e w3 ⟨rfl, hb3⟩
          rw [hkc.out]
          have hbr3 := belS (hbr.alloc hbr.size (.cells #[.int .u64 xs, .int .i64 xf] 41)) hb3
          have hB3 := (BlkAt.alloc hB (.cells #[.int .u64 xs, .int .i64 xf] 41)).below hb3 (BlkAt.alloc hB _).lt
          have hA3 := (BlkAt.alloc hA (.cells #[.int .u64 xs, .int .i64 xf] 41)).below hb3 (BlkAt.alloc hA _).lt
          clear hb3 c0 c1 v0 v1
          go_wp2
          go_roundw
          case rel => exact ⟨k + 1, bs, bf, by omega, by go_num, HZ, hB3, hA3, hbr3⟩
          case measure => simp [intOf]; omega
    · obtain rfl : k = n := by omega
      have hfin : (bs, bf) = (r1, r2) := by rw [← hv.out, List.take_of_length_le (by rw [hl.out]; exact Nat.le_refl _), hres.out]
      injection hfin with e1 e2
      subst e1 e2
      go_wp2_with (first
        | (refine wpList_blk_load rfl (.tmp 5) rfl Tryd.underlying41 rfl rfl hB (Tryd.keyI _ _) ?_)
        | (refine wpList_blk_store (cs := #[.int .u64 bs, .int .i64 bf]) rfl (.tmp 4) (.tmp 26) rfl rfl rfl hA (Tryd.keyI _ _) rfl (by simp [Value.oneCell']) ?_; intro w4 hA4 hK4 hsz4))
      refine bodyPost_ret (results_cell_row rfl _ _ w.heap.size 41 _ (0, 0) _ rfl hA4 Tryd.underlying41 rfl (Tryd.keyI _ _)) rfl ⟨rfl, ?_⟩
      exact Kp.below hbr hK4 (Nat.le_refl _) hbr.size
set_option maxHeartbeats 1600000 in
set_option maxRecDepth 100000 in
theorem last_any (a : Option Addr) (n c : Nat) (l : List (Int × Int)) (r1 r2 : Int) (hres : bndK l = (r1, r2)) (w : World) (hr : RdK w a n c l) :
    Calls Tryd.prog 37 #[.slice a n c] w fun e w' => e = .returned (.agg #[.int .u64 r1, .int .i64 r2]) ∧ Below w.heap.size w w' := by
  have hA := BlkAt.new w 41 #[.int .u64 0, .int .i64 0]
  have hb := alloc_below w (.cells #[.int .u64 0, .int .i64 0] 41)
  have H := Lib.hid (great_any a n c l r1 r2 hres _ (hr.below hb))
  clear hres
  go_enter Tryd.func37, Tryd.ntmps37
  go_wp2_with (first
    | (refine wpList_blk_alloc rfl rfl Tryd.keyZ w.heap.size rfl ?_))
  refine H.out.mono ?_
  rintro e w2 ⟨rfl, hb2⟩
  have hA2 := hA.below hb2 hA.lt
  have hbb := belS hb hb2
  clear hA hb
  go_wp2_with (first
    | (refine wpList_blk_store (cs := #[.int .u64 r1, .int .i64 r2]) rfl (.tmp 2) (.tmp 4) rfl rfl rfl hA2 (Tryd.keyI _ _) rfl (by simp [Value.oneCell']) ?_; intro w4 hA4 hK4 hsz4))
  refine bodyPost_ret (results_cell_row rfl _ _ w.heap.size 41 _ (0, 0) _ rfl hA4 Tryd.underlying41 rfl (Tryd.keyI _ _)) rfl ⟨rfl, ?_⟩
  exact Kp.below hbb hK4 (Nat.le_refl _) hbb.size
def ksV (l : List Xv) : List (Int × Int) := l.map fun x => (x.ls, x.lf)
theorem ksV_snoc (l : List Xc) {k : Nat} (hk : k < l.length) : ksV (vX (l.take (k + 1))) = ksV (vX (l.take k)) ++ [(l[k].v.ls, l[k].v.lf)] := by
  rw [List.take_succ_eq_append_getElem hk, vX, vX, List.map_append, ksV, List.map_append]; rfl
set_option maxHeartbeats 1600000 in
set_option maxRecDepth 100000 in
theorem bnd_any (b : Nat) (l : List Xc) (r1 r2 : Int) (hres : bndV (vX l) = (r1, r2)) (hn : l.length ≤ 1000000000) (w : World) (h : PlAt w b l) :
    Calls Tryd.prog 20 #[.pointer (some ⟨b, 0, none⟩)] w fun e w' => e = .returned (.agg #[.int .u64 r1, .int .i64 r2]) ∧ Below w.heap.size w w' := by
  obtain ⟨a, n, c, hc, hlt, hr⟩ := h
  have hmx := hr.le_max
  have hn' : n ≤ 1000000000 := by rw [← hr.len]; exact hn
  have hl := Lib.hid hr.len
  replace hres := Lib.hid hres
  have hA := BlkAt.new w 41 #[.int .u64 0, .int .i64 0]
  have hb := alloc_below w (.cells #[.int .u64 0, .int .i64 0] 41)
  have hc1 := (hb.cell (p := ⟨b, 0, none⟩) hlt).trans hc
  clear hn
  go_enter Tryd.func20, Tryd.ntmps20
  go_wp2_with (first
    | (refine wpList_blk_alloc rfl rfl Tryd.keyZ w.heap.size rfl ?_; generalize (w.alloc _) = w1 at *))
  go_loopw [3, 5, 11] (fun s _ i wr => ∃ (k : Nat), k ≤ n ∧ i = .int .i64 k ∧ wr.ownsRow (w.heap.size + 1) 41 2 s k ((ksV (vX (l.take k))).flatMap kC) ∧ BlkAt wr w.heap.size 41 #[.int .u64 0, .int .i64 0] ∧ Below w.heap.size w wr) (fun _ _ i _ => n - (intOf i).toNat)
  case atStart => exact ⟨0, Nat.zero_le _, rfl, World.ownsRow_nil _ _ _ _, hA, hb⟩
  case round =>
    clear hA hb hc1
    obtain ⟨k, hk, rfl, hown, hA, hbr⟩ := hrel
    have hsz := hA.lt
    by_cases hkn : k < n
    · have hkl : k < l.length := by rw [hl.out]; exact hkn
      obtain ⟨g, off, rfl, hg, ⟨c0, c1, c2, c3, c4, c5⟩, hin⟩ := (hr.below hbr).at hkl
      have hst := Lib.hid (ksV_snoc l hkl)
      generalize l[k] = x at *
      have hkI : (k : Int) < n := by omega
      go_wp2_with (first
        | (refine wpList_blk_alloc rfl rfl Tryd.exZ wr.heap.size rfl ?_)
        | (refine wpList_blk_store (cs := xcA x) rfl (.tmp 5) (.tmp 14) rfl rfl rfl (BlkAt.new wr _ _) (Tryd.exI x) rfl (xcA_one x) ?_; intro w4 hX hK4 hsz4; obtain ⟨x0, x1, x2, x3, x4, x5⟩ := blk6 hX
           have hb4 := alloc_store hK4
           have hb7 := belS hb4 (alloc_below w4 (.cells #[.int .u64 x.v.ls, .int .i64 x.v.lf] 41))
           have hown7 := own_belowB hown hb7
           have hlv := Rd.blk1 (w := w4) (e := 41) (cs := kC (x.v.ls, x.v.lf)) (sz := 2) (b := wr.heap.size + 1) (by rw [hsz4]; simp) rfl
           clear c0 c1 c2 c3 c4 c5)
        | (at_builtin; refine wpList_append_rd Tryd.keyE rfl (.tmp 15) (.tmp 18) rfl hown7 rfl hlv rfl (by intro u hu; simp [kC] at hu; rcases hu with rfl | rfl <;> rfl) (by unfold maxLen; omega) (by omega) (by have := hbr.size; have := hb7.size; omega) ?_; intro v' w8 hown' hg'))
      have hb8 := Lib.hid (belG (belS hbr hb7) hg' (belS hbr hb7).size (fun g hg => by have := (hown7.lt g hg).1; omega))
      have hA8 : BlkAt w8 w.heap.size 41 #[.int .u64 0, .int .i64 0] := (hg'.block _ (hA.below hb7 hA.lt).lt (fun e => by have := (hown7.lt _ e.symm).1; omega)).trans (hA.below hb7 hA.lt)
      go_roundw
      case rel => exact ⟨k + 1, by omega, by go_num, by rw [hst.out, List.flatMap_append]; simpa using hown', hA8, hb8.out⟩
      case measure => simp [intOf]; omega
    · obtain rfl : k = n := by omega
      obtain ⟨v, c', rfl, hrd⟩ := Rd.own hown
      have hfin := Lib.hid (show bndK (ksV (vX (l.take k))) = (r1, r2) from by rw [List.take_of_length_le (by rw [hl.out]; exact Nat.le_refl _)]; exact hres.out)
      go_wp2_with fail
      refine (last_any v k c' _ r1 r2 hfin.out _ hrd).mono ?_
      rintro e w2 ⟨rfl, hb2⟩
      have hA2 := hA.below hb2 hA.lt
      have hbb := belS hbr hb2
      clear hA hbr hfin hown hrd
      go_wp2_with (first
        | (refine wpList_blk_store (cs := #[.int .u64 r1, .int .i64 r2]) rfl (.tmp 2) (.tmp 22) rfl rfl rfl hA2 (Tryd.keyI _ _) rfl (by simp [Value.oneCell']) ?_; intro w4 hA4 hK4 hsz4))
      refine bodyPost_ret (results_cell_row rfl _ _ w.heap.size 41 _ (0, 0) _ rfl hA4 Tryd.underlying41 rfl (Tryd.keyI _ _)) rfl ⟨rfl, ?_⟩
      exact Kp.below hbb hK4 (Nat.le_refl _) hbb.size
end Go.Proofs.YtikhpafdnohhkaaDoor
