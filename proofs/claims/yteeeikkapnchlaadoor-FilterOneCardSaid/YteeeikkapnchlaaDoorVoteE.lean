/- walk of Pending -/
import Derived.Test.YteeeikkapnchlaaDoorVoteD
namespace Go.Proofs.YteeeikkapnchlaaDoor
set_option linter.unusedSimpArgs false
set_option linter.unusedVariables false
open Go.RowKit Go.Sort

theorem Tryd.viewE : Elt Tryd.prog 36 35 (.agg (vwA .zero)) 4 32 := ⟨by kernel_rfl, by kernel_rfl, rfl, by decide⟩
def pendV (m : Nat) (o : List Vw) (pd : List Vw) : List Vw := pd.foldl (fun o v => if m < v.num ∧ o.any (veq v) = false then o ++ [v] else o) o
def pendR (m : Nat) (o : List Vw) (l : List Rc) : List Vw := l.foldl (fun o r => pendV m o r.pend) o
def pendL (l : List Rc) : List Vw := pendR (lastL l).num [] l
theorem pendV_snoc (m : Nat) (o pd : List Vw) (v : Vw) : pendV m o (pd ++ [v]) = if m < v.num ∧ (pendV m o pd).any (veq v) = false then pendV m o pd ++ [v] else pendV m o pd := by rw [pendV, List.foldl_append]; rfl
theorem pendR_snoc (m : Nat) (o : List Vw) (l : List Rc) (r : Rc) : pendR m o (l ++ [r]) = pendV m (pendR m o l) r.pend := by rw [pendR, List.foldl_append]; rfl
theorem own_below {w w' : World} {base : Nat} {e : TypeId} {size : Nat} {v : Value} {n : Nat} {xs : List Value} (h : w.ownsRow base e size v n xs) (hb : Below w.heap.size w w') : w'.ownsRow base e size v n xs := by
  have hlt := h.lt
  obtain ⟨h1, h2⟩ := h
  refine ⟨h1, ?_⟩
  rcases h2 with h2 | ⟨g, cap, cur, hv, hg, hblk, r⟩
  · exact .inl h2
  · exact .inr ⟨g, cap, cur, hv, hg, (hb.block g (Array.getElem?_eq_some_iff.1 hblk).1).trans hblk, r⟩
/-- How many views are pending in all. -/
def tot (l : List Rc) : Nat := (l.map fun r => r.pend.length).sum
theorem tot_snoc (l : List Rc) (r : Rc) : tot (l ++ [r]) = tot l + r.pend.length := by simp [tot]
theorem tot_take (l : List Rc) (k : Nat) (hk : k < l.length) : tot (l.take (k + 1)) = tot (l.take k) + l[k].pend.length := by rw [List.take_succ_eq_append_getElem hk, tot_snoc]
theorem tot_le (l : List Rc) (k : Nat) : tot (l.take k) ≤ tot l := by
  have : tot l = tot (l.take k) + tot (l.drop k) := by rw [tot, tot, tot, ← List.sum_append, ← List.map_append, List.take_append_drop]
  omega
set_option maxHeartbeats 3200000 in
set_option maxRecDepth 100000 in
theorem pending_any (a : Option Addr) (n c : Nat) (l : List Rc) (ht : tot l ≤ 1000000) (w : World) (hr : RdR w a n c l) :
    Calls Tryd.prog 35 #[.slice a n c] w fun e w' => ∃ v, e = .returned v ∧ w'.ownsRow w.heap.size 35 4 v (pendL l).length ((pendL l).flatMap vwF) ∧ Below w.heap.size w w' := by
  have hmx := hr.le_max
  unfold maxLen at hmx
  have hl := Lib.hid hr.len
  have HP := Lib.hid (show pendL l = pendR (lastL l).num [] l from rfl)
  have HLA := Lib.hid (last_any a n c l w hr)
  generalize lastL l = la at *
  go_enter Tryd.func35, Tryd.ntmps35
  go_wp2_with fail
  refine HLA.out.mono ?_
  rintro e w1 ⟨rfl, hb1⟩
  unfold vwA
  have hA := BlkAt.new w1 35 #[.int .u64 la.num, .int .u64 la.ce, .int .i64 la.cr, .int .u64 la.mem]
  have hbb : Below w.heap.size w (w1.alloc (.cells #[.int .u64 la.num, .int .u64 la.ce, .int .i64 la.cr, .int .u64 la.mem] 35)) := hb1.alloc hb1.size _
  go_wp2
  generalize w1.alloc _ = w2 at *
  generalize w1.heap.size = lb at *
  have hr2 := hr.below hbb
  go_loopw [3, 6, 8, 13] (fun o _ _ i wr => ∃ (k : Nat) (ol : List Vw), k ≤ n ∧ i = .int .i64 k ∧ Hid (ol = pendR la.num [] (l.take k)) ∧ ol.length ≤ tot (l.take k) ∧ wr.ownsRow w2.heap.size 35 4 o ol.length (ol.flatMap vwF) ∧ Below w2.heap.size w2 wr) (fun _ _ _ i _ => n - (intOf i).toNat)
  case atStart => exact ⟨0, [], Nat.zero_le _, rfl, rfl, Nat.zero_le _, World.ownsRow_nil _ _ _ _, Below.refl _ _⟩
  case round =>
    obtain ⟨k, ol, hk, rfl, ho, hol, hown, hbr⟩ := hrel
    by_cases hlt : k < n
    · have hkl : k < l.length := by rw [hl.out]; exact hlt
      obtain ⟨bs, off, rfl, hbslt, hcs⟩ := hr.addr (by omega)
      obtain ⟨pa, pn, pc, ⟨c0, c1, c2, c3, c4⟩, hp⟩ := hcs k hkl
      have hbw := hbb.trans (hbr.mono hbb.size)
      have ec : ∀ i, wr.cell? ⟨bs, i, none⟩ = w.cell? ⟨bs, i, none⟩ := fun i => hbw.cell (p := ⟨bs, i, none⟩) hbslt
      replace c0 := (ec _).trans c0
      replace c1 := (ec _).trans c1
      replace c2 := (ec _).trans c2
      replace c3 := (ec _).trans c3
      replace c4 := (ec _).trans c4
      clear hcs ec hbw
      have hkI : (k : Int) < n := by omega
      have HZ := Lib.hid (show pendR la.num [] (l.take (k + 1)) = pendV la.num ol l[k].pend from by rw [List.take_succ_eq_append_getElem hkl, pendR_snoc, ← ho.out])
      have hto := tot_take l k hkl
      have hto2 := tot_le l (k + 1)
      have hto3 := Lib.hid hto
      have hto4 : tot (l.take k) + l[k].pend.length ≤ 1000000 := by omega
      clear hto hto2
      generalize l[k] = r at *
      obtain ⟨u, pd⟩ := r
      simp only at c0 c1 c2 c3 hp HZ hto3 hto4
      have hpm := Rd.le_max hp
      unfold maxLen at hpm
      have hpl := Lib.hid hp.len
      have hpl2 : pn ≤ pd.length := Nat.le_of_eq hpl.out.symm
      have hbb2 := hbr.alloc hbr.size (.cells #[.int .u64 u.num, .int .u64 u.ce, .int .i64 u.cr, .int .u64 u.mem, .slice pa pn pc] 38)
      have hown1 := hown.alloc (.cells #[.int .u64 u.num, .int .u64 u.ce, .int .i64 u.cr, .int .u64 u.mem, .slice pa pn pc] 38)
      go_wp2
      clear c0 c1 c2 c3 c4 hbr hown
      generalize wr.alloc _ = w3 at *
      have hA3 := hA.below hbb2 hA.lt
      have hsz3 := hbb2.size
      go_loopw [3, 8, 20] (fun o _ i wr => ∃ (j : Nat) (oj : List Vw), j ≤ pn ∧ i = .int .i64 j ∧ Hid (oj = pendV la.num ol (pd.take j)) ∧ oj.length ≤ ol.length + j ∧ wr.ownsRow w2.heap.size 35 4 o oj.length (oj.flatMap vwF) ∧ Below w2.heap.size w2 wr) (fun _ _ i _ => pn - (intOf i).toNat)
      case atStart => exact ⟨0, ol, Nat.zero_le _, rfl, rfl, Nat.le_refl _, hown1, hbb2⟩
      case round =>
        clear hown1 hbb2
        obtain ⟨j, oj, hj, rfl, hoj, hojl, hown, hbr⟩ := hrel
        by_cases hlt2 : j < pn
        · have hjl : j < pd.length := by rw [hpl.out]; exact hlt2
          obtain ⟨b2, off2, rfl, _⟩ := Rd.addr hp (by omega)
          obtain ⟨d0, d1, d2, d3⟩ := (hp.below (hbb.trans (hbr.mono hbb.size)) (Nat.le_refl _)).at j hjl
          have hjI : (j : Int) < pn := by omega
          have HY := Lib.hid (show pendV la.num ol (pd.take (j + 1)) = if la.num < pd[j].num ∧ oj.any (veq pd[j]) = false then oj ++ [pd[j]] else oj from by rw [List.take_succ_eq_append_getElem hjl, pendV_snoc, ← hoj.out])
          generalize pd[j] = x at *
          have hAr : BlkAt wr lb 35 #[.int .u64 la.num, .int .u64 la.ce, .int .i64 la.cr, .int .u64 la.mem] := hA.below hbr hA.lt
          have hbx : Below wr.heap.size wr (wr.alloc (.cells #[.int .u64 x.num, .int .u64 x.ce, .int .i64 x.cr, .int .u64 x.mem] 35)) := (Below.refl _ _).alloc (Nat.le_refl _) _
          have l0 : (wr.alloc (.cells #[.int .u64 x.num, .int .u64 x.ce, .int .i64 x.cr, .int .u64 x.mem] 35)).cell? ⟨lb, 0, none⟩ = some (.int .u64 la.num) := (hAr.below hbx hAr.lt).cell rfl
          have hsz := hbr.size
          have hownx := hown.alloc (.cells #[.int .u64 x.num, .int .u64 x.ce, .int .i64 x.cr, .int .u64 x.mem] 35)
          have hbrx := hbr.alloc hsz (.cells #[.int .u64 x.num, .int .u64 x.ce, .int .i64 x.cr, .int .u64 x.mem] 35)
          by_cases hgt : la.num < x.num
          · obtain ⟨oa, oc, rfl, hro⟩ := Rd.own hownx
            have HC := contains_any oa oj.length oc oj x _ hro
            cases hany : oj.any (veq x) with
            | true =>
              have HY2 := Lib.hid (HY.out.trans (if_neg (by rw [hany]; simp)))
              rw [hany] at HC
              have HC := Lib.hid HC
              clear HY hany hro hAr
              go_wp2_with fail
              refine HC.out.mono ?_
              rintro e w5 ⟨rfl, hb5⟩
              have o5 := own_below hownx hb5
              have b5 := belS hbrx hb5
              go_wp2
              go_roundw
              case rel => exact ⟨j + 1, oj, by omega, by go_num, HY2.out.symm, by omega, o5, b5⟩
              case measure => simp [intOf]; omega
            | false =>
              have HY2 := Lib.hid (HY.out.trans (if_pos ⟨hgt, hany⟩))
              rw [hany] at HC
              have HC := Lib.hid HC
              have hB8 : BlkAt (wr.alloc (.cells #[.int .u64 x.num, .int .u64 x.ce, .int .i64 x.cr, .int .u64 x.mem] 35)) wr.heap.size 35 #[.int .u64 x.num, .int .u64 x.ce, .int .i64 x.cr, .int .u64 x.mem] := BlkAt.new wr _ _
              clear HY hany hro hAr
              go_wp2_with fail
              refine HC.out.mono ?_
              rintro e w5 ⟨rfl, hb5⟩
              have o5 := own_below hownx hb5
              have b5 := belS hbrx hb5
              have B5 := hB8.below hb5 hB8.lt
              have x0 : w5.cell? ⟨wr.heap.size, 0, none⟩ = some (.int .u64 x.num) := B5.cell rfl
              have x1 : w5.cell? ⟨wr.heap.size, 1, none⟩ = some (.int .u64 x.ce) := B5.cell rfl
              have x2 : w5.cell? ⟨wr.heap.size, 2, none⟩ = some (.int .i64 x.cr) := B5.cell rfl
              have x3 : w5.cell? ⟨wr.heap.size, 3, none⟩ = some (.int .u64 x.mem) := B5.cell rfl
              have o6 := o5.alloc (.cells #[.int .u64 x.num, .int .u64 x.ce, .int .i64 x.cr, .int .u64 x.mem] 35)
              have hbn : Below w5.heap.size w5 (w5.alloc (.cells #[.int .u64 x.num, .int .u64 x.ce, .int .i64 x.cr, .int .u64 x.mem] 35)) := (Below.refl _ _).alloc (Nat.le_refl _) _
              have b6 := belS b5 hbn
              have hlv : Rd (w5.alloc (.cells #[.int .u64 x.num, .int .u64 x.ce, .int .i64 x.cr, .int .u64 x.mem] 35)) 4 (some ⟨w5.heap.size, 0, none⟩) 1 1 (vwF x) := by
                refine ⟨⟨rfl, Nat.le_refl _, by decide, fun h => by cases h⟩, .inr ⟨_, 0, rfl, by simp, fun j u' hu => ?_⟩⟩
                rw [World.cell?_alloc_at _ _ _ _ rfl]
                simpa [vwF] using hu
              go_wp2_with (at_builtin; refine wpList_append_rd Tryd.viewE rfl (.tmp 35) (.tmp 37) rfl o6 rfl hlv rfl (by intro u' hu; simp [vwF] at hu; rcases hu with rfl | rfl | rfl | rfl <;> rfl) (by unfold maxLen; omega) (by omega) (by have := b6.size; omega) ?_; intro v' w' hown' hg')
              go_roundw
              case rel => exact ⟨j + 1, oj ++ [x], by omega, by go_num, HY2.out.symm, by rw [List.length_append]; simp; omega, by rw [List.length_append, List.flatMap_append]; simpa using hown', belG b6 hg' b6.size (fun g hg => (o6.lt g hg).1)⟩
              case measure => simp [intOf]; omega
          · have HY2 := Lib.hid (HY.out.trans (if_neg (fun h => hgt h.1)))
            clear HY hAr
            go_wp2
            go_roundw
            case rel => exact ⟨j + 1, oj, by omega, by go_num, HY2.out.symm, by omega, hownx, hbrx⟩
            case measure => simp [intOf]; omega
        · obtain rfl : j = pn := by omega
          have HZ2 := Lib.hid (HZ.out.trans (show pendV la.num ol pd = oj from by rw [hoj.out, List.take_of_length_le (by have := hpl.out; omega)]))
          go_wp2
          go_roundw
          case rel => exact ⟨k + 1, oj, by omega, by go_num, HZ2.out.symm, by rw [hto3.out]; omega, hown, hbr⟩
          case measure => simp [intOf]; omega
    · obtain rfl : k = n := by omega
      have HV := Lib.hid (show pendL l = ol from by rw [HP.out, ho.out, List.take_of_length_le (by have := hl.out; omega)])
      go_wp2
      go_ret
      exact ⟨_, rfl, by rw [HV.out]; exact own_mono hown hbb.size, hbb.trans (hbr.mono hbb.size)⟩
end Go.Proofs.YteeeikkapnchlaaDoor
