/- the walk of the reference's Pending -/
import Derived.Test.YtnpinkcadkkeoaaVoteT
namespace Go.Proofs.Ytnpinkcadkkeoaa
open Go.RowKit Go.Sort

theorem veq_comm (v u : Vw) : veq v u = veq u v := by
  unfold veq
  rw [decide_eq_decide]
  constructor <;> (rintro ⟨h1, h2, h3, h4⟩; exact ⟨h1.symm, h2.symm, h3.symm, h4.symm⟩)
theorem any_comm (l : List Vw) (x : Vw) : l.any (fun o => veq o x) = l.any (veq x) := by
  congr 1
  funext o
  exact veq_comm o x
theorem any_take (l : List Vw) (x : Vw) (k : Nat) (hk : k < l.length) : (l.take (k + 1)).any (fun o => veq o x) = ((l.take k).any (fun o => veq o x) || veq l[k] x) := by
  rw [List.take_succ_eq_append_getElem hk, List.any_append]; simp
set_option maxHeartbeats 3200000 in
set_option maxRecDepth 100000 in
theorem rpending_any (a : Option Addr) (n c : Nat) (l : List Rc) (ht : tot l ≤ 1000000) (w : World) (hr : RdR w a n c l) :
    Calls Try.prog 15 #[.slice a n c] w fun e w' => ∃ v, e = .returned v ∧ w'.ownsRow w.heap.size 31 4 v (pendL l).length ((pendL l).flatMap vwF) ∧ Below w.heap.size w w' := by
  have hmx := hr.le_max
  unfold maxLen at hmx
  have hl := Lib.hid hr.len
  have HP := Lib.hid (show pendL l = pendR (lastL l).num [] l from rfl)
  have HLA := Lib.hid (fun W (h : Below w.heap.size w W) => rlast_any a n c l W (hr.below h))
  unfold vwA at HLA
  generalize lastL l = la at *
  go_enter Try.func15, Try.ntmps15
  go_wp2
  go_loopw [3, 4] (fun o i wr => ∃ (k : Nat) (ol : List Vw), k ≤ n ∧ i = .int .i64 k ∧ Hid (ol = pendR la.num [] (l.take k)) ∧ ol.length ≤ tot (l.take k) ∧ wr.ownsRow w.heap.size 31 4 o ol.length (ol.flatMap vwF) ∧ Below w.heap.size w wr) (fun _ i _ => n - (intOf i).toNat)
  case atStart => exact ⟨0, [], Nat.zero_le _, rfl, rfl, Nat.zero_le _, World.ownsRow_nil _ _ _ _, Below.refl _ _⟩
  case round =>
    obtain ⟨k, ol, hk, rfl, ho, hol, hown, hbr⟩ := hrel
    by_cases hlt : k < n
    · have hkl : k < l.length := by rw [hl.out]; exact hlt
      obtain ⟨bs, off, rfl, hbslt, hcs⟩ := hr.addr (by omega)
      obtain ⟨pa, pn, pc, ⟨c0, c1, c2, c3, c4⟩, hp⟩ := hcs k hkl
      clear hcs c0 c1 c2 c3
      have hkI : (k : Int) < n := by omega
      have HZ := Lib.hid (show pendR la.num [] (l.take (k + 1)) = pendV la.num ol l[k].pend from by rw [List.take_succ_eq_append_getElem hkl, pendR_snoc, ← ho.out])
      have hto := tot_take l k hkl
      have hto2 := tot_le l (k + 1)
      have hto3 := Lib.hid hto
      have hto4 : tot (l.take k) + l[k].pend.length ≤ 1000000 := by omega
      clear hto hto2
      generalize l[k].pend = pd at *
      have hpm := Rd.le_max hp
      unfold maxLen at hpm
      have hpl := Lib.hid hp.len
      have hpl2 : pn ≤ pd.length := Nat.le_of_eq hpl.out.symm
      have hc4 := Lib.hid c4
      clear c4
      go_wp2
      go_loopw [3, 5] (fun o i wr => ∃ (j : Nat) (oj : List Vw), j ≤ pn ∧ i = .int .i64 j ∧ Hid (oj = pendV la.num ol (pd.take j)) ∧ oj.length ≤ ol.length + j ∧ wr.ownsRow w.heap.size 31 4 o oj.length (oj.flatMap vwF) ∧ Below w.heap.size w wr) (fun _ i _ => pn - (intOf i).toNat)
      case atStart => exact ⟨0, ol, Nat.zero_le _, rfl, rfl, Nat.le_refl _, hown, hbr⟩
      case round =>
        clear hown hbr
        obtain ⟨j, oj, hj, rfl, hoj, hojl, hown, hbr⟩ := hrel
        have e4 := (hbr.cell (p := ⟨bs, off + k * 5 + 4, none⟩) hbslt).trans hc4.out
        by_cases hlt2 : j < pn
        · have hjl : j < pd.length := by rw [hpl.out]; exact hlt2
          obtain ⟨b2, off2, rfl, _⟩ := Rd.addr hp (by omega)
          obtain ⟨d0, d1, d2, d3⟩ := (hp.below hbr (Nat.le_refl _)).at j hjl
          have hjI : (j : Int) < pn := by omega
          have HY := Lib.hid (show pendV la.num ol (pd.take (j + 1)) = if la.num < pd[j].num ∧ oj.any (veq pd[j]) = false then oj ++ [pd[j]] else oj from by rw [List.take_succ_eq_append_getElem hjl, pendV_snoc, ← hoj.out])
          generalize pd[j] = x at *
          have hZ := BlkAt.new wr 31 (vwA .zero)
          have hsz := hbr.size
          go_wp2_with (first
            | (refine wpList_blk_alloc rfl rfl Try.viewZ wr.heap.size rfl ?_)
            | (refine wpList_blk_store rfl (.tmp 6) (.tmp 32) rfl rfl rfl hZ (Try.viewI .zero) rfl (by simp [Value.oneCell']) ?_; intro w3 hX hK hsz3;
               replace hK := alloc_store hK; clear hZ hsz3 e4 d0 d1 d2 d3))
          have hb3 := belS hbr hK
          have hown3 := own_below hown hK
          have hX : BlkAt w3 wr.heap.size 31 #[.int .u64 x.num, .int .u64 x.ce, .int .i64 x.cr, .int .u64 x.mem] := hX
          clear hown hbr hK
          obtain ⟨oa, oc, rfl, hro⟩ := Rd.own hown3
          have hro : RdV w3 oa oj.length oc oj := hro
          have hom := hro.le_max
          unfold maxLen at hom
          go_loopw [7, 8] (fun t i wr3 => ∃ (q : Nat) (tv : Bool), q ≤ oj.length ∧ i = .int .i64 q ∧ t = .bool tv ∧ Hid (tv = (oj.take q).any (fun o => veq o x)) ∧ Below w3.heap.size w3 wr3) (fun _ i _ => oj.length - (intOf i).toNat)
          case atStart => exact ⟨0, false, Nat.zero_le _, rfl, rfl, rfl, Below.refl _ _⟩
          case round =>
            obtain ⟨q, tv, hq, rfl, rfl, htv, hbq⟩ := hrel
            have hXq := hX.below hbq hX.lt
            obtain ⟨x0, x1, x2, x3⟩ := vcells hXq
            by_cases hlt3 : q < oj.length
            · obtain ⟨b4, off4, rfl, _⟩ := Rd.addr hro (by omega)
              obtain ⟨f0, f1, f2, f3⟩ := (hro.below hbq (Nat.le_refl _)).at q hlt3
              have hqI : (q : Int) < oj.length := by omega
              have HT := Lib.hid ((any_take oj x q hlt3).trans (by rw [← htv.out]))
              have HE := fun W => run_eql_vw W oj[q] x
              generalize veq oj[q] x = ev at *
              replace HE := Lib.hid HE
              generalize oj[q] = y at *
              cases tv with
              | true =>
                go_wp2
                go_quiet (fail)
                go_wp2
                go_roundw
                case rel => exact ⟨q + 1, true, by omega, by go_num, rfl, by rw [HT.out]; rfl, belN hbq _⟩
                case measure => simp [intOf]; omega
              | false =>
                go_wp2
                refine wp_region_quiet_lit (by kernel_rfl) (by kernel_rfl) ?_
                iterate 7 go_big_quiet_step (fail)
                refine wpQuiet_agg (by rfl) Try.viewG (.tmp 44) (.tmp 45) _ rfl rfl rfl HE.out ?_
                simp only [Act.put, List.setIfInBounds_toArray, List.set_cons_zero, List.set_cons_succ]
                iterate 2 go_big_quiet_step (fail)
                refine wpQuiet_nil ?_
                rintro _ ⟨nq, rfl⟩
                go_wp2
                go_roundw
                case rel => exact ⟨q + 1, ev, by omega, by go_num, rfl, by rw [HT.out]; rfl, belN hbq _⟩
                case measure => simp [intOf]; omega
            · obtain rfl : q = oj.length := by omega
              have htv2 : Hid (oj.any (veq x) = tv) := by have := htv.out; rw [List.take_length, any_comm] at this; exact this.symm
              clear htv
              have hb5 := belS hb3 hbq
              have hown5 := own_below hown3 hbq
              have k0 := cell_regrown x0
              have kL := fun d os => Calls.regrown_of (HLA.out _ (hb5.trans ((below_regrown wr d os).mono hb5.size)))
              by_cases hgt : la.num < x.num
              · have hgI : (la.num : Int) < x.num := by omega
                cases tv with
                | true =>
                  have HY2 := Lib.hid (HY.out.trans (if_neg (by rw [htv2.out]; simp)))
                  clear HY htv2
                  go_wp2
                  (refine wp_region_quiet_below (by kernel_rfl) (by kernel_rfl) ?_; (iterate 4 go_big_quiet_step (first | (with_reducible exact kL _ _))); refine wpQuiet_run (by rfl) (.int .u64 la.num) (fun W => by simp [execOp, go_sem, Instr.field, part, isAgg, asAgg]) ?_; simp only [Act.put, List.setIfInBounds_toArray, List.set_cons_zero, List.set_cons_succ]; (iterate 5 go_big_quiet_step (fail)); refine wpQuiet_nil ?_; intro w4 hw'; obtain ⟨⟨dq, osq⟩, hw''⟩ := hw'; subst hw''; have hbb := below_regrown wr dq osq; clear kL k0; generalize grow (redrawn wr dq) osq = w4 at *)
                  go_wp2
                  go_roundw
                  case rel => exact ⟨j + 1, oj, by omega, by go_num, HY2.out.symm, by omega, own_below hown5 hbb, belS hb5 hbb⟩
                  case measure => simp [intOf]; omega
                | false =>
                  have HY2 := Lib.hid (HY.out.trans (if_pos ⟨hgt, htv2.out⟩))
                  clear HY htv2
                  go_wp2
                  (refine wp_region_quiet_below (by kernel_rfl) (by kernel_rfl) ?_; (iterate 4 go_big_quiet_step (first | (with_reducible exact kL _ _))); refine wpQuiet_run (by rfl) (.int .u64 la.num) (fun W => by simp [execOp, go_sem, Instr.field, part, isAgg, asAgg]) ?_; simp only [Act.put, List.setIfInBounds_toArray, List.set_cons_zero, List.set_cons_succ]; (iterate 5 go_big_quiet_step (fail)); refine wpQuiet_nil ?_; intro w4 hw'; obtain ⟨⟨dq, osq⟩, hw''⟩ := hw'; subst hw''; have hbb := below_regrown wr dq osq; clear kL k0; generalize grow (redrawn wr dq) osq = w4 at *)
                  have hb6 := belS hb5 hbb
                  have hown6 := own_below hown5 hbb
                  obtain ⟨y0, y1, y2, y3⟩ := vcells (hXq.below hbb hXq.lt)
                  clear hb5 hown5 hbb
                  have o6 := hown6.alloc (.cells #[.int .u64 x.num, .int .u64 x.ce, .int .i64 x.cr, .int .u64 x.mem] 31)
                  have b6 := hb6.alloc hb6.size (.cells #[.int .u64 x.num, .int .u64 x.ce, .int .i64 x.cr, .int .u64 x.mem] 31)
                  have hlv : Rd (w4.alloc (.cells #[.int .u64 x.num, .int .u64 x.ce, .int .i64 x.cr, .int .u64 x.mem] 31)) 4 (some ⟨w4.heap.size, 0, none⟩) 1 1 (vwF x) := Rd.blk1 (cs := vwF x) rfl rfl
                  go_wp2_with (at_builtin; refine wpList_append_rd Try.viewE rfl (.tmp 58) (.tmp 60) rfl o6 rfl hlv rfl (by intro u' hu; simp [vwF] at hu; rcases hu with rfl | rfl | rfl | rfl <;> rfl) (by unfold maxLen; omega) (by omega) (by have := b6.size; omega) ?_; intro v' w' hown' hg')
                  go_roundw
                  case rel => exact ⟨j + 1, oj ++ [x], by omega, by go_num, HY2.out.symm, by rw [List.length_append]; simp; omega, by rw [List.length_append, List.flatMap_append]; simpa using hown', belG b6 hg' b6.size (fun g hg => (o6.lt g hg).1)⟩
                  case measure => simp [intOf]; omega
              · have hgI : ¬ (la.num : Int) < x.num := by omega
                have HY2 := Lib.hid (HY.out.trans (if_neg (fun h => hgt h.1)))
                clear HY htv2
                go_wp2
                (refine wp_region_quiet_below (by kernel_rfl) (by kernel_rfl) ?_; (iterate 4 go_big_quiet_step (first | (with_reducible exact kL _ _))); refine wpQuiet_run (by rfl) (.int .u64 la.num) (fun W => by simp [execOp, go_sem, Instr.field, part, isAgg, asAgg]) ?_; simp only [Act.put, List.setIfInBounds_toArray, List.set_cons_zero, List.set_cons_succ]; (iterate 5 go_big_quiet_step (fail)); refine wpQuiet_nil ?_; intro w4 hw'; obtain ⟨⟨dq, osq⟩, hw''⟩ := hw'; subst hw''; have hbb := below_regrown wr dq osq; clear kL k0; generalize grow (redrawn wr dq) osq = w4 at *)
                go_wp2
                go_roundw
                case rel => exact ⟨j + 1, oj, by omega, by go_num, HY2.out.symm, by omega, own_below hown5 hbb, belS hb5 hbb⟩
                case measure => simp [intOf]; omega
        · obtain rfl : j = pn := by omega
          have HZ2 := Lib.hid (HZ.out.trans (show pendV la.num ol pd = oj from by rw [hoj.out, List.take_of_length_le (by have := hpl.out; omega)]))
          go_wp2
          go_roundw
          case rel => exact ⟨k + 1, oj, by omega, by go_num, HZ2.out.symm, by rw [hto3.out]; omega, hown, hbr⟩
          case measure => simp [intOf]; omega
    · obtain rfl : k = n := by omega
      have HV := Lib.hid (show pendL l = ol from by rw [HP.out, ho.out, List.take_of_length_le (by have := hl.out; omega)])
      go_wp2
      go_ret
      exact ⟨_, rfl, by rw [HV.out]; exact hown, hbr⟩
end Go.Proofs.Ytnpinkcadkkeoaa
