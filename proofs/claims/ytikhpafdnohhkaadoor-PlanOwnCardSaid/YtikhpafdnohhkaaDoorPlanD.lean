/- plan: the walk of New -/
import Derived.Test.YtikhpafdnohhkaaDoorPlanC
namespace Go.Proofs.YtikhpafdnohhkaaDoor
set_option linter.unusedSimpArgs false
set_option linter.unusedVariables false
open Go.RowKit
theorem wOk_no {ok : Bool} {l : List Xc} {me : Int} (hok : ok = true ↔ okV (vX l) ∧ ∃ x ∈ vX l, x.who = me) {k : Nat} (hk : k < l.length) (h : ¬ ((0 ≤ l[k].v.who ∧ l[k].v.who < 64) ∧ hasB (maskV (vX (l.take k))) l[k].v.who = false)) : ok = false := by
  rw [Bool.eq_false_iff, Ne, hok]
  rintro ⟨h1, _⟩
  have h2 := okV_take h1 (k + 1)
  rw [← vX_take, vX_snoc l hk, okV_snoc] at h2
  exact h h2.2
theorem compO_snoc (o : Int × Int) (l : List Xc) {k : Nat} (hk : k < l.length) : compO o (vX (l.take (k + 1))) = if sameO o l[k].v = true then compO o (vX (l.take k)) ++ [l[k].v] else compO o (vX (l.take k)) := by
  rw [vX_snoc l hk, compO, List.filter_append, compO]
  by_cases h : sameO o l[k].v = true
  · rw [if_pos h, List.filter_cons_of_pos h]; rfl
  · rw [if_neg h, List.filter_cons_of_neg (by simpa using h)]; simp
theorem Tryd.planI (v : Value) : (Tryd.prog.info? 70).map (·.size) = some (#[v] : Array Value).size := by show _ = some 1; kernel_rfl
theorem Tryd.planB : Tryd.prog.built 70 [] = some #[.slice none 0 0] := by kernel_rfl
theorem oldX_at {me : Int} {l : List Xc} (hok : okV (vX l)) {j : Nat} (hj : j < l.length) (h : l[j].v.who = me) : oldV me (vX l) = (l[j].v.oe, l[j].v.orp) := by
  have e : (vX l)[j]'(by rw [vX_len]; exact hj) = l[j].v := by simp [vX]
  rw [oldV_at hok.2 (by rw [vX_len]; exact hj) (by rw [e]; exact h), e]
/-- What holds while the plan is made. -/
theorem NInv.start {w wr : World} (hb : Below w.heap.size w wr) : NInv w (wr.alloc (.cells #[.slice none 0 0] 70)) wr.heap.size none 0 0 [] :=
  ⟨BlkAt.new wr _ _, World.ownsRow_nil _ _ _ _, (fun x hx => by cases hx), hb.alloc hb.size _, hb.size⟩
theorem RdU.kp {w w' : World} {b n c : Nat} {a : Option Addr} {l : List Nat} (k : Kp b w w') (h : RdU w a n c l) (hb : ∀ g off, a = some ⟨g, off, none⟩ → g ≠ b) : RdU w' a n c l := Kp.rd k h hb
set_option maxHeartbeats 3200000 in
set_option maxRecDepth 100000 in
theorem new_any (me : Int) (a : Option Addr) (n c : Nat) (l : List Xc) (w : World) (hr : RdX w a n c l) (hpn : ∀ x ∈ l, x.pn * 4 ≤ 140737488355328) (hn64 : n * 64 ≤ 140737488355328)
    (ok : Bool) (hok : ok = true ↔ okV (vX l) ∧ ∃ x ∈ vX l, x.who = me) :
    Calls Tryd.prog 11 #[.int .i64 me, .slice a n c] w fun e w' => ∃ p, e = .returned (.tuple #[.pointer p, .bool ok]) ∧ (ok = false → p = none) ∧ (ok = true → ∃ b l', p = some ⟨b, 0, none⟩ ∧ PlAt w' b l' ∧ vX l' = compV me (vX l)) ∧ Below w.heap.size w w' := by
  have hmx := hr.le_max
  have hl := Lib.hid hr.len
  replace hok := Lib.hid hok
  go_enter Tryd.func11, Tryd.ntmps11
  go_wp2
  go_loopw [6, 7, 8, 9, 15] (fun s mi _ _ i wr => ∃ (k m : Nat) (j : Int), k ≤ n ∧ i = .int .i64 k ∧ s = .int .u64 m ∧ mi = .int .i64 j ∧ Hid (m = maskV (vX (l.take k))) ∧ Hid (okV (vX (l.take k))) ∧ Hid (MineR me l k j) ∧ Below w.heap.size w wr) (fun _ _ _ _ i _ => n - (intOf i).toNat)
  case atStart => exact ⟨0, 0, -1, Nat.zero_le _, rfl, rfl, rfl, rfl, ⟨(fun x hx => by simp [vX] at hx), by simp [vX]⟩, .inl ⟨rfl, fun x hx => by simp [vX] at hx⟩, Below.refl _ _⟩
  case round =>
    obtain ⟨k, m, j, hk, rfl, rfl, rfl, hm, hov, hmi, hbr⟩ := hrel
    by_cases hkn : k < n
    · have hkl : k < l.length := by rw [hl.out]; exact hkn
      obtain ⟨g, off, rfl, hg, ⟨c0, c1, c2, c3, c4, c5⟩, hin⟩ := (hr.below hbr).at hkl
      have hml : m < 18446744073709551616 := by rw [hm.out]; exact maskV_lt _
      have HNO := Lib.hid (fun h => wOk_no hok.out hkl h)
      have HMS := Lib.hid (maskV_step l hkl)
      have HSN := Lib.hid (vX_snoc l hkl)
      have HMN := Lib.hid (fun h => hmi.out.no hkl h)
      have HMY : Hid (l[k].v.who = me → MineR me l (k + 1) k) := Lib.hid (fun h => .inr ⟨k, hkl, by omega, rfl, h⟩)
      rw [← hm.out] at HNO
      generalize l[k] = x at *
      clear hin
      have hkI : (k : Int) < n := by omega
      by_cases hw0 : x.v.who < 0
      · have hf := Lib.hid (HNO.out (by omega))
        clear HNO HMS HSN HMN HMY
        go_wp2_with (first
          | (refine wpList_blk_alloc rfl rfl Tryd.exZ wr.heap.size rfl ?_)
          | (refine wpList_blk_store (cs := xcA x) rfl (.tmp 9) (.tmp 19) rfl rfl rfl (BlkAt.new wr _ _) (Tryd.exI x) rfl (xcA_one x) ?_; intro w4 hX hK4 hsz4; obtain ⟨x0, x1, x2, x3, x4, x5⟩ := blk6 hX))
        go_ret2
        exact ⟨none, by rw [hf.out]; rfl, fun _ => rfl, (fun h => by rw [hf.out] at h; cases h), belS hbr (alloc_store hK4)⟩
      by_cases hw1 : 64 ≤ x.v.who
      · have hf := Lib.hid (HNO.out (by omega))
        clear HNO HMS HSN HMN HMY
        go_wp2_with (first
          | (refine wpList_blk_alloc rfl rfl Tryd.exZ wr.heap.size rfl ?_)
          | (refine wpList_blk_store (cs := xcA x) rfl (.tmp 9) (.tmp 19) rfl rfl rfl (BlkAt.new wr _ _) (Tryd.exI x) rfl (xcA_one x) ?_; intro w4 hX hK4 hsz4; obtain ⟨x0, x1, x2, x3, x4, x5⟩ := blk6 hX))
        go_ret2
        exact ⟨none, by rw [hf.out]; rfl, fun _ => rfl, (fun h => by rw [hf.out] at h; cases h), belS hbr (alloc_store hK4)⟩
      cases hh : hasB m x.v.who with
      | true =>
        have hf := Lib.hid (HNO.out (by rw [hh]; simp))
        replace hh := Lib.hid hh
        clear HNO HMS HSN HMN HMY
        go_wp2_with (first
          | (refine wpList_blk_alloc rfl rfl Tryd.exZ wr.heap.size rfl ?_)
          | (refine wpList_blk_store (cs := xcA x) rfl (.tmp 9) (.tmp 19) rfl rfl rfl (BlkAt.new wr _ _) (Tryd.exI x) rfl (xcA_one x) ?_; intro w4 hX hK4 hsz4; obtain ⟨x0, x1, x2, x3, x4, x5⟩ := blk6 hX))
        refine (has_any m x.v.who hml _).mono ?_
        rintro e w5 ⟨rfl, rfl⟩
        rw [hh.out]
        go_wp2
        go_ret2
        exact ⟨none, by rw [hf.out]; rfl, fun _ => rfl, (fun h => by rw [hf.out] at h; cases h), belS hbr (alloc_store hK4)⟩
      | false =>
        have HOK := Lib.hid (show okV (vX (l.take (k + 1))) from by rw [HSN.out, okV_snoc]; exact ⟨hov.out, ⟨by omega, by omega⟩, by rw [← hm.out]; exact hh⟩)
        replace hh := Lib.hid hh
        clear HNO HSN
        go_wp2_with (first
          | (refine wpList_blk_alloc rfl rfl Tryd.exZ wr.heap.size rfl ?_)
          | (refine wpList_blk_store (cs := xcA x) rfl (.tmp 9) (.tmp 19) rfl rfl rfl (BlkAt.new wr _ _) (Tryd.exI x) rfl (xcA_one x) ?_; intro w4 hX hK4 hsz4; obtain ⟨x0, x1, x2, x3, x4, x5⟩ := blk6 hX))
        refine (has_any m x.v.who hml _).mono ?_
        rintro e w5 ⟨rfl, rfl⟩
        rw [hh.out]
        go_wp2_with fail
        have hb4 := alloc_store hK4
        have x0' : (w4.alloc (.cells #[.int .i64 x.v.who] 3)).cell? ⟨wr.heap.size, 0, none⟩ = some (.int .i64 x.v.who) := (((Below.refl _ _).alloc (Nat.le_refl _) _ : Below w4.heap.size w4 (w4.alloc (.cells #[.int .i64 x.v.who] 3))).cell (p := ⟨wr.heap.size, 0, none⟩) hX.lt).trans x0
        refine (with1a m x.v.who (wr.heap.size + 1) w4 hml (by rw [hsz4]; simp)).mono ?_
        rintro e w5 ⟨rfl, hw5⟩
        have hb5 : Below w4.heap.size w4 w5 := by rw [← hw5]; exact (Below.refl _ _).alloc (Nat.le_refl _) _
        rw [hw5] at x0'
        clear hw5
        have hbb := belS hbr (belS hb4 hb5)
        by_cases hwm : x.v.who = me
        · have hwB : (x.v.who == me) = true := by simpa using hwm
          replace hwm := Lib.hid hwm
          clear HMN
          go_wp2
          go_roundw
          case rel => exact ⟨k + 1, _, (k : Int), by omega, by go_num, rfl, rfl, (Lib.hid (by rw [HMS.out, ← hm.out])), HOK, Lib.hid (HMY.out hwm.out), hbb⟩
          case measure => simp [intOf]; omega
        · have hwB : (x.v.who == me) = false := by simpa using hwm
          replace hwm := Lib.hid hwm
          clear HMY
          go_wp2
          go_roundw
          case rel => exact ⟨k + 1, _, j, by omega, by go_num, rfl, rfl, (Lib.hid (by rw [HMS.out, ← hm.out])), HOK, Lib.hid (HMN.out hwm.out), hbb⟩
          case measure => simp [intOf]; omega
    · obtain rfl : k = n := by omega
      have hov' := Lib.hid (show okV (vX l) from by have := hov.out; rwa [List.take_of_length_le (by rw [hl.out]; exact Nat.le_refl _)] at this)
      clear hov hm
      rcases hmi.out with ⟨rfl, hno⟩ | ⟨jj, hjl, hjk, rfl, hjm⟩
      · have hf := Lib.hid (show ok = false from by
          rw [Bool.eq_false_iff, Ne, hok.out]
          rintro ⟨_, x, hx, e⟩
          rw [List.take_of_length_le (by rw [hl.out]; exact Nat.le_refl _)] at hno
          exact hno x hx e)
        clear hno hmi
        go_wp2
        go_ret2
        exact ⟨none, by rw [hf.out]; rfl, fun _ => rfl, (fun h => by rw [hf.out] at h; cases h), hbr⟩
      · clear hmi
        have ht := Lib.hid (show ok = true from hok.out.2 ⟨hov'.out, l[jj].v, List.mem_map.2 ⟨l[jj], List.getElem_mem hjl, rfl⟩, hjm⟩)
        have hre := Lib.hid (oldX_at hov'.out hjl hjm)
        have hS0 := BlkAt.new wr 70 #[.slice none 0 0]
        have hN0 : Hid (NInv w (wr.alloc (.cells #[.slice none 0 0] 70)) wr.heap.size none 0 0 []) := Lib.hid
          ⟨hS0, World.ownsRow_nil _ _ _ _, (fun x hx => (by cases hx)), hbr.alloc hbr.size _, hbr.size⟩
        have hjI : (jj : Int) < k := by omega
        obtain ⟨gj, offj, rfl, hgj, ⟨_, d1, d2, _, _, _⟩, _⟩ := hr.at hjl
        generalize l[jj] = y at *
        obtain ⟨⟨yw, ye, yr, yc, yl, yf⟩, ya, yn, yz⟩ := y
        simp only at d1 d2 hre hjm
        clear hjm
        go_wp2_with (first
          | (refine wpList_blk_build rfl #[] rfl Tryd.planB ?_)
          | (refine wpList_blk_box rfl (.tmp 47) rfl rfl wr.heap.size rfl ?_))
        obtain ⟨wr0, rfl⟩ : ∃ w0 : World, w0 = wr := ⟨_, rfl⟩
        have hpw := Lib.hid hbr.size
        have HD := Lib.hid (fun W (hb : Below w.heap.size w W) => show W.cell? ⟨gj, offj + jj * 6 + 1, none⟩ = some (.int .u64 ye) ∧ W.cell? ⟨gj, offj + jj * 6 + 2, none⟩ = some (.int .i64 yr) from ⟨(hb.cell (p := ⟨gj, offj + jj * 6 + 1, none⟩) hgj).trans d1, (hb.cell (p := ⟨gj, offj + jj * 6 + 2, none⟩) hgj).trans d2⟩)
        clear hS0 hbr d1 d2 hok hov'
        go_loopw [12, 51] (fun _ i wr => ∃ (k2 m2 : Nat) (a2 : Option Addr) (c2 : Nat) (ol : List Xc), k2 ≤ k ∧ m2 ≤ k2 ∧ i = .int .i64 k2 ∧ Hid (vX ol = compO (ye, yr) (vX (l.take k2))) ∧ Hid (NInv w wr wr0.heap.size a2 m2 c2 ol)) (fun _ i _ => k - (intOf i).toNat)
        case atStart => exact ⟨0, 0, none, 0, [], Nat.zero_le _, Nat.le_refl _, rfl, rfl, hN0⟩
        case round =>
          clear hN0
          obtain ⟨k2, m2, a2, c2, ol, hk2, hm2, rfl, hco, hN⟩ := hrel
          by_cases hkn : k2 < k
          · have hkl : k2 < l.length := by rw [hl.out]; exact hkn
            obtain ⟨g, off, hge, hg, ⟨c0, c1, c2', c3, c4, c5⟩, hin⟩ := (hr.below hN.out.bel).at hkl
            injection hge with hge
            injection hge with hge1 hge2
            subst hge1 hge2
            have HCO := Lib.hid (compO_snoc (ye, yr) l hkl)
            have hp4 := hpn _ (List.getElem_mem hkl)
            rw [← hco.out] at HCO
            generalize l[k2] = x at *
            have hkI : (k2 : Int) < k := by omega
            go_wp2_with (first
              | (refine wpList_blk_alloc rfl rfl Tryd.exZ wr.heap.size rfl ?_)
              | (refine wpList_blk_store (cs := xcA x) rfl (.tmp 12) (.tmp 54) rfl rfl rfl (BlkAt.new wr _ _) (Tryd.exI x) rfl (xcA_one x) ?_; intro w4 hX hK4 hsz4; obtain ⟨x0, x1, x2, x3, x4, x5⟩ := blk6 hX))
            have hb4 := Lib.hid (alloc_store hK4)
            obtain ⟨y1, y2⟩ := HD.out _ (belS hN.out.bel hb4.out)
            have hN4 := Lib.hid (hN.out.below hb4.out)
            replace hin := Lib.hid (hin.below hb4.out)
            clear c0 c1 c2' c3 c4 c5 hK4
            by_cases hs : sameO (ye, yr) x.v = true
            · have HC1 := Lib.hid (HCO.out.trans (if_pos hs))
              obtain ⟨hs1, hs2⟩ : x.v.oe = ye ∧ x.v.orp = yr := by simpa [sameO] using hs
              have e1 : (x.v.oe == ye) = true := by simpa using hs1
              have e2 : (x.v.orp == yr) = true := by simpa using hs2
              clear HCO hs hs1 hs2
              go_quiet (fail)
              generalize hw5 : w4.drewN nq = w5 at *
              have hb5 : Below w4.heap.size w4 w5 := by rw [← hw5]; exact belN (Below.refl _ _) _
              clear hw5 y1 y2 x0 x1 x2 x3 x4 x5
              have hX5 := hX.below hb5 hX.lt
              obtain ⟨x0, x1, x2, x3, x4, x5⟩ := blk6 hX5
              go_wp2_with fail
              refine (clone_any x.pa x.pn x.pc x.v.cnt w5 (hin.out.below hb5) hp4).mono ?_
              rintro e w6 ⟨a6, c6, rfl, hr6, hnew, hb6⟩
              have hX6 := hX5.below hb6 hX5.lt
              have f6 := hX6.fz 3
              clear x0 x1 x2 x3 x4 x5
              obtain ⟨x0, x1, x2, x3, x4, x5⟩ := blk6 hX6
              go_wp2_with fail
              have hx7 : Hid (NInv w ((w6.setCell ⟨wr.heap.size, 3, none⟩ (.slice a6 x.pn c6)).drew) wr0.heap.size a2 m2 c2 ol ∧ BlkAt ((w6.setCell ⟨wr.heap.size, 3, none⟩ (.slice a6 x.pn c6)).drew) wr.heap.size 64 (xcA ⟨x.v, a6, x.pn, c6⟩) ∧ RdU ((w6.setCell ⟨wr.heap.size, 3, none⟩ (.slice a6 x.pn c6)).drew) a6 x.pn c6 x.v.cnt ∧ ∀ g off, a6 = some ⟨g, off, none⟩ → x.pn ≠ 0 → (Value.slice a2 m2 c2).ownBlock ≠ some g ∧ g ≠ wr0.heap.size) := Lib.hid (by
                have hk6 : Kp wr.heap.size w6 ((w6.setCell ⟨wr.heap.size, 3, none⟩ (.slice a6 x.pn c6)).drew) := (Kp.setCell (Kp.refl _ w6) ⟨wr.heap.size, 3, none⟩ rfl _).drew
                have hb46 : Below wr.heap.size wr w6 := belS (belS hb4.out hb5) hb6
                have hb7 : Below wr.heap.size wr ((w6.setCell ⟨wr.heap.size, 3, none⟩ (.slice a6 x.pn c6)).drew) := Kp.below hb46 hk6 (Nat.le_refl _) hb46.size
                have hs5 := hb5.size
                have hx4 := hX.lt
                refine ⟨hN.out.below hb7, BlkAt.drew (BlkAt.set hX6 3 _), RdU.kp hk6 hr6 (fun g off e => ?_), fun g off e hn => ⟨fun e2 => ?_, ?_⟩⟩
                · have := hnew g off e; omega
                · have := (hN.out.own.lt g e2).2
                  have := hnew g off e; omega
                · have := hN.out.blk.lt
                  have := hnew g off e; omega)
              have hnx : wr.heap.size ≠ wr0.heap.size := by have := hN.out.blk.lt; omega
              have hne7 : Hid (∀ g, (Value.slice a2 m2 c2).ownBlock = some g → g ≠ wr.heap.size ∧ g ≠ wr0.heap.size) := Lib.hid (fun g hg => by have := hN.out.own.lt g hg; omega)
              clear x0 x1 x2 x3 x4 x5 hX6 hX5 hX f6 hnew hr6 hb6 hb5 hN4 hb4 hin hsz4 hN
              obtain ⟨hN7, hX7, hx7, hxa7⟩ := hx7.out
              have hsR := Lib.hid (show ((w6.setCell ⟨wr.heap.size, 3, none⟩ (.slice a6 x.pn c6)).drew).rangeAt wr.heap.size 0 (xcC ⟨x.v, a6, x.pn, c6⟩) ∧ True from ⟨hX7.range (fun j v hj => by rw [Nat.zero_add]; simpa [xcA, xcC] using hj), trivial⟩)
              refine wp_region_held_drew (S := fun W => W.rangeAt wr.heap.size 0 (xcC ⟨x.v, a6, x.pn, c6⟩) ∧ True) (by kernel_rfl) hsR.out ?_
              intro hHeld
              generalize hW0 : (w6.setCell ⟨wr.heap.size, 3, none⟩ (.slice a6 x.pn c6)).drew = W0 at *
              have HS0 := Lib.hid (fun W (hb : Below W0.heap.size W0 W) => show W.rangeAt wr.heap.size 0 (xcC ⟨x.v, a6, x.pn, c6⟩) ∧ True from ⟨(hX7.below hb hX7.lt).range (fun j v hj => by rw [Nat.zero_add]; simpa [xcA, xcC] using hj), trivial⟩)
              have hbA : Hid (Below W0.heap.size W0 (W0.alloc (.cells (xcA ⟨x.v, a6, x.pn, c6⟩) 64))) := Lib.hid (alloc_below _ _)
              have q0 := hN7.blk.cell (i := 0) rfl
              have hNA := hN7.below hbA.out
              have q7 := hNA.blk.cell (i := 0) rfl
              have hlv := Lib.hid (Rd.blk1 (w := W0) (e := 64) (cs := xcC ⟨x.v, a6, x.pn, c6⟩) rfl rfl)
              have hlo7 : wr0.heap.size + 1 ≤ (W0.alloc (.cells (xcA ⟨x.v, a6, x.pn, c6⟩) 64)).heap.size := hNA.blk.lt
              have hx8 := Lib.hid (hx7.below hbA.out)
              have hX8 := hX7.below hbA.out hX7.lt
              have hown8 := Lib.hid (fun g hg => (hN7.own.lt g hg).2)
              have hne8 : Hid (∀ g, (Value.slice a2 m2 c2).ownBlock = some g → g ≠ wr.heap.size ∧ g ≠ wr0.heap.size) := hne7
              have hxl := hX8.lt
              have hpl := hNA.blk.lt
              have HG := Lib.hid (fun (W : World) (hg : (W0.alloc (.cells (xcA ⟨x.v, a6, x.pn, c6⟩) 64)).grownBy W (Value.slice a2 m2 c2).ownBlock) => show BlkAt W wr.heap.size 64 (xcA ⟨x.v, a6, x.pn, c6⟩) ∧ BlkAt W wr0.heap.size 70 #[.slice a2 m2 c2] from ⟨(hg.block _ hxl (fun e => (hne8.out _ e.symm).1 rfl)).trans hX8, (hg.block _ hpl (fun e => (hne8.out _ e.symm).2 rfl)).trans hNA.blk⟩)
              have HS8 := Lib.hid (fun W hg => show W.rangeAt wr.heap.size 0 (xcC ⟨x.v, a6, x.pn, c6⟩) ∧ True from ⟨(HG.out W hg).1.range (fun j v hj => by rw [Nat.zero_add]; simpa [xcA, xcC] using hj), trivial⟩)
              have HS8c := Lib.hid (fun W v hg => show (W.setCell ⟨wr0.heap.size, 0, none⟩ v).rangeAt wr.heap.size 0 (xcC ⟨x.v, a6, x.pn, c6⟩) ∧ True from ⟨((HG.out W hg).1.other (a := ⟨wr0.heap.size, 0, none⟩) (fun e => hnx e) v).range (fun j v hj => by rw [Nat.zero_add]; simpa [xcA, xcC] using hj), trivial⟩)
              have HP8 := Lib.hid (fun W hg => (HG.out W hg).2.cell (i := 0) (v := .slice a2 m2 c2) rfl)
              have HF8 := Lib.hid (fun W hg => (HG.out W hg).2.fz 0)
              have hxi := Tryd.exI ⟨x.v, a6, x.pn, c6⟩
              replace hN7 := Lib.hid hNA
              replace hx7 := hx8
              replace hxa7 := Lib.hid hxa7
              clear hX7 hX8 hx8 hNA HG hown8 hne8 hsR hW0 hne7
              (refine wpAnyH_take (i := 0) (v := ?_) rfl (by kernel_rfl) (by kernel_rfl) (by kernel_rfl) (fun _ _ _ h => h) (Or.inl ⟨by rfl, ?_⟩) (by assumption) ?_; rotate_left; (focus (intro w hSw; obtain ⟨s1, s2⟩ := hSw; clear s2; go_simp; (try with_reducible rfl))); (try simp only [Act.put, List.getElem_toArray, List.getElem_cons_zero, List.getElem_cons_succ, List.setIfInBounds_toArray, List.set_cons_zero, List.set_cons_succ]))
              (refine wpAnyH_take (i := 1) (v := ?_) rfl (by kernel_rfl) (by kernel_rfl) (by kernel_rfl) (fun _ _ _ h => h) (Or.inl ⟨by rfl, ?_⟩) (by assumption) ?_; rotate_left; (focus (intro w hSw; obtain ⟨s1, s2⟩ := hSw; clear s2; go_simp; (try with_reducible rfl))); (try simp only [Act.put, List.getElem_toArray, List.getElem_cons_zero, List.getElem_cons_succ, List.setIfInBounds_toArray, List.set_cons_zero, List.set_cons_succ]))
              (refine wpAnyH_take (i := 2) (v := ?_) rfl (by kernel_rfl) (by kernel_rfl) (by kernel_rfl) (fun _ _ _ h => h) (Or.inl ⟨by rfl, ?_⟩) (by assumption) ?_; rotate_left; (focus (intro w hSw; obtain ⟨s1, s2⟩ := hSw; clear s2; go_simp; (try with_reducible rfl))); (try simp only [Act.put, List.getElem_toArray, List.getElem_cons_zero, List.getElem_cons_succ, List.setIfInBounds_toArray, List.set_cons_zero, List.set_cons_succ]))
              (refine wpAnyH_take (i := 3) (v := ?_) rfl (by kernel_rfl) (by kernel_rfl) (by kernel_rfl) (fun _ _ _ h => h) (Or.inl ⟨by rfl, ?_⟩) (by assumption) ?_; rotate_left; (focus (intro w hSw; obtain ⟨s1, s2⟩ := hSw; clear s2; go_simp; (try with_reducible rfl))); (try simp only [Act.put, List.getElem_toArray, List.getElem_cons_zero, List.getElem_cons_succ, List.setIfInBounds_toArray, List.set_cons_zero, List.set_cons_succ]))
              refine wpAnyH_take (i := 5) (v := .agg (xcA ⟨x.v, a6, x.pn, c6⟩)) rfl (by kernel_rfl) (by kernel_rfl) (by kernel_rfl) (fun _ _ _ h => h) ?_ (by assumption) ?_
              · exact yieldsIf_load_mid (by rfl) 64 (.tmp 12) rfl wr.heap.size 0 rfl (xcC ⟨x.v, a6, x.pn, c6⟩) _ (fun W hW => hW.1) Tryd.underlying64 rfl hxi
              (try simp only [Act.put, List.getElem_toArray, List.getElem_cons_zero, List.getElem_cons_succ, List.setIfInBounds_toArray, List.set_cons_zero, List.set_cons_succ])
              refine wpAnyH_ready (rs := [4, 6]) (by kernel_rfl) (by simp) ?_
              refine AllReadyH.cons rfl (fun K hK => ?_) (AllReadyH.cons rfl (fun K hK => ?_) AllReadyH.nil)
              · go_simp
                refine hK.out _ _ (HS0.out _ (Below.refl _ _)) (fun hHeld2 => ?_)
                clear hK K hHeld
                (refine wpAnyH_ready (rs := [6]) (by kernel_rfl) (by simp) ?_; refine AllReadyH.cons rfl (fun K hK => ?_) AllReadyH.nil)
                refine step_buildSlice1 (cs := xcA ⟨x.v, a6, x.pn, c6⟩) (some 73) rfl rfl 22 64 (.tmp 72) rfl Tryd.exE (by decide) (by rfl) rfl ?_
                (try simp only [Act.put, List.getElem_toArray, List.getElem_cons_zero, List.getElem_cons_succ, List.setIfInBounds_toArray, List.set_cons_zero, List.set_cons_succ])
                refine hK.out _ _ (HS0.out _ hbA.out) (fun hHeld7 => ?_)
                clear hK K hHeld2
                (refine wpAnyH_ready (rs := [7]) (by kernel_rfl) (by simp) ?_; refine AllReadyH.cons rfl (fun K hK => ?_) AllReadyH.nil)
                refine step_append_apart (base := wr0.heap.size + 1) (v := .slice a2 m2 c2) (n := m2) (xs := ol.flatMap xcC) (b := W0.heap.size) (off := 0) (m := 1) (c := 1) (news := xcC ⟨x.v, a6, x.pn, c6⟩) Tryd.exE rfl (.tmp 71) (.tmp 73) rfl (by rfl) hN7.out.own (by rfl) hlv.out (by decide) (fun u hu => xcC_one [⟨x.v, a6, x.pn, c6⟩] u (by simpa using hu)) (by unfold maxLen; omega) (by omega) hlo7 ?_
                intro v' w8 hown' hg' hv'
                obtain ⟨a8, c8, rfl, _⟩ := Rd.own hown'
                (try simp only [Act.put, List.getElem_toArray, List.getElem_cons_zero, List.getElem_cons_succ, List.setIfInBounds_toArray, List.set_cons_zero, List.set_cons_succ])
                refine hK.out _ _ (HS8.out w8 hg') (fun hHeld8 => ?_)
                clear hK K hHeld7
                (refine wpAnyH_take (i := 8) (v := ?_) rfl (by kernel_rfl) (by kernel_rfl) (by kernel_rfl) (fun _ _ _ h => h) (Or.inl ⟨by rfl, ?_⟩) (by assumption) ?_; rotate_left; (focus (intro w hSw; obtain ⟨s1, s2⟩ := hSw; clear s2; go_simp; (try with_reducible rfl))); (try simp only [Act.put, List.getElem_toArray, List.getElem_cons_zero, List.getElem_cons_succ, List.setIfInBounds_toArray, List.set_cons_zero, List.set_cons_succ]))
                (refine wpAnyH_take (i := 9) (v := ?_) rfl (by kernel_rfl) (by kernel_rfl) (by kernel_rfl) (fun _ _ _ h => h) (Or.inl ⟨by rfl, ?_⟩) (by assumption) ?_; rotate_left; (focus (intro w hSw; obtain ⟨s1, s2⟩ := hSw; clear s2; go_simp; (try with_reducible rfl))); (try simp only [Act.put, List.getElem_toArray, List.getElem_cons_zero, List.getElem_cons_succ, List.setIfInBounds_toArray, List.set_cons_zero, List.set_cons_succ]))
                have p8 := HP8.out w8 hg'
                have f8 := HF8.out w8 hg'
                have HN9 := Lib.hid (hN7.out.more (x := ⟨x.v, a6, x.pn, c6⟩) hx7.out hxa7.out (by rw [List.flatMap_append]; exact hown') hg' hv')
                have HS9 := Lib.hid (HS8c.out w8 (.slice a8 (m2 + 1) c8) hg')
                (refine wpAnyH_ready (rs := [10]) (by kernel_rfl) (by simp) ?_; refine AllReadyH.cons rfl (fun K hK => ?_) AllReadyH.nil)
                go_simp
                refine hK.out _ _ HS9.out (fun hHeld9 => ?_)
                clear hK K hHeld8
                refine wpAnyH_done (by kernel_rfl) ?_ _
                clear hg' hv' hown' p8 f8 hN7 hx7 hxa7 HS0 HS8 HS8c HP8 HF8 hlv HS9
                go_wp2
                go_roundw
                case rel => exact ⟨k2 + 1, m2 + 1, a8, c8, ol ++ [⟨x.v, a6, x.pn, c6⟩], by omega, by omega, by go_num, (Lib.hid (by rw [HC1.out, vX, List.map_append]; rfl)), HN9⟩
                case measure => simp [intOf]; omega
              · refine step_buildSlice1 (cs := xcA ⟨x.v, a6, x.pn, c6⟩) (some 73) rfl rfl 22 64 (.tmp 72) rfl Tryd.exE (by decide) (by rfl) rfl ?_
                (try simp only [Act.put, List.getElem_toArray, List.getElem_cons_zero, List.getElem_cons_succ, List.setIfInBounds_toArray, List.set_cons_zero, List.set_cons_succ])
                refine hK.out _ _ (HS0.out _ hbA.out) (fun hHeld2 => ?_)
                clear hK K hHeld
                (refine wpAnyH_ready (rs := [4]) (by kernel_rfl) (by simp) ?_; refine AllReadyH.cons rfl (fun K hK => ?_) AllReadyH.nil)
                go_simp
                refine hK.out _ _ (HS0.out _ hbA.out) (fun hHeld7 => ?_)
                clear hK K hHeld2
                (refine wpAnyH_ready (rs := [7]) (by kernel_rfl) (by simp) ?_; refine AllReadyH.cons rfl (fun K hK => ?_) AllReadyH.nil)
                refine step_append_apart (base := wr0.heap.size + 1) (v := .slice a2 m2 c2) (n := m2) (xs := ol.flatMap xcC) (b := W0.heap.size) (off := 0) (m := 1) (c := 1) (news := xcC ⟨x.v, a6, x.pn, c6⟩) Tryd.exE rfl (.tmp 71) (.tmp 73) rfl (by rfl) hN7.out.own (by rfl) hlv.out (by decide) (fun u hu => xcC_one [⟨x.v, a6, x.pn, c6⟩] u (by simpa using hu)) (by unfold maxLen; omega) (by omega) hlo7 ?_
                intro v' w8 hown' hg' hv'
                obtain ⟨a8, c8, rfl, _⟩ := Rd.own hown'
                (try simp only [Act.put, List.getElem_toArray, List.getElem_cons_zero, List.getElem_cons_succ, List.setIfInBounds_toArray, List.set_cons_zero, List.set_cons_succ])
                refine hK.out _ _ (HS8.out w8 hg') (fun hHeld8 => ?_)
                clear hK K hHeld7
                (refine wpAnyH_take (i := 8) (v := ?_) rfl (by kernel_rfl) (by kernel_rfl) (by kernel_rfl) (fun _ _ _ h => h) (Or.inl ⟨by rfl, ?_⟩) (by assumption) ?_; rotate_left; (focus (intro w hSw; obtain ⟨s1, s2⟩ := hSw; clear s2; go_simp; (try with_reducible rfl))); (try simp only [Act.put, List.getElem_toArray, List.getElem_cons_zero, List.getElem_cons_succ, List.setIfInBounds_toArray, List.set_cons_zero, List.set_cons_succ]))
                (refine wpAnyH_take (i := 9) (v := ?_) rfl (by kernel_rfl) (by kernel_rfl) (by kernel_rfl) (fun _ _ _ h => h) (Or.inl ⟨by rfl, ?_⟩) (by assumption) ?_; rotate_left; (focus (intro w hSw; obtain ⟨s1, s2⟩ := hSw; clear s2; go_simp; (try with_reducible rfl))); (try simp only [Act.put, List.getElem_toArray, List.getElem_cons_zero, List.getElem_cons_succ, List.setIfInBounds_toArray, List.set_cons_zero, List.set_cons_succ]))
                have p8 := HP8.out w8 hg'
                have f8 := HF8.out w8 hg'
                have HN9 := Lib.hid (hN7.out.more (x := ⟨x.v, a6, x.pn, c6⟩) hx7.out hxa7.out (by rw [List.flatMap_append]; exact hown') hg' hv')
                have HS9 := Lib.hid (HS8c.out w8 (.slice a8 (m2 + 1) c8) hg')
                (refine wpAnyH_ready (rs := [10]) (by kernel_rfl) (by simp) ?_; refine AllReadyH.cons rfl (fun K hK => ?_) AllReadyH.nil)
                go_simp
                refine hK.out _ _ HS9.out (fun hHeld9 => ?_)
                clear hK K hHeld8
                refine wpAnyH_done (by kernel_rfl) ?_ _
                clear hg' hv' hown' p8 f8 hN7 hx7 hxa7 HS0 HS8 HS8c HP8 HF8 hlv HS9
                go_wp2
                go_roundw
                case rel => exact ⟨k2 + 1, m2 + 1, a8, c8, ol ++ [⟨x.v, a6, x.pn, c6⟩], by omega, by omega, by go_num, (Lib.hid (by rw [HC1.out, vX, List.map_append]; rfl)), HN9⟩
                case measure => simp [intOf]; omega
            · have HC1 := Lib.hid (HCO.out.trans (if_neg hs))
              clear HCO
              have hs' : ¬ (x.v.oe = ye ∧ x.v.orp = yr) := by simpa [sameO] using hs
              clear hs
              have hfin : ∀ (wz : World), Below w4.heap.size w4 wz → Hid (NInv w wz wr0.heap.size a2 m2 c2 ol) := fun wz hz => Lib.hid (hN4.out.below hz)
              by_cases e1 : x.v.oe = ye
              · have e2 : (x.v.orp == yr) = false := by simpa using fun h => hs' ⟨e1, h⟩
                replace e1 : (x.v.oe == ye) = true := by simpa using e1
                clear hs'
                go_quiet (fail)
                have hz := hfin (w4.drewN nq) (belN (Below.refl _ _) _)
                go_wp2
                go_roundw
                case rel => exact ⟨k2 + 1, m2, a2, c2, ol, by omega, by omega, by go_num, HC1.out.symm ▸ rfl, hz⟩
                case measure => simp [intOf]; omega
              · replace e1 : (x.v.oe == ye) = false := by simpa using e1
                clear hs'
                go_quiet (fail)
                have hz := hfin (w4.drewN nq) (belN (Below.refl _ _) _)
                go_wp2
                go_roundw
                case rel => exact ⟨k2 + 1, m2, a2, c2, ol, by omega, by omega, by go_num, HC1.out.symm ▸ rfl, hz⟩
                case measure => simp [intOf]; omega
          · have hk2 : k2 = k := by omega
            subst hk2
            go_wp2
            go_ret2
            refine ⟨_, by rw [ht.out]; rfl, (fun h => by rw [ht.out] at h; cases h), fun _ => ⟨_, ol, rfl, hN.out.plan, ?_⟩, hN.out.bel⟩
            rw [hco.out, compV, hre.out, List.take_of_length_le (by rw [hl.out]; exact Nat.le_refl _)]
end Go.Proofs.YtikhpafdnohhkaaDoor
