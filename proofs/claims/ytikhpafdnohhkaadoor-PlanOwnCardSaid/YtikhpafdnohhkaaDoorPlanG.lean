/- plan: Min, Holder, Lacks, counts -/
import Derived.Test.YtikhpafdnohhkaaDoorPlanF
import Derived.Deep.RegionHeld3
namespace Go.Proofs.YtikhpafdnohhkaaDoor
set_option linter.unusedSimpArgs false
set_option linter.unusedVariables false
open Go.RowKit
def minI (x : Nat) : Int := if x = 0 then -1 else (Lib.ctz 64 x : Nat)
set_option maxHeartbeats 800000 in
theorem min_any (x : Nat) (hx : x < 18446744073709551616) (w : World) (hT : Tab w) : Calls Tryd.prog 36 #[.int .u64 x] w fun e w' => e = .returned (.int .i64 (minI x)) ∧ w = w' := by
  by_cases h0 : x = 0
  · have hz := Lib.hid (show minI x = -1 from if_pos h0)
    subst h0
    go_enter Tryd.func36, Tryd.ntmps36
    go_wp2
    go_ret
    exact ⟨by rw [hz.out]; rfl, rfl⟩
  · have hz := Lib.hid (show minI x = (Lib.ctz 64 x : Nat) from if_neg h0)
    have HT := Lib.hid (tz_any x hx h0 w hT)
    have hB : ((x : Int) == 0) = false := by simpa using h0
    clear h0
    generalize minI x = z at *
    go_enter Tryd.func36, Tryd.ntmps36
    go_wp2_with fail
    refine HT.out.mono ?_
    rintro e w' ⟨rfl, rfl⟩
    rw [← hz.out]
    go_wp2
    go_ret
    exact ⟨rfl, rfl⟩
def holdM (n : Nat) (q : Int) (l : List Xv) : Nat := maskV (l.filter fun x => decide (0 < n) && decide (atL x.cnt q = n))
def holdV (l : List Xv) (q : Int) : Int := minI (holdM (wholeV l q) q l)
theorem holdM_lt (n : Nat) (q : Int) (l : List Xv) : holdM n q l < 18446744073709551616 := maskV_lt _
theorem holdM_step (n : Nat) (q : Int) (l : List Xc) {k : Nat} (hk : k < l.length) : holdM n q (vX (l.take (k + 1))) = if 0 < n ∧ atL l[k].v.cnt q = n then withN (holdM n q (vX (l.take k))) [l[k].v.who] else holdM n q (vX (l.take k)) := by
  rw [List.take_succ_eq_append_getElem hk, vX, vX, List.map_append, holdM, holdM, List.filter_append]
  by_cases h : 0 < n ∧ atL l[k].v.cnt q = n
  · rw [if_pos h, List.map_cons, List.filter_cons_of_pos (by simp [h.1, h.2])]
    simp only [maskV, List.map_append, withN, List.foldl_append, List.map_cons, List.map_nil, List.filter_nil]
  · rw [if_neg h, List.map_cons, List.filter_cons_of_neg (by simp only [Bool.and_eq_true, decide_eq_true_eq]; exact h)]
    simp
theorem wholeV_lt {l : List Xv} (h : ∀ x ∈ l, ∀ y ∈ x.cnt, y < 4294967296) (q : Int) : wholeV l q < 4294967296 := by
  have hat : ∀ c : List Nat, (∀ y ∈ c, y < 4294967296) → atL c q < 4294967296 := fun c hc => by
    unfold atL
    split
    · omega
    · rw [List.getD_eq_getElem?_getD]
      cases he : c[q.toNat]? with
      | none => simp
      | some y => exact hc y (List.mem_of_getElem? he)
  unfold wholeV wholeF
  split
  · suffices H : ∀ (l : List Xv) (m : Nat), m < 4294967296 → (∀ x ∈ l, ∀ y ∈ x.cnt, y < 4294967296) → l.foldl (fun n x => max n (atL x.cnt q)) m < 4294967296 from H l 0 (by decide) h
    intro l
    induction l with
    | nil => intro m hm _; exact hm
    | cons x l ih =>
      intro m hm hl
      rw [List.foldl_cons]
      refine ih _ ?_ (fun y hy => hl y (by simp [hy]))
      have := hat x.cnt (hl x (by simp))
      omega
  · decide
set_option maxHeartbeats 1600000 in
set_option maxRecDepth 100000 in
theorem hold_any (b : Nat) (l : List Xc) (q : Int) (w : World) (h : PlAt w b l) (hT : Tab w) :
    Calls Tryd.prog 18 #[.pointer (some ⟨b, 0, none⟩), .int .i64 q] w fun e w' => e = .returned (.int .i64 (holdV (vX l) q)) ∧ Below w.heap.size w w' := by
  have HW := Lib.hid (whole_any b l q w h)
  have hHV := Lib.hid (show holdV (vX l) q = minI (holdM (wholeV (vX l) q) q (vX l)) from rfl)
  generalize wholeV (vX l) q = wn at *
  generalize holdV (vX l) q = hv at *
  obtain ⟨a, n', c, hc, hlt, hr⟩ := h
  have hmx := hr.le_max
  have hl := Lib.hid hr.len
  go_enter Tryd.func18, Tryd.ntmps18
  go_wp2_with fail
  refine HW.out.mono ?_
  rintro e w1 ⟨rfl, hb1⟩
  replace hc := (hb1.cell (p := ⟨b, 0, none⟩) hlt).trans hc
  go_wp2
  go_loopw [6, 8, 17] (fun s _ i wr => ∃ (k m : Nat), k ≤ n' ∧ i = .int .i64 k ∧ s = .int .u64 m ∧ Hid (m = holdM wn q (vX (l.take k))) ∧ Below w.heap.size w wr) (fun _ _ i _ => n' - (intOf i).toNat)
  case atStart => exact ⟨0, 0, Nat.zero_le _, rfl, rfl, rfl, hb1⟩
  case round =>
    obtain ⟨k, m, hk, rfl, rfl, hm, hbr⟩ := hrel
    clear hc
    by_cases hkn : k < n'
    · have hkl : k < l.length := by rw [hl.out]; exact hkn
      obtain ⟨g, off, rfl, hg, ⟨c0, c1, c2, c3, c4, c5⟩, hin⟩ := (hr.below hbr).at hkl
      have hst := Lib.hid (holdM_step wn q l hkl)
      have hml : m < 18446744073709551616 := by rw [hm.out]; exact holdM_lt _ _ _
      rw [← hm.out] at hst
      generalize l[k] = x at *
      have hkI : (k : Int) < n' := by omega
      by_cases h0 : wn = 0
      · have hz := Lib.hid (hst.out.trans (if_neg (by omega)))
        have h0I : (wn : Int) ≤ 0 := by omega
        clear hst h0
        go_wp2_with (first
          | (refine wpList_blk_alloc rfl rfl Tryd.exZ wr.heap.size rfl ?_)
          | (refine wpList_blk_store (cs := xcA x) rfl (.tmp 8) (.tmp 20) rfl rfl rfl (BlkAt.new wr _ _) (Tryd.exI x) rfl (xcA_one x) ?_; intro w4 hX hK4 hsz4; obtain ⟨x0, x1, x2, x3, x4, x5⟩ := blk6 hX))
        go_roundw
        case rel => exact ⟨k + 1, m, by omega, by go_num, rfl, Lib.hid hz.out.symm, belS hbr (alloc_store hK4)⟩
        case measure => simp [intOf]; omega
      have h0I : (0 : Int) < wn := by omega
      generalize hy : atL x.v.cnt q = y at *
      replace hy := Lib.hid hy
      go_wp2_with (first
        | (refine wpList_blk_alloc rfl rfl Tryd.exZ wr.heap.size rfl ?_)
        | (refine wpList_blk_store (cs := xcA x) rfl (.tmp 8) (.tmp 20) rfl rfl rfl (BlkAt.new wr _ _) (Tryd.exI x) rfl (xcA_one x) ?_; intro w4 hX hK4 hsz4; obtain ⟨x0, x1, x2, x3, x4, x5⟩ := blk6 hX))
      have hb4 := alloc_store hK4
      refine (at_any _ _ _ _ q _ (hin.below hb4)).mono ?_
      rintro e w5 ⟨rfl, rfl⟩
      rw [hy.out]
      by_cases h1 : y = wn
      · have hz := Lib.hid (hst.out.trans (if_pos ⟨by omega, h1⟩))
        have e1 : ((y : Int) == wn) = true := by rw [h1]; exact beq_self_eq_true _
        clear hst h0 h1
        go_wp2_with fail
        refine (with1a m x.v.who (wr.heap.size + 1) w4 hml (by rw [hsz4]; simp)).mono ?_
        rintro e w5 ⟨rfl, rfl⟩
        go_wp2
        go_roundw
        case rel => exact ⟨k + 1, _, by omega, by go_num, rfl, Lib.hid hz.out.symm, (belS hbr hb4).alloc (belS hbr hb4).size _⟩
        case measure => simp [intOf]; omega
      · have hz := Lib.hid (hst.out.trans (if_neg (fun h => h1 h.2)))
        have e1 : ((y : Int) == wn) = false := by simpa using fun h => h1 (by omega)
        clear hst h0 h1
        go_wp2
        go_roundw
        case rel => exact ⟨k + 1, m, by omega, by go_num, rfl, Lib.hid hz.out.symm, belS hbr hb4⟩
        case measure => simp [intOf]; omega
    · obtain rfl : k = n' := by omega
      have hml : m < 18446744073709551616 := by rw [hm.out]; exact holdM_lt _ _ _
      have hz := Lib.hid (show minI m = hv from by rw [hHV.out, hm.out, List.take_of_length_le (by rw [hl.out]; exact Nat.le_refl _)])
      have HM := Lib.hid (min_any m hml wr (hT.below hbr hT.1))
      go_wp2_with fail
      refine HM.out.mono ?_
      rintro e w5 ⟨rfl, rfl⟩
      rw [hz.out]
      go_wp2
      go_ret
      exact ⟨rfl, hbr⟩
/-- What lacks. -/
structure Gp where
  whom : Int
  holder : Int
  fr : Nat
  to : Nat
def gpC (x : Gp) : List Value := [.int .i64 x.whom, .int .i64 x.holder, .int .u32 x.fr, .int .u32 x.to]
def gapsV (l : List Xv) (cnt : List Nat) : Nat → List Gp
  | 0 => []
  | k + 1 => gapsV l cnt k ++ if atL cnt k < wholeV l k then [⟨k, holdV l k, atL cnt k + 1, wholeV l k⟩] else []
theorem gapsV_len (l : List Xv) (cnt : List Nat) (k : Nat) : (gapsV l cnt k).length ≤ k := by
  induction k with
  | zero => exact Nat.le_refl _
  | succ k ih => rw [gapsV, List.length_append]; split <;> simp <;> omega
theorem Tryd.gapE : Elt Tryd.prog 44 48 (.agg #[.int .i64 0, .int .i64 0, .int .u32 0, .int .u32 0]) 4 24 := ⟨by kernel_rfl, by kernel_rfl, rfl, by decide⟩
theorem Tryd.gapB (a b : Int) (c d : Int) : Tryd.prog.built 48 [(0, .int .i64 a), (1, .int .i64 b), (2, .int .u32 c), (3, .int .u32 d)] = some #[.int .i64 a, .int .i64 b, .int .u32 c, .int .u32 d] := by kernel_rfl
set_option maxHeartbeats 1600000 in
set_option maxRecDepth 100000 in
theorem lacks_any (b : Nat) (l : List Xc) (a : Option Addr) (n c : Nat) (cnt : List Nat) (w : World) (h : PlAt w b l) (hc : RdU w a n c cnt) (hT : Tab w) (hw : ∀ x ∈ vX l, ∀ y ∈ x.cnt, y < 4294967296) :
    Calls Tryd.prog 22 #[.pointer (some ⟨b, 0, none⟩), .slice a n c] w fun e w' => ∃ a' m c', e = .returned (.slice a' m c') ∧ Rd w' 4 a' m c' ((gapsV (vX l) cnt 64).flatMap gpC) ∧ Below w.heap.size w w' := by
  have HW := Lib.hid (fun W (hb : Below w.heap.size w W) q => whole_any b l q W (h.below hb))
  have HH := Lib.hid (fun W (hb : Below w.heap.size w W) q => hold_any b l q W (h.below hb) (hT.below hb hT.1))
  have HA := Lib.hid (fun W (hb : Below w.heap.size w W) q => at_any a n c cnt q W (hc.below hb))
  have HL := Lib.hid (fun q => wholeV_lt hw q)
  go_enter Tryd.func22, Tryd.ntmps22
  go_wp2
  go_loopw [5, 6, 7, 8] (fun s _ _ i wr => ∃ (k : Nat), k ≤ 64 ∧ i = .int .i64 k ∧ wr.ownsRow w.heap.size 48 4 s (gapsV (vX l) cnt k).length ((gapsV (vX l) cnt k).flatMap gpC) ∧ Below w.heap.size w wr) (fun _ _ _ i _ => 64 - (intOf i).toNat)
  case atStart => exact ⟨0, Nat.zero_le _, rfl, World.ownsRow_nil _ _ _ _, Below.refl _ _⟩
  case round =>
    obtain ⟨k, hk, rfl, hown, hbr⟩ := hrel
    by_cases hkn : k < 64
    · have hkI : (k : Int) < 64 := by omega
      have hln := gapsV_len (vX l) cnt k
      have hst := Lib.hid (show gapsV (vX l) cnt (k + 1) = gapsV (vX l) cnt k ++ if atL cnt k < wholeV (vX l) k then [⟨k, holdV (vX l) k, atL cnt k + 1, wholeV (vX l) k⟩] else [] from rfl)
      have hwl := HL.out k
      generalize gapsV (vX l) cnt k = gs at *
      go_wp2_with fail
      refine (HW.out _ hbr k).mono ?_
      rintro e w2 ⟨rfl, hb2⟩
      generalize wholeV (vX l) k = wn at *
      go_wp2_with fail
      refine (HA.out _ (belS hbr hb2) k).mono ?_
      rintro e w3 ⟨rfl, rfl⟩
      have HA2 := Lib.hid (fun W hb => HA.out W hb k)
      generalize atL cnt k = y at *
      by_cases h1 : y < wn
      · have hz := Lib.hid (hst.out.trans (by rw [if_pos h1]))
        have h1I : (y : Int) < wn := by omega
        have HH2 := Lib.hid (fun W hb => HH.out W hb k)
        generalize holdV (vX l) k = hv at *
        clear hst
        go_wp2_with fail
        refine (HH2.out _ (belS hbr hb2)).mono ?_
        rintro e w4 ⟨rfl, hb4⟩
        have hb24 := belS hb2 hb4
        clear hb2 hb4
        go_wp2_with fail
        refine (HA2.out _ (belS hbr hb24)).mono ?_
        rintro e w5 ⟨rfl, rfl⟩
        have hb7 := belS hb24 (alloc_below w4 (.cells #[.int .i64 k, .int .i64 hv, .int .u32 ((y : Int) + 1), .int .u32 wn] 48))
        have hown7 := own_belowB hown hb7
        have hlv := Rd.blk1 (w := w4) (e := 48) (cs := [.int .i64 k, .int .i64 hv, .int .u32 ((y : Int) + 1), .int .u32 wn]) (sz := 4) (b := w4.heap.size) rfl rfl
        go_wp2_with (first
          | (refine wpList_blk_build rfl #[(0, .tmp 20), (1, .tmp 23), (2, .tmp 27), (3, .tmp 28)] rfl (Tryd.gapB k hv ((y : Int) + 1) wn) ?_)
          | (at_builtin; refine wpList_append_rd Tryd.gapE rfl (.tmp 19) (.tmp 30) rfl hown7 rfl hlv rfl (by intro u hu; simp at hu; rcases hu with rfl | rfl | rfl | rfl <;> rfl) (by unfold maxLen; omega) (by omega) (by have := hbr.size; have := hb7.size; omega) ?_; intro v' w8 hown' hg'))
        have hb8 := Lib.hid (belG (belS hbr hb7) hg' (belS hbr hb7).size (fun g hg => (hown7.lt g hg).1))
        go_roundw
        case rel => exact ⟨k + 1, by omega, by go_num, by rw [hz.out, List.flatMap_append, List.length_append]; simpa [gpC] using hown', hb8.out⟩
        case measure => simp [intOf]; omega
      · have hz := Lib.hid (hst.out.trans (by rw [if_neg h1, List.append_nil]))
        have h1I : (wn : Int) ≤ y := by omega
        clear hst h1
        go_wp2
        go_roundw
        case rel => exact ⟨k + 1, by omega, by go_num, by rw [hz.out]; exact own_belowB hown hb2, belS hbr hb2⟩
        case measure => simp [intOf]; omega
    · have hk64 : k = 64 := by omega
      obtain ⟨v, c', rfl, hrd⟩ := Rd.own hown
      have hkI : (64 : Int) ≤ k := by omega
      go_wp2
      go_ret
      exact ⟨_, _, _, rfl, by rw [← hk64]; exact hrd, hbr⟩
end Go.Proofs.YtikhpafdnohhkaaDoor
