/- plan: the reference's Right, Companions, Set, Whole -/
import Derived.Test.YtikhpafdnohhkaaDoorPlanC

namespace Go.Proofs.YtikhpafdnohhkaaDoor
set_option linter.unusedSimpArgs false
set_option linter.unusedVariables false
open Go.RowKit
theorem beqI_f {a b : Int} (h : ¬ a = b) : (a == b) = false := by simpa using h
theorem beqI_t {a b : Int} (h : a = b) : (a == b) = true := by simpa using h
set_option maxHeartbeats 3200000 in
set_option maxRecDepth 100000 in
theorem right_any (me : Int) (a : Option Addr) (n c : Nat) (l : List Xc) (t : Bool) (ht : t = true ↔ okV (vX l) ∧ ∃ x ∈ vX l, x.who = me) (w : World) (hr : RdX w a n c l) :
    Calls Tryd.prog 12 #[.int .i64 me, .slice a n c] w fun e w' => e = .returned (.bool t) ∧ Below w.heap.size w w' := by
  replace ht := Lib.hid ht
  have hmx := hr.le_max
  have hl := Lib.hid hr.len
  go_enter Tryd.func12, Tryd.ntmps12
  go_wp2
  go_loopw [5, 6, 7] (fun f i _ wr => ∃ (k : Nat) (fb : Bool), k ≤ n ∧ i = .int .i64 k ∧ f = .bool fb ∧ Hid (fb = true ↔ ∃ x ∈ vX (l.take k), x.who = me) ∧ Hid (okV (vX (l.take k))) ∧ Below w.heap.size w wr) (fun _ i _ _ => n - (intOf i).toNat)
  case atStart => exact ⟨0, false, Nat.zero_le _, rfl, rfl, Lib.hid ⟨(fun h => by cases h), (fun ⟨x, hx, _⟩ => by simp [vX] at hx)⟩, Lib.hid ⟨(fun x hx => by simp [vX] at hx), by simp [vX]⟩, Below.refl _ _⟩
  case round =>
    obtain ⟨k, fb, hk, rfl, rfl, hfb, hov, hbr⟩ := hrel
    by_cases hkn : k < n
    · have hkl : k < l.length := by rw [hl.out]; exact hkn
      obtain ⟨g, off, rfl, hg, ⟨c0, _, _, _, _, _⟩, _⟩ := (hr.below hbr).at hkl
      have hkI : (k : Int) < n := by omega
      have HNO := Lib.hid (fun (h : ¬ ((0 ≤ l[k].v.who ∧ l[k].v.who < 64) ∧ hasB (maskV (vX (l.take k))) l[k].v.who = false)) => show t = false from by
        rw [Bool.eq_false_iff, Ne, ht.out]
        rintro ⟨h1, _⟩
        have h2 := okV_take h1 (k + 1)
        rw [← vX_take, vX_snoc l hkl, okV_snoc] at h2
        exact h h2.2)
      have HSN := Lib.hid (vX_snoc l hkl)
      have HW := Lib.hid (fun W (hb : Below wr.heap.size wr W) j (hj : j < l.length) => show W.cell? ⟨g, off + j * 6, none⟩ = some (.int .i64 l[j].v.who) from by
        obtain ⟨g', off', e, _, ⟨c0', _⟩, _⟩ := ((hr.below hbr).below hb).at hj
        injection e with e; injection e with e1 e2
        subst e1 e2
        exact c0')
      have hxk := Lib.hid (show ∀ j (hj : j < l.length), j < k → l[j].v ∈ vX (l.take k) from fun j hj hjk => List.mem_map.2 ⟨l[j], by rw [← List.getElem_take (h := by rw [List.length_take]; omega) (j := k)]; exact List.getElem_mem _, rfl⟩)
      obtain ⟨wk, hwk⟩ : ∃ z, z = l[k].v := ⟨_, rfl⟩
      rw [← hwk] at c0 HNO HSN
      replace hwk := Lib.hid hwk
      by_cases hw0 : wk.who < 0
      · have hf := Lib.hid (HNO.out (by omega))
        clear HNO HSN HW hxk
        go_wp2
        go_ret
        exact ⟨by rw [hf.out]; rfl, hbr⟩
      by_cases hw1 : 63 < wk.who
      · have hf := Lib.hid (HNO.out (by omega))
        clear HNO HSN HW hxk
        go_wp2
        go_ret
        exact ⟨by rw [hf.out]; rfl, hbr⟩
      obtain ⟨wo, rfl⟩ : ∃ wo : World, wo = wr := ⟨_, rfl⟩
      go_wp2
      go_loopw [7] (fun j wr => ∃ (p : Nat), p ≤ k ∧ j = .int .i64 p ∧ Hid (∀ j (hj : j < l.length), j < p → l[j].v.who ≠ wk.who) ∧ Below wo.heap.size wo wr) (fun j _ => k - (intOf j).toNat)
      case atStart => exact ⟨0, Nat.zero_le _, rfl, Lib.hid (fun j _ h => by omega), Below.refl _ _⟩
      case round =>
        obtain ⟨p, hp, rfl, hne, hbo⟩ := hrel
        by_cases hpk : p < k
        · have hpl : p < l.length := by omega
          have z1 := HW.out wr hbo p hpl
          have z2 := (hbo.cell (p := ⟨g, off + k * 6, none⟩) hg).trans c0
          have hpI : (p : Int) < k := by omega
          have hpn : (p : Int) < n := by omega
          have hmem := Lib.hid (hxk.out p hpl hpk)
          have hne2 := Lib.hid (fun (h : l[p].v.who ≠ wk.who) => show ∀ j (hj : j < l.length), j < p + 1 → l[j].v.who ≠ wk.who from fun j hj hjp => by
            by_cases e : j = p
            · subst e; exact h
            · exact hne.out j hj (by omega))
          generalize l[p].v = y at *
          by_cases he : y.who = wk.who
          · have hf := Lib.hid (HNO.out (fun h => by
              have := (mask_has _ wk.who (by omega) (by omega)).2 ⟨y, hmem.out, he⟩
              rw [h.2] at this; cases this))
            have heB := beqI_t he
            clear HNO HSN HW hxk hne2 he
            go_wp2_with fail
            go_quiet (fail)
            have hbq := belN hbo nq
            generalize wr.drewN nq = w2 at *
            clear z1 z2
            go_wp2
            go_ret
            exact ⟨by rw [hf.out]; rfl, belS hbr hbq⟩
          · have heB := beqI_f he
            have hn2 := Lib.hid (hne2.out he)
            clear hne2 he
            go_wp2_with fail
            go_quiet (fail)
            have hbq := belN hbo nq
            generalize wr.drewN nq = w2 at *
            clear z1 z2
            go_wp2
            go_roundw
            case rel => exact ⟨p + 1, by omega, by go_num, hn2, hbq⟩
            case measure => simp [intOf]; omega
        · have hpI : (k : Int) ≤ p := by omega
          have z2 := (hbo.cell (p := ⟨g, off + k * 6, none⟩) hg).trans c0
          have HOK := Lib.hid (show okV (vX (l.take (k + 1))) from by
            rw [HSN.out, okV_snoc]
            refine ⟨hov.out, ⟨by omega, by omega⟩, ?_⟩
            rw [Bool.eq_false_iff, Ne, mask_has _ _ (by omega) (by omega)]
            rintro ⟨y, hy, e⟩
            obtain ⟨z, hz, rfl⟩ := List.mem_map.1 hy
            obtain ⟨j, hj, rfl⟩ := List.mem_iff_getElem.1 hz
            rw [List.length_take] at hj
            rw [List.getElem_take] at e
            exact hne.out j (by omega) (by omega) e)
          have hB2 := Lib.hid (belS hbr hbo)
          cases fb with
          | true =>
            have HF2 := Lib.hid (show true = true ↔ ∃ x ∈ vX (l.take (k + 1)), x.who = me from ⟨fun _ => by
              obtain ⟨x, hx, e⟩ := hfb.out.1 (by trivial)
              exact ⟨x, by rw [HSN.out]; exact List.mem_append.2 (.inl hx), e⟩, fun _ => rfl⟩)
            clear HNO HW hxk hne hfb
            go_wp2
            go_roundw
            case rel => exact ⟨k + 1, true, by omega, by go_num, rfl, HF2, HOK, hB2.out⟩
            case measure => simp [intOf]; omega
          | false =>
            have hno := Lib.hid (show ∀ x ∈ vX (l.take k), x.who ≠ me from fun x hx e => by have := hfb.out.2 ⟨x, hx, e⟩; simp at this)
            by_cases hme : wk.who = me
            · have hmB := beqI_t hme
              have HF2 := Lib.hid (show true = true ↔ ∃ x ∈ vX (l.take (k + 1)), x.who = me from ⟨fun _ => ⟨wk, by rw [HSN.out]; simp, hme⟩, fun _ => rfl⟩)
              clear HNO HW hxk hne hfb hno hme
              go_wp2
              go_roundw
              case rel => exact ⟨k + 1, true, by omega, by go_num, rfl, HF2, HOK, hB2.out⟩
              case measure => simp [intOf]; omega
            · have hmB := beqI_f hme
              have HF2 := Lib.hid (show false = true ↔ ∃ x ∈ vX (l.take (k + 1)), x.who = me from ⟨(fun h => by cases h), fun ⟨x, hx, e⟩ => by
                rw [HSN.out] at hx
                rcases List.mem_append.1 hx with hx | hx
                · exact absurd e (hno.out x hx)
                · rw [List.mem_singleton] at hx; subst hx; exact absurd e hme⟩)
              clear HNO HW hxk hne hfb hno hme
              go_wp2
              go_roundw
              case rel => exact ⟨k + 1, false, by omega, by go_num, rfl, HF2, HOK, hB2.out⟩
              case measure => simp [intOf]; omega
    · obtain rfl : k = n := by omega
      have hz := Lib.hid (show t = fb from by
        rw [List.take_of_length_le (by rw [hl.out]; exact Nat.le_refl _)] at hfb hov
        cases fb with
        | true => exact ht.out.2 ⟨hov.out, hfb.out.1 rfl⟩
        | false => rw [Bool.eq_false_iff, Ne, ht.out]; rintro ⟨_, h⟩; have := hfb.out.2 h; cases this)
      go_wp2
      go_ret
      exact ⟨by rw [hz.out]; rfl, hbr⟩
/-- The companions' exchanges, and where their counts lie. -/
def compX (me : Int) (l : List Xc) : List Xc := l.filter fun x => sameO (oldV me (vX l)) x.v
theorem compX_v (me : Int) (l : List Xc) : vX (compX me l) = compV me (vX l) := by
  unfold compX compV compO vX
  rw [List.filter_map]; rfl
theorem oldV_step (me : Int) (l : List Xc) {k : Nat} (hk : k < l.length) : oldV me (vX (l.take (k + 1))) = if l[k].v.who = me then (l[k].v.oe, l[k].v.orp) else oldV me (vX (l.take k)) := by
  rw [vX_snoc l hk, oldV_snoc]
set_option maxHeartbeats 1600000 in
set_option maxRecDepth 100000 in
theorem set_any (a : Option Addr) (n c : Nat) (l : List Xc) (hok : ∀ x ∈ vX l, 0 ≤ x.who ∧ x.who < 64) (w : World) (hr : RdX w a n c l) :
    Calls Tryd.prog 15 #[.slice a n c] w fun e w' => e = .returned (.int .u64 (maskV (vX l))) ∧ w = w' := by
  have hmx := hr.le_max
  have hl := Lib.hid hr.len
  replace hok := Lib.hid hok
  go_enter Tryd.func15, Tryd.ntmps15
  go_wp2
  go_loop [3, 4] (fun s i => ∃ (k m : Nat), k ≤ n ∧ i = .int .i64 k ∧ s = .int .u64 m ∧ Hid (m = maskV (vX (l.take k)))) (fun _ i => n - (intOf i).toNat)
  case atStart => exact ⟨0, 0, Nat.zero_le _, rfl, rfl, rfl⟩
  case round =>
    obtain ⟨k, m, hk, rfl, rfl, hm⟩ := hrel
    by_cases hkn : k < n
    · have hkl : k < l.length := by rw [hl.out]; exact hkn
      obtain ⟨g, off, rfl, hg, ⟨c0, _, _, _, _, _⟩, _⟩ := hr.at hkl
      have hst := Lib.hid (maskV_step l hkl)
      have hml : m < 18446744073709551616 := by rw [hm.out]; exact maskV_lt _
      have hw := hok.out l[k].v (List.mem_map.2 ⟨l[k], List.getElem_mem hkl, rfl⟩)
      rw [← hm.out] at hst
      generalize l[k].v.who = p at *
      obtain ⟨q, rfl⟩ : ∃ q : Nat, p = q := ⟨p.toNat, by omega⟩
      have hq : q < 64 := by omega
      have hpI : (q : Int) < 64 := by omega
      have hkI : (k : Int) < n := by omega
      have hb := bitN_lt q
      have he : bitN q = 2 ^ q := by rw [bitN, if_pos (by omega), Int.toNat_natCast]
      have hor := u64_or_nat m (bitN q) hml hb
      have hwr : IntKind.u64.wrap ((2 : Int) ^ q) = ((bitN q : Nat) : Int) := by
        rw [he] at hb ⊢
        rw [IntKind.wrap_u64, show ((2 : Int) ^ q) = ((2 ^ q : Nat) : Int) from by simp]
        omega
      replace he := Lib.hid he
      clear hw
      generalize hbq : bitN q = bq at *
      replace hbq := Lib.hid hbq
      go_wp2
      go_round
      case rel => exact ⟨k + 1, m ||| bq, by omega, by go_num, rfl, Lib.hid (by rw [hst.out, ← hbq.out]; rfl)⟩
      case measure => simp [intOf]; omega
    · obtain rfl : k = n := by omega
      go_wp2
      go_ret
      refine ⟨?_, rfl⟩
      rw [hm.out, List.take_of_length_le (by rw [hl.out]; exact Nat.le_refl _)]
      rfl
theorem Tryd.confI (a b : Int) : (Tryd.prog.info? 62).map (·.size) = some (#[Value.int .u64 a, .int .i64 b] : Array Value).size := by show _ = some 2; kernel_rfl
theorem compX_snoc (o : Int × Int) (l : List Xc) {k : Nat} (hk : k < l.length) : (l.take (k + 1)).filter (fun x => sameO o x.v) = if sameO o l[k].v = true then (l.take k).filter (fun x => sameO o x.v) ++ [l[k]] else (l.take k).filter fun x => sameO o x.v := by
  rw [List.take_succ_eq_append_getElem hk, List.filter_append]
  by_cases h : sameO o l[k].v = true
  · rw [if_pos h, List.filter_cons_of_pos (p := fun x : Xc => sameO o x.v) h]; rfl
  · rw [if_neg h, List.filter_cons_of_neg (p := fun x : Xc => sameO o x.v) h]; simp
set_option maxHeartbeats 3200000 in
set_option maxRecDepth 100000 in
theorem rcomps_any (me : Int) (a : Option Addr) (n c : Nat) (l : List Xc) (w : World) (hr : RdX w a n c l) (hn64 : n * 64 ≤ 140737488355328) :
    Calls Tryd.prog 13 #[.int .i64 me, .slice a n c] w fun e w' => ∃ a' m c', e = .returned (.slice a' m c') ∧ RdX w' a' m c' (compX me l) ∧ Below w.heap.size w w' := by
  have hmx := hr.le_max
  have hl := Lib.hid hr.len
  have hA := BlkAt.new w 62 #[.int .u64 0, .int .i64 0]
  have hb0 := alloc_below w (.cells #[.int .u64 0, .int .i64 0] 62)
  go_enter Tryd.func13, Tryd.ntmps13
  go_wp2
  generalize (w.alloc (.cells #[.int .u64 0, .int .i64 0] 62)) = w1 at *
  go_loopw [6] (fun i wr => ∃ (k : Nat) (o1 o2 : Int), k ≤ n ∧ i = .int .i64 k ∧ Hid (oldV me (vX (l.take k)) = (o1, o2)) ∧ BlkAt wr w.heap.size 62 #[.int .u64 o1, .int .i64 o2] ∧ Below w.heap.size w wr) (fun i _ => n - (intOf i).toNat)
  case atStart => exact ⟨0, 0, 0, Nat.zero_le _, rfl, rfl, hA, hb0⟩
  case round =>
    clear hA hb0
    obtain ⟨k, o1, o2, hk, rfl, ho, hA, hbr⟩ := hrel
    by_cases hkn : k < n
    · have hkl : k < l.length := by rw [hl.out]; exact hkn
      obtain ⟨g, off, rfl, hg, ⟨c0, c1, c2, _, _, _⟩, _⟩ := (hr.below hbr).at hkl
      have hst := Lib.hid (oldV_step me l hkl)
      rw [ho.out] at hst
      generalize l[k] = x at *
      have hkI : (k : Int) < n := by omega
      by_cases hme : x.v.who = me
      · have hmB := beqI_t hme
        have hz := Lib.hid (hst.out.trans (if_pos hme))
        clear hst hme
        go_wp2_with (first
          | (refine wpList_blk_store (cs := #[.int .u64 x.v.oe, .int .i64 x.v.orp]) rfl (.tmp 5) (.tmp 26) rfl rfl rfl hA (Tryd.confI _ _) rfl (by simp [Value.oneCell']) ?_; intro w4 hB4 hK4 hsz4))
        have hb5 := Kp.below hbr hK4 (Nat.le_refl _) hbr.size
        go_roundw
        case rel => exact ⟨k + 1, _, _, by omega, by go_num, hz, hB4, hb5⟩
        case measure => simp [intOf]; omega
      · have hmB := beqI_f hme
        have hz := Lib.hid (hst.out.trans (if_neg hme))
        clear hst hme
        go_wp2
        go_roundw
        case rel => exact ⟨k + 1, _, _, by omega, by go_num, hz, hA, hbr⟩
        case measure => simp [intOf]; omega
    · have hkn' : Hid (k = n) := Lib.hid (by omega)
      have hkI : (n : Int) ≤ k := by omega
      have hOld := Lib.hid (show oldV me (vX l) = (o1, o2) from by rw [← ho.out, List.take_of_length_le (by rw [hl.out, hkn'.out]; exact Nat.le_refl _)])
      have hal := hA.lt
      have hws := Lib.hid hbr.size
      go_wp2
      go_loopw [7, 8] (fun o i wr => ∃ (k2 : Nat) (F : List Xc), k2 ≤ n ∧ i = .int .i64 k2 ∧ Hid (F = (l.take k2).filter fun x => sameO (o1, o2) x.v) ∧ wr.ownsRow (w.heap.size + 1) 64 6 o F.length (F.flatMap xcC) ∧ BlkAt wr w.heap.size 62 #[.int .u64 o1, .int .i64 o2] ∧ Below w.heap.size w wr) (fun _ i _ => n - (intOf i).toNat)
      case atStart => exact ⟨0, [], Nat.zero_le _, rfl, rfl, World.ownsRow_nil _ _ _ _, hA, hbr⟩
      case round =>
        clear hA hbr hal
        obtain ⟨k2, F, hk2, rfl, hF, hown, hA, hbr⟩ := hrel
        have hal := hA.lt
        have hFl : F.length ≤ k2 := by
          rw [hF.out]
          exact Nat.le_trans (List.length_filter_le _ _) (by rw [List.length_take]; omega)
        by_cases hkn : k2 < n
        · have hkl : k2 < l.length := by rw [hl.out]; exact hkn
          obtain ⟨g, off, rfl, hg, ⟨c0, c1, c2, c3, c4, c5⟩, _⟩ := (hr.below hbr).at hkl
          have HFS := Lib.hid (compX_snoc (o1, o2) l hkl)
          rw [← hF.out] at HFS
          generalize l[k2] = x at *
          have hkI2 : (k2 : Int) < n := by omega
          obtain ⟨y1, y2⟩ : wr.cell? ⟨w.heap.size, 0, none⟩ = some (.int .u64 o1) ∧ wr.cell? ⟨w.heap.size, 1, none⟩ = some (.int .i64 o2) := ⟨hA.cell rfl, hA.cell rfl⟩
          by_cases hs : sameO (o1, o2) x.v = true
          · have HZ := Lib.hid (HFS.out.trans (if_pos hs))
            obtain ⟨hs1, hs2⟩ : x.v.oe = o1 ∧ x.v.orp = o2 := by simpa [sameO] using hs
            have e1 := beqI_t hs1
            have e2 := beqI_t hs2
            clear HFS hs hs1 hs2
            go_wp2_with fail
            go_quiet (fail)
            have hbq : Below wr.heap.size wr (wr.drewN nq) := belN (Below.refl _ _) nq
            generalize wr.drewN nq = w5 at *
            have ec := fun j => hbq.cell (p := ⟨g, j, none⟩) hg
            rw [← ec] at c0 c1 c2 c3 c4 c5
            clear y1 y2 ec
            have hb7 := belS hbq (alloc_below w5 (.cells (xcA x) 64))
            have hown7 := own_belowB hown hb7
            have hlv := Rd.blk1 (w := w5) (e := 64) (cs := xcC x) (sz := 6) (b := w5.heap.size) rfl rfl
            have hA7 := hA.below hb7 hal
            have hbr7 := belS hbr hb7
            have hfl := Lib.hid (show (F.length + 1) * 64 ≤ 140737488355328 from by omega)
            go_wp2_with (first
              | (refine wpList_buildSlice1 (cs := xcA x) rfl 22 64 (.tmp 44) rfl Tryd.exE (by decide) (by rfl) rfl ?_)
              | (at_builtin; refine wpList_append_rd Tryd.exE rfl (.tmp 40) (.tmp 45) rfl hown7 rfl hlv rfl (fun u hu => xcC_one [x] u (by simpa using hu)) (by unfold maxLen; omega) hfl.out hA7.lt ?_; intro v' w8 hown' hg'))
            have hb8 := Lib.hid (belG hbr7 hg' hbr7.size (fun g hg => by have := (hown7.lt g hg).1; omega))
            have hA8 : BlkAt w8 w.heap.size 62 #[.int .u64 o1, .int .i64 o2] := (hg'.block _ hA7.lt (fun e => by have := (hown7.lt _ e.symm).1; omega)).trans hA7
            go_roundw
            case rel => exact ⟨k2 + 1, F ++ [x], by omega, by go_num, Lib.hid HZ.out.symm, by rw [List.flatMap_append, List.length_append]; simpa using hown', hA8, hb8.out⟩
            case measure => simp [intOf]; omega
          · have HZ := Lib.hid (HFS.out.trans (if_neg hs))
            have hs' : ¬ (x.v.oe = o1 ∧ x.v.orp = o2) := by simpa [sameO] using hs
            clear HFS hs
            by_cases h1 : x.v.oe = o1
            · have e2 := beqI_f (fun h => hs' ⟨h1, h⟩)
              have e1 := beqI_t h1
              clear hs' h1
              go_wp2_with fail
              go_quiet (fail)
              have hbq : Below wr.heap.size wr (wr.drewN nq) := belN (Below.refl _ _) nq
              generalize wr.drewN nq = w5 at *
              go_wp2
              go_roundw
              case rel => exact ⟨k2 + 1, F, by omega, by go_num, Lib.hid HZ.out.symm, own_belowB hown hbq, hA.below hbq hal, belS hbr hbq⟩
              case measure => simp [intOf]; omega
            · have e1 := beqI_f h1
              clear hs' h1
              go_wp2_with fail
              go_quiet (fail)
              have hbq : Below wr.heap.size wr (wr.drewN nq) := belN (Below.refl _ _) nq
              generalize wr.drewN nq = w5 at *
              go_wp2
              go_roundw
              case rel => exact ⟨k2 + 1, F, by omega, by go_num, Lib.hid HZ.out.symm, own_belowB hown hbq, hA.below hbq hal, belS hbr hbq⟩
              case measure => simp [intOf]; omega
        · have hk2n : Hid (k2 = n) := Lib.hid (by omega)
          have hkI2 : (n : Int) ≤ k2 := by omega
          obtain ⟨v, c', rfl, hrd⟩ := Rd.own hown
          have HFF := Lib.hid (show F = compX me l from by
            unfold compX
            rw [hF.out, hOld.out, List.take_of_length_le (by rw [hl.out, hk2n.out]; exact Nat.le_refl _)])
          clear hF
          go_wp2
          go_ret
          refine ⟨_, _, _, rfl, ?_, hbr⟩
          rw [← HFF.out]
          refine ⟨hrd, fun x hx => ?_⟩
          rw [HFF.out] at hx
          exact (hr.inn x (List.mem_filter.1 hx).1).below hbr
end Go.Proofs.YtikhpafdnohhkaaDoor
