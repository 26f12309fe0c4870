/- plan: the reference's lost -/
import Derived.Test.YtikhpafdnohhkaaDoorPlanZ
import Derived.Test.YtikhpafdnohhkaaDoorPlanI
import Derived.Test.YtikhpafdnohhkaaDoorPlanN
namespace Go.Proofs.YtikhpafdnohhkaaDoor
set_option linter.unusedSimpArgs false
set_option linter.unusedVariables false
open Go.RowKit
def RdB (w : World) (a : Option Addr) (n c : Nat) (g : List Bool) : Prop := Rd w 1 a n c (g.map Value.bool)
theorem gAt_get {g : List Bool} {i : Nat} (h : i < g.length) : gAt g i = g[i] := by
  rw [gAt, List.getD_eq_getElem?_getD, List.getElem?_eq_getElem h]; rfl
theorem lostD_over {W : Int → Nat} {rest : List Ms} {g : List Bool} {m : Ms} (h : overM (fun q => W q) m = true) : lostD W rest g m = true := by
  unfold lostD; rw [h]; rfl
theorem lostD_drag {W : Int → Nat} {rest : List Ms} {g : List Bool} {m : Ms} {i : Nat} (hi : i < rest.length) (hg : gAt g i = true) (hd : dragM rest[i] m = true) : lostD W rest g m = true := by
  unfold lostD
  rw [Bool.or_eq_true, List.any_eq_true]
  exact .inr ⟨i, List.mem_range.2 hi, by rw [hg, List.getElem?_eq_getElem hi]; simpa using hd⟩
theorem lostD_no {W : Int → Nat} {rest : List Ms} {g : List Bool} {m : Ms} (h : overM (fun q => W q) m = false) (hn : ∀ i (hi : i < rest.length), ¬ (gAt g i = true ∧ dragM rest[i] m = true)) : lostD W rest g m = false := by
  unfold lostD
  rw [h, Bool.false_or, Bool.eq_false_iff, Ne, List.any_eq_true]
  rintro ⟨i, hi, hx⟩
  have hi' := List.mem_range.1 hi
  rw [List.getElem?_eq_getElem hi'] at hx
  rw [Bool.and_eq_true] at hx
  exact hn i hi' ⟨hx.1, by simpa using hx.2⟩
set_option maxHeartbeats 6400000 in
set_option maxRecDepth 100000 in
theorem rlost_any (a : Option Addr) (n c : Nat) (l : List Xc) (a2 : Option Addr) (n2 c2 : Nat) (rs : List Mc) (ga : Option Addr) (gc : Nat) (g : List Bool) (x : Mc) (t : Bool) (ht : t = lostD (wholeV (vX l)) (rs.map (·.m)) g x.m) (w : World)
    (hr : RdX w a n c l) (hm : RdM w a2 n2 c2 rs) (hg : RdB w ga n2 gc g) (hd : RdU w x.pa x.pn x.pc x.m.deps) :
    Calls Tryd.prog 42 #[.slice a n c, .slice a2 n2 c2, .slice ga n2 gc, .agg (mcA x)] w fun e w' => e = .returned (.bool t) ∧ Below w.heap.size w w' := by
  replace ht := Lib.hid ht
  have hX := BlkAt.new w 59 (mcA x)
  have hb1 := alloc_below w (.cells (mcA x) 59)
  obtain ⟨w1, hw1⟩ : ∃ w1, w1 = w.alloc (.cells (mcA x) 59) := ⟨_, rfl⟩
  rw [← hw1] at hX hb1
  have HWh := Lib.hid (fun W (hb : Below w1.heap.size w1 W) q => rwhole_any a n c l q W (hr.below (belS hb1 hb)))
  have HXW := Lib.hid (fun W (hb : Below w1.heap.size w1 W) => hX.below hb hX.lt)
  have hdl := Lib.hid hd.len
  have hml := Lib.hid hm.len
  have hmd := hd.le_max
  have hmm := hm.le_max
  have hgl : Hid (g.length = n2) := Lib.hid (by have := Rd.length_eq hg; simpa using this)
  have hd1 := Lib.hid (hd.below hb1)
  have hm1 := Lib.hid (hm.below hb1)
  have hg1 : Hid (RdB w1 ga n2 gc g) := Lib.hid (Rd.below hg hb1 (Nat.le_refl _))
  clear hd hm hg hr
  obtain ⟨x0, x1, x2, x3, x4, x5⟩ := blk6 hX
  obtain ⟨⟨s, seq, stamp, service, deps, payload⟩, xa, xn, xc⟩ := x
  simp only at ht hdl hd1 hmd
  go_enter Tryd.func42, Tryd.ntmps42
  go_wp2_with (first | (refine wpList_blk_box rfl (.tmp 3) rfl rfl w.heap.size rfl ?_; rw [← hw1]; clear hw1))
  clear x0 x1 x2 x3 x4 x5
  go_loopw [9] (fun i wr => ∃ k : Nat, k ≤ xn ∧ i = .int .i64 k ∧ Hid (∀ q, q < k → fitQ (fun q => wholeV (vX l) q) deps q) ∧ Below w1.heap.size w1 wr) (fun i _ => xn - (intOf i).toNat)
  case atStart => exact ⟨0, Nat.zero_le _, rfl, Lib.hid (fun q h => by omega), Below.refl _ _⟩
  case round =>
    obtain ⟨k, hk, rfl, hf, hbr⟩ := hrel
    have x4 := (HXW.out wr hbr).cell (i := 4) (v := .slice xa xn xc) rfl
    by_cases hkn : k < xn
    · have hkl : k < deps.length := by rw [hdl.out]; exact hkn
      obtain ⟨g1, o1, hga, hgl1⟩ := hd1.out.addr (by omega)
      subst hga
      have c0 := (hd1.out.below hbr).at hkl
      have hgd : Hid (deps.getD k 0 = deps[k]) := Lib.hid (by rw [List.getD_eq_getElem?_getD, List.getElem?_eq_getElem hkl]; rfl)
      have hkI : (k : Int) < xn := by omega
      have HF : Hid (fitQ (fun q => wholeV (vX l) q) deps k ↔ if k < 64 then deps[k] ≤ wholeV (vX l) k else deps[k] = 0) := Lib.hid (by unfold fitQ; rw [hgd.out])
      have HN := Lib.hid (fun h => show t = true from ht.out.trans (lostD_over (fit_not (K := fun q => wholeV (vX l) q) (m := ⟨s, seq, stamp, service, deps, payload⟩) hkl h)))
      have HS := Lib.hid (fun (h : fitQ (fun q => wholeV (vX l) q) deps k) => show ∀ q, q < k + 1 → fitQ (fun q => wholeV (vX l) q) deps q from fun q hq => by rcases Nat.lt_succ_iff_lt_or_eq.1 hq with h2 | rfl; exact hf.out q h2; exact h)
      clear hgd
      generalize deps[k] = y at *
      by_cases h64 : k < 64
      · have e1 : decide ((63 : Int) < k) = false := decide_eq_false (by omega)
        have e2 : decide ((k : Int) < 64) = true := decide_eq_true (by omega)
        rw [if_pos h64] at HF
        have HW1 := Lib.hid (fun W (hb : Below w1.heap.size w1 W) => HWh.out W hb k)
        generalize wholeV (vX l) k = wn at *
        by_cases h1 : y ≤ wn
        · have e3 : decide ((wn : Int) < y) = false := decide_eq_false (by omega)
          have hq := Lib.hid (HS.out (HF.out.2 h1))
          clear HF HN HS h1
          generalize (y : Int) = yi at *
          generalize (wn : Int) = wi at *
          go_wp2_with fail
          go_quiet (first | (go_at_call 17; exact qS (HW1.out _ (belN hbr _))))
          have hbq := belN hbr nq
          generalize wr.drewN nq = w2 at *
          go_wp2
          go_roundw
          case rel => exact ⟨k + 1, by omega, by go_num, hq, hbq⟩
          case measure => simp [intOf]; omega
        · have e3 : decide ((wn : Int) < y) = true := decide_eq_true (by omega)
          have hz := Lib.hid (HN.out (fun h => h1 (HF.out.1 h)))
          clear HF HN HS h1
          generalize (y : Int) = yi at *
          generalize (wn : Int) = wi at *
          go_wp2_with fail
          go_quiet (first | (go_at_call 17; exact qS (HW1.out _ (belN hbr _))))
          have hbq := belN hbr nq
          generalize wr.drewN nq = w2 at *
          go_wp2
          go_ret
          exact ⟨by rw [hz.out]; rfl, belS hb1 hbq⟩
      · have e1 : decide ((63 : Int) < k) = true := decide_eq_true (by omega)
        have e2 : decide ((k : Int) < 64) = false := decide_eq_false (by omega)
        rw [if_neg h64] at HF
        by_cases h1 : y = 0
        · have e3 : decide ((0 : Int) < y) = false := decide_eq_false (by omega)
          have hq := Lib.hid (HS.out (HF.out.2 h1))
          clear HF HN HS h1
          generalize (y : Int) = yi at *
          go_wp2_with fail
          go_quiet (fail)
          have hbq := belN hbr nq
          generalize wr.drewN nq = w2 at *
          go_wp2
          go_roundw
          case rel => exact ⟨k + 1, by omega, by go_num, hq, hbq⟩
          case measure => simp [intOf]; omega
        · have e3 : decide ((0 : Int) < y) = true := decide_eq_true (by omega)
          have hz := Lib.hid (HN.out (fun h => h1 (HF.out.1 h)))
          clear HF HN HS h1
          generalize (y : Int) = yi at *
          go_wp2_with fail
          go_quiet (fail)
          have hbq := belN hbr nq
          generalize wr.drewN nq = w2 at *
          go_wp2
          go_ret
          exact ⟨by rw [hz.out]; rfl, belS hb1 hbq⟩
    · have hkI : (xn : Int) ≤ k := by omega
      have hov := Lib.hid (show overM (fun q => wholeV (vX l) q) ⟨s, seq, stamp, service, deps, payload⟩ = false from fit_all (fun q h => hf.out q (by have := hdl.out; simp only at h; omega)))
      clear hf
      go_wp2
      go_loopw [10, 11] (fun i _ wr => ∃ k2 : Nat, k2 ≤ n2 ∧ i = .int .i64 k2 ∧ Hid (∀ j (hj : j < rs.length), j < k2 → ¬ (gAt g j = true ∧ dragM rs[j].m ⟨s, seq, stamp, service, deps, payload⟩ = true)) ∧ Below w1.heap.size w1 wr) (fun i _ _ => n2 - (intOf i).toNat)
      case atStart => exact ⟨0, Nat.zero_le _, rfl, Lib.hid (fun j _ h => by omega), hbr⟩
      case round =>
        clear x4 hbr
        obtain ⟨k2, hk2, rfl, hno, hbr⟩ := hrel
        have hXr := HXW.out wr hbr
        by_cases hkn2 : k2 < n2
        · have hkl : k2 < rs.length := by rw [hml.out]; exact hkn2
          obtain ⟨gm, om, rfl, hgm, ⟨c0, c1, c2, c3, c4, c5⟩, hin⟩ := (hm1.out.below hbr).at hkl
          obtain ⟨gg, og, hga, hggl⟩ := Rd.addr hg1.out (by omega)
          subst hga
          have hgk : k2 < g.length := by rw [hgl.out]; exact hkn2
          have z0 : wr.cell? ⟨gg, og + k2, none⟩ = some (.bool g[k2]) := Rd.at (Rd.below hg1.out hbr (Nat.le_refl _)) (by rw [List.getElem?_map, List.getElem?_eq_getElem hgk]; rfl)
          have hga2 := Lib.hid (gAt_get hgk)
          have hkI2 : (k2 : Int) < n2 := by omega
          have HY := Lib.hid (fun (h1 : gAt g k2 = true) (h2 : dragM rs[k2].m ⟨s, seq, stamp, service, deps, payload⟩ = true) => show t = true from ht.out.trans (lostD_drag (i := k2) (by rw [List.length_map]; exact hkl) h1 (by rw [List.getElem_map]; exact h2)))
          have HN := Lib.hid (fun (h : ¬ (gAt g k2 = true ∧ dragM rs[k2].m ⟨s, seq, stamp, service, deps, payload⟩ = true)) => show ∀ j (hj : j < rs.length), j < k2 + 1 → ¬ (gAt g j = true ∧ dragM rs[j].m ⟨s, seq, stamp, service, deps, payload⟩ = true) from fun j hj hjk => by
            by_cases e : j = k2
            · subst e; exact h
            · exact hno.out j hj (by omega))
          generalize rs[k2] = z at *
          generalize g[k2] = gb at *
          clear hin hno
          obtain ⟨⟨s2, q2, t2, v2, d2, p2⟩, za, zn, zc⟩ := z
          simp only at c0 c1 c2 c3 c4 c5
          have hxlt := hXr.lt
          go_wp2_with (first
            | (refine wpList_blk_alloc rfl rfl Tryd.msZ wr.heap.size rfl ?_)
            | (refine wpList_blk_store (cs := mcA ⟨⟨s2, q2, t2, v2, d2, p2⟩, za, zn, zc⟩) rfl (.tmp 11) (.tmp 53) rfl rfl rfl (BlkAt.new wr _ _) (Tryd.msI _) rfl (mcA_one _) ?_; intro w4 hZ hK4 hsz4))
          have hb4 := alloc_store hK4
          have hX4 := hXr.below hb4 hxlt
          obtain ⟨x0, x1, x2, x3, x4, x5⟩ := blk6 hX4
          obtain ⟨y0, y1, y2, y3, y4, y5⟩ := blk6 hZ
          replace z0 := (hb4.cell (p := ⟨gg, og + k2, none⟩) (Nat.lt_of_lt_of_le hggl hbr.size)).trans z0
          have hbr4 := belS hbr hb4
          clear c0 c1 c2 c3 c4 c5 hK4 hsz4 hXr hb4
          have HDr : Hid (dragM ⟨s2, q2, t2, v2, d2, p2⟩ ⟨s, seq, stamp, service, deps, payload⟩ = (decide (s2 = s ∧ q2 ≤ seq) || decide (q2 ≤ atL deps s2))) := rfl
          rw [hga2.out] at HY HN
          rw [HDr.out] at HY HN
          have HAt := Lib.hid (fun W (hb : Below w1.heap.size w1 W) => atR_any xa xn xc deps s2 W (hd1.out.below hb))
          generalize atL deps s2 = v at *
          cases gb with
          | false =>
            have hq := Lib.hid (HN.out (fun h => by cases h.1))
            clear HY HN HAt
            go_quiet (fail)
            have hbq := belN hbr4 nq
            generalize w4.drewN nq = w5 at *
            go_wp2
            go_roundw
            case rel => exact ⟨k2 + 1, by omega, by go_num, hq, hbq⟩
            case measure => simp [intOf]; omega
          | true =>
            by_cases hv : q2 ≤ v
            · have hz := Lib.hid (HY.out rfl (by simp [hv]))
              have e3 : decide ((q2 : Int) ≤ v) = true := decide_eq_true (by omega)
              clear HY HN hv
              by_cases hs : s2 = s
              · have e1 := beqI_t hs
                by_cases hl : q2 ≤ seq
                · have e2 : decide ((q2 : Int) ≤ seq) = true := decide_eq_true (by omega)
                  clear hs hl
                  generalize (q2 : Int) = q2i at *
                  generalize (seq : Int) = seqi at *
                  generalize (v : Int) = vi at *
                  go_quiet (first | (go_at_call 23; exact qS (HAt.out _ (belN hbr4 _))))
                  have hbq := belN hbr4 nq
                  generalize w4.drewN nq = w5 at *
                  go_wp2
                  go_ret
                  exact ⟨by rw [hz.out]; rfl, belS hb1 hbq⟩
                · have e2 : decide ((q2 : Int) ≤ seq) = false := decide_eq_false (by omega)
                  clear hs hl
                  generalize (q2 : Int) = q2i at *
                  generalize (seq : Int) = seqi at *
                  generalize (v : Int) = vi at *
                  go_quiet (first | (go_at_call 23; exact qS (HAt.out _ (belN hbr4 _))))
                  have hbq := belN hbr4 nq
                  generalize w4.drewN nq = w5 at *
                  go_wp2
                  go_ret
                  exact ⟨by rw [hz.out]; rfl, belS hb1 hbq⟩
              · have e1 := beqI_f hs
                clear hs
                generalize (q2 : Int) = q2i at *
                generalize (seq : Int) = seqi at *
                generalize (v : Int) = vi at *
                go_quiet (first | (go_at_call 23; exact qS (HAt.out _ (belN hbr4 _))))
                have hbq := belN hbr4 nq
                generalize w4.drewN nq = w5 at *
                go_wp2
                go_ret
                exact ⟨by rw [hz.out]; rfl, belS hb1 hbq⟩
            · have e3 : decide ((q2 : Int) ≤ v) = false := decide_eq_false (by omega)
              by_cases hs : s2 = s
              · have e1 := beqI_t hs
                by_cases hl : q2 ≤ seq
                · have hz := Lib.hid (HY.out rfl (by simp [hs, hl]))
                  have e2 : decide ((q2 : Int) ≤ seq) = true := decide_eq_true (by omega)
                  clear HY HN hs hl hv
                  generalize (q2 : Int) = q2i at *
                  generalize (seq : Int) = seqi at *
                  generalize (v : Int) = vi at *
                  go_quiet (first | (go_at_call 23; exact qS (HAt.out _ (belN hbr4 _))))
                  have hbq := belN hbr4 nq
                  generalize w4.drewN nq = w5 at *
                  go_wp2
                  go_ret
                  exact ⟨by rw [hz.out]; rfl, belS hb1 hbq⟩
                · have hq := Lib.hid (HN.out (by simp [hl, hv]))
                  have e2 : decide ((q2 : Int) ≤ seq) = false := decide_eq_false (by omega)
                  clear HY HN hs hl hv
                  generalize (q2 : Int) = q2i at *
                  generalize (seq : Int) = seqi at *
                  generalize (v : Int) = vi at *
                  go_quiet (first | (go_at_call 23; exact qS (HAt.out _ (belN hbr4 _))))
                  have hbq := belN hbr4 nq
                  generalize w4.drewN nq = w5 at *
                  go_wp2
                  go_roundw
                  case rel => exact ⟨k2 + 1, by omega, by go_num, hq, hbq⟩
                  case measure => simp [intOf]; omega
              · have hq := Lib.hid (HN.out (by simp [hs, hv]))
                have e1 := beqI_f hs
                clear HY HN hs hv
                generalize (q2 : Int) = q2i at *
                generalize (seq : Int) = seqi at *
                generalize (v : Int) = vi at *
                go_quiet (first | (go_at_call 23; exact qS (HAt.out _ (belN hbr4 _))))
                have hbq := belN hbr4 nq
                generalize w4.drewN nq = w5 at *
                go_wp2
                go_roundw
                case rel => exact ⟨k2 + 1, by omega, by go_num, hq, hbq⟩
                case measure => simp [intOf]; omega
        · have hkI2 : (n2 : Int) ≤ k2 := by omega
          have hz := Lib.hid (show t = false from ht.out.trans (lostD_no hov.out (fun i hi => by
            rw [List.length_map] at hi
            rw [List.getElem_map]
            exact hno.out i hi (by have := hml.out; omega))))
          clear hXr
          go_wp2
          go_ret
          exact ⟨by rw [hz.out]; rfl, belS hb1 hbr⟩
end Go.Proofs.YtikhpafdnohhkaaDoor
