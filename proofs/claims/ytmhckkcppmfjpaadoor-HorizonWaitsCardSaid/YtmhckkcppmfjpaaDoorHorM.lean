/- the horizon: the walk of HorizonWaits -/
import Derived.Test.YtmhckkcppmfjpaaDoorHorL
namespace Go.Proofs.YtmhckkcppmfjpaaDoor
open Go.RowKit Go.Sort

structure WInv (st sent : Nat) (cnt : Bool) (s : HS) : Prop where
  oth : s.oth = aw0.oth
  clock : s.clock = st
  heard : (s.l 1).heard = if cnt = true then st else 0
  ws : (s.l 1).ws = if cnt = true then [] else [⟨st, sent⟩]
theorem aw_has : hasB aw0.oth 1 = true := by decide +kernel
theorem aw_mem : memN aw0.oth = [1] := by decide +kernel
theorem WInv.all {st sent : Nat} {cnt : Bool} {s : HS} (h : WInv st sent cnt s) : s.all = if cnt = true then st else 0 := by
  unfold HS.all
  rw [h.oth, aw_mem, h.clock]
  show min st (s.l 1).heard = _
  rw [h.heard]
  split <;> omega
theorem WInv.start (st sent : Nat) : WInv st sent (decide (sent = 0)) (aw0.prom 1 st sent) := by
  have e : aw0.prom 1 st sent = (aw0.see st).set 1 ((aw0.l 1).more ⟨st, sent⟩).count := by rw [HS.prom, if_pos aw_has]; rfl
  rw [e]
  have hc : (aw0.see st).clock = st := by show max 0 st = st; omega
  refine ⟨rfl, hc, ?_, ?_⟩
  · rw [HS.set_at]
    show (if pmQ 0 ⟨st, sent⟩ = true then max 0 st else 0) = _
    unfold pmQ
    simp only [decide_eq_true_eq]
    split <;> split <;> omega
  · rw [HS.set_at]
    show [(⟨st, sent⟩ : Pm)].filter (pmN 0) = _
    by_cases h : sent = 0
    · subst h; rfl
    · rw [if_neg (by simpa using h)]
      simp [pmN, pmQ, h]
theorem WInv.step {st sent : Nat} {cnt : Bool} {s : HS} (h : WInv st sent cnt s) (q : Nat) : WInv st sent (cnt || decide (sent ≤ q)) (s.came 1 q 0) := by
  have e : s.came 1 q 0 = (s.see 0).set 1 ((s.l 1).hear q 0).count := by rw [HS.came, h.oth, if_pos aw_has]; rfl
  rw [e]
  refine ⟨h.oth, ?_, ?_, ?_⟩
  · show max s.clock 0 = st
    rw [h.clock]; omega
  · rw [HS.set_at]
    show hfold q (max (s.l 1).heard 0) (s.l 1).ws = _
    rw [h.heard, h.ws]
    cases cnt with
    | true => show max st 0 = st; omega
    | false =>
      show (if pmQ q ⟨st, sent⟩ = true then max (max 0 0) st else max 0 0) = _
      unfold pmQ
      simp only [Bool.false_or, decide_eq_true_eq]
      split <;> omega
  · rw [HS.set_at]
    show (s.l 1).ws.filter (pmN q) = _
    rw [h.ws]
    cases cnt with
    | true => rfl
    | false =>
      by_cases hh : sent ≤ q
      · simp [pmN, pmQ, hh]
      · simp [pmN, pmQ, hh]
set_option maxHeartbeats 6400000 in
set_option maxRecDepth 100000 in
theorem waits_any (st sent : Nat) (hst : st < 18446744073709551616) (hsent : sent < 4294967296) (a : Option Addr) (n c : Nat) (l : List Int) (hl : ∀ y ∈ l, (Lit.int .u32 y).wf = true) (w : World) (hr : Rd w 1 a n c (l.map (Value.int .u32))) (hT : Tab w) :
    Calls Tryd.prog 4 #[.int .u64 st, .int .u32 sent, .slice a n c] w fun e w' => e = .returned (.bool true) ∧ Below w.heap.size w w' := by
  have hln := Lib.hid (show l.length = n from by simpa using hr.length_eq)
  have hmx := Rd.le_max hr
  unfold maxLen at hmx
  have hAw := Lib.hid (awake_any w hT)
  go_enter Tryd.func4, Tryd.ntmps4
  go_wp2_with fail
  refine hAw.out.mono ?_
  rintro e w1 ⟨rfl, hb1⟩
  clear hAw
  by_cases hs0 : st < 1
  · have hs0I : (st : Int) < 1 := by omega
    go_wp2
    go_ret
    exact ⟨rfl, hb1⟩
  have hs0I : ¬ (st : Int) < 1 := by omega
  by_cases hgt : 100 < n
  · have hgtI : (100 : Int) < n := by omega
    go_wp2
    go_ret
    exact ⟨rfl, hb1⟩
  have hgtI : ¬ (100 : Int) < n := by omega
  have hbA : Below w1.heap.size w1 (w1.alloc (.cells #[.int .i64 0, .int .i64 1] 3)) := (Below.refl _ _).alloc (Nat.le_refl _) _
  have hO := Lib.hid (of_any 2 2 (some ⟨w1.heap.size, 0, none⟩) [0, 1] (w1.alloc (.cells #[.int .i64 0, .int .i64 1] 3)) (by decide) (Rd.lit (cs := #[.int .i64 0, .int .i64 1]) rfl rfl (by decide)))
  have hx : withN 0 [0, 1] < 18446744073709551616 := by decide +kernel
  have hb2 := hb1.trans (hbA.mono hb1.size)
  have HI0 := Lib.hid (WInv.start st sent)
  go_wp2_with fail
  generalize w1.alloc _ = w2 at *
  refine hO.out.mono ?_
  rintro e w' ⟨rfl, rfl⟩
  have HN := Lib.hid (fun W (hb : Below w.heap.size w W) => HEn.new (w0 := w) (W := W) 0 _ hx hb)
  have hz0 : Hid (HS.nw 0 (withN 0 [0, 1]) = aw0) := rfl
  generalize withN 0 [0, 1] = x at *
  go_wp2_with fail
  refine (HN.out _ hb2).mono ?_
  rintro e w3 ⟨b, rfl, E, _, _⟩
  rw [hz0.out] at E
  clear hO HN hb1 hb2 hbA hz0
  go_wp2_with fail
  refine (E.prom (by decide) 1 st sent hsent hst).mono ?_
  rintro e w4 ⟨rfl, O4, E4, _, _⟩
  clear E
  generalize aw0.prom 1 st sent = s0 at *
  have hsb : ((sent : Int) == 0) = decide (sent = 0) := by rw [Bool.eq_iff_iff]; simp
  have HSB := Lib.hid hsb
  clear hsb
  go_wp2
  go_loopw [8, 9, 10] (fun best cn i wr => ∃ (k z : Nat) (cnt : Bool) (s : HS) (O : Nat → Prop), k ≤ n ∧ i = .int .i64 k ∧ best = .int .u64 z ∧ cn = .bool cnt ∧ HEn w b s (k + 1) O wr ∧ WInv st sent cnt s ∧ Hid (cnt = false → z = 0)) (fun _ _ i _ => n - (intOf i).toNat)
  case atStart => exact ⟨0, 0, decide (sent = 0), s0, O4, Nat.zero_le _, rfl, rfl, by first | rfl | (rw [← HSB.out]; rfl) | (rw [← HSB.out]), E4, HI0.out, fun _ => rfl⟩
  case round => as_aux_lemma =>
    clear E4 HI0 HSB
    obtain ⟨k, z, cnt, s, O, hk, rfl, rfl, rfl, E, HI, hz⟩ := hrel
    by_cases hlt : k < n
    · have hkl : k < l.length := by rw [hln.out]; exact hlt
      have hkI : (k : Int) < n := by omega
      obtain ⟨bl, off, rfl, hbl⟩ := Rd.addr hr (by omega)
      have hyo := wf_u32_bounds (hl _ (List.getElem_mem hkl))
      have HR := Lib.hid (fun W (h : Below w.heap.size w W) => (Rd.below hr h (Nat.le_refl _)).int1 k hkl)
      generalize l[k] = y at *
      obtain ⟨q, rfl⟩ : ∃ q : Nat, y = q := ⟨y.toNat, by omega⟩
      have HI1 := HI.step q
      have HA := Lib.hid HI.all
      have HC : Hid (s.clock = st) := HI.clock
      have HA1 := Lib.hid HI1.all
      have HAC := Lib.hid (fun W (E : HEn w b s (k + 1) O W) => E.came (by omega) 1 q 0 (by omega) (by decide))
      generalize s.came 1 q 0 = t at *
      replace HI1 := Lib.hid HI1
      clear HI hyo
      have hz0 : ((0 : Int) == st) = false := by rw [beq_eq_false_iff_ne]; omega
      cases cnt with
      | true =>
        rw [if_pos rfl] at HA
        rw [Bool.true_or] at HI1 HA1
        rw [if_pos rfl] at HA1
        clear hz
        (go_wp2_with fail; refine (E.allv HA hT).mono ?_; rintro e wx ⟨rfl, Ex, _⟩; replace E := Ex; clear Ex)
        (go_wp2_with fail; refine (E.clockv HC).mono ?_; rintro e w' ⟨rfl, rfl⟩)
        have r0 := HR.out _ E.bel
        go_wp2_with fail
        refine (HAC.out _ E).mono ?_
        rintro e w6 ⟨rfl, O6, E6, _, _⟩
        clear E
        (go_wp2_with fail; refine (E6.allv HA1 hT).mono ?_; rintro e wx ⟨rfl, Ex, _⟩; replace E6 := Ex; clear Ex)
        go_wp2
        go_roundw
        case rel => exact ⟨k + 1, st, true, t, O6, by omega, by go_num, rfl, rfl, E6, HI1.out, fun h => by cases h⟩
        case measure => simp [intOf]; omega
      | false =>
        obtain rfl := hz.out rfl
        clear hz
        replace HA : Hid (s.all = 0) := HA.out.trans (if_neg (by decide))
        rw [Bool.false_or] at HI1 HA1
        (go_wp2_with fail; refine (E.allv HA hT).mono ?_; rintro e wx ⟨rfl, Ex, _⟩; replace E := Ex; clear Ex)
        (go_wp2_with fail; refine (E.clockv HC).mono ?_; rintro e w' ⟨rfl, rfl⟩)
        have r0 := HR.out _ E.bel
        go_wp2_with fail
        refine (HAC.out _ E).mono ?_
        rintro e w6 ⟨rfl, O6, E6, _, _⟩
        have r1 := HR.out _ E6.bel
        clear E r0
        by_cases hsq : sent ≤ q
        · have hq : decide (sent ≤ q) = true := decide_eq_true hsq
          have HI2 := Lib.hid HI1.out
          rw [hq] at HI2 HA1
          clear HI1
          replace HA1 : Hid (t.all = st) := HA1.out.trans (if_pos rfl)
          (go_wp2_with fail; refine (E6.allv HA1 hT).mono ?_; rintro e wx ⟨rfl, Ex, _⟩; replace E6 := Ex; clear Ex)
          go_wp2
          go_roundw
          case rel => exact ⟨k + 1, st, true, t, O6, by omega, by go_num, rfl, rfl, E6, HI2.out, fun h => by cases h⟩
          case measure => simp [intOf]; omega
        · have hq : decide (sent ≤ q) = false := decide_eq_false hsq
          have HI2 := Lib.hid HI1.out
          rw [hq] at HI2 HA1
          clear HI1
          replace HA1 : Hid (t.all = 0) := HA1.out.trans (if_neg (by decide))
          (go_wp2_with fail; refine (E6.allv HA1 hT).mono ?_; rintro e wx ⟨rfl, Ex, _⟩; replace E6 := Ex; clear Ex)
          go_wp2
          go_roundw
          case rel => exact ⟨k + 1, 0, false, t, O6, by omega, by go_num, rfl, rfl, E6, HI2.out, fun _ => rfl⟩
          case measure => simp [intOf]; omega
    · obtain rfl : k = n := by omega
      go_wp2
      go_ret
      exact ⟨rfl, E.bel⟩
theorem waits_law (x y : Int) (a : Option Addr) (n c : Nat) (w : World) (hT : Tab w) (hx : (Lit.int .u64 x).wf = true) (hy : (Lit.int .u32 y).wf = true) (hl : ∃ l, RSl (RInt .u32) 1 w a n c l) :
    Calls Tryd.prog 4 #[.int .u64 x, .int .u32 y, .slice a n c] w fun e w' => e = .returned (.bool true) ∧ Below w.heap.size w w' := by
  obtain ⟨l, hl⟩ := hl
  obtain ⟨x, rfl, gx⟩ := u64n hx
  have gy := wf_u32_bounds hy
  obtain ⟨q, rfl⟩ : ∃ q : Nat, y = q := ⟨y.toNat, by omega⟩
  exact waits_any x q gx (by omega) a n c l hl.intsWf w hl.ints hT
end Go.Proofs.YtmhckkcppmfjpaaDoor
