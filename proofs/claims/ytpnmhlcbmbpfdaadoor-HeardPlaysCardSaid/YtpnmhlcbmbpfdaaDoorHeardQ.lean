/- walks of the reference's ear: Reach, Epoch, Strange -/
import Derived.Test.YtpnmhlcbmbpfdaaDoorHeardO
namespace Go.Proofs.YtpnmhlcbmbpfdaaDoor
open Go.RowKit Go.Sort

theorem bits_yes {z k : Nat} {Q : Nat → Bool} (h : ∀ i, i < 64 → z.testBit i = (decide (i < k) && Q i)) (hk : k < 64) (hq : Q k = true) : ∀ i, i < 64 → (z ||| bitN k).testBit i = (decide (i < k + 1) && Q i) := fun i hi => by
  rw [Nat.testBit_or, h i hi, bitN_bit]
  by_cases e : i = k
  · subst e
    rw [hq]
    simp; omega
  · have e1 : decide ((k : Int) = i) = false := by simp; omega
    have e2 : decide (i < k + 1) = decide (i < k) := by rw [decide_eq_decide]; omega
    rw [e1, e2, Bool.and_false, Bool.or_false]
theorem bits_no {z k : Nat} {Q : Nat → Bool} (h : ∀ i, i < 64 → z.testBit i = (decide (i < k) && Q i)) (hq : Q k = false) : ∀ i, i < 64 → z.testBit i = (decide (i < k + 1) && Q i) := fun i hi => by
  rw [h i hi]
  by_cases e : i = k
  · subst e; rw [hq, Bool.and_false, Bool.and_false]
  · have e2 : decide (i < k + 1) = decide (i < k) := by rw [decide_eq_decide]; omega
    rw [e2]
theorem shr_bit (x k : Nat) (hx : x < 18446744073709551616) : bits BinOp.and IntKind.u64 ((x : Int) / 2 ^ k) 1 = (((x.testBit k).toNat : Nat) : Int) := by
  have hd : x / 2 ^ k < 18446744073709551616 := Nat.lt_of_le_of_lt (Nat.div_le_self _ _) hx
  have := u64_and_nat (x / 2 ^ k) 1 hd (by decide)
  rw [show ((2 : Int) ^ k) = ((2 ^ k : Nat) : Int) from by simp, show (x : Int) / ((2 ^ k : Nat) : Int) = ((x / 2 ^ k : Nat) : Int) from by simp]
  rw [show ((1 : Nat) : Int) = 1 from rfl] at this
  rw [this, Nat.and_one_is_mod, Nat.testBit_eq_decide_div_mod_eq]
  rcases Nat.mod_two_eq_zero_or_one (x / 2 ^ k) with e | e <;> rw [e] <;> rfl
theorem shl_bit (k : Nat) (hk : k < 64) : IntKind.u64.wrap ((2 : Int) ^ k) = ((bitN k : Nat) : Int) := by
  have hb := bitN_lt k
  have he : bitN k = 2 ^ k := by rw [bitN, if_pos (by omega), Int.toNat_natCast]
  rw [he] at hb ⊢
  rw [IntKind.wrap_u64, show ((2 : Int) ^ k) = ((2 ^ k : Nat) : Int) from by simp]
  omega
set_option maxHeartbeats 3200000 in
set_option maxRecDepth 100000 in
theorem rreach_any (me n tm : Int) (now : Nat) (a : Option Addr) (c cp : Nat) (all : List Sd) (hnow : now ≤ 1000000) (hat : ∀ e ∈ all, e.at_ ≤ 1000000) (w : World) (hr : Rd w 9 a c cp (all.flatMap sdF)) :
    Calls Tryd.prog 17 #[.agg #[.int .i64 me, .int .i64 n, .int .i64 tm, .int .i64 now, .slice a c cp]] w fun e w' => ∃ z : Nat, e = .returned (.int .u64 z) ∧ Hid (z < 18446744073709551616 ∧ ∀ i, i < 64 → z.testBit i = reachQ me n tm now all i) ∧ Below w.heap.size w w' := by
  have hA := BlkAt.new w 31 #[.int .i64 me, .int .i64 n, .int .i64 tm, .int .i64 now, .slice a c cp]
  have hb : Below w.heap.size w (w.alloc (.cells #[.int .i64 me, .int .i64 n, .int .i64 tm, .int .i64 now, .slice a c cp] 31)) := (Below.refl _ _).alloc (Nat.le_refl _) _
  have HR := Lib.hid (fun W (h : Below w.heap.size w W) p => reached_any me n tm now a c cp all p hnow hat W (Rd.below hr h (Nat.le_refl _)))
  have HO := Lib.hid (fun p W => other_any me n tm now a c cp p W)
  clear hr hat hnow
  go_enter Tryd.func17, Tryd.ntmps17
  go_wp2
  generalize w.alloc _ = w1 at *
  go_loopw [3, 4] (fun zv i wr => ∃ (k z : Nat), k ≤ 64 ∧ i = .int .i64 k ∧ zv = .int .u64 z ∧ z < 18446744073709551616 ∧ Hid (∀ i, i < 64 → z.testBit i = (decide (i < k) && reachQ me n tm now all i)) ∧ Below w1.heap.size w1 wr) (fun _ i _ => 64 - (intOf i).toNat)
  case atStart => exact ⟨0, 0, Nat.zero_le _, rfl, rfl, by decide, (fun i _ => by simp), Below.refl _ _⟩
  case round =>
    obtain ⟨k, z, hk, rfl, rfl, hz1, hz, hbr⟩ := hrel
    by_cases hlt : k < 64
    · have hkI : (k : Int) < 64 := by omega
      have e0 : wr.cell? ⟨w.heap.size, 0, none⟩ = some (.int .i64 me) := (hA.below hbr hA.lt).cell rfl; have e1 : wr.cell? ⟨w.heap.size, 1, none⟩ = some (.int .i64 n) := (hA.below hbr hA.lt).cell rfl; have e2 : wr.cell? ⟨w.heap.size, 2, none⟩ = some (.int .i64 tm) := (hA.below hbr hA.lt).cell rfl; have e3 : wr.cell? ⟨w.heap.size, 3, none⟩ = some (.int .i64 now) := (hA.below hbr hA.lt).cell rfl; have e4 : wr.cell? ⟨w.heap.size, 4, none⟩ = some (.slice a c cp) := (hA.below hbr hA.lt).cell rfl
      have hbw := belS hb hbr
      have HQ := Lib.hid (show reachQ me n tm now all k = (decide ((k : Int) = me) || (other me n k && reachedB tm now (ent k all))) from rfl)
      have hshl := shl_bit k hlt
      have hor := u64_or_nat z (bitN k) hz1 (bitN_lt _)
      by_cases hm : (k : Int) = me
      · have hN := Lib.hid (bits_yes hz.out hlt (by rw [HQ.out, decide_eq_true hm]; rfl))
        have hmB : ((k : Int) == me) = true := by simpa using hm
        clear HQ hm
        go_wp2
        go_roundw
        case rel => exact ⟨k + 1, z ||| bitN k, by omega, by go_num, rfl, or_lt hz1 (bitN_lt _), hN.out, hbr⟩
        case measure => simp [intOf]; omega
      · have hmB : ((k : Int) == me) = false := by simpa using hm
        have HO2 := HO.out k
        have HR2 := HR.out
        cases ho : other me n k with
        | false =>
          rw [ho] at HO2
          replace HO2 := Lib.hid HO2
          have hN := Lib.hid (bits_no hz.out (by rw [HQ.out, decide_eq_false hm, ho]; rfl))
          clear HQ hm HR2 ho hshl hor
          go_wp2_with fail
          refine (HO2.out _).mono ?_
          rintro e w4 ⟨rfl, hb4⟩
          go_wp2
          go_roundw
          case rel => exact ⟨k + 1, z, by omega, by go_num, rfl, hz1, hN.out, belS hbr hb4⟩
          case measure => simp [intOf]; omega
        | true =>
          rw [ho] at HO2
          replace HO2 := Lib.hid HO2
          have hRd := Lib.hid (show reachQ me n tm now all k = reachedB tm now (ent k all) from by rw [HQ.out, decide_eq_false hm, ho]; rfl)
          have HR3 := Lib.hid (fun W h => HR2 W h (k : Int))
          generalize reachedB tm now (ent k all) = rb at *
          clear HQ hm HR2 ho HR
          go_wp2_with fail
          refine (HO2.out _).mono ?_
          rintro e w4 ⟨rfl, hb4⟩
          have hbr4 := belS hbr hb4
          obtain ⟨q0, q1, q2, q3, q4⟩ : (w4.cell? ⟨w.heap.size, 0, none⟩ = some (.int .i64 me) ∧ w4.cell? ⟨w.heap.size, 1, none⟩ = some (.int .i64 n) ∧ w4.cell? ⟨w.heap.size, 2, none⟩ = some (.int .i64 tm) ∧ w4.cell? ⟨w.heap.size, 3, none⟩ = some (.int .i64 now) ∧ w4.cell? ⟨w.heap.size, 4, none⟩ = some (.slice a c cp)) := ⟨(hA.below hbr4 hA.lt).cell rfl, (hA.below hbr4 hA.lt).cell rfl, (hA.below hbr4 hA.lt).cell rfl, (hA.below hbr4 hA.lt).cell rfl, (hA.below hbr4 hA.lt).cell rfl⟩
          go_wp2_with fail
          refine (HR3.out _ (belS hb hbr4)).mono ?_
          rintro e w5 ⟨rfl, hb5⟩
          have hbr5 := belS hbr4 hb5
          cases rb with
          | false =>
            have hN := Lib.hid (bits_no hz.out hRd.out)
            go_wp2
            go_roundw
            case rel => exact ⟨k + 1, z, by omega, by go_num, rfl, hz1, hN.out, hbr5⟩
            case measure => simp [intOf]; omega
          | true =>
            have hN := Lib.hid (bits_yes hz.out hlt hRd.out)
            go_wp2
            go_roundw
            case rel => exact ⟨k + 1, z ||| bitN k, by omega, by go_num, rfl, or_lt hz1 (bitN_lt _), hN.out, hbr5⟩
            case measure => simp [intOf]; omega
    · obtain rfl : k = 64 := by omega
      go_wp2
      go_ret
      exact ⟨z, rfl, ⟨hz1, fun i hi => by rw [hz.out i hi, decide_eq_true hi]; rfl⟩, belS hb hbr⟩
def topK (x : Bt) (n : Nat) : Nat → Nat | 0 => n | 1 => max n x.ep | 2 => max (max n x.ep) x.ce | _ => x.top n
def topV (x : Bt) : Nat → Nat | 0 => x.ep | 1 => x.ce | _ => x.pe
theorem topK_succ (x : Bt) (n j : Nat) (hj : j < 3) : topK x n (j + 1) = max (topK x n j) (topV x j) := by
  obtain rfl | rfl | rfl : j = 0 ∨ j = 1 ∨ j = 2 := by omega
  all_goals rfl
theorem top_zero (n : Nat) : Bt.zero.top n = n := by simp [Bt.top, Bt.zero]
set_option maxHeartbeats 3200000 in
set_option maxRecDepth 100000 in
theorem repoch_any (me n tm now : Int) (a : Option Addr) (c cp : Nat) (all : List Sd) (w : World) (hr : Rd w 9 a c cp (all.flatMap sdF)) :
    Calls Tryd.prog 19 #[.agg #[.int .i64 me, .int .i64 n, .int .i64 tm, .int .i64 now, .slice a c cp]] w fun e w' => e = .returned (.int .u64 (repochN all 64)) ∧ Below w.heap.size w w' := by
  have hA := BlkAt.new w 31 #[.int .i64 me, .int .i64 n, .int .i64 tm, .int .i64 now, .slice a c cp]
  have hb : Below w.heap.size w (w.alloc (.cells #[.int .i64 me, .int .i64 n, .int .i64 tm, .int .i64 now, .slice a c cp] 31)) := (Below.refl _ _).alloc (Nat.le_refl _) _
  have HO := Lib.hid (fun W (h : Below w.heap.size w W) p ob ok hoe => rof_any me n tm now a c cp all p ob ok hoe W (Rd.below hr h (Nat.le_refl _)))
  clear hr
  go_enter Tryd.func19, Tryd.ntmps19
  go_wp2
  generalize w.alloc _ = w1 at *
  go_loopw [3, 4] (fun zv i wr => ∃ (k z : Nat), k ≤ 64 ∧ i = .int .i64 k ∧ zv = .int .u64 z ∧ Hid (z = repochN all k) ∧ Below w1.heap.size w1 wr) (fun _ i _ => 64 - (intOf i).toNat)
  case atStart => exact ⟨0, 0, Nat.zero_le _, rfl, rfl, rfl, Below.refl _ _⟩
  case round =>
    obtain ⟨k, z, hk, rfl, rfl, hz, hbr⟩ := hrel
    by_cases hlt : k < 64
    · have hkI : (k : Int) < 64 := by omega
      have e0 : wr.cell? ⟨w.heap.size, 0, none⟩ = some (.int .i64 me) := (hA.below hbr hA.lt).cell rfl; have e1 : wr.cell? ⟨w.heap.size, 1, none⟩ = some (.int .i64 n) := (hA.below hbr hA.lt).cell rfl; have e2 : wr.cell? ⟨w.heap.size, 2, none⟩ = some (.int .i64 tm) := (hA.below hbr hA.lt).cell rfl; have e3 : wr.cell? ⟨w.heap.size, 3, none⟩ = some (.int .i64 now) := (hA.below hbr hA.lt).cell rfl; have e4 : wr.cell? ⟨w.heap.size, 4, none⟩ = some (.slice a c cp) := (hA.below hbr hA.lt).cell rfl
      have hbw := belS hb hbr
      have HS := Lib.hid (repochN_succ all k)
      obtain ⟨⟨ob, ok⟩, hoe⟩ : ∃ q : Bt × Bool, (ent k all).ofE = q := ⟨_, rfl⟩
      have HO2 := Lib.hid (fun W h => HO.out W h (k : Int) ob ok hoe)
      replace HS : Hid (repochN all (k + 1) = ob.top z) := HS.out.trans (by rw [hoe, ← hz.out])
      have hok := Lib.hid (fun (h : ok = false) => show ob = .zero from by
        have := hoe
        unfold En.ofE at this
        split at this
        · rw [Prod.mk.injEq] at this; rw [← this.2] at h; cases h
        · exact (Prod.mk.inj this).1.symm)
      clear hoe
      go_wp2_with fail
      refine (HO2.out _ hbw).mono ?_
      rintro e w4 ⟨s, rfl, hsb, hb4⟩
      have hbr4 := belS hbr hb4
      obtain ⟨sp, sat, sbt, sg, sb⟩ := s
      obtain rfl : sb = ob := hsb.out
      cases ok with
      | false =>
        have hN : Hid (repochN all (k + 1) = z) := HS.out.trans (by rw [hok.out rfl]; exact top_zero z)
        go_wp2
        go_roundw
        case rel => exact ⟨k + 1, z, by omega, by go_num, rfl, hN.out.symm, hbr4.alloc hbr4.size _⟩
        case measure => simp [intOf]; omega
      | true =>
        have hT : BlkAt ((w4.alloc (.cells #[.int .i64 sp, .int .i64 sat, .bool sbt, .bool sg, .int .u64 sb.ce, .int .i64 sb.cr, .int .u64 sb.pe, .int .i64 sb.pr, .int .u64 sb.ep] 39)).alloc (.cells #[.int .u64 sb.ep, .int .u64 sb.ce, .int .u64 sb.pe] 70)) (w4.heap.size + 1) 70 #[.int .u64 sb.ep, .int .u64 sb.ce, .int .u64 sb.pe] := by simpa using BlkAt.new (w4.alloc (.cells #[.int .i64 sp, .int .i64 sat, .bool sbt, .bool sg, .int .u64 sb.ce, .int .i64 sb.cr, .int .u64 sb.pe, .int .i64 sb.pr, .int .u64 sb.ep] 39)) 70 #[.int .u64 sb.ep, .int .u64 sb.ce, .int .u64 sb.pe]
        have hb5 : Below w1.heap.size w1 ((w4.alloc (.cells #[.int .i64 sp, .int .i64 sat, .bool sbt, .bool sg, .int .u64 sb.ce, .int .i64 sb.cr, .int .u64 sb.pe, .int .i64 sb.pr, .int .u64 sb.ep] 39)).alloc (.cells #[.int .u64 sb.ep, .int .u64 sb.ce, .int .u64 sb.pe] 70)) := (hbr4.alloc hbr4.size _).alloc (by simp; have := hbr4.size; omega) _
        clear e0 e1 e2 e3 e4 HO2
        go_wp2
        generalize World.alloc (World.alloc w4 _) _ = w5 at *
        go_loopw [3, 8] (fun zv i wr2 => ∃ (j y : Nat), j ≤ 3 ∧ i = .int .i64 j ∧ zv = .int .u64 y ∧ Hid (y = topK sb z j) ∧ Below w5.heap.size w5 wr2) (fun _ i _ => 3 - (intOf i).toNat)
        case atStart => exact ⟨0, z, Nat.zero_le _, rfl, rfl, rfl, Below.refl _ _⟩
        case round =>
          obtain ⟨j, y, hj, rfl, rfl, hy, hbq⟩ := hrel
          by_cases hlt3 : j < 3
          · have hjI : (j : Int) < 3 := by omega
            have hTq := hT.below hbq hT.lt
            have hc : wr.cell? ⟨w4.heap.size + 1, j, none⟩ = some (.int .u64 (topV sb j)) := by
              obtain rfl | rfl | rfl : j = 0 ∨ j = 1 ∨ j = 2 := by omega
              all_goals exact hTq.cell rfl
            have hs := topK_succ sb z j hlt3
            rw [← hy.out] at hs
            generalize topV sb j = v at *
            rcases Nat.lt_or_ge y v with hm | hm
            · have hN := Lib.hid (hs.trans (Nat.max_eq_right (Nat.le_of_lt hm)))
              clear hs
              go_wp2
              go_roundw
              case rel => exact ⟨j + 1, v, by omega, by go_num, rfl, hN.out.symm, hbq⟩
              case measure => simp [intOf]; omega
            · have hN := Lib.hid (hs.trans (Nat.max_eq_left hm))
              clear hs
              go_wp2
              go_roundw
              case rel => exact ⟨j + 1, y, by omega, by go_num, rfl, hN.out.symm, hbq⟩
              case measure => simp [intOf]; omega
          · have hj3 : j = 3 := by omega
            have hjI : ¬ (j : Int) < 3 := by omega
            have hN : Hid (repochN all (k + 1) = y) := HS.out.trans (by rw [hy.out, hj3]; rfl)
            go_wp2
            go_roundw
            case rel => exact ⟨k + 1, y, by omega, by go_num, rfl, hN.out.symm, belS hb5 hbq⟩
            case measure => simp [intOf]; omega
    · obtain rfl : k = 64 := by omega
      go_wp2
      go_ret
      exact ⟨ret_int (by rw [hz.out]), belS hb hbr⟩
set_option maxHeartbeats 3200000 in
set_option maxRecDepth 100000 in
theorem rstrange_any (me n tm now : Int) (a : Option Addr) (c cp : Nat) (all : List Sd) (x ce : Nat) (cr : Int) (hx : x < 18446744073709551616) (w : World) (hr : Rd w 9 a c cp (all.flatMap sdF)) :
    Calls Tryd.prog 21 #[.agg #[.int .i64 me, .int .i64 n, .int .i64 tm, .int .i64 now, .slice a c cp], .int .u64 x, .agg #[.int .u64 ce, .int .i64 cr]] w fun e w' => ∃ z : Nat, e = .returned (.int .u64 z) ∧ Hid (z < 18446744073709551616 ∧ ∀ i, i < 64 → z.testBit i = strQ ce cr x all i) ∧ Below w.heap.size w w' := by
  have hA : BlkAt ((w.alloc (.cells #[.int .i64 me, .int .i64 n, .int .i64 tm, .int .i64 now, .slice a c cp] 31)).alloc (.cells #[.int .u64 ce, .int .i64 cr] 25)) w.heap.size 31 #[.int .i64 me, .int .i64 n, .int .i64 tm, .int .i64 now, .slice a c cp] := BlkAt.alloc (BlkAt.new w _ _) _
  have hC : BlkAt ((w.alloc (.cells #[.int .i64 me, .int .i64 n, .int .i64 tm, .int .i64 now, .slice a c cp] 31)).alloc (.cells #[.int .u64 ce, .int .i64 cr] 25)) (w.heap.size + 1) 25 #[.int .u64 ce, .int .i64 cr] := by simpa using BlkAt.new (w.alloc (.cells #[.int .i64 me, .int .i64 n, .int .i64 tm, .int .i64 now, .slice a c cp] 31)) 25 #[.int .u64 ce, .int .i64 cr]
  have hb : Below w.heap.size w ((w.alloc (.cells #[.int .i64 me, .int .i64 n, .int .i64 tm, .int .i64 now, .slice a c cp] 31)).alloc (.cells #[.int .u64 ce, .int .i64 cr] 25)) := ((Below.refl _ _).alloc (Nat.le_refl _) _).alloc (by simp) _
  have HO := Lib.hid (fun W (h : Below w.heap.size w W) p ob ok hoe => rof_any me n tm now a c cp all p ob ok hoe W (Rd.below hr h (Nat.le_refl _)))
  clear hr
  go_enter Tryd.func21, Tryd.ntmps21
  go_wp2
  generalize (w.alloc _).alloc _ = w1 at *
  go_loopw [7, 8] (fun zv i wr => ∃ (k z : Nat), k ≤ 64 ∧ i = .int .i64 k ∧ zv = .int .u64 z ∧ z < 18446744073709551616 ∧ Hid (∀ i, i < 64 → z.testBit i = (decide (i < k) && strQ ce cr x all i)) ∧ Below w1.heap.size w1 wr) (fun _ i _ => 64 - (intOf i).toNat)
  case atStart => exact ⟨0, 0, Nat.zero_le _, rfl, rfl, by decide, (fun i _ => by simp), Below.refl _ _⟩
  case round =>
    obtain ⟨k, z, hk, rfl, rfl, hz1, hz, hbr⟩ := hrel
    by_cases hlt : k < 64
    · have hkI : (k : Int) < 64 := by omega
      have e0 : wr.cell? ⟨w.heap.size, 0, none⟩ = some (.int .i64 me) := (hA.below hbr hA.lt).cell rfl; have e1 : wr.cell? ⟨w.heap.size, 1, none⟩ = some (.int .i64 n) := (hA.below hbr hA.lt).cell rfl; have e2 : wr.cell? ⟨w.heap.size, 2, none⟩ = some (.int .i64 tm) := (hA.below hbr hA.lt).cell rfl; have e3 : wr.cell? ⟨w.heap.size, 3, none⟩ = some (.int .i64 now) := (hA.below hbr hA.lt).cell rfl; have e4 : wr.cell? ⟨w.heap.size, 4, none⟩ = some (.slice a c cp) := (hA.below hbr hA.lt).cell rfl
      have hbw := belS hb hbr
      have hshl := shl_bit k hlt
      have hor := u64_or_nat z (bitN k) hz1 (bitN_lt _)
      obtain ⟨⟨ob, ok⟩, hoe⟩ : ∃ q : Bt × Bool, (ent k all).ofE = q := ⟨_, rfl⟩
      have HQ := Lib.hid (show strQ ce cr x all k = (ok && (x.testBit k && !decide (ob.pe = ce ∧ ob.pr = cr))) from by rw [strQ, hoe])
      have HO2 := Lib.hid (fun W h => HO.out W h (k : Int) ob ok hoe)
      have hsh := shr_bit x k hx
      clear hoe
      go_wp2_with fail
      refine (HO2.out _ hbw).mono ?_
      rintro e w4 ⟨s, rfl, hsb, hb4⟩
      have hbr4 := belS hbr hb4
      have hC4 := hC.below hbr4 hC.lt
      have q0 : w4.cell? ⟨w.heap.size + 1, 0, none⟩ = some (.int .u64 ce) := hC4.cell rfl
      have q1 : w4.cell? ⟨w.heap.size + 1, 1, none⟩ = some (.int .i64 cr) := hC4.cell rfl
      have hcb := hC4.lt
      obtain ⟨sp, sat, sbt, sg, sb⟩ := s
      obtain rfl : sb = ob := hsb.out
      clear HO2 e0 e1 e2 e3 e4
      cases ok with
      | false =>
        have hN := Lib.hid (bits_no hz.out (by rw [HQ.out]; rfl))
        clear HQ
        go_wp2
        go_roundw
        case rel => exact ⟨k + 1, z, by omega, by go_num, rfl, hz1, hN.out, hbr4.alloc hbr4.size _⟩
        case measure => simp [intOf]; omega
      | true =>
        cases hxb : x.testBit k with
        | false =>
          rw [hxb] at hsh
          have hsh : bits BinOp.and IntKind.u64 ((x : Int) / 2 ^ k) 1 = 0 := hsh
          have hN := Lib.hid (bits_no hz.out (by rw [HQ.out, hxb]; rfl))
          clear HQ hxb
          go_wp2
          go_roundw
          case rel => exact ⟨k + 1, z, by omega, by go_num, rfl, hz1, hN.out, hbr4.alloc hbr4.size _⟩
          case measure => simp [intOf]; omega
        | true =>
          rw [hxb] at hsh
          have hsh : bits BinOp.and IntKind.u64 ((x : Int) / 2 ^ k) 1 = 1 := hsh
          by_cases he : sb.pe = ce ∧ sb.pr = cr
          · have hN := Lib.hid (bits_no hz.out (by rw [HQ.out, hxb]; simp [he]))
            obtain ⟨h1, h2⟩ := he
            subst h1
            subst h2
            clear HQ hxb
            go_wp2
            go_roundw
            case rel => exact ⟨k + 1, z, by omega, by go_num, rfl, hz1, hN.out, hbr4.alloc hbr4.size _⟩
            case measure => simp [intOf]; omega
          · have hN := Lib.hid (bits_yes hz.out hlt (by rw [HQ.out, hxb]; simp; omega))
            have heB : ¬ ((sb.pe : Int) = ce ∧ sb.pr = cr) := fun ⟨e1, e2⟩ => he ⟨by omega, e2⟩
            clear HQ hxb he
            go_wp2
            all_goals
              go_roundw
              case rel => exact ⟨k + 1, z ||| bitN k, by omega, by go_num, rfl, or_lt hz1 (bitN_lt _), hN.out, hbr4.alloc hbr4.size _⟩
              case measure => simp [intOf]; omega
    · obtain rfl : k = 64 := by omega
      go_wp2
      go_ret
      exact ⟨z, rfl, ⟨hz1, fun i hi => by rw [hz.out i hi, decide_eq_true hi]; rfl⟩, belS hb hbr⟩
end Go.Proofs.YtpnmhlcbmbpfdaaDoor
