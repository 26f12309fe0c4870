/- the walk of HeardPlays -/
import Derived.Test.YtpnmhlcbmbpfdaaDoorHeardS
namespace Go.Proofs.YtpnmhlcbmbpfdaaDoor
open Go.RowKit Go.Sort
theorem PInv.of {me n tm : Int} {k : Nat} {s : ES} {all : List Sd} {nw : Nat} (h : PInv me n tm k s all nw) (p : Int) {b : Nat} {W : World} (hE : EarAt W b s) :
    Calls Tryd.prog 14 #[.pointer (some ⟨b, 0, none⟩), .int .i64 p] W fun e w' => e = .returned (.tuple #[.agg #[.int .u64 (s.of p).1.ce, .int .i64 (s.of p).1.cr, .int .u64 (s.of p).1.pe, .int .i64 (s.of p).1.pr, .int .u64 (s.of p).1.ep], .bool (s.of p).2]) ∧ Below W.heap.size W w' := of_ear s h.ok p b W hE
theorem Tryd.btI (x : Bt) : (Tryd.prog.info? 33).map (·.size) = some (#[.int .u64 x.ce, .int .i64 x.cr, .int .u64 x.pe, .int .i64 x.pr, .int .u64 x.ep] : Array Value).size := by show _ = some 5; kernel_rfl
theorem Tryd.cfI : (Tryd.prog.info? 25).map (·.size) = some 2 := by kernel_rfl
theorem Tryd.btG : Tryd.prog.eqGuardType Tryd.prog.depth 33 = false := by kernel_rfl
theorem run_neq_bt (w : World) (x : Bt) : (binOp .neq 33 (.agg #[.int .u64 x.ce, .int .i64 x.cr, .int .u64 x.pe, .int .i64 x.pr, .int .u64 x.ep]) (.agg #[.int .u64 x.ce, .int .i64 x.cr, .int .u64 x.pe, .int .i64 x.pr, .int .u64 x.ep])).run Tryd.prog w = .ok (.bool false) w := by simp [go_sem]
theorem b5 {W : World} {b t : Nat} {c0 c1 c2 c3 c4 : Value} (h : BlkAt W b t #[c0, c1, c2, c3, c4]) : W.cell? ⟨b, 0, none⟩ = some c0 ∧ W.cell? ⟨b, 1, none⟩ = some c1 ∧ W.cell? ⟨b, 2, none⟩ = some c2 ∧ W.cell? ⟨b, 3, none⟩ = some c3 ∧ W.cell? ⟨b, 4, none⟩ = some c4 := ⟨h.cell rfl, h.cell rfl, h.cell rfl, h.cell rfl, h.cell rfl⟩
theorem PInv.start (me n tm : Int) : PInv me n tm 0 (ES.nw me n tm) [] 0 :=
  ⟨ES.nw_ok _ _ _, ⟨rfl, fun _ _ => rfl, fun e he => by cases he⟩, rfl, rfl, rfl, Nat.le_refl _, Nat.le_refl _, fun e he => by cases he⟩
set_option maxHeartbeats 6400000 in
set_option maxRecDepth 100000 in
theorem plays_main (me n tm : Int) (sa : Option Addr) (sn sc : Nat) (l : List Ac) (ce : Nat) (cr : Int) (w : World) (hT : Tab w) (hr : Rd w 8 sa sn sc (l.flatMap acF)) (hl : Hid (l.length = sn)) (hwf : ∀ x ∈ l, x.s < 18446744073709551616) (hn : sn ≤ 100) (ht0 : 0 ≤ tm) (ht1 : tm ≤ 1073741824) :
    Calls Tryd.prog 3 #[.int .i64 me, .int .i64 n, .int .i64 tm, .slice sa sn sc, .agg #[.int .u64 ce, .int .i64 cr]] w fun e w' => e = .returned (.bool true) ∧ Below w.heap.size w w' := by
  have hpos := hT.1
  have hC := BlkAt.new w 25 #[.int .u64 ce, .int .i64 cr]
  have hb0 : Below w.heap.size w (w.alloc (.cells #[.int .u64 ce, .int .i64 cr] 25)) := (Below.refl _ _).alloc (Nat.le_refl _) _
  have hT0 := hT.below hb0 hpos
  have hsz0 : w.heap.size < (w.alloc (.cells #[.int .u64 ce, .int .i64 cr] 25)).heap.size := by simp
  go_enter Tryd.func3, Tryd.ntmps3
  go_wp2_with fail
  generalize w.alloc _ = w0 at *
  refine (awake_any _ hT0).mono ?_
  rintro e w1 ⟨rfl, hb1⟩
  have hT1 := hT0.below hb1 hT0.1
  have hC1 := hC.below hb1 hC.lt
  have hsz1 := Nat.lt_of_lt_of_le hsz0 hb1.size
  replace hb0 := belS hb0 hb1
  clear hC hT0 hb1 hsz0
  go_wp2_with fail
  refine (ear_new me n tm _).mono ?_
  rintro e w2 ⟨b, rfl, hb, hwin, hb2⟩
  have hE0 : HEnv w b (ES.nw me n tm) w2 := ⟨belS hb0 hb2, by omega, hT1.below hb2 hT1.1, hwin⟩
  have hC2 := hC1.below hb2 hC1.lt
  have hM := BlkAt.new w2 31 #[.int .i64 me, .int .i64 n, .int .i64 tm, .int .i64 0, .slice none 0 0]
  have hbn : Below w2.heap.size w2 (w2.alloc (.cells #[.int .i64 me, .int .i64 n, .int .i64 tm, .int .i64 0, .slice none 0 0] 31)) := (Below.refl _ _).alloc (Nat.le_refl _) _
  have E : PEnv w b w2.heap.size w.heap.size me n tm ce cr (ES.nw me n tm) none 0 0 [] 0 (w2.alloc (.cells #[.int .i64 me, .int .i64 n, .int .i64 tm, .int .i64 0, .slice none 0 0] 31)) :=
    ⟨hE0.below hbn, hM, hC2.below hbn hC2.lt, Rd.mk_nil _ _, (fun g off e => by cases e), hE0.bel.size, by have := hwin.lt; omega, by omega, by have := hC2.lt; omega⟩
  have HI := Lib.hid (PInv.start me n tm)
  clear hE0 hC2 hM hbn hwin hb2 hb hT1 hC1 hsz1 hb0 hT
  generalize hmbe : w2.heap.size = mb at *
  generalize ES.nw me n tm = s0 at *
  go_wp2
  generalize w2.alloc _ = w3 at *
  clear hmbe
  go_loopw [13] (fun i wr => ∃ (k : Nat) (s : ES) (a : Option Addr) (c cp : Nat) (all : List Sd) (nw : Nat), k ≤ sn ∧ i = .int .i64 k ∧ Hid (PInv me n tm k s all nw) ∧ PEnv w b mb w.heap.size me n tm ce cr s a c cp all nw wr) (fun i _ => sn - (intOf i).toNat)
  case atStart => exact ⟨0, s0, none, 0, 0, [], 0, Nat.zero_le _, rfl, HI.out, E⟩
  case round =>
    clear E HI
    obtain ⟨k, s, a, c, cp, all, nw, hk, rfl, HI, E⟩ := hrel
    by_cases hlt : k < sn
    · have hkl : k < l.length := by rw [hl.out]; exact hlt
      have hkI : (k : Int) < sn := by omega
      have hclen : c ≤ 6400 := by have h1 := HI.out.len; have h2 := E.all.sdLen; omega
      obtain ⟨bs, off, rfl, _⟩ := hr.addr (by omega)
      obtain ⟨c0, c1, c2, c3, c4, c5, c6, c7⟩ := (Rd.below hr E.e.bel (Nat.le_refl _)).act8 k hkl
      have hsx := hwf _ (List.getElem_mem hkl)
      generalize l[k] = ac at *
      obtain ⟨kind, p, x, sx⟩ := ac
      simp only at c0 c1 c2 c3 c4 c5 c6 c7 hsx
      have hA := BlkAt.new wr 35 #[.int .i64 kind, .int .i64 p, .int .u64 x.ce, .int .i64 x.cr, .int .u64 x.pe, .int .i64 x.pr, .int .u64 x.ep, .int .u64 sx]
      have hab : wr.heap.size ≠ b := by have := E.e.ear.lt; omega
      have ham : wr.heap.size ≠ mb := by have := E.m.lt; omega
      have E3 := E.below ((Below.refl _ _).alloc (Nat.le_refl _) (.cells #[.int .i64 kind, .int .i64 p, .int .u64 x.ce, .int .i64 x.cr, .int .u64 x.pe, .int .i64 x.pr, .int .u64 x.ep, .int .u64 sx] 35))
      clear E
      cases h0 : (kind == 0)
      case' true =>
        go_wp2_with fail
        clear c0 c1 c2 c3 c4 c5 c6 c7
        generalize wr.alloc _ = w4 at *
        generalize wr.heap.size = ab at *
        refine (tick_any s HI.out.ok b _ E3.e.ear).mono ?_
        rintro e w5 ⟨rfl, hwin, hkp⟩
        have E4 := E3.kp hpos hkp hwin
        replace hA := hkp.blk hA hab
        have HI2 := Lib.hid (HI.out.tick (by omega))
        clear hwin hkp E3 h0
        have m3 : w5.cell? ⟨mb, 3, none⟩ = some (.int .i64 nw) := E4.m.cell rfl
        have fz3 := E4.m.fz 3
        have hnk : (nw : Int) ≤ 100 := by have := HI.out.nk; omega
        have a1 : w5.cell? ⟨ab, 1, none⟩ = some (.int .i64 p) := hA.cell rfl
        have E2 := E4.kpm hpos ((Kp.refl mb w5).setCell ⟨mb, 3, none⟩ rfl (.int .i64 ((nw : Int) + 1))) (nw2 := nw + 1) (by
          have := E4.m.set 3 (.int .i64 ((nw : Int) + 1))
          simp only [List.setIfInBounds_toArray, List.set_cons_zero, List.set_cons_succ] at this
          exact this) E4.all E4.nb
        replace hA := hA.other (a := ⟨mb, 3, none⟩) ham (.int .i64 ((nw : Int) + 1))
        clear E4
        go_wp2_with fail
        clear m3 fz3 a1
        generalize w5.setCell _ _ = w6 at *
        obtain ⟨t, ht⟩ : ∃ t, t = s.tick := ⟨_, rfl⟩
        obtain ⟨nw2, hnw2⟩ : ∃ m, m = nw + 1 := ⟨_, rfl⟩
        rw [← ht, ← hnw2] at HI2 E2
        obtain ⟨a2, ha2⟩ : ∃ z, z = a := ⟨_, rfl⟩
        obtain ⟨c2, hc2⟩ : ∃ z, z = c := ⟨_, rfl⟩
        obtain ⟨cp2, hcp2⟩ : ∃ z, z = cp := ⟨_, rfl⟩
        obtain ⟨al2, hal2⟩ : ∃ z, z = all := ⟨_, rfl⟩
        rw [← ha2, ← hc2, ← hcp2, ← hal2] at E2
        rw [← hal2] at HI2
        clear ht hnw2 ha2 hc2 hcp2 hal2 HI
      case' false =>
        cases h1 : (kind == 1)
        case' true =>
          go_wp2_with fail
          clear c0 c1 c2 c3 c4 c5 c6 c7
          generalize wr.alloc _ = w4 at *
          generalize wr.heap.size = ab at *
          refine (hear_any s HI.out.ok p b _ E3.e.ear).mono ?_
          rintro e w5 ⟨rfl, hwin, hkp⟩
          have E4 := E3.kp hpos hkp hwin
          replace hA := hkp.blk hA hab
          have HI2 := Lib.hid (HI.out.hear p)
          have HAd := Lib.hid (fun W (h : Rd W 9 a c cp (all.flatMap sdF)) => radd_any me n tm nw a c cp all ⟨p, 0, false, false, .zero⟩ (by omega) W h)
          generalize addS me n nw all ⟨p, 0, false, false, .zero⟩ = al2 at *
          generalize s.hear p = t at *
          clear hwin hkp E3 h0 h1 HI
          have m0 : w5.cell? ⟨mb, 0, none⟩ = some (.int .i64 me) := E4.m.cell rfl; have m1 : w5.cell? ⟨mb, 1, none⟩ = some (.int .i64 n) := E4.m.cell rfl; have m2 : w5.cell? ⟨mb, 2, none⟩ = some (.int .i64 tm) := E4.m.cell rfl; have m3 : w5.cell? ⟨mb, 3, none⟩ = some (.int .i64 nw) := E4.m.cell rfl; have m4 : w5.cell? ⟨mb, 4, none⟩ = some (.slice a c cp) := E4.m.cell rfl
          have a1 : w5.cell? ⟨ab, 1, none⟩ = some (.int .i64 p) := hA.cell rfl
          go_wp2_with fail
          (refine (HAd.out _ E4.all).mono ?_; rintro e w6 ⟨a2, c2, cp2, rfl, hr2, hpr, hb6⟩; have hnb : ∀ g off, a2 = some ⟨g, off, none⟩ → g ≠ b ∧ g ≠ mb := (fun g off e => by rcases hpr.out with h | h; (rw [h] at e; exact E4.nb g off e); (have h1 := h g off e; have h2 := E4.e.ear.lt; have h3 := E4.m.lt; omega)); have E5 := E4.below hb6; replace hA := hA.below hb6 hA.lt; clear m0 m1 m2 m3 m4 E4 hb6 HAd hpr)
          have a1 : w6.cell? ⟨ab, 1, none⟩ = some (.int .i64 p) := hA.cell rfl
          (go_wp2_with (refine wpList_blk_store rfl (.tmp 12) (.tmp 71) rfl rfl rfl E5.m Tryd.rearI rfl (by simp [Value.oneCell']) ?_; intro w7 hM7 hK7 hsz7; replace hA := hK7.blk hA ham; have E2 := E5.kpm hpos hK7 hM7 hr2 hnb; clear hM7 hK7 hsz7 hr2 hnb E5 a1; have a1 : w7.cell? ⟨ab, 1, none⟩ = some (.int .i64 p) := hA.cell rfl))
        case' false =>
          cases h2 : (kind == 2)
          case' true =>
            go_wp2_with fail
            clear c0 c1 c2 c3 c4 c5 c6 c7
            generalize wr.alloc _ = w4 at *
            generalize wr.heap.size = ab at *
            refine (beat_any s HI.out.ok p x b _ E3.e.ear).mono ?_
            rintro e w5 ⟨rfl, hwin, hkp⟩
            have E4 := E3.kp hpos hkp hwin
            replace hA := hkp.blk hA hab
            have HI2 := Lib.hid (HI.out.beat p x)
            have HAd := Lib.hid (fun W (h : Rd W 9 a c cp (all.flatMap sdF)) => radd_any me n tm nw a c cp all ⟨p, 0, true, false, x⟩ (by omega) W h)
            generalize addS me n nw all ⟨p, 0, true, false, x⟩ = al2 at *
            generalize s.beat p x = t at *
            clear hwin hkp E3 h0 h1 h2 HI
            have m0 : w5.cell? ⟨mb, 0, none⟩ = some (.int .i64 me) := E4.m.cell rfl; have m1 : w5.cell? ⟨mb, 1, none⟩ = some (.int .i64 n) := E4.m.cell rfl; have m2 : w5.cell? ⟨mb, 2, none⟩ = some (.int .i64 tm) := E4.m.cell rfl; have m3 : w5.cell? ⟨mb, 3, none⟩ = some (.int .i64 nw) := E4.m.cell rfl; have m4 : w5.cell? ⟨mb, 4, none⟩ = some (.slice a c cp) := E4.m.cell rfl
            have a0 : w5.cell? ⟨ab, 0, none⟩ = some (.int .i64 kind) := hA.cell rfl; have a1 : w5.cell? ⟨ab, 1, none⟩ = some (.int .i64 p) := hA.cell rfl; have a2 : w5.cell? ⟨ab, 2, none⟩ = some (.int .u64 x.ce) := hA.cell rfl; have a3 : w5.cell? ⟨ab, 3, none⟩ = some (.int .i64 x.cr) := hA.cell rfl; have a4 : w5.cell? ⟨ab, 4, none⟩ = some (.int .u64 x.pe) := hA.cell rfl; have a5 : w5.cell? ⟨ab, 5, none⟩ = some (.int .i64 x.pr) := hA.cell rfl; have a6 : w5.cell? ⟨ab, 6, none⟩ = some (.int .u64 x.ep) := hA.cell rfl; have a7 : w5.cell? ⟨ab, 7, none⟩ = some (.int .u64 sx) := hA.cell rfl
            go_wp2_with fail
            (refine (HAd.out _ E4.all).mono ?_; rintro e w6 ⟨a2, c2, cp2, rfl, hr2, hpr, hb6⟩; have hnb : ∀ g off, a2 = some ⟨g, off, none⟩ → g ≠ b ∧ g ≠ mb := (fun g off e => by rcases hpr.out with h | h; (rw [h] at e; exact E4.nb g off e); (have h1 := h g off e; have h2 := E4.e.ear.lt; have h3 := E4.m.lt; omega)); have E5 := E4.below hb6; replace hA := hA.below hb6 hA.lt; clear m0 m1 m2 m3 m4 E4 hb6 HAd hpr)
            have a1 : w6.cell? ⟨ab, 1, none⟩ = some (.int .i64 p) := hA.cell rfl
            (go_wp2_with (refine wpList_blk_store rfl (.tmp 12) (.tmp 93) rfl rfl rfl E5.m Tryd.rearI rfl (by simp [Value.oneCell']) ?_; intro w7 hM7 hK7 hsz7; replace hA := hK7.blk hA ham; have E2 := E5.kpm hpos hK7 hM7 hr2 hnb; clear hM7 hK7 hsz7 hr2 hnb E5 a1; have a1 : w7.cell? ⟨ab, 1, none⟩ = some (.int .i64 p) := hA.cell rfl))
          case' false =>
            cases h3 : (kind == 3)
            case' true =>
              go_wp2_with fail
              clear c0 c1 c2 c3 c4 c5 c6 c7
              generalize wr.alloc _ = w4 at *
              generalize wr.heap.size = ab at *
              refine (forget_any s HI.out.ok sx hsx b _ E3.e.ear E3.e.tab).mono ?_
              rintro e w5 ⟨rfl, hwin, hkp⟩
              have E4 := E3.kp hpos hkp hwin
              replace hA := hkp.blk hA hab
              have HF := Lib.hid (HI.out.for0 sx)
              have HFd := Lib.hid (fun al (h : PFor me n tm k s sx 64 al nw) => h.done)
              have hlen0 := HI.out.len
              generalize s.forget sx = t at *
              clear hwin hkp E3 h0 h1 h2 h3 HI
              go_wp2
              go_loopw [15] (fun i wr5 => ∃ (j : Nat) (a : Option Addr) (c cp : Nat) (al : List Sd), j ≤ 64 ∧ i = .int .i64 j ∧ Hid (PFor me n tm k s sx j al nw) ∧ PEnv w b mb w.heap.size me n tm ce cr t a c cp al nw wr5 ∧ BlkAt wr5 ab 35 #[.int .i64 kind, .int .i64 p, .int .u64 x.ce, .int .i64 x.cr, .int .u64 x.pe, .int .i64 x.pr, .int .u64 x.ep, .int .u64 sx]) (fun i _ => 64 - (intOf i).toNat)
              case atStart => exact ⟨0, a, c, cp, all, Nat.zero_le _, rfl, HF.out, E4, hA⟩
              case' round =>
                clear E4 hA HF
                obtain ⟨j, a, c, cp, al, hj, rfl, HF, E4, hA⟩ := hrel
                by_cases hj64 : j < 64
                have hjI : (j : Int) < 64 := by omega
                have hclen : c ≤ 7000 := by have h1 := HF.out.len; have h2 := E4.all.sdLen; omega
                have hsh := shr_bit sx j hsx
                cases hbit : sx.testBit j with
                | false =>
                  rw [hbit] at hsh
                  have hsh : bits BinOp.and IntKind.u64 ((sx : Int) / 2 ^ j) 1 = 0 := hsh
                  have HF2 := Lib.hid (HF.out.no hbit)
                  have a7 : wr.cell? ⟨ab, 7, none⟩ = some (.int .u64 sx) := hA.cell rfl
                  clear hbit
                  go_wp2
                  go_roundw
                  case rel => exact ⟨j + 1, a, c, cp, al, by omega, by go_num, HF2.out, E4, hA⟩
                  case measure => simp [intOf]; omega
                | true =>
                  rw [hbit] at hsh
                  have hsh : bits BinOp.and IntKind.u64 ((sx : Int) / 2 ^ j) 1 = 1 := hsh
                  have HF2 := Lib.hid (HF.out.yes hj64 hbit)
                  have HAd := Lib.hid (fun W (h : Rd W 9 a c cp (al.flatMap sdF)) => radd_any me n tm nw a c cp al ⟨j, 0, false, true, .zero⟩ (by omega) W h)
                  generalize addS me n nw al ⟨j, 0, false, true, .zero⟩ = al2 at *
                  have a7 : wr.cell? ⟨ab, 7, none⟩ = some (.int .u64 sx) := hA.cell rfl
                  have m0 : wr.cell? ⟨mb, 0, none⟩ = some (.int .i64 me) := E4.m.cell rfl; have m1 : wr.cell? ⟨mb, 1, none⟩ = some (.int .i64 n) := E4.m.cell rfl; have m2 : wr.cell? ⟨mb, 2, none⟩ = some (.int .i64 tm) := E4.m.cell rfl; have m3 : wr.cell? ⟨mb, 3, none⟩ = some (.int .i64 nw) := E4.m.cell rfl; have m4 : wr.cell? ⟨mb, 4, none⟩ = some (.slice a c cp) := E4.m.cell rfl
                  clear hbit
                  go_wp2_with fail
                  (refine (HAd.out _ E4.all).mono ?_; rintro e w6 ⟨a2, c2, cp2, rfl, hr2, hpr, hb6⟩; have hnb : ∀ g off, a2 = some ⟨g, off, none⟩ → g ≠ b ∧ g ≠ mb := (fun g off e => by rcases hpr.out with h | h; (rw [h] at e; exact E4.nb g off e); (have h1 := h g off e; have h2 := E4.e.ear.lt; have h3 := E4.m.lt; omega)); have E5 := E4.below hb6; replace hA := hA.below hb6 hA.lt; clear m0 m1 m2 m3 m4 E4 hb6 HAd hpr)
                  go_wp2_with (refine wpList_blk_store rfl (.tmp 12) (.tmp 113) rfl rfl rfl E5.m Tryd.rearI rfl (by simp [Value.oneCell']) ?_; intro w7 hM7 hK7 hsz7)
                  go_roundw
                  case rel => exact ⟨j + 1, a2, c2, cp2, al2, by omega, by go_num, HF2.out, E5.kpm hpos hK7 hM7 hr2 hnb, hK7.blk hA ham⟩
                  case measure => simp [intOf]; omega
                have hj6 : j = 64 := by omega
                have hjI : ¬ (j : Int) < 64 := by omega
                subst hj6
                have HI2 := Lib.hid (HFd.out al HF.out)
                have E2 := E4
                have a1 : wr.cell? ⟨ab, 1, none⟩ = some (.int .i64 p) := hA.cell rfl
                clear E4 HF HFd
                go_wp2_with fail
            case' false =>
              go_wp2_with fail
              clear c0 c1 c2 c3 c4 c5 c6 c7
              generalize wr.alloc _ = w4 at *
              generalize wr.heap.size = ab at *
              have HI2 := Lib.hid HI.out.more
              have E2 := E3
              clear E3 HI h0 h1 h2 h3
      all_goals
        have HOf := HI2.out.of p E2.e.ear
        have HRo := fun W kb => HI2.out.rof p (w := W) (Rd.below E2.all kb (Nat.le_refl _))
        have HRe := fun W kb => reach_any _ HI2.out.ok b W (E2.below kb).e.ear (E2.below kb).e.tab
        have HRr := fun W kb => HI2.out.rreach (by omega) (w := W) (Rd.below E2.all kb (Nat.le_refl _))
        have HEp := fun W kb => epoch_any _ b W (E2.below kb).e.ear
        have HEr := fun W kb => HI2.out.repoch (w := W) (Rd.below E2.all kb (Nat.le_refl _))
        have HSt := fun W kb => strange_any _ HI2.out.ok sx ce cr hsx b W (E2.below kb).e.ear (E2.below kb).e.tab
        have HSr := fun W kb => HI2.out.rstrange sx ce cr hsx (w := W) (Rd.below E2.all kb (Nat.le_refl _))
        generalize ES.of _ _ = r at *
        generalize ES.reach _ = rz at *
        generalize ES.epoch _ = ez at *
        generalize ES.strange _ _ _ _ = tz at *
        obtain ⟨y, ok⟩ := r
        simp only at HOf HRo
        replace HOf := Lib.hid HOf
        replace HRo := Lib.hid HRo
        replace HRe := Lib.hid HRe
        replace HRr := Lib.hid HRr
        replace HEp := Lib.hid HEp
        replace HEr := Lib.hid HEr
        replace HSt := Lib.hid HSt
        replace HSr := Lib.hid HSr
        refine HOf.out.mono ?_
        rintro e w8 ⟨rfl, hb8⟩
        have F8 := (E2.below hb8).m
        have m0 := fun o => (b5 (F8.alloc o)).1
        have m1 := fun o => (b5 (F8.alloc o)).2.1
        have m2 := fun o => (b5 (F8.alloc o)).2.2.1
        have m3 := fun o => (b5 (F8.alloc o)).2.2.2.1
        have m4 := fun o => (b5 (F8.alloc o)).2.2.2.2
        have a1 : ∀ o, (w8.alloc o).cell? ⟨ab, 1, none⟩ = some (.int .i64 p) := fun o => ((hA.below hb8 hA.lt).alloc o).cell rfl
        clear F8
        have hb8s := hb8.size
        go_wp2_with fail
        refine (HRo.out _ (hb8.alloc hb8s _)).mono ?_
        rintro e w9 ⟨sd, rfl, hsb, hb9⟩
        obtain ⟨sp, sat, sbt, sg, sb⟩ := sd
        obtain rfl : sb = y := hsb.out
        have hY : BlkAt w9 w8.heap.size 33 #[.int .u64 sb.ce, .int .i64 sb.cr, .int .u64 sb.pe, .int .i64 sb.pr, .int .u64 sb.ep] := (BlkAt.new w8 33 #[.int .u64 sb.ce, .int .i64 sb.cr, .int .u64 sb.pe, .int .i64 sb.pr, .int .u64 sb.ep]).below hb9 (by simp)
        have hb10 := belS (hb8.alloc hb8s _) hb9
        clear hb9 hb8 hb8s m0 m1 m2 m3 m4 a1 HOf HRo hsb
        go_wp2
        have hS := BlkAt.new w9 39 #[.int .i64 sp, .int .i64 sat, .bool sbt, .bool sg, .int .u64 sb.ce, .int .i64 sb.cr, .int .u64 sb.pe, .int .i64 sb.pr, .int .u64 sb.ep]
        have hY2 := hY.alloc (.cells #[.int .i64 sp, .int .i64 sat, .bool sbt, .bool sg, .int .u64 sb.ce, .int .i64 sb.cr, .int .u64 sb.pe, .int .i64 sb.pr, .int .u64 sb.ep] 39)
        have hb11 := hb10.alloc hb10.size (.cells #[.int .i64 sp, .int .i64 sat, .bool sbt, .bool sg, .int .u64 sb.ce, .int .i64 sb.cr, .int .u64 sb.pe, .int .i64 sb.pr, .int .u64 sb.ep] 39)
        clear hY hb10
        generalize w9.alloc _ = wA at *
        have F := (E2.below hb11).m
        have kR := fun d os => Calls.regrown_of (HRe.out _ (hb11.trans ((below_regrown wA d os).mono hb11.size)))
        have kRR := fun d os => Calls.regrown_of (HRr.out _ (hb11.trans ((below_regrown wA d os).mono hb11.size)))
        have k4 := cell_regrown (hS.cell (i := 4) rfl)
        have k5 := cell_regrown (hS.cell (i := 5) rfl)
        have k6 := cell_regrown (hS.cell (i := 6) rfl)
        have k7 := cell_regrown (hS.cell (i := 7) rfl)
        have k8 := cell_regrown (hS.cell (i := 8) rfl)
        refine wp_region_quiet_below (by kernel_rfl) (by kernel_rfl) ?_
        iterate 2 go_big_quiet_step (first | (with_reducible exact kR _ _) | (with_reducible exact kRR _ _))
        refine wpQuiet_blk_load (by rfl) (.tmp 12) rfl Tryd.underlying31 rfl rfl F Tryd.rearI ?_
        simp only [Act.put, List.setIfInBounds_toArray, List.set_cons_zero, List.set_cons_succ]
        iterate 8 go_big_quiet_step (first | (with_reducible exact kR _ _) | (with_reducible exact kRR _ _))
        refine wpQuiet_blk_load (by rfl) (.tmp 16) rfl Tryd.underlying33 rfl rfl hY2 (Tryd.btI sb) ?_
        simp only [Act.put, List.setIfInBounds_toArray, List.set_cons_zero, List.set_cons_succ]
        iterate 7 go_big_quiet_step (fail)
        refine wpQuiet_agg (by rfl) Tryd.btG (.tmp 139) (.tmp 146) _ rfl rfl rfl (fun W => run_neq_bt W sb) ?_
        simp only [Act.put, List.setIfInBounds_toArray, List.set_cons_zero, List.set_cons_succ]
        iterate 1 go_big_quiet_step (fail)
        refine wpQuiet_nil ?_
        intro wB hw'
        obtain ⟨⟨dq, osq⟩, hw''⟩ := hw'
        subst hw''
        have hbB := hb11.trans ((below_regrown wA dq osq).mono hb11.size)
        clear kR kRR k4 k5 k6 k7 k8 F hY2 hS HRe HRr hb11
        generalize grow (redrawn wA dq) osq = wB at *
        go_wp2
        have F := (E2.below hbB).m
        have G := (E2.below hbB).cf
        have kE := fun d os => Calls.regrown_of (HEp.out _ (hbB.trans ((below_regrown wB d os).mono hbB.size)))
        have kEr := fun d os => Calls.regrown_of (HEr.out _ (hbB.trans ((below_regrown wB d os).mono hbB.size)))
        have kS := fun d os => Calls.regrown_of (HSt.out _ (hbB.trans ((below_regrown wB d os).mono hbB.size)))
        have kSr := fun d os => Calls.regrown_of (HSr.out _ (hbB.trans ((below_regrown wB d os).mono hbB.size)))
        have k7 := cell_regrown ((hA.below hbB hA.lt).cell (i := 7) rfl)
        refine wp_region_quiet_below (by kernel_rfl) (by kernel_rfl) ?_
        iterate 2 go_big_quiet_step (with_reducible exact kE _ _)
        refine wpQuiet_blk_load (by rfl) (.tmp 12) rfl Tryd.underlying31 rfl rfl F Tryd.rearI ?_
        simp only [Act.put, List.setIfInBounds_toArray, List.set_cons_zero, List.set_cons_succ]
        iterate 6 go_big_quiet_step (with_reducible exact kEr _ _)
        refine wpQuiet_blk_load (by rfl) (.tmp 9) rfl Tryd.underlying25 rfl rfl G Tryd.cfI ?_
        simp only [Act.put, List.setIfInBounds_toArray, List.set_cons_zero, List.set_cons_succ]
        iterate 1 go_big_quiet_step (with_reducible exact kS _ _)
        refine wpQuiet_blk_load (by rfl) (.tmp 12) rfl Tryd.underlying31 rfl rfl F Tryd.rearI ?_
        simp only [Act.put, List.setIfInBounds_toArray, List.set_cons_zero, List.set_cons_succ]
        iterate 2 go_big_quiet_step (fail)
        refine wpQuiet_blk_load (by rfl) (.tmp 9) rfl Tryd.underlying25 rfl rfl G Tryd.cfI ?_
        simp only [Act.put, List.setIfInBounds_toArray, List.set_cons_zero, List.set_cons_succ]
        iterate 3 go_big_quiet_step (with_reducible exact kSr _ _)
        refine wpQuiet_nil ?_
        intro wC hw'
        obtain ⟨⟨dq, osq⟩, hw''⟩ := hw'
        subst hw''
        have hbC := hbB.trans ((below_regrown wB dq osq).mono hbB.size)
        clear kE kEr kS kSr k7 F G HEp HEr HSt HSr hbB
        generalize grow (redrawn wB dq) osq = wC at *
        go_wp2
        go_roundw
        case rel => exact ⟨k + 1, _, _, _, _, _, _, by omega, by go_num, HI2.out, E2.below hbC⟩
        case measure => simp [intOf]; omega
    · obtain rfl : k = sn := by omega
      go_wp2
      go_ret
      exact ⟨rfl, E.e.bel⟩
end Go.Proofs.YtpnmhlcbmbpfdaaDoor
