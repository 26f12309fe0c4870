/- the walks of the ear's methods Of, Epoch, Strange -/
import Derived.Test.YtpnmhlcbmbpfdaaDoorHeardB
namespace Go.Proofs.YtpnmhlcbmbpfdaaDoor
open Go.RowKit Go.Sort

set_option maxHeartbeats 1600000 in
set_option maxRecDepth 100000 in
theorem of_no (s : ES) (hs : s.Ok) (p : Int) (b : Nat) (w : World) (h : EarAt w b s) (hh : hasB s.oth p = false) :
    Calls Tryd.prog 14 #[.pointer (some ⟨b, 0, none⟩), .int .i64 p] w fun e w' => e = .returned (.tuple #[.agg #[.int .u64 0, .int .i64 0, .int .u64 0, .int .i64 0, .int .u64 0], .bool false]) ∧ Below w.heap.size w w' := by
  have hbb : Below w.heap.size w (w.alloc (.cells #[.int .u64 0, .int .i64 0, .int .u64 0, .int .i64 0, .int .u64 0] 33)) := (Below.refl _ _).alloc (Nat.le_refl _) _
  have c3 := (h.below hbb h.lt).c3
  have HC := fun w => has_any s.oth p hs.oth w
  rw [hh] at HC
  have HC := Lib.hid HC
  go_enter Tryd.func14, Tryd.ntmps14
  go_wp2_with (first | (go_at_call 22; refine (HC.out _).mono ?_; rintro e w' ⟨rfl, rfl⟩))
  exact bodyPost_ret (v := .tuple #[.agg #[.int .u64 0, .int .i64 0, .int .u64 0, .int .i64 0, .int .u64 0], .bool false]) (by simp [results, Tryd.results14, go_sem]) rfl ⟨rfl, hbb⟩
set_option maxHeartbeats 1600000 in
set_option maxRecDepth 100000 in
theorem of_un (s : ES) (hs : s.Ok) (p : Nat) (b : Nat) (w : World) (h : EarAt w b s) (hp : p < 64) (hh : hasB s.oth p = true) (hsd : (s.l p).said = false) :
    Calls Tryd.prog 14 #[.pointer (some ⟨b, 0, none⟩), .int .i64 p] w fun e w' => e = .returned (.tuple #[.agg #[.int .u64 0, .int .i64 0, .int .u64 0, .int .i64 0, .int .u64 0], .bool false]) ∧ Below w.heap.size w w' := by
  have hbb : Below w.heap.size w (w.alloc (.cells #[.int .u64 0, .int .i64 0, .int .u64 0, .int .i64 0, .int .u64 0] 33)) := (Below.refl _ _).alloc (Nat.le_refl _) _
  have h1 := h.below hbb h.lt
  have c3 := h1.c3
  obtain ⟨_, _, _, _, _, d5, _, _⟩ := h1.en p hp
  rw [hsd] at d5
  have HC := fun w => has_any s.oth p hs.oth w
  rw [hh] at HC
  have HC := Lib.hid HC
  have hpI : (p : Int) < 64 := by omega
  clear hsd hh
  go_enter Tryd.func14, Tryd.ntmps14
  go_wp2_with (first | (go_at_call 22; refine (HC.out _).mono ?_; rintro e w' ⟨rfl, rfl⟩))
  exact bodyPost_ret (v := .tuple #[.agg #[.int .u64 0, .int .i64 0, .int .u64 0, .int .i64 0, .int .u64 0], .bool false]) (by simp [results, Tryd.results14, go_sem]) rfl ⟨rfl, hbb⟩
set_option maxHeartbeats 1600000 in
set_option maxRecDepth 100000 in
theorem of_yes (s : ES) (hs : s.Ok) (p : Nat) (b : Nat) (w : World) (h : EarAt w b s) (hp : p < 64) (hh : hasB s.oth p = true) (hsd : (s.l p).said = true) :
    Calls Tryd.prog 14 #[.pointer (some ⟨b, 0, none⟩), .int .i64 p] w fun e w' => e = .returned (.tuple #[.agg #[.int .u64 (s.l p).b.ce, .int .i64 (s.l p).b.cr, .int .u64 (s.l p).b.pe, .int .i64 (s.l p).b.pr, .int .u64 (s.l p).b.ep], .bool true]) ∧ Below w.heap.size w w' := by
  have hbb : Below w.heap.size w (w.alloc (.cells #[.int .u64 0, .int .i64 0, .int .u64 0, .int .i64 0, .int .u64 0] 33)) := (Below.refl _ _).alloc (Nat.le_refl _) _
  have h1 := h.below hbb h.lt
  have c3 := h1.c3
  obtain ⟨d0, d1, d2, d3, d4, d5, _, _⟩ := h1.en p hp
  rw [hsd] at d5
  have HC := fun w => has_any s.oth p hs.oth w
  rw [hh] at HC
  have HC := Lib.hid HC
  have hpI : (p : Int) < 64 := by omega
  clear hsd hh
  generalize (s.l p).b = x at *
  go_enter Tryd.func14, Tryd.ntmps14
  go_wp2_with (first | (go_at_call 22; refine (HC.out _).mono ?_; rintro e w' ⟨rfl, rfl⟩))
  refine bodyPost_ret (v := .tuple #[.agg #[.int .u64 x.ce, .int .i64 x.cr, .int .u64 x.pe, .int .i64 x.pr, .int .u64 x.ep], .bool true]) (by simp [results, Tryd.results14, go_sem]) rfl ⟨rfl, ?_⟩
  exact (Below.refl _ _).alloc (Nat.le_refl _) _
def Bt.val (x : Bt × Bool) : Value := .tuple #[.agg #[.int .u64 x.1.ce, .int .i64 x.1.cr, .int .u64 x.1.pe, .int .i64 x.1.pr, .int .u64 x.1.ep], .bool x.2]
theorem of_ear (s : ES) (hs : s.Ok) (p : Int) (b : Nat) (w : World) (h : EarAt w b s) :
    Calls Tryd.prog 14 #[.pointer (some ⟨b, 0, none⟩), .int .i64 p] w fun e w' => e = .returned (Bt.val (s.of p)) ∧ Below w.heap.size w w' := by
  cases hh : hasB s.oth p with
  | false =>
    rw [show s.of p = (.zero, false) from by rw [ES.of, if_neg (by rw [hh]; simp)]]
    exact of_no s hs p b w h hh
  | true =>
    obtain ⟨n, rfl, hn⟩ := hasB_nat hh
    cases hsd : (s.l n).said with
    | false =>
      rw [show s.of n = (.zero, false) from by rw [ES.of, if_neg (by rw [Int.toNat_natCast, hsd]; simp)]]
      exact of_un s hs n b w h hn hh hsd
    | true =>
      rw [show s.of n = ((s.l n).b, true) from by rw [ES.of, if_pos (by rw [Int.toNat_natCast, hsd]; exact ⟨hh, rfl⟩)]; rfl]
      exact of_yes s hs n b w h hn hh hsd

/-- The entries, one behind the other. -/
def ES.rows (s : ES) : List Value := (List.range 64).flatMap fun i => enC (s.l i)
theorem ES.rows_len (s : ES) : s.rows.length = 512 := (flatMap_len (f := fun i => enC (s.l i)) (sz := 8) (fun _ => rfl) (List.range 64)).trans rfl
theorem EarAt.range {w : World} {b : Nat} {s : ES} (h : EarAt w b s) : w.rangeAt b 4 s.rows := by
  intro j v hv
  refine BlkAt.cell h ?_
  rw [earC, rowC, List.getElem?_toArray, List.getElem?_append_right (by simp [ES.pre])]
  have hv' : ((List.range 64).flatMap fun i => enC (s.l i))[j]? = some v := hv
  simpa [ES.pre] using hv'
theorem ES.rows_at (s : ES) (i : Nat) (hi : i < 64) : s.rows.toArray.extract (i * 8) (i * 8 + 8) = (enC (s.l i)).toArray := by
  apply Array.ext_getElem?
  intro j
  rw [Array.getElem?_extract, List.getElem?_toArray, List.getElem?_toArray]
  have hsz : s.rows.toArray.size = 512 := by rw [List.size_toArray, s.rows_len]
  by_cases hj : j < 8
  · rw [if_pos (by rw [hsz]; omega), ES.rows, rangeFlat_get (f := fun i => enC (s.l i)) (sz := 8) (fun _ => rfl) hi hj]
  · rw [if_neg (by rw [hsz]; omega), List.getElem?_eq_none (by rw [enC_len]; omega)]
theorem run_rows_index (w : World) (s : ES) (i : Nat) (hi : i < 64) : (Instr.index 64 (.agg s.rows.toArray) (.int .i64 i)).run Tryd.prog w = .ok (.agg (enC (s.l i)).toArray) w := by
  have he := s.rows_at i hi
  have h0 : (i : Int) < 64 := by omega
  obtain ⟨f, hf⟩ : ∃ f, Tryd.prog.underlying 63 = some (.struct f) := ⟨_, Tryd.underlying63⟩
  obtain ⟨ei, hi2, hsz⟩ : ∃ i, Tryd.prog.info? 63 = some i ∧ i.size = 8 := by
    have : (Tryd.prog.info? 63).map (·.size) = some 8 := by kernel_rfl
    cases h : Tryd.prog.info? 63 with
    | none => rw [h] at this; cases this
    | some i => rw [h] at this; simp at this; exact ⟨i, rfl, this⟩
  generalize s.rows.toArray = cs at *
  simp [Instr.index, asIntOf, run_underlying Tryd.underlying64, run_underlying hf, sizeOf, typeInfo, hi2, hsz, part, isAgg, Result.andThen, h0, he]
  intro h; omega
theorem run_max_int4 {P : Program} (w : World) (ts : Array TypeId) (t : TypeId) (x y z u : Nat) : (Builtin.max_ ts t #[.int .u64 x, .int .u64 y, .int .u64 z, .int .u64 u]).run P w = .ok (.int .u64 (max (max (max x y) z) u : Nat)) w := by
  have e : ∀ a b : Nat, (if (b : Int) > a then (b : Int) else a) = ((max a b : Nat) : Int) := fun a b => by split <;> omega
  simp [Builtin.max_, Builtin.max2]
  omega
theorem wpList_index_run {P : Program} {w : World} {ops : Array Oper} {rest : List Oper} {o : Oper} {a : Act} {Q : Exit → Act → World → Prop} {t : TypeId} (hg : o.guard = none) (x y : Operand) (ho : o.op = .index t x y) {u k v : Value} (hx : a.eval x = u) (hy : a.eval y = k)
    (hrun : (Instr.index t u k).run P w = .ok v w) (h : wpList P ops Q rest (a.put o.dst v) w) : wpList P ops Q (o :: rest) a w := by
  refine wpList_plain hg fun K hK => ?_
  unfold Oper.wp
  simp only [execOp, ho, hx, hy, Sem.run_bind, Sem.run_pure, hrun, Result.andThen_ok]
  exact hK _ _ h
set_option maxHeartbeats 1600000 in
set_option maxRecDepth 100000 in
theorem epoch_any (s : ES) (b : Nat) (w : World) (h : EarAt w b s) :
    Calls Tryd.prog 18 #[.pointer (some ⟨b, 0, none⟩)] w fun e w' => e = .returned (.int .u64 s.epoch) ∧ Below w.heap.size w w' := by
  have HR := h.range
  have HF := Lib.hid (show s.epoch = epL s 64 from rfl)
  have hsz : (Tryd.prog.info? 64).map (·.size) = some s.rows.length := by rw [s.rows_len]; kernel_rfl
  have HI := fun W i hi => run_rows_index W s i hi
  generalize s.rows = rs at *
  have HI := Lib.hid HI
  have HR := Lib.hid HR
  have hsz := Lib.hid hsz
  go_enter Tryd.func18, Tryd.ntmps18
  go_wp2_with (refine wpList_load_mid rfl _ (.tmp 8) rfl b 4 rfl rs _ HR.out Tryd.underlying64 rfl hsz.out ?_)
  go_loopw [3, 5, 10] (fun o _ i wr => ∃ (k z : Nat), k ≤ 64 ∧ i = .int .i64 k ∧ o = .int .u64 z ∧ Hid (z = epL s k) ∧ Below w.heap.size w wr) (fun _ _ i _ => 64 - (intOf i).toNat)
  case atStart => exact ⟨0, 0, Nat.zero_le _, rfl, rfl, rfl, Below.refl _ _⟩
  case round =>
    obtain ⟨k, z, hk, rfl, rfl, hz, hbr⟩ := hrel
    by_cases hlt : k < 64
    · have hkI : (k : Int) < 64 := by omega
      have hsn := Lib.hid (epL_succ s k)
      rw [← hz.out] at hsn
      obtain ⟨x, hx⟩ : ∃ x, s.l k = x := ⟨_, rfl⟩
      have HXX := Lib.hid hx
      rw [hx] at hsn
      clear hx
      have hbb := hbr.size
      have HX := Lib.hid (show x.b.top z = max (max (max z x.b.ep) x.b.ce) x.b.pe from rfl)
      have hI : ∀ W, (Instr.index 64 (.agg rs.toArray) (.int .i64 k)).run Tryd.prog W = .ok (.agg #[.int .u64 x.b.ce, .int .i64 x.b.cr, .int .u64 x.b.pe, .int .i64 x.b.pr, .int .u64 x.b.ep, .bool x.said, .bool x.ever, .int .i64 x.at_]) W := fun W => by have := HI.out W k hlt; rwa [HXX.out] at this
      have hI := Lib.hid hI
      have hM := fun W => run_max_int4 (P := Tryd.prog) W #[23, 23, 23, 23] 23 z x.b.ep x.b.ce x.b.pe
      rw [← HX.out] at hM
      go_wp2_with (refine wpList_index_run rfl (.tmp 9) (.tmp 10) rfl rfl rfl (hI.out _) ?_)
      go_roundw
      case rel => exact ⟨k + 1, _, by omega, by go_num, rfl, hsn.out.symm, hbr.alloc hbb _⟩
      case measure => simp [intOf]; omega
    · obtain rfl : k = 64 := by omega
      go_wp2
      go_ret
      exact ⟨ret_int (by rw [hz.out, HF.out]), hbr⟩
set_option maxHeartbeats 3200000 in
set_option maxRecDepth 100000 in
theorem strange_any (s : ES) (hs : s.Ok) (x ce : Nat) (cr : Int) (hx : x < 18446744073709551616) (b : Nat) (w : World) (h : EarAt w b s) (hT : Tab w) :
    Calls Tryd.prog 20 #[.pointer (some ⟨b, 0, none⟩), .int .u64 x, .agg #[.int .u64 ce, .int .i64 cr]] w fun e w' => e = .returned (.int .u64 (s.strange x ce cr)) ∧ Below w.heap.size w w' := by
  have hpos := hT.1
  have hb1 : Below w.heap.size w (w.alloc (.cells #[.int .u64 ce, .int .i64 cr] 25)) := (Below.refl _ _).alloc (Nat.le_refl _) _
  have h1 := h.below hb1 h.lt
  have hT1 := hT.below hb1 hpos
  have hA := BlkAt.new w 25 #[.int .u64 ce, .int .i64 cr]
  have HF := Lib.hid (show s.strange x ce cr = strL s ce cr (memN (x &&& s.oth)) from rfl)
  have HB := Lib.hid (fun w => both_any x s.oth hx hs.oth w)
  have hy := and_lt x s.oth hx
  have hsub := Lib.hid (show ∀ p ∈ memN (x &&& s.oth), hasB s.oth p = true from fun p hp => by
    have := List.mem_filter.1 (show p ∈ (List.range 64).filter fun i => (x &&& s.oth).testBit i from hp)
    have h64 := List.mem_range.1 this.1
    have h2 := this.2
    rw [Nat.testBit_and, Bool.and_eq_true] at h2
    rw [hasB_eq, Int.toNat_natCast, h2.2]
    simp; omega)
  generalize x &&& s.oth = y at *
  have c3 := h1.c3
  go_enter Tryd.func20, Tryd.ntmps20
  go_wp2_with fail
  refine (HB.out _).mono ?_
  rintro e w' ⟨rfl, rfl⟩
  clear c3
  generalize w.alloc _ = w1 at *
  go_wp2_with fail
  refine (list_any y _ hy hT1).mono ?_
  rintro e w2 ⟨v, rfl, hown, hb2⟩
  obtain ⟨a, c, rfl, hr⟩ := Rd.own hown
  have hln := hr.intLen
  have hc64 := cardN_le y
  replace h1 := h1.below hb2 h1.lt
  replace hA := hA.below hb2 hA.lt
  replace hb1 := belS hb1 hb2
  clear hown hb2 hT1
  go_wp2
  go_loopw [7, 9, 10, 11, 20] (fun o _ _ _ i wr => ∃ (k z : Nat), k ≤ cardN y ∧ i = .int .i64 k ∧ o = .int .u64 z ∧ z < 18446744073709551616 ∧ Hid (z = strL s ce cr ((memN y).take k)) ∧ Below w2.heap.size w2 wr) (fun _ _ _ _ i _ => cardN y - (intOf i).toNat)
  case atStart => exact ⟨0, 0, Nat.zero_le _, rfl, rfl, by decide, rfl, Below.refl _ _⟩
  case round =>
    obtain ⟨k, z, hk, rfl, rfl, hz1, hz, hbr⟩ := hrel
    by_cases hlt : k < cardN y
    · have hkl : k < (memI y).length := by rw [hln]; exact hlt
      have hkn : k < (memN y).length := by rw [memN_len]; exact hlt
      have hrr := hr.below hbr (Nat.le_refl _)
      have h3 := h1.below hbr h1.lt
      have hA3 := hA.below hbr hA.lt
      obtain ⟨bl, off, rfl, hbl2⟩ := hrr.addr (by omega)
      have hc := hrr.at (j := k) (u := .int .i64 ((memN y)[k] : Nat)) (by rw [List.getElem?_map, List.getElem?_eq_getElem hkl, memI_get]; rfl)
      have hp := memN_get hkn
      have hhas := hsub.out _ (List.getElem_mem hkn)
      have hsn := Lib.hid (strL_snoc s ce cr ((memN y).take k) (memN y)[k])
      rw [← hz.out, List.take_append_getElem] at hsn
      generalize (memN y)[k] = p at *
      have hpI : (p : Int) < 64 := by omega
      have hodd := Lib.hid (show s.odd ce cr p = ((s.l p).said && !decide ((s.l p).b.pe = ce ∧ (s.l p).b.pr = cr)) from rfl)
      clear hrr
      go_wp2_with fail
      cases hsd : (s.l p).said with
      | false =>
        rw [hsd] at hodd
        have HZ := Lib.hid (hsn.out.trans (if_neg (by rw [hodd.out]; simp)))
        refine (of_un s hs p b _ h3 hp hhas hsd).mono ?_
        rintro e w4 ⟨rfl, hb4⟩
        clear hsn hsd hhas
        replace hbr := belS hbr hb4
        go_wp2
        go_roundw
        case rel => exact ⟨k + 1, z, by omega, by go_num, rfl, hz1, HZ.out.symm, hbr.alloc hbr.size _⟩
        case measure => simp [intOf]; omega
      | true =>
        rw [hsd] at hodd
        refine (of_yes s hs p b _ h3 hp hhas hsd).mono ?_
        rintro e w4 ⟨rfl, hb4⟩
        have hA4 := hA3.below hb4 hA3.lt
        have q0 : w4.cell? ⟨w.heap.size, 0, none⟩ = some (.int .u64 ce) := hA4.cell rfl
        have q1 : w4.cell? ⟨w.heap.size, 1, none⟩ = some (.int .i64 cr) := hA4.cell rfl
        have hcb := hA4.lt
        replace hbr := belS hbr hb4
        clear hsd hhas hA4 hA3
        generalize (s.l p).b = xb at *
        by_cases he : xb.pe = ce ∧ xb.pr = cr
        · have HZ := Lib.hid (hsn.out.trans (if_neg (by rw [hodd.out]; simp [he])))
          obtain ⟨e1, e2⟩ := he
          clear hsn hodd
          subst e1
          subst e2
          go_wp2
          go_roundw
          case rel => exact ⟨k + 1, z, by omega, by go_num, rfl, hz1, HZ.out.symm, hbr.alloc hbr.size _⟩
          case measure => simp [intOf]; omega
        · have HZ := Lib.hid (hsn.out.trans (if_pos (by rw [hodd.out]; simp; omega)))
          have heB : ¬ ((xb.pe : Int) = ce ∧ xb.pr = cr) := fun ⟨e1, e2⟩ => he ⟨by omega, e2⟩
          clear hsn hodd he
          go_wp2_with (first | (go_at_call 30; refine (with_any z 1 1 _ [(p : Int)] _ hz1 (by decide) (Rd.lit (by first | rfl | simp) rfl (by decide))).mono ?_; rintro e w' ⟨rfl, rfl⟩))
          all_goals
            go_roundw
            case rel => exact ⟨k + 1, z ||| bitN p, by omega, by go_num, rfl, or_lt hz1 (bitN_lt _), HZ.out.symm, (hbr.alloc hbr.size _).alloc (by simp; have := hbr.size; omega) _⟩
            case measure => simp [intOf]; omega
    · go_wp2
      go_ret
      refine ⟨ret_int ?_, ?_⟩
      · rw [hz.out, HF.out, List.take_of_length_le (by rw [memN_len]; omega)]
      · exact hb1.trans (hbr.mono hb1.size)
end Go.Proofs.YtpnmhlcbmbpfdaaDoor
