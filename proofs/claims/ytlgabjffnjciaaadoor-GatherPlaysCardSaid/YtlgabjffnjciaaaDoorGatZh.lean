/- gather: the counts that Exchanges gave are written; GatherPlays' walk -/
import Derived.Test.YtlgabjffnjciaaaDoorGatZf
namespace Go.Proofs.YtlgabjffnjciaaaDoor
set_option linter.unusedSimpArgs false
set_option linter.unusedVariables false
open Go.RowKit Go.Sort
/-- The exchanges that were given, while their counts are written: the row lies where it lay; each count's cells are numbers. -/
structure CntW (B : Nat) (w0 wr : World) (a : Option Addr) (n c : Nat) (xs : List Xc) : Prop where
  row : Rd wr 6 a n c (xs.flatMap xcC)
  fst : ∀ g off, a = some ⟨g, off, none⟩ → B ≤ g
  cnt : ∀ x ∈ xs, x.pn ≠ 0 → ∃ g off, x.pa = some ⟨g, off, none⟩ ∧ B ≤ g ∧ Unf wr g ∧ (∀ h o, a = some ⟨h, o, none⟩ → h ≠ g) ∧ ∀ j, j < x.pn → ∃ z : Int, wr.cell? ⟨g, off + j, none⟩ = some (.int .u32 z)
  max : ∀ x ∈ xs, x.pn ≤ 9223372036854775807
  bel : Below B w0 wr
section
variable {B n c : Nat} {w0 wr w' : World} {a : Option Addr} {xs : List Xc}
theorem CntW.len (h : CntW B w0 wr a n c xs) : xs.length = n := by
  have := h.row.length_eq
  rw [flatMap_len xcC_len] at this
  omega
theorem CntW.below (h : CntW B w0 wr a n c xs) (hb : Below wr.heap.size wr w') (hB : B ≤ wr.heap.size) : CntW B w0 w' a n c xs :=
  ⟨h.row.below hb (Nat.le_refl _), h.fst, fun x hx hn => by
    obtain ⟨g, off, e, h1, h2, h3, h4⟩ := h.cnt x hx hn
    exact ⟨g, off, e, h1, h2.below hb, h3, fun j hj => by
      obtain ⟨z, hz⟩ := h4 j hj
      exact ⟨z, (hb.cell (p := ⟨g, off + j, none⟩) h2.lt).trans hz⟩⟩, h.max, h.bel.trans (hb.mono hB)⟩
theorem CntW.start {v : Value} (h : ExRow B wr v n xs) (hv : v = .slice a n c) (hU : UnfX wr xs) (hb : Below B w0 wr) : CntW B w0 wr a n c xs := by
  subst hv
  have hB := h.rdB
  refine ⟨hB.rd.row, hB.fst, fun x hx hn => ?_, fun x hx => ?_, hb⟩
  · have hin := hB.rd.inn x hx
    rcases hin.2 with h2 | ⟨g, off, e, hlt, hc⟩
    · exact absurd h2 hn
    · refine ⟨g, off, e, h.nw x hx g off e, hU x hx hn g off e, fun k o ek => ?_, fun j hj => ?_⟩
      · intro e2
        subst e2 ek
        exact ((h.ap x hx).2 k off e hn).1 rfl
      · have hlen := hin.len
        refine ⟨(x.v.cnt[j]'(by omega) : Nat), hc j _ ?_⟩
        simp [u32s, List.getElem?_eq_getElem (show j < x.v.cnt.length by omega)]
  · have := (hB.rd.inn x hx).le_max
    exact this
/-- A count is written. -/
theorem CntW.set (h : CntW B w0 wr a n c xs) {g k : Nat} (hg : B ≤ g) (hU : Unf wr g) (ha : ∀ h o, a = some ⟨h, o, none⟩ → h ≠ g) (z : Int) : CntW B w0 (wr.setCell ⟨g, k, none⟩ (.int .u32 z)) a n c xs := by
  have hk : Kp g wr (wr.setCell ⟨g, k, none⟩ (.int .u32 z)) := (Kp.refl g wr).setCell ⟨g, k, none⟩ rfl _
  refine ⟨Kp.rd hk h.row (fun g' off e => ha g' off e), h.fst, fun x hx hn => ?_, h.max, h.bel.setCell (p := ⟨g, k, none⟩) hg _⟩
  obtain ⟨g2, off, e, h1, h2, h3, h4⟩ := h.cnt x hx hn
  refine ⟨g2, off, e, h1, ?_, h3, fun j hj => ?_⟩
  · by_cases e2 : g2 = g
    · subst e2
      obtain ⟨t, cs, hb⟩ := h2
      exact ⟨t, _, BlkAt.set hb k (.int .u32 z)⟩
    · exact h2.kp hk e2
  · obtain ⟨y, hy⟩ := h4 j hj
    by_cases e2 : (⟨g2, off + j, none⟩ : Addr) = ⟨g, k, none⟩
    · rw [e2] at hy ⊢
      exact ⟨z, World.cell?_setCell_same' wr _ _ (by rw [hy]; rfl)⟩
    · exact ⟨y, (World.cell?_setCell_other wr _ _ _ (fun e3 => e2 e3.symm)).trans hy⟩
end
def PlayP (w0 : World) (ib rb b mb : Nat) (ep rp : Int) (members i : Nat) (wx : World) : Prop := ∃ (v : AtV) (a : Option Addr) (n c : Nat) (xs : List Xc), n ≤ i ∧ PlayE w0 wx ib rb b mb ep rp members v a n c xs
set_option maxHeartbeats 25600000 in
set_option maxRecDepth 100000 in
theorem plays_law (ep rp : Int) (members : Nat) (hmem : members < 18446744073709551616) (a : Option Addr) (n c : Nat) (l : List Ac) (w : World) (hT : Tab w) (hr : RdA w a n c l) (hx : ∀ y ∈ l, ExOk w y.x) (hn : n * 80 ≤ 140737488355328) :
    Calls Tryd.prog 5 #[.agg #[.int .u64 ep, .int .i64 rp], .int .u64 members, .slice a n c] w fun e w' => e = .returned (.bool true) ∧ Below w.heap.size w w' := by
  have hI0 := BlkAt.new w 24 #[Value.int .u64 ep, .int .i64 rp]
  have hb0 := alloc_below w (.cells #[Value.int .u64 ep, .int .i64 rp] 24)
  have HAw := Lib.hid (fun W (hb : Below w.heap.size w W) => awake_any W (hT.below hb hT.1))
  have HR := Lib.hid (fun W (hb : Below w.heap.size w W) => hr.below hb)
  have HF := Lib.hid (fun W (hb : Below w.heap.size w W) t ht => fewA_any a n c l hn t ht W (hr.below hb))
  have HT := Lib.hid (fun W (hb : Below w.heap.size w W) => hT.below hb hT.1)
  have hmx := hr.le_max
  have hl := Lib.hid hr.len
  have hsm := Lib.hid (fun y (hy : y ∈ l) => (hx y hy).2.1)
  have hin0 := Lib.hid hr.inn
  have hfl := Lib.hid (fun h => few_lenA (l := l) h)
  clear hx hr hT
  cases hf : fewA l with
  | false =>
    go_enter Tryd.func5, Tryd.ntmps5
    go_wp2_with (first | (refine wpList_blk_box rfl (.tmp 0) rfl rfl w.heap.size rfl ?_))
    refine (HAw.out _ hb0).mono ?_
    rintro e wA ⟨rfl, hA⟩
    have hA := belS hb0 hA
    go_wp2_with fail
    refine (HF.out _ hA false hf.symm).mono ?_
    rintro e w2 ⟨rfl, hb2⟩
    go_wp2
    go_ret
    exact ⟨rfl, belS hA hb2⟩
  | true =>
  have hn80 : n ≤ 80 := by have := hfl.out hf; have := hl.out; omega
  go_enter Tryd.func5, Tryd.ntmps5
  go_wp2_with (first | (refine wpList_blk_box rfl (.tmp 0) rfl rfl w.heap.size rfl ?_))
  refine (HAw.out _ hb0).mono ?_
  rintro e wA ⟨rfl, hA⟩
  have hIA := hI0.below hA hI0.lt
  have hA := belS hb0 hA
  go_wp2_with fail
  refine (HF.out _ hA true hf.symm).mono ?_
  rintro e w2 ⟨rfl, hb2⟩
  have B2 := Lib.hid (belS hA hb2)
  have hI2 := hIA.below hb2 hIA.lt
  have hic := Tryd.confI ep rp
  clear HAw HF hA hb2 hf hI0 hb0 hIA
  go_wp2_with (first | (refine wpList_blk_load rfl (.tmp 3) rfl Tryd.underlying24 rfl rfl hI2 hic ?_))
  refine (g_new ep rp members hmem w2).mono ?_
  rintro e w3 ⟨b, mb, rfl, hG3, hbl, hml, hb3⟩
  have B3 := Lib.hid (belS B2.out hb3)
  have hI3 := hI2.below hb3 hI2.lt
  have hil := hI2.lt
  have hw2 := B2.out.size
  obtain ⟨hlb, hlm⟩ := hG3.lt
  clear B2 hI2
  go_upto_region 7 with (first
    | (refine wpList_blk_load rfl (.tmp 3) rfl Tryd.underlying24 rfl rfl hI3 hic ?_)
    | (refine wpList_blk_build rfl #[(0, .tmp 24), (1, .tmp 25)] rfl (by rw [List.map_toArray]; exact Tryd.bldR _ _ _) ?_)
    | (refine wpList_blk_alloc rfl rfl Tryd.rfZ w3.heap.size rfl ?_)
    | (refine wpList_blk_store (cs := rfA ⟨ep, rp, members, 0, []⟩ none 0 0) rfl (.tmp 8) (.tmp 26) rfl rfl rfl (BlkAt.new w3 _ _) (Tryd.rfI _ _ _ _) rfl (rfA_one _ _ _ _) ?_; intro w4 hX4 hK4 hsz4))
  have hb4 := alloc_store hK4
  have hP4 : Hid (PlayP w w.heap.size w3.heap.size b mb ep rp members 0 w4) := Lib.hid ⟨⟨ep, rp, members, 0, []⟩, none, 0, 0, [], Nat.le_refl _, ⟨hI3.below hb4 hI3.lt, hX4, (by
      obtain ⟨s, h1, h2⟩ := hG3.below hb4
      exact ⟨s, h1, h2, fun x hx => by
        have : s.xs = [] := by
          have := congrArg AtV.xs h2
          exact List.eq_nil_of_length_eq_zero (by rw [← vX_len]; exact congrArg List.length this)
        rw [this] at hx; cases hx⟩), Rd.mk_nil _ _, (fun g off e => by cases e), (fun x hx => by cases hx), rfl, VInv.start ep rp hmem, ⟨rfl, rfl, rfl⟩, ⟨⟨by omega, by omega, by omega⟩, by omega, by omega⟩, ⟨Nat.le_refl _, by have := B3.out.size; omega, by omega, by omega⟩, belS B3.out hb4⟩⟩
  clear hX4 hK4 hsz4 hb4 hI3 hG3 hb3
  generalize w3.heap.size = rb at *
  go_wp2
  go_loopw [9, 10, 11, 12, 13, 14, 15] (fun iv _ _ _ _ _ _ wr => ∃ (i : Nat), i ≤ n ∧ iv = .int .i64 i ∧ Hid (PlayP w w.heap.size rb b mb ep rp members i wr)) (fun iv _ _ _ _ _ _ _ => n - (RowKit.intOf iv).toNat)
  case atStart => exact ⟨0, Nat.zero_le _, rfl, hP4⟩
  case round =>
    clear hP4
    obtain ⟨i, hi, rfl, hP⟩ := hrel
    obtain ⟨v, ra, rn, rc, xs, hri, hE⟩ := hP.out
    clear hP
    replace hE := Lib.hid hE
    obtain ⟨wo, rfl⟩ : ∃ z, z = wr := ⟨_, rfl⟩
    by_cases hin : i < n
    · have hiI : (i : Int) < n := by omega
      have hil : i < l.length := by rw [hl.out]; exact hin
      obtain ⟨g, off, rfl, hg, hrg, _, hinx⟩ := (HR.out _ hE.out.bel).at hil
      have hsy := hsm.out _ (List.getElem_mem hil)
      have hiy := Lib.hid (hin0.out _ (List.getElem_mem hil))
      generalize l[i] = y at *
      have hi8 := Tryd.acI y
      go_upto_region 12 with (first
        | (refine wpList_load_mid rfl _ (.tmp 35) rfl g (off + i * 8) rfl (acC y) _ hrg Tryd.underlying45 rfl hi8 ?_)
        | (refine wpList_blk_alloc rfl rfl Tryd.acZ wo.heap.size rfl ?_)
        | (refine wpList_blk_store (cs := acA y) rfl (.tmp 10) (.tmp 36) rfl rfl rfl (BlkAt.new wo _ _) hi8 rfl (acA_one y) ?_; intro w4 hX hK4 hsz4))
      have hb4 := alloc_store hK4
      have hE4 := Lib.hid (hE.out.below hb4)
      have hrl := hE.out.rfb.lt
      obtain ⟨hob, hom⟩ := hE.out.gat.gat.lt
      have hoB := hE.out.bel.size
      clear hrg hinx hK4 hsz4 hb4 hE
      obtain ⟨x0, x1, x2, xr⟩ := blk8 hX
      obtain ⟨rd, hrd⟩ : ∃ z, z = y.rdy := ⟨_, rfl⟩
      rw [← hrd] at x0
      clear hrd
      go_upto_if 38 with (fail)
      go_cut [11, 12] from 39 to 60 (fun o k wx => ∃ t, o = .bool t ∧ k = .bool t ∧ PlayP w w.heap.size rb b mb ep rp members (i + 1) wx)
      case first => as_aux_lemma =>
        cases rd with
        | true =>
          go_wp2_with fail
          refine (c_ready y.p _ rfl hE4.out.gat).mono ?_
          rintro e w5 ⟨rfl, hG5, hk5⟩
          have hX5 := hk5.blk hX (fun h => by rcases h with h | h <;> omega)
          have hH5 := Lib.hid (hE4.out.ahead hG5 hk5)
          have hB5 := hH5.out.rfb
          clear x0 x1 x2 xr hG5 hk5
          obtain ⟨x0, x1, x2, xr⟩ := blk8 hX5
          have hiR := Tryd.rfI v ra rn rc
          go_wp2_with (refine wpList_blk_load rfl (.tmp 8) rfl Tryd.underlying53 rfl rfl hB5 hiR ?_)
          refine (rready_any y.p _ rfl hH5.out.rf).mono ?_
          rintro e w6 ⟨rfl, hb6⟩
          have hB6 := hB5.below hb6 hB5.lt
          have hiR2 := Tryd.rfI (rdyV v y.p) ra rn rc
          have hRf := Lib.hid ((hH5.out.rf.toRdy y.p).below hb6)
          clear x0 x1 x2 xr
          go_wp2_with (refine wpList_blk_store (cs := rfA (rdyV v y.p) ra rn rc) rfl (.tmp 8) (.tmp 48) rfl rfl rfl hB6 hiR2 rfl (rfA_one _ _ _ _) ?_; intro w7 hB7 hK7 hsz7)
          go_meet
          exact ⟨_, rfl, rfl, rdyV v y.p, ra, rn, rc, xs, by omega, hH5.out.after hb6 hRf.out (fun g off e => .inl e) hH5.out.cnt ⟨(rdyV_mem v y.p).2.2.1, (rdyV_mem v y.p).2.2.2, (rdyV_mem v y.p).1⟩ hK7 hB7⟩
        | false =>
          have hi6 := Tryd.exI y.x
          have hlt4 := hE4.out.rfb.lt
          go_wp2_with (refine wpList_load_mid rfl _ (.tmp 51) rfl wo.heap.size 2 rfl (xcC y.x) _ xr Tryd.underlying43 rfl hi6 ?_)
          refine (c_add (fun g h => h ▸ hlt4) y.x _ rfl hE4.out.gat (hiy.out.below hE4.out.bel) hsy).mono ?_
          rintro e w5 ⟨rfl, hG5, hk5⟩
          have hX5 := hk5.blk hX (fun h => by rcases h with h | h <;> omega)
          have hH5 := Lib.hid (hE4.out.ahead hG5 hk5)
          have hB5 := hH5.out.rfb
          clear x0 x1 x2 xr hG5 hk5
          obtain ⟨x0, x1, x2, xr⟩ := blk8 hX5
          have hiR := Tryd.rfI v ra rn rc
          go_wp2_with (first
            | (refine wpList_blk_load rfl (.tmp 8) rfl Tryd.underlying53 rfl rfl hB5 hiR ?_)
            | (refine wpList_load_mid rfl _ (.tmp 56) rfl wo.heap.size 2 rfl (xcC y.x) _ xr Tryd.underlying43 rfl hi6 ?_))
          refine (radd_any y.x _ rfl hH5.out.rf (hiy.out.below hH5.out.bel) (by omega)).mono ?_
          rintro e w6 ⟨a', n', c', xs', rfl, hRf, ⟨hn', ha', hx'⟩, hb6⟩
          have hB6 := hB5.below hb6 hB5.lt
          have hiR2 := Tryd.rfI (addV v y.x.v) a' n' c'
          have hRf := Lib.hid hRf
          have ha' := Lib.hid ha'
          have hx' := Lib.hid hx'
          clear x0 x1 x2 xr
          go_wp2_with (refine wpList_blk_store (cs := rfA (addV v y.x.v) a' n' c') rfl (.tmp 8) (.tmp 59) rfl rfl rfl hB6 hiR2 rfl (rfA_one _ _ _ _) ?_; intro w7 hB7 hK7 hsz7)
          go_meet
          exact ⟨_, rfl, rfl, addV v y.x.v, a', n', c', xs', by omega, hH5.out.after hb6 hRf.out ha'.out (fun z hz => by rcases hx'.out z hz with h | h; exact hH5.out.cnt z h; exact h ▸ hiy.out) ⟨(addV_mem v y.x.v).2.2.1, (addV_mem v y.x.v).2.2.2, (addV_mem v y.x.v).1⟩ hK7 hB7⟩
      case rest => as_aux_lemma =>
        obtain ⟨tb, rfl, rfl, hP⟩ := hcut
        obtain ⟨w7, rfl⟩ : ∃ z, z = wc := ⟨_, rfl⟩
        clear x0 x1 x2 xr hX hE4 hri
        obtain ⟨v, ra, rn, rc, xs, hri, hE⟩ := hP
        have hE7 := Lib.hid hE
        clear hE
        have heq : (tb != tb) = false := by cases tb <;> rfl
        go_wp2_with fail
        refine (g_exsF (HT.out _ hE7.out.bel) hE7.out.gat.gat).mono ?_
        rintro e w8 ⟨la, ln, lc, ys, rfl, hrow, hys, hU, hln, hb8⟩
        have hE8 := Lib.hid (hE7.out.below hb8)
        have hW8 := Lib.hid (CntW.start hrow rfl hU hb8)
        have hR8 := Lib.hid hrow.rd
        replace hys := Lib.hid hys
        clear hrow hU
        obtain ⟨tt, htt⟩ : ∃ z, z = toldV v := ⟨_, rfl⟩
        obtain ⟨dv, hdv⟩ : ∃ z, z = doneV v := ⟨_, rfl⟩
        obtain ⟨wv, hwv⟩ : ∃ z, z = waitsV v := ⟨_, rfl⟩
        have q1 : (tt != tt) = false := by cases tt <;> rfl
        have q2 : (dv != dv) = false := by cases dv <;> rfl
        have q3 : ((wv : Int) != (wv : Int)) = false := by simp
        have HT1 := Lib.hid (fun W (hb : Below w8.heap.size w8 W) => g_told tt htt (hE8.out.gat.gat.below hb))
        have HT2 := Lib.hid (fun W (hb : Below w8.heap.size w8 W) => rtold_any tt htt (hE8.out.rf.below hb))
        have HD1 := Lib.hid (fun W (hb : Below w8.heap.size w8 W) => g_done dv hdv (hE8.out.gat.gat.below hb))
        have HD2 := Lib.hid (fun W (hb : Below w8.heap.size w8 W) => rdone_any dv hdv (hE8.out.rf.below hb))
        have HW1 := Lib.hid (fun W (hb : Below w8.heap.size w8 W) => g_waits (hE8.out.gat.gat.below hb))
        have HW2 := Lib.hid (fun W (hb : Below w8.heap.size w8 W) => rwaits_any (hE8.out.rf.below hb))
        have HX2 := Lib.hid (fun W (hb : Below w8.heap.size w8 W) => rexchanges_any (hE8.out.rf.below hb))
        rw [← hwv] at HW1 HW2
        replace hwv := Lib.hid hwv
        have HS := Lib.hid (fun W (hb : Below w8.heap.size w8 W) => rfA_range (hE8.out.rfb.below hb hE8.out.rfb.lt))
        have hiR := Tryd.rfI v ra rn rc
        have b0 : Hid (Below w8.heap.size w8 w8.drew) := Lib.hid (Below.refl _ _).drew
        clear htt hdv
        go_upto_region 18 with (fail)
        go_cut [93] from 63 to 93 (fun t wx => t = .bool false ∧ Below w8.heap.size w8 wx)
        case first => as_aux_lemma =>
          refine wp_region_held_drew (S := fun W => W.rangeAt rb 0 (rfA v ra rn rc).toList) (by kernel_rfl) (HS.out _ b0.out) ?_
          intro hHeld
          (refine wpAnyH_take (i := 0) (v := ?_) rfl (by kernel_rfl) (by kernel_rfl) (by kernel_rfl) (fun _ _ _ h => h) (Or.inl ⟨by rfl, ?_⟩) (by assumption) ?_; rotate_left; (focus (intro w hSw; clear hSw; go_simp; (try with_reducible rfl))); (try simp only [Act.put, List.getElem_toArray, List.getElem_cons_zero, List.getElem_cons_succ, List.setIfInBounds_toArray, List.set_cons_zero, List.set_cons_succ]))
          (refine wpAnyH_take (i := 1) (v := ?_) rfl (by kernel_rfl) (by kernel_rfl) (by kernel_rfl) (fun _ _ _ h => h) (Or.inl ⟨by rfl, ?_⟩) (by assumption) ?_; rotate_left; (focus (intro w hSw; clear hSw; go_simp; (try with_reducible rfl))); (try simp only [Act.put, List.getElem_toArray, List.getElem_cons_zero, List.getElem_cons_succ, List.setIfInBounds_toArray, List.set_cons_zero, List.set_cons_succ]))
          (refine wpAnyH_take (i := 2) (v := ?_) rfl (by kernel_rfl) (by kernel_rfl) (by kernel_rfl) (fun _ _ _ h => h) (Or.inl ⟨by rfl, ?_⟩) (by assumption) ?_; rotate_left; (focus (intro w hSw; clear hSw; go_simp; (try with_reducible rfl))); (try simp only [Act.put, List.getElem_toArray, List.getElem_cons_zero, List.getElem_cons_succ, List.setIfInBounds_toArray, List.set_cons_zero, List.set_cons_succ]))
          (refine wpAnyH_take (i := 3) (v := ?_) rfl (by kernel_rfl) (by kernel_rfl) (by kernel_rfl) (fun _ _ _ h => h) (Or.inl ⟨by rfl, ?_⟩) (by assumption) ?_; rotate_left; (focus (intro w hSw; clear hSw; go_simp; (try with_reducible rfl))); (try simp only [Act.put, List.getElem_toArray, List.getElem_cons_zero, List.getElem_cons_succ, List.setIfInBounds_toArray, List.set_cons_zero, List.set_cons_succ]))
          (refine wpAnyH_take (i := 4) (v := ?_) rfl (by kernel_rfl) (by kernel_rfl) (by kernel_rfl) (fun _ _ _ h => h) (Or.inl ⟨by rfl, ?_⟩) (by assumption) ?_; rotate_left; (focus (intro w hSw; clear hSw; go_simp; (try with_reducible rfl))); (try simp only [Act.put, List.getElem_toArray, List.getElem_cons_zero, List.getElem_cons_succ, List.setIfInBounds_toArray, List.set_cons_zero, List.set_cons_succ]))
          (refine wpAnyH_take (i := 6) (v := .agg (rfA v ra rn rc)) rfl (by kernel_rfl) (by kernel_rfl) (by kernel_rfl) (fun _ _ _ h => h) (yieldsIf_load_mid (by rfl) 53 (.tmp 8) rfl rb 0 rfl (rfA v ra rn rc).toList _ (fun W hW => hW) Tryd.underlying53 rfl hiR) (by assumption) ?_; (try simp only [Act.put, List.getElem_toArray, List.getElem_cons_zero, List.getElem_cons_succ, List.setIfInBounds_toArray, List.set_cons_zero, List.set_cons_succ]))
          (refine wpAnyH_ready (rs := [5]) (by kernel_rfl) (by simp) ?_; refine AllReadyH.cons rfl (fun K hK => ?_) AllReadyH.nil)
          go_simp; refine (HT1.out _ b0.out).mono ?_; rintro e w9 ⟨rfl, hbn⟩; have b1 := Lib.hid (belS b0.out hbn); refine hK.out _ _ (HS.out _ b1.out) (fun hHeld => ?_); clear hK K hbn
          (refine wpAnyH_ready (rs := [7]) (by kernel_rfl) (by simp) ?_; refine AllReadyH.cons rfl (fun K hK => ?_) AllReadyH.nil)
          go_simp; refine (HT2.out _ b1.out).mono ?_; rintro e w10 ⟨rfl, hbn⟩; have b2 := Lib.hid (belS b1.out hbn); refine hK.out _ _ (HS.out _ b2.out) (fun hHeld => ?_); clear hK K hbn
          (refine wpAnyH_take (i := 8) (v := ?_) rfl (by kernel_rfl) (by kernel_rfl) (by kernel_rfl) (fun _ _ _ h => h) (Or.inl ⟨by rfl, ?_⟩) (by assumption) ?_; rotate_left; (focus (intro w hSw; clear hSw; go_simp; (try with_reducible rfl))); (try simp only [Act.put, List.getElem_toArray, List.getElem_cons_zero, List.getElem_cons_succ, List.setIfInBounds_toArray, List.set_cons_zero, List.set_cons_succ]))
          (refine wpAnyH_take (i := 9) (v := ?_) rfl (by kernel_rfl) (by kernel_rfl) (by kernel_rfl) (fun _ _ _ h => h) (Or.inl ⟨by rfl, ?_⟩) (by assumption) ?_; rotate_left; (focus (intro w hSw; clear hSw; go_simp; (try with_reducible rfl))); (try simp only [Act.put, List.getElem_toArray, List.getElem_cons_zero, List.getElem_cons_succ, List.setIfInBounds_toArray, List.set_cons_zero, List.set_cons_succ]))
          (refine wpAnyH_take (i := 10) (v := ?_) rfl (by kernel_rfl) (by kernel_rfl) (by kernel_rfl) (fun _ _ _ h => h) (Or.inl ⟨by rfl, ?_⟩) (by assumption) ?_; rotate_left; (focus (intro w hSw; clear hSw; go_simp; (try with_reducible rfl))); (try simp only [Act.put, List.getElem_toArray, List.getElem_cons_zero, List.getElem_cons_succ, List.setIfInBounds_toArray, List.set_cons_zero, List.set_cons_succ]))
          (refine wpAnyH_take (i := 11) (v := ?_) rfl (by kernel_rfl) (by kernel_rfl) (by kernel_rfl) (fun _ _ _ h => h) (Or.inl ⟨by rfl, ?_⟩) (by assumption) ?_; rotate_left; (focus (intro w hSw; clear hSw; go_simp; (try with_reducible rfl))); (try simp only [Act.put, List.getElem_toArray, List.getElem_cons_zero, List.getElem_cons_succ, List.setIfInBounds_toArray, List.set_cons_zero, List.set_cons_succ]))
          (refine wpAnyH_take (i := 13) (v := .agg (rfA v ra rn rc)) rfl (by kernel_rfl) (by kernel_rfl) (by kernel_rfl) (fun _ _ _ h => h) (yieldsIf_load_mid (by rfl) 53 (.tmp 8) rfl rb 0 rfl (rfA v ra rn rc).toList _ (fun W hW => hW) Tryd.underlying53 rfl hiR) (by assumption) ?_; (try simp only [Act.put, List.getElem_toArray, List.getElem_cons_zero, List.getElem_cons_succ, List.setIfInBounds_toArray, List.set_cons_zero, List.set_cons_succ]))
          (refine wpAnyH_ready (rs := [12]) (by kernel_rfl) (by simp) ?_; refine AllReadyH.cons rfl (fun K hK => ?_) AllReadyH.nil)
          go_simp; refine (HD1.out _ b2.out).mono ?_; rintro e w11 ⟨rfl, hbn⟩; have b3 := Lib.hid (belS b2.out hbn); refine hK.out _ _ (HS.out _ b3.out) (fun hHeld => ?_); clear hK K hbn
          (refine wpAnyH_ready (rs := [14]) (by kernel_rfl) (by simp) ?_; refine AllReadyH.cons rfl (fun K hK => ?_) AllReadyH.nil)
          go_simp; refine (HD2.out _ b3.out).mono ?_; rintro e w12 ⟨rfl, hbn⟩; have b4 := Lib.hid (belS b3.out hbn); refine hK.out _ _ (HS.out _ b4.out) (fun hHeld => ?_); clear hK K hbn
          (refine wpAnyH_take (i := 15) (v := ?_) rfl (by kernel_rfl) (by kernel_rfl) (by kernel_rfl) (fun _ _ _ h => h) (Or.inl ⟨by rfl, ?_⟩) (by assumption) ?_; rotate_left; (focus (intro w hSw; clear hSw; go_simp; (try with_reducible rfl))); (try simp only [Act.put, List.getElem_toArray, List.getElem_cons_zero, List.getElem_cons_succ, List.setIfInBounds_toArray, List.set_cons_zero, List.set_cons_succ]))
          (refine wpAnyH_take (i := 16) (v := ?_) rfl (by kernel_rfl) (by kernel_rfl) (by kernel_rfl) (fun _ _ _ h => h) (Or.inl ⟨by rfl, ?_⟩) (by assumption) ?_; rotate_left; (focus (intro w hSw; clear hSw; go_simp; (try with_reducible rfl))); (try simp only [Act.put, List.getElem_toArray, List.getElem_cons_zero, List.getElem_cons_succ, List.setIfInBounds_toArray, List.set_cons_zero, List.set_cons_succ]))
          (refine wpAnyH_take (i := 17) (v := ?_) rfl (by kernel_rfl) (by kernel_rfl) (by kernel_rfl) (fun _ _ _ h => h) (Or.inl ⟨by rfl, ?_⟩) (by assumption) ?_; rotate_left; (focus (intro w hSw; clear hSw; go_simp; (try with_reducible rfl))); (try simp only [Act.put, List.getElem_toArray, List.getElem_cons_zero, List.getElem_cons_succ, List.setIfInBounds_toArray, List.set_cons_zero, List.set_cons_succ]))
          (refine wpAnyH_take (i := 18) (v := ?_) rfl (by kernel_rfl) (by kernel_rfl) (by kernel_rfl) (fun _ _ _ h => h) (Or.inl ⟨by rfl, ?_⟩) (by assumption) ?_; rotate_left; (focus (intro w hSw; clear hSw; go_simp; (try with_reducible rfl))); (try simp only [Act.put, List.getElem_toArray, List.getElem_cons_zero, List.getElem_cons_succ, List.setIfInBounds_toArray, List.set_cons_zero, List.set_cons_succ]))
          (refine wpAnyH_take (i := 20) (v := .agg (rfA v ra rn rc)) rfl (by kernel_rfl) (by kernel_rfl) (by kernel_rfl) (fun _ _ _ h => h) (yieldsIf_load_mid (by rfl) 53 (.tmp 8) rfl rb 0 rfl (rfA v ra rn rc).toList _ (fun W hW => hW) Tryd.underlying53 rfl hiR) (by assumption) ?_; (try simp only [Act.put, List.getElem_toArray, List.getElem_cons_zero, List.getElem_cons_succ, List.setIfInBounds_toArray, List.set_cons_zero, List.set_cons_succ]))
          (refine wpAnyH_ready (rs := [19]) (by kernel_rfl) (by simp) ?_; refine AllReadyH.cons rfl (fun K hK => ?_) AllReadyH.nil)
          go_simp; refine (HW1.out _ b4.out).mono ?_; rintro e w13 ⟨rfl, hbn⟩; have b5 := Lib.hid (belS b4.out hbn); refine hK.out _ _ (HS.out _ b5.out) (fun hHeld => ?_); clear hK K hbn
          (refine wpAnyH_ready (rs := [21]) (by kernel_rfl) (by simp) ?_; refine AllReadyH.cons rfl (fun K hK => ?_) AllReadyH.nil)
          go_simp; refine (HW2.out _ b5.out).mono ?_; rintro e w14 ⟨rfl, hbn⟩; have b6 := Lib.hid (belS b5.out hbn); refine hK.out _ _ (HS.out _ b6.out) (fun hHeld => ?_); clear hK K hbn
          (refine wpAnyH_take (i := 22) (v := ?_) rfl (by kernel_rfl) (by kernel_rfl) (by kernel_rfl) (fun _ _ _ h => h) (Or.inl ⟨by rfl, ?_⟩) (by assumption) ?_; rotate_left; (focus (intro w hSw; clear hSw; go_simp; (try with_reducible rfl))); (try simp only [Act.put, List.getElem_toArray, List.getElem_cons_zero, List.getElem_cons_succ, List.setIfInBounds_toArray, List.set_cons_zero, List.set_cons_succ]))
          (refine wpAnyH_take (i := 23) (v := ?_) rfl (by kernel_rfl) (by kernel_rfl) (by kernel_rfl) (fun _ _ _ h => h) (Or.inl ⟨by rfl, ?_⟩) (by assumption) ?_; rotate_left; (focus (intro w hSw; clear hSw; go_simp; (try with_reducible rfl))); (try simp only [Act.put, List.getElem_toArray, List.getElem_cons_zero, List.getElem_cons_succ, List.setIfInBounds_toArray, List.set_cons_zero, List.set_cons_succ]))
          (refine wpAnyH_take (i := 24) (v := ?_) rfl (by kernel_rfl) (by kernel_rfl) (by kernel_rfl) (fun _ _ _ h => h) (Or.inl ⟨by rfl, ?_⟩) (by assumption) ?_; rotate_left; (focus (intro w hSw; clear hSw; go_simp; (try with_reducible rfl))); (try simp only [Act.put, List.getElem_toArray, List.getElem_cons_zero, List.getElem_cons_succ, List.setIfInBounds_toArray, List.set_cons_zero, List.set_cons_succ]))
          (refine wpAnyH_take (i := 25) (v := ?_) rfl (by kernel_rfl) (by kernel_rfl) (by kernel_rfl) (fun _ _ _ h => h) (Or.inl ⟨by rfl, ?_⟩) (by assumption) ?_; rotate_left; (focus (intro w hSw; clear hSw; go_simp; (try with_reducible rfl))); (try simp only [Act.put, List.getElem_toArray, List.getElem_cons_zero, List.getElem_cons_succ, List.setIfInBounds_toArray, List.set_cons_zero, List.set_cons_succ]))
          (refine wpAnyH_take (i := 26) (v := .agg (rfA v ra rn rc)) rfl (by kernel_rfl) (by kernel_rfl) (by kernel_rfl) (fun _ _ _ h => h) (yieldsIf_load_mid (by rfl) 53 (.tmp 8) rfl rb 0 rfl (rfA v ra rn rc).toList _ (fun W hW => hW) Tryd.underlying53 rfl hiR) (by assumption) ?_; (try simp only [Act.put, List.getElem_toArray, List.getElem_cons_zero, List.getElem_cons_succ, List.setIfInBounds_toArray, List.set_cons_zero, List.set_cons_succ]))
          (refine wpAnyH_ready (rs := [27]) (by kernel_rfl) (by simp) ?_; refine AllReadyH.cons rfl (fun K hK => ?_) AllReadyH.nil)
          go_simp
          refine (HX2.out _ b6.out).mono ?_
          rintro e w15 ⟨a2, n2, c2, zs, rfl, hzr, hzv, hbn⟩
          have b7 := Lib.hid (belS b6.out hbn)
          refine hK.out _ _ (HS.out _ b7.out) (fun hHeld => ?_)
          clear hK K hbn
          (refine wpAnyH_ready (rs := [28]) (by kernel_rfl) (by simp) ?_; refine AllReadyH.cons rfl (fun K hK => ?_) AllReadyH.nil)
          go_simp
          refine (rexs_eq la ln lc ys a2 n2 c2 zs (by rw [hys.out, hzv]) _ (hR8.out.below b7.out) hzr).mono ?_
          rintro e w16 ⟨rfl, hbn⟩
          have b8 := Lib.hid (belS b7.out hbn)
          refine hK.out _ _ (HS.out _ b8.out) (fun hHeld => ?_)
          clear hK K hbn
          (refine wpAnyH_take (i := 29) (v := ?_) rfl (by kernel_rfl) (by kernel_rfl) (by kernel_rfl) (fun _ _ _ h => h) (Or.inl ⟨by rfl, ?_⟩) (by assumption) ?_; rotate_left; (focus (intro w hSw; clear hSw; go_simp; (try with_reducible rfl))); (try simp only [Act.put, List.getElem_toArray, List.getElem_cons_zero, List.getElem_cons_succ, List.setIfInBounds_toArray, List.set_cons_zero, List.set_cons_succ]))
          (refine wpAnyH_take (i := 30) (v := ?_) rfl (by kernel_rfl) (by kernel_rfl) (by kernel_rfl) (fun _ _ _ h => h) (Or.inl ⟨by rfl, ?_⟩) (by assumption) ?_; rotate_left; (focus (intro w hSw; clear hSw; go_simp; (try with_reducible rfl))); (try simp only [Act.put, List.getElem_toArray, List.getElem_cons_zero, List.getElem_cons_succ, List.setIfInBounds_toArray, List.set_cons_zero, List.set_cons_succ]))
          refine wpAnyH_done (by kernel_rfl) ?_ _
          go_wp2_with fail
          go_meet
          exact ⟨rfl, b8.out⟩
        case rest => as_aux_lemma =>
          obtain ⟨rfl, hb9⟩ := hcut
          obtain ⟨w9, rfl⟩ : ∃ z, z = wc := ⟨_, rfl⟩
          have hW9 := Lib.hid (hW8.out.below hb9 hb8.size)
          have hll := Lib.hid hW8.out.len
          have hlmx : ln ≤ 9223372036854775807 := by omega
          clear HT1 HT2 HD1 HD2 HW1 HW2 HX2 HS b0 hiR hE8 hR8 hys hb9 q1 q2 q3 hW8
          go_wp2
          go_loopw [14, 15] (fun kv _ wr => ∃ (k : Nat), k ≤ ln ∧ kv = .int .i64 k ∧ Hid (CntW w7.heap.size w7 wr la ln lc ys)) (fun kv _ _ => ln - (RowKit.intOf kv).toNat)
          case atStart => exact ⟨0, Nat.zero_le _, rfl, hW9⟩
          case round =>
            clear hW9
            obtain ⟨k, hk, rfl, hW⟩ := hrel
            obtain ⟨wk, rfl⟩ : ∃ z, z = wr := ⟨_, rfl⟩
            by_cases hkl : k < ln
            · have hkI : (k : Int) < ln := by omega
              have hky : k < ys.length := by rw [hll.out]; exact hkl
              have hym := List.getElem_mem hky
              obtain ⟨lb, lo, rfl, _⟩ := Rd.addr hW.out.row (by omega)
              have hpm := hW.out.max _ hym
              have hcell := Lib.hid (fun W (h : CntW w7.heap.size w7 W (some ⟨lb, lo, none⟩) ln lc ys) => show W.cell? ⟨lb, lo + k * 6 + 3, none⟩ = some (.slice ys[k].pa ys[k].pn ys[k].pc) from by
                rw [Nat.add_assoc]
                refine Rd.at h.row ?_
                rw [flatMap_get xcC_len _ _ _ (by decide), List.getElem?_eq_getElem hky]
                rfl)
              have hcnt := Lib.hid (fun W (h : CntW w7.heap.size w7 W (some ⟨lb, lo, none⟩) ln lc ys) => h.cnt _ hym)
              generalize ys[k] = x at *
              clear hym
              go_wp2
              go_loopw [15] (fun jv wr => ∃ (j : Nat), j ≤ x.pn ∧ jv = .int .i64 j ∧ Hid (CntW w7.heap.size w7 wr (some ⟨lb, lo, none⟩) ln lc ys)) (fun jv _ => x.pn - (RowKit.intOf jv).toNat)
              case atStart => exact ⟨0, Nat.zero_le _, rfl, hW⟩
              case round =>
                clear hW
                obtain ⟨j, hj, rfl, hW⟩ := hrel
                obtain ⟨wj, rfl⟩ : ∃ z, z = wr := ⟨_, rfl⟩
                have c3 := hcell.out _ hW.out
                by_cases hjl : j < x.pn
                · have hjI : (j : Int) < x.pn := by omega
                  obtain ⟨g, off, hpa, hBg, hUn, hne, hz⟩ := hcnt.out _ hW.out (by omega)
                  obtain ⟨z, hz⟩ := hz j hjl
                  rw [hpa] at c3
                  have hfz := hUn.fz (off + j)
                  have hS := Lib.hid (fun u => hW.out.set (k := off + j) hBg hUn hne u)
                  have hszB := Lib.hid hW.out.bel.size
                  clear hW hne hUn hpa
                  go_wp2_with fail
                  go_still_tail 16, (by kernel_rfl)
                  go_wp2
                  go_roundw
                  case rel => exact ⟨j + 1, by omega, by go_num, Lib.hid ((hS.out _).below (Below.refl _ _).drew (by simpa using hszB.out))⟩
                  case measure => simp [RowKit.intOf]; omega
                · have hjI : (x.pn : Int) ≤ j := by omega
                  go_wp2
                  go_roundw
                  case rel => first | exact ⟨k + 1, by omega, by go_num, hW⟩ | ((repeat apply Exists.intro); exact ⟨⟨by omega, by go_num, hW⟩, rfl⟩)
                  case measure => simp [RowKit.intOf]; omega
            · have hkI : (ln : Int) ≤ k := by omega
              have hPf := Lib.hid (show PlayP w w.heap.size rb b mb ep rp members (i + 1) wk from ⟨v, ra, rn, rc, xs, hri, hE7.out.below hW.out.bel⟩)
              go_wp2
              go_roundw
              case rel => first | exact ⟨i + 1, by omega, by go_num, hPf⟩ | ((repeat apply Exists.intro); exact ⟨⟨by omega, by go_num, hPf⟩, rfl⟩)
              case measure => simp [RowKit.intOf]; omega
    · have hiI : (n : Int) ≤ i := by omega
      obtain ⟨i1, i2, i3⟩ := hE.out.id
      have hic2 := Tryd.confI ep rp
      have r0 : wo.rangeAt w.heap.size 0 [.int .u64 ep, .int .i64 rp] := hE.out.idb.range (fun j u hj => by rw [Nat.zero_add]; simpa using hj)
      have hlt := hE.out.idb.lt
      have kI := fun d os => Calls.regrown_of (g_id (hE.out.gat.gat.below (below_regrown wo d os)))
      have kM := fun d os => Calls.regrown_of (pureB (g_members (hE.out.gat.gat.below (below_regrown wo d os))))
      rw [i1, i2] at kI
      rw [i3] at kM
      have hbe := Lib.hid hE.out.bel
      have hmm : ((members : Int) == (members : Int)) = true := by simp
      clear i1 i2 i3
      go_wp2_with fail
      refine wp_region_quiet_below (by kernel_rfl) (by kernel_rfl) ?_
      iterate 2 (go_big_quiet_step (first | (with_reducible exact kI _ _)))
      (refine wpQuiet_mid_load (by rfl) _ (.tmp 3) rfl w.heap.size 0 rfl [.int .u64 ep, .int .i64 rp] _ r0 hlt Tryd.underlying24 rfl hic2 ?_; simp only [Act.put, List.setIfInBounds_toArray, List.set_cons_zero, List.set_cons_succ])
      (refine wpQuiet_agg (by rfl) Tryd.confG (.tmp 127) (.tmp 128) _ rfl rfl rfl (fun W => run_eql_cf W ep rp) ?_; simp only [Act.put, List.setIfInBounds_toArray, List.set_cons_zero, List.set_cons_succ])
      repeat (go_big_quiet_step (first | (with_reducible exact kM _ _)))
      refine wpQuiet_nil ?_; intro w4' hw'; obtain ⟨⟨dq, osq⟩, hw''⟩ := hw'; subst hw''
      go_wp2
      go_ret
      exact ⟨rfl, belS hbe.out (below_regrown _ _ _)⟩
theorem plays_claim (ep rp : Int) (members : Int) (a : Option Addr) (n c : Nat) (W : World) (hT : Tab W) (_ : (Lit.int .u64 ep).wf = true) (_ : (Lit.int .i64 rp).wf = true) (hw : (Lit.int .u64 members).wf = true) (r : ∃ l, RSl RAc 8 W a n c l ∧ n * 80 ≤ reachBytes) :
    Calls Tryd.prog 5 #[.agg #[.int .u64 ep, .int .i64 rp], .int .u64 members, .slice a n c] W fun e w' => e = .returned (.bool true) ∧ Below W.heap.size W w' := by
  obtain ⟨l, h1, h2⟩ := r
  obtain ⟨ys, hy, hyo⟩ := h1.acs
  obtain ⟨g0, g1⟩ := wf_u64_bounds hw
  obtain ⟨m, rfl⟩ : ∃ k : Nat, members = k := ⟨members.toNat, by omega⟩
  exact plays_law ep rp m (by omega) a n c ys W hT hy hyo (by unfold reachBytes at h2; omega)
end Go.Proofs.YtlgabjffnjciaaaDoor
