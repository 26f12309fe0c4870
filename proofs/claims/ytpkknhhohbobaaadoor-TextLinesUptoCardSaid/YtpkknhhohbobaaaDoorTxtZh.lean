/- text: TextBack -/
import Derived.Test.YtpkknhhohbobaaaDoorTxtZg
namespace Go.Proofs.YtpkknhhohbobaaaDoor
set_option linter.unusedSimpArgs false
set_option linter.unusedVariables false
open Go.RowKit Go.Sort
theorem yieldsIf_blk {P : Program} {ops : Array Oper} {S : World → Prop} {op : Oper} {a : Act} (hw : Region.wanted op (yielded ops a.tmps) = true) (ty : TypeId) (x : Operand) (ho : op.op = .load ty x)
    (b : Nat) (hx : a.eval x = .pointer (some ⟨b, 0, none⟩)) (cs : Array Value) (d : TypeDesc) (hS : ∀ w, S w → BlkAt w b ty cs)
    (hu : P.underlying ty = some d) (hd : d.isRow = true) (hi : (P.info? ty).map (·.size) = some cs.size) : YieldsIf P ops S op (.agg cs) a := by
  have := yieldsIf_load_mid (S := S) hw ty x ho b 0 hx cs.toList d (fun w h => (hS w h).range (fun j u hj => by rw [Nat.zero_add]; simpa using hj)) hu hd (by simpa using hi)
  simpa using this
set_option maxHeartbeats 12800000 in
set_option maxRecDepth 100000 in
theorem back_law {x : TEv} {da na : Option Addr} {dn dc nn nc : Nat} {w : World} (line : ByteArray) (hE : EvR w x da dn dc na nn nc) (hT : TL w) :
    Calls Tryd.prog 4 #[.agg (evC x da dn dc na nn nc), .string line] w fun e w' => e = .returned (.bool true) ∧ Below w.heap.size w w' := by
  have hb0 := alloc_below w (.cells (evC x da dn dc na nn nc) 33)
  have hX := BlkAt.new w 33 (evC x da dn dc na nn nc)
  obtain ⟨w0, hw0⟩ : ∃ z, z = w.alloc (.cells (evC x da dn dc na nn nc) 33) := ⟨_, rfl⟩
  rw [← hw0] at hb0 hX
  have HA := Lib.hid (awake_any w0 (hT.on hb0))
  have HP := Lib.hid (fun (W : World) (hb : Below w.heap.size w W) => print_any (hE.below hb) (hT.on hb))
  obtain ⟨xb, hxb⟩ : ∃ z, z = w.heap.size := ⟨_, rfl⟩
  rw [← hxb] at hX
  obtain ⟨cs, hcs⟩ : ∃ z, z = (evC x da dn dc na nn nc) := ⟨_, rfl⟩
  have hcl : cs.toList.length = 19 := by rw [hcs]; rfl
  have hce : erC ⟨x, da, dn, dc, na, nn, nc⟩ = cs.toList := by rw [hcs]; rfl
  have hIE : (Tryd.prog.info? 33).map (·.size) = some cs.size := by rw [hcs]; exact Tryd.evI
  rw [← hcs] at hX HP hw0 ⊢
  replace hw0 := Lib.hid hw0
  replace hxb := Lib.hid hxb
  replace hX := Lib.hid hX
  replace hb0 := Lib.hid hb0
  replace hT := Lib.hid hT
  replace hE := Lib.hid hE
  replace hcs := Lib.hid hcs
  go_enter Tryd.func4, Tryd.ntmps4
  go_upto_region 1 with (first | (refine wpList_blk_box rfl (.tmp 0) rfl rfl xb hxb.out.symm ?_; rw [← hw0.out]))
  go_wp2_with fail
  refine HA.out.mono ?_
  rintro e w1 ⟨rfl, hb1⟩
  have hX1 := hX.out.below hb1 hX.out.lt
  have hB1 := Lib.hid (belS hb0.out hb1)
  have hb2 := alloc_below w1 (.cells cs 33)
  have hr2 : Rd (w1.alloc (.cells cs 33)) 19 (some ⟨w1.heap.size, 0, none⟩) 1 1 cs.toList := rd_newn rfl hcl
  rw [← hce, ← flatMap_erC1] at hr2
  have HF := Lib.hid (few_any _ 1 1 [⟨x, da, dn, dc, na, nn, nc⟩] _ hr2)
  have hX2 := Lib.hid (hX1.below hb2 hX1.lt)
  have hB2 := Lib.hid (belS hB1.out hb2)
  clear HA hb1 hr2 hb2 hX hb0 hB1
  go_wp2_with (first
    | (refine wpList_blk_load rfl (.tmp 2) rfl Tryd.underlying33 rfl rfl hX1 hIE ?_)
    | (refine wpList_buildSlice1 rfl 36 33 (.tmp 16) rfl Tryd.eveE (by decide) rfl hcl ?_))
  refine HF.out.mono ?_
  rintro e w3 ⟨rfl | rfl, hb3⟩
  · have hB3 := Lib.hid (belS hB2.out hb3)
    have hX3 := hX2.out.below hb3 hX2.out.lt
    clear HF hX2 hB2 hX1 hb3
    by_cases hl : 4000 < line.size
    · have hlI : (4000 : Int) < line.size := by omega
      clear HP hl
      go_wp2
      go_ret
      exact ⟨rfl, hB3.out⟩
    · have hlI : ¬ (4000 : Int) < line.size := by omega
      have HP3 := Lib.hid (HP.out _ hB3.out)
      replace hl := Lib.hid hl
      go_wp2_with (first
        | (refine wpList_blk_load rfl (.tmp 2) rfl Tryd.underlying33 rfl rfl hX3 hIE ?_))
      refine HP3.out.mono ?_
      rintro e w4 ⟨rfl, hb4⟩
      have hB4 := Lib.hid (belS hB3.out hb4)
      have hX4 := Lib.hid (hX3.below hb4 hX3.lt)
      clear HP3 hX3 hb4 hB3 HP hlI
      go_upto_if 31 with (fail)
      go_cut [7, 8, 9] from 31 to 61 (fun _ _ _ wx => Hid (Below w.heap.size w wx))
      case first => as_aux_lemma =>
        by_cases h0 : evE x = 0
        · have hz : Hid (prS x = mkB (lineW x)) := Lib.hid (if_pos h0)
          have hsh := line_short hE.out h0
          have hpl := line_parse hE.out.wf h0
          have hpx : parX (lineW x) = cleanE x := by unfold parX; rw [hpl]; rfl
          have hpe : parE (lineW x) = 0 := by unfold parE; rw [hpl]; rfl
          have hch := Lib.hid (okC_line h0)
          have HQ := Lib.hid (parse_any (lineW x) (by omega) w4 (hT.out.on hB4.out))
          have HCl : Hid (∀ W : World, Below w.heap.size w W → Calls Tryd.prog 12 #[.agg cs] W (PCl x W)) := Lib.hid (fun W hb => by rw [hcs.out]; exact rclean_any x da dn dc na nn nc W (hE.out.dr.below hb (Nat.le_refl _)) (hE.out.nr.below hb (Nat.le_refl _)))
          have hsz := mkB_size (lineW x)
          have hI0 := Lib.hid (fun (i : Nat) (h : i < (lineW x).length) (W : World) => idx_mkB (lineW x) i (lineW x)[i] (List.getElem?_eq_getElem h) .i64 W)
          have hch2 := Lib.hid (fun (i : Nat) (h : i < (lineW x).length) => hch.out (lineW x)[i] (List.getElem_mem h))
          rw [← hz.out] at HQ hsz hI0
          have h0b : (evE x == 0) = true := by simpa using h0
          obtain ⟨N, hN⟩ : ∃ z, z = (lineW x).length := ⟨_, rfl⟩
          have hNb : N ≤ 200000000 := by omega
          rw [← hN] at hsz
          replace hN := Lib.hid hN
          replace hz := Lib.hid trivial
          clear h0 hpl hsh
          go_wp2_with fail
          refine HQ.out.mono ?_
          rintro e w5 ⟨⟨ea, ec, fa, fc, rfl, hf⟩, hb5⟩
          rw [hpx] at hf ⊢
          rw [hpe]
          clear hpx hpe HQ
          obtain ⟨cy, hcy⟩ : ∃ z, z = evC (cleanE x) ea (cleanE x).m.deps.length ec fa (cleanE x).names.length fc := ⟨_, rfl⟩
          have hIy : (Tryd.prog.info? 33).map (·.size) = some cy.size := by rw [hcy]; exact Tryd.evI
          have h1y : cy.all (·.oneCell') = true := by rw [hcy]; exact evC_one _ _ _ _ _ _ _
          have h9y : 0 + cy.size ≤ 19 := by rw [hcy, evC_size]; decide
          have hsy : setArr #[.int .i64 0, .int .i64 0, .int .u64 0, .int .i64 0, .int .u64 0, .int .i64 0, .int .u64 0, .int .i64 0, .int .u32 0, .int .u64 0, .int .i64 0, .slice none 0 0, .string ⟨#[]⟩, .int .u64 0, .int .u64 0, .int .i64 0, .int .u64 0, .slice none 0 0, .string ⟨#[]⟩] 0 cy.toList = cy := by rw [hcy]; exact evC_set _ _ _ _ _ _ _
          rw [← hcy]
          replace hcy := Lib.hid hcy
          have hB5 := Lib.hid (belS hB4.out hb5)
          have hX5 := hX4.out.below hb5 hX4.out.lt
          have hN5 := BlkAt.new w5 33 #[.int .i64 0, .int .i64 0, .int .u64 0, .int .i64 0, .int .u64 0, .int .i64 0, .int .u64 0, .int .i64 0, .int .u32 0, .int .u64 0, .int .i64 0, .slice none 0 0, .string ⟨#[]⟩, .int .u64 0, .int .u64 0, .int .i64 0, .int .u64 0, .slice none 0 0, .string ⟨#[]⟩]
          have hb5a := alloc_below w5 (.cells #[.int .i64 0, .int .i64 0, .int .u64 0, .int .i64 0, .int .u64 0, .int .i64 0, .int .u64 0, .int .i64 0, .int .u32 0, .int .u64 0, .int .i64 0, .slice none 0 0, .string ⟨#[]⟩, .int .u64 0, .int .u64 0, .int .i64 0, .int .u64 0, .slice none 0 0, .string ⟨#[]⟩] 33)
          have hxl := hX5.lt
          have hX5a := Lib.hid (hX5.below hb5a hX5.lt)
          go_upto_region 8 with (first
            | (refine wpList_blk_put (cs := cy) rfl (.tmp 7) (.tmp 35) rfl rfl rfl hN5 hIy h9y h1y ?_; intro w6 hY6 hK6 hs6; rw [hsy] at hY6))
          have hb6 := Kp.below hb5a hK6 (Nat.le_refl _) hb5a.size
          have hX6 := hK6.blk hX5a.out (by omega)
          have hf6 := Lib.hid (hf.below hb6)
          have hB6 := Lib.hid (belS hB5.out hb6)
          generalize w5.heap.size = yb at *
          have hBd : Hid (Below w6.heap.size w6 w6.drew) := Lib.hid (Below.refl _ _).drew
          have hst : BlkAt w6.drew yb 33 cy ∧ BlkAt w6.drew xb 33 cs := ⟨hY6, hX6⟩
          have hBz := Lib.hid (belS hB6.out hBd.out)
          have hf7 := Lib.hid (hf6.out.below hBd.out)
          clear hN5 hb5a hX5 hX5a hK6 hs6 hb6 hY6 hX6 hb5 hf6 hB6 hBd h9y h1y hsy hf
          obtain ⟨wd, hwd⟩ : ∃ z, z = w6.drew := ⟨_, rfl⟩
          refine wp_region_held_drew (S := fun W => BlkAt W yb 33 cy ∧ BlkAt W xb 33 cs) (by kernel_rfl) hst ?_
          intro hHeld
          (refine wpAnyH_take (i := 0) (v := ?_) rfl (by kernel_rfl) (by kernel_rfl) (by kernel_rfl) (fun _ _ _ h => h) (Or.inl ⟨by rfl, ?_⟩) (by assumption) ?_; rotate_left; (focus (intro w hSw; clear hSw; go_simp; (try with_reducible rfl))); (try simp only [Act.put, List.getElem_toArray, List.getElem_cons_zero, List.getElem_cons_succ, List.setIfInBounds_toArray, List.set_cons_zero, List.set_cons_succ]))
          (refine wpAnyH_take (i := 1) (v := ?_) rfl (by kernel_rfl) (by kernel_rfl) (by kernel_rfl) (fun _ _ _ h => h) (Or.inl ⟨by rfl, ?_⟩) (by assumption) ?_; rotate_left; (focus (intro w hSw; clear hSw; go_simp; (try with_reducible rfl))); (try simp only [Act.put, List.getElem_toArray, List.getElem_cons_zero, List.getElem_cons_succ, List.setIfInBounds_toArray, List.set_cons_zero, List.set_cons_succ]))
          (refine wpAnyH_take (i := 2) (v := ?_) rfl (by kernel_rfl) (by kernel_rfl) (by kernel_rfl) (fun _ _ _ h => h) (Or.inl ⟨by rfl, ?_⟩) (by assumption) ?_; rotate_left; (focus (intro w hSw; clear hSw; go_simp; (try with_reducible rfl))); (try simp only [Act.put, List.getElem_toArray, List.getElem_cons_zero, List.getElem_cons_succ, List.setIfInBounds_toArray, List.set_cons_zero, List.set_cons_succ]))
          (refine wpAnyH_take (i := 3) (v := .agg (cy)) rfl (by kernel_rfl) (by kernel_rfl) (by kernel_rfl) (fun _ _ _ h => h) (yieldsIf_blk (by rfl) 33 (.tmp 7) rfl yb rfl cy _ (fun W hW => hW.1) Tryd.underlying33 rfl hIy) (by assumption) ?_; (try simp only [Act.put, List.getElem_toArray, List.getElem_cons_zero, List.getElem_cons_succ, List.setIfInBounds_toArray, List.set_cons_zero, List.set_cons_succ]))
          (refine wpAnyH_take (i := 4) (v := .agg (cs)) rfl (by kernel_rfl) (by kernel_rfl) (by kernel_rfl) (fun _ _ _ h => h) (yieldsIf_blk (by rfl) 33 (.tmp 2) rfl xb rfl cs _ (fun W hW => hW.2) Tryd.underlying33 rfl hIE) (by assumption) ?_; (try simp only [Act.put, List.getElem_toArray, List.getElem_cons_zero, List.getElem_cons_succ, List.setIfInBounds_toArray, List.set_cons_zero, List.set_cons_succ]))
          (refine wpAnyH_ready (rs := [5]) (by kernel_rfl) (by simp) ?_; refine AllReadyH.cons rfl (fun K hK => ?_) AllReadyH.nil)
          go_simp
          refine (HCl.out _ hBz.out).mono ?_
          rintro e w7 ⟨ga, gn, gc, ha, hn, hc, rfl, r1, r2, hb7⟩
          obtain rfl : gn = (cleanE x).m.deps.length := by have := r1.length_eq; unfold c32 at this; rw [List.length_map] at this; omega
          obtain rfl : hn = (cleanE x).names.length := by have := r2.length_eq; rw [flatMap_len nmC_len] at this; omega
          have hst7 : BlkAt w7 yb 33 cy ∧ BlkAt w7 xb 33 cs := ⟨hst.1.below hb7 hst.1.lt, hst.2.below hb7 hst.2.lt⟩
          have hf8 := hf7.out.below hb7
          have HEv := Lib.hid (revents_same (cleanE x) ea ga _ ec gc fa ha _ fc hc w7 hf8.dr hf8.nr r1 r2)
          rw [← hcy.out] at HEv
          refine hK.out _ _ hst7 (fun hHeld => ?_)
          have hBz7 := Lib.hid (belS hBz.out hb7)
          clear hK K r1 r2 hb7 hf7 hf8 hst HCl
          (refine wpAnyH_ready (rs := [6]) (by kernel_rfl) (by simp) ?_; refine AllReadyH.cons rfl (fun K hK => ?_) AllReadyH.nil)
          go_simp
          refine HEv.out.mono ?_
          rintro e w8 ⟨rfl, hb8⟩
          have hst8 : BlkAt w8 yb 33 cy ∧ BlkAt w8 xb 33 cs := ⟨hst7.1.below hb8 hst7.1.lt, hst7.2.below hb8 hst7.2.lt⟩
          refine hK.out _ _ hst8 (fun hHeld => ?_)
          have hB8 := Lib.hid (belS hBz7.out hb8)
          clear hK K hst7 hst8 hb8 hBz7 HEv hBz
          (refine wpAnyH_take (i := 7) (v := ?_) rfl (by kernel_rfl) (by kernel_rfl) (by kernel_rfl) (fun _ _ _ h => h) (Or.inl ⟨by rfl, ?_⟩) (by assumption) ?_; rotate_left; (focus (intro w hSw; clear hSw; go_simp; (try with_reducible rfl))); (try simp only [Act.put, List.getElem_toArray, List.getElem_cons_zero, List.getElem_cons_succ, List.setIfInBounds_toArray, List.set_cons_zero, List.set_cons_succ]))
          (refine wpAnyH_take (i := 8) (v := ?_) rfl (by kernel_rfl) (by kernel_rfl) (by kernel_rfl) (fun _ _ _ h => h) (Or.inl ⟨by rfl, ?_⟩) (by assumption) ?_; rotate_left; (focus (intro w hSw; clear hSw; go_simp; (try with_reducible rfl))); (try simp only [Act.put, List.getElem_toArray, List.getElem_cons_zero, List.getElem_cons_succ, List.setIfInBounds_toArray, List.set_cons_zero, List.set_cons_succ]))
          refine wpAnyH_done (by kernel_rfl) ?_ _
          clear hHeld hIy
          go_wp2
          go_loopw [9] (fun iv wr => ∃ (i : Nat), i ≤ N ∧ iv = .int .i64 i ∧ wr = w8) (fun iv _ => N - (RowKit.intOf iv).toNat)
          case atStart => exact ⟨0, Nat.zero_le _, rfl, rfl⟩
          case round =>
            obtain ⟨i, hi, rfl, rfl⟩ := hrel
            by_cases hin : i < N
            · have hiI : (i : Int) < (prS x).size := by rw [hsz]; omega
              have hI := hI0.out i (by have := hN.out; omega)
              have hcc := hch2.out i (by have := hN.out; omega)
              generalize (lineW x)[i]'(by have := hN.out; omega) = c at *
              have hc1 : ¬ ((c.toNat : Int) < 32) := by omega
              have hc2 : ¬ ((126 : Int) < c.toNat) := by omega
              clear hcc
              go_wp2
              go_roundw
              case rel => exact ⟨i + 1, by omega, by go_num, (by first | rfl | trivial)⟩
              case measure => simp [RowKit.intOf]; omega
            · have hiI : ¬ (i : Int) < (prS x).size := by rw [hsz]; omega
              go_wp2
              go_meet
              exact hB8
        · have h0b : (evE x == 0) = false := by simpa using h0
          clear h0
          go_wp2
          go_meet
          exact hB4
      case rest => as_aux_lemma =>
        replace hcut := hcut
        obtain ⟨w4, hw4⟩ : ∃ z, z = wc := ⟨_, rfl⟩
        rw [← hw4] at hcut ⊢
        obtain ⟨l0, hl0⟩ : ∃ z : W8, z = line.data.toList := ⟨_, rfl⟩
        have hlm : line = mkB l0 := by rw [hl0, mkB_list]
        have hll : l0.length ≤ 4000 := by have := hl.out; rw [hlm, mkB_size] at this; omega
        have HQ := Lib.hid (parse_any l0 (by omega) w4 (hT.out.on hcut.out))
        have HPy := Lib.hid (fun (W : World) (hb : Below w.heap.size w W) (y : TEv) (da dc na nc) (h : EvR W y da y.m.deps.length dc na y.names.length nc) => print_any h (hT.out.on hb))
        rw [← hlm] at HQ
        replace hl0 := Lib.hid hl0
        replace hlm := Lib.hid hlm
        replace hw4 := Lib.hid hw4
        clear hX4 hB4
        go_wp2_with fail
        refine HQ.out.mono ?_
        rintro e w5 ⟨⟨ea, ec, fa, fc, rfl, hf⟩, hb5⟩
        clear HQ
        obtain ⟨cy, hcy⟩ : ∃ z, z = evC (parX l0) ea (parX l0).m.deps.length ec fa (parX l0).names.length fc := ⟨_, rfl⟩
        have hIy : (Tryd.prog.info? 33).map (·.size) = some cy.size := by rw [hcy]; exact Tryd.evI
        have h1y : cy.all (·.oneCell') = true := by rw [hcy]; exact evC_one _ _ _ _ _ _ _
        have h9y : 0 + cy.size ≤ 19 := by rw [hcy, evC_size]; decide
        have hsy : setArr #[.int .i64 0, .int .i64 0, .int .u64 0, .int .i64 0, .int .u64 0, .int .i64 0, .int .u64 0, .int .i64 0, .int .u32 0, .int .u64 0, .int .i64 0, .slice none 0 0, .string ⟨#[]⟩, .int .u64 0, .int .u64 0, .int .i64 0, .int .u64 0, .slice none 0 0, .string ⟨#[]⟩] 0 cy.toList = cy := by rw [hcy]; exact evC_set _ _ _ _ _ _ _
        rw [← hcy]
        replace hcy := Lib.hid hcy
        have hB5 := Lib.hid (belS hcut.out hb5)
        have hN5 := BlkAt.new w5 33 #[.int .i64 0, .int .i64 0, .int .u64 0, .int .i64 0, .int .u64 0, .int .i64 0, .int .u64 0, .int .i64 0, .int .u32 0, .int .u64 0, .int .i64 0, .slice none 0 0, .string ⟨#[]⟩, .int .u64 0, .int .u64 0, .int .i64 0, .int .u64 0, .slice none 0 0, .string ⟨#[]⟩]
        have hb5a := alloc_below w5 (.cells #[.int .i64 0, .int .i64 0, .int .u64 0, .int .i64 0, .int .u64 0, .int .i64 0, .int .u64 0, .int .i64 0, .int .u32 0, .int .u64 0, .int .i64 0, .slice none 0 0, .string ⟨#[]⟩, .int .u64 0, .int .u64 0, .int .i64 0, .int .u64 0, .slice none 0 0, .string ⟨#[]⟩] 33)
        by_cases h0 : parE l0 = 0
        · obtain ⟨y, hy⟩ := parE_eq h0
          have hxy : parX l0 = y := by unfold parX; rw [hy]; rfl
          rw [hxy] at hf hcy
          obtain ⟨p1, p2, p3⟩ := parsed_print hy
          have hfr := fun (W : World) (hb : Below w5.heap.size w5 W) => (hf.below hb).evr hy (by omega)
          replace hfr := Lib.hid hfr
          rw [h0]
          clear h0 hxy
          go_upto_region 16 with (first
            | (refine wpList_blk_put (cs := cy) rfl (.tmp 10) (.tmp 65) rfl rfl rfl hN5 hIy h9y h1y ?_; intro w6 hY6 hK6 hs6; rw [hsy] at hY6))
          have hb6 := Kp.below hb5a hK6 (Nat.le_refl _) hb5a.size
          have hB6 := Lib.hid (belS hB5.out hb6)
          have HP6 := Lib.hid (HPy.out w6 hB6.out y ea ec fa fc (hfr.out w6 hb6))
          rw [← hcy.out, p1, p2, ← hlm.out] at HP6
          have hfr6 := Lib.hid (fun (W : World) (hb : Below w6.heap.size w6 W) => hfr.out W (belS hb6 hb))
          generalize w5.heap.size = yb at *
          clear hK6 hs6 hb6 hN5 hb5a hb5 hfr hf h9y h1y hsy HPy hB5
          go_wp2_with (first
            | (refine wpList_blk_load rfl (.tmp 10) rfl Tryd.underlying33 rfl rfl hY6 hIy ?_))
          refine HP6.out.mono ?_
          rintro e w7 ⟨rfl, hb7⟩
          have hY7 := hY6.below hb7 hY6.lt
          have hB7 := Lib.hid (belS hB6.out hb7)
          have hfr7 := Lib.hid (fun (W : World) (hb : Below w7.heap.size w7 W) => hfr6.out W (belS hb7 hb))
          have HCl : Hid (∀ W : World, Below w7.heap.size w7 W → Calls Tryd.prog 12 #[.agg cy] W (PCl y W)) := Lib.hid (fun W hb => by rw [hcy.out]; exact rclean_any y ea _ ec fa _ fc W (hfr7.out W hb).dr (hfr7.out W hb).nr)
          clear HP6 hY6 hb7 hB6 hfr6
          go_upto_region 19 with (fail)
          have hBd : Hid (Below w7.heap.size w7 w7.drew) := Lib.hid (Below.refl _ _).drew
          have hst : BlkAt w7.drew yb 33 cy := hY7
          obtain ⟨wd, hwd⟩ : ∃ z, z = w7.drew := ⟨_, rfl⟩
          refine wp_region_held_drew (S := fun W => BlkAt W yb 33 cy) (by kernel_rfl) hst ?_
          intro hHeld
          (refine wpAnyH_take (i := 0) (v := ?_) rfl (by kernel_rfl) (by kernel_rfl) (by kernel_rfl) (fun _ _ _ h => h) (Or.inl ⟨by rfl, ?_⟩) (by assumption) ?_; rotate_left; (focus (intro w hSw; clear hSw; go_simp; (try with_reducible rfl))); (try simp only [Act.put, List.getElem_toArray, List.getElem_cons_zero, List.getElem_cons_succ, List.setIfInBounds_toArray, List.set_cons_zero, List.set_cons_succ]))
          (refine wpAnyH_take (i := 1) (v := ?_) rfl (by kernel_rfl) (by kernel_rfl) (by kernel_rfl) (fun _ _ _ h => h) (Or.inl ⟨by rfl, ?_⟩) (by assumption) ?_; rotate_left; (focus (intro w hSw; clear hSw; go_simp; (try with_reducible rfl))); (try simp only [Act.put, List.getElem_toArray, List.getElem_cons_zero, List.getElem_cons_succ, List.setIfInBounds_toArray, List.set_cons_zero, List.set_cons_succ]))
          (refine wpAnyH_take (i := 2) (v := ?_) rfl (by kernel_rfl) (by kernel_rfl) (by kernel_rfl) (fun _ _ _ h => h) (Or.inl ⟨by rfl, ?_⟩) (by assumption) ?_; rotate_left; (focus (intro w hSw; clear hSw; go_simp; (try with_reducible rfl))); (try simp only [Act.put, List.getElem_toArray, List.getElem_cons_zero, List.getElem_cons_succ, List.setIfInBounds_toArray, List.set_cons_zero, List.set_cons_succ]))
          (refine wpAnyH_take (i := 3) (v := ?_) rfl (by kernel_rfl) (by kernel_rfl) (by kernel_rfl) (fun _ _ _ h => h) (Or.inl ⟨by rfl, ?_⟩) (by assumption) ?_; rotate_left; (focus (intro w hSw; clear hSw; go_simp; (try with_reducible rfl))); (try simp only [Act.put, List.getElem_toArray, List.getElem_cons_zero, List.getElem_cons_succ, List.setIfInBounds_toArray, List.set_cons_zero, List.set_cons_succ]))
          (refine wpAnyH_take (i := 4) (v := ?_) rfl (by kernel_rfl) (by kernel_rfl) (by kernel_rfl) (fun _ _ _ h => h) (Or.inl ⟨by rfl, ?_⟩) (by assumption) ?_; rotate_left; (focus (intro w hSw; clear hSw; go_simp; (try with_reducible rfl))); (try simp only [Act.put, List.getElem_toArray, List.getElem_cons_zero, List.getElem_cons_succ, List.setIfInBounds_toArray, List.set_cons_zero, List.set_cons_succ]))
          (refine wpAnyH_take (i := 5) (v := ?_) rfl (by kernel_rfl) (by kernel_rfl) (by kernel_rfl) (fun _ _ _ h => h) (Or.inl ⟨by rfl, ?_⟩) (by assumption) ?_; rotate_left; (focus (intro w hSw; clear hSw; go_simp; (try with_reducible rfl))); (try simp only [Act.put, List.getElem_toArray, List.getElem_cons_zero, List.getElem_cons_succ, List.setIfInBounds_toArray, List.set_cons_zero, List.set_cons_succ]))
          (refine wpAnyH_take (i := 6) (v := ?_) rfl (by kernel_rfl) (by kernel_rfl) (by kernel_rfl) (fun _ _ _ h => h) (Or.inl ⟨by rfl, ?_⟩) (by assumption) ?_; rotate_left; (focus (intro w hSw; clear hSw; go_simp; (try with_reducible rfl))); (try simp only [Act.put, List.getElem_toArray, List.getElem_cons_zero, List.getElem_cons_succ, List.setIfInBounds_toArray, List.set_cons_zero, List.set_cons_succ]))
          (refine wpAnyH_take (i := 7) (v := ?_) rfl (by kernel_rfl) (by kernel_rfl) (by kernel_rfl) (fun _ _ _ h => h) (Or.inl ⟨by rfl, ?_⟩) (by assumption) ?_; rotate_left; (focus (intro w hSw; clear hSw; go_simp; (try with_reducible rfl))); (try simp only [Act.put, List.getElem_toArray, List.getElem_cons_zero, List.getElem_cons_succ, List.setIfInBounds_toArray, List.set_cons_zero, List.set_cons_succ]))
          (refine wpAnyH_take (i := 8) (v := .agg (cy)) rfl (by kernel_rfl) (by kernel_rfl) (by kernel_rfl) (fun _ _ _ h => h) (yieldsIf_blk (by rfl) 33 (.tmp 10) rfl yb rfl cy _ (fun W hW => hW) Tryd.underlying33 rfl hIy) (by assumption) ?_; (try simp only [Act.put, List.getElem_toArray, List.getElem_cons_zero, List.getElem_cons_succ, List.setIfInBounds_toArray, List.set_cons_zero, List.set_cons_succ]))
          (refine wpAnyH_take (i := 9) (v := .agg (cy)) rfl (by kernel_rfl) (by kernel_rfl) (by kernel_rfl) (fun _ _ _ h => h) (yieldsIf_blk (by rfl) 33 (.tmp 10) rfl yb rfl cy _ (fun W hW => hW) Tryd.underlying33 rfl hIy) (by assumption) ?_; (try simp only [Act.put, List.getElem_toArray, List.getElem_cons_zero, List.getElem_cons_succ, List.setIfInBounds_toArray, List.set_cons_zero, List.set_cons_succ]))
          (refine wpAnyH_ready (rs := [10]) (by kernel_rfl) (by simp) ?_; refine AllReadyH.cons rfl (fun K hK => ?_) AllReadyH.nil)
          go_simp
          refine (HCl.out _ hBd.out).mono ?_
          rintro e w8 ⟨ga, gn, gc, ha, hn, hc, rfl, r1, r2, hb8⟩
          rw [p3] at r1 r2 ⊢
          obtain rfl : gn = y.m.deps.length := by have := r1.length_eq; unfold c32 at this; rw [List.length_map] at this; omega
          obtain rfl : hn = y.names.length := by have := r2.length_eq; rw [flatMap_len nmC_len] at this; omega
          have hst8 : BlkAt w8 yb 33 cy := hst.below hb8 hst.lt
          have hf8 := hfr7.out w8 (belS hBd.out hb8)
          have HEv := Lib.hid (revents_same y ea ga _ ec gc fa ha _ fc hc w8 hf8.dr hf8.nr r1 r2)
          rw [← hcy.out] at HEv
          refine hK.out _ _ hst8 (fun hHeld => ?_)
          have hB8 := Lib.hid (belS (belS hB7.out hBd.out) hb8)
          clear hK K r1 r2 hb8 hf8 hst HCl hfr7 hBd
          (refine wpAnyH_ready (rs := [11]) (by kernel_rfl) (by simp) ?_; refine AllReadyH.cons rfl (fun K hK => ?_) AllReadyH.nil)
          go_simp
          refine HEv.out.mono ?_
          rintro e w9 ⟨rfl, hb9⟩
          refine hK.out _ _ (hst8.below hb9 hst8.lt) (fun hHeld => ?_)
          have hB9 := Lib.hid (belS hB8.out hb9)
          clear hK K hst8 hb9 hB8 HEv
          (refine wpAnyH_take (i := 12) (v := ?_) rfl (by kernel_rfl) (by kernel_rfl) (by kernel_rfl) (fun _ _ _ h => h) (Or.inl ⟨by rfl, ?_⟩) (by assumption) ?_; rotate_left; (focus (intro w hSw; clear hSw; go_simp; (try with_reducible rfl))); (try simp only [Act.put, List.getElem_toArray, List.getElem_cons_zero, List.getElem_cons_succ, List.setIfInBounds_toArray, List.set_cons_zero, List.set_cons_succ]))
          (refine wpAnyH_take (i := 13) (v := ?_) rfl (by kernel_rfl) (by kernel_rfl) (by kernel_rfl) (fun _ _ _ h => h) (Or.inl ⟨by rfl, ?_⟩) (by assumption) ?_; rotate_left; (focus (intro w hSw; clear hSw; go_simp; (try with_reducible rfl))); (try simp only [Act.put, List.getElem_toArray, List.getElem_cons_zero, List.getElem_cons_succ, List.setIfInBounds_toArray, List.set_cons_zero, List.set_cons_succ]))
          refine wpAnyH_done (by kernel_rfl) ?_ _
          go_wp2
          go_ret
          exact ⟨rfl, hB9.out⟩
        · obtain ⟨hp0, hp4⟩ := parE_ne h0
          have hxy : parX l0 = TEv.zero := by unfold parX; rw [hp0]; rfl
          rw [hxy] at hf hcy
          rw [hp4]
          have HEv := Lib.hid (fun (W : World) (hb : Below w5.heap.size w5 W) => revents_same TEv.zero ea none _ ec 0 fa none _ fc 0 W (hf.below hb).dr (hf.below hb).nr (EvF.zero W 0).dr (EvF.zero W 0).nr)
          rw [← hcy.out] at HEv
          clear h0 hxy HPy
          go_upto_region 16 with (first
            | (refine wpList_blk_put (cs := cy) rfl (.tmp 10) (.tmp 65) rfl rfl rfl hN5 hIy h9y h1y ?_; intro w6 hY6 hK6 hs6; rw [hsy] at hY6))
          have hb6 := Kp.below hb5a hK6 (Nat.le_refl _) hb5a.size
          have HE6 := Lib.hid (HEv.out _ hb6)
          have hB6 := Lib.hid (belS hB5.out hb6)
          generalize w5.heap.size = yb at *
          clear hK6 hs6 hb6 hN5 hb5a hb5 hf h9y h1y hsy hB5 HEv
          go_wp2_with (first
            | (refine wpList_blk_load rfl (.tmp 10) rfl Tryd.underlying33 rfl rfl hY6 hIy ?_)
            | (refine wpList_blk_build rfl #[] rfl (cs := evC TEv.zero none 0 0 none 0 0) (by kernel_rfl) ?_))
          refine HE6.out.mono ?_
          rintro e w7 ⟨rfl, hb7⟩
          have hB7 := Lib.hid (belS hB6.out hb7)
          go_wp2
          go_ret
          exact ⟨rfl, hB7.out⟩
  · have hB3 := Lib.hid (belS hB2.out hb3)
    clear HF hX2 hX1 HP
    go_wp2
    go_ret
    exact ⟨rfl, hB3.out⟩
theorem back_claim (cs : Array Value) (line : ByteArray) (w : World) (hT : TL w) (h : ∃ e : Er, cs.toList = erC e ∧ EvR w e.x e.da e.dn e.dc e.na e.nn e.nc) (_ : line.size ≤ maxLen) :
    Calls Tryd.prog 4 #[.agg cs, .string line] w fun e w' => e = .returned (.bool true) ∧ Below w.heap.size w w' := by
  obtain ⟨e, he, hr⟩ := h
  rw [erC_arr he]
  exact back_law line hr hT
end Go.Proofs.YtpkknhhohbobaaaDoor
