/- filter: FilterOne's walk -/
import Derived.Test.YteeeikkapnchlaaDoorFilTb
namespace Go.Proofs.YteeeikkapnchlaaDoor
set_option linter.unusedSimpArgs false
set_option linter.unusedVariables false
open Go.RowKit Go.Sort
set_option maxHeartbeats 25600000 in
set_option maxRecDepth 100000 in
theorem fone_law (a : Option Addr) (n c : Nat) (l : List Rc) (ca : Option Addr) (cn cc : Nat) (ys : List Int) (w : World) (hT : Tab w) (hr : RdR w a n c l) (hwf : ∀ r ∈ l, r.Wf) (hC : Rd w 1 ca cn cc (ys.map fun y => .int .u8 y)) (hy : ∀ y ∈ ys, 0 ≤ y ∧ y < 256) :
    Calls Tryd.prog 3 #[.slice a n c, .slice ca cn cc] w fun e w' => e = .returned (.bool true) ∧ Below w.heap.size w w' := by
  have HAw := Lib.hid (fun W (hb : Below w.heap.size w W) => awake_any W (hT.below hb hT.1))
  have HN := Lib.hid (fun W (hb : Below w.heap.size w W) => next_any a n c l hwf W (hr.below hb))
  have hln := Lib.hid hr.len
  have hmx := hr.le_max
  have hmc := Rd.le_max hC
  unfold maxLen at hmx hmc
  have hT0 := Lib.hid hT
  have hr0 := Lib.hid hr
  have hC0 := Lib.hid hC
  clear hT hr hC
  obtain ⟨nx, hnx⟩ : ∃ z, z = nextL l := ⟨_, rfl⟩
  rw [← hnx] at HN
  replace hnx := Lib.hid hnx
  by_cases hcs : n < 1 ∨ 5 < n ∨ 20 < cn ∨ nx = 18446744073709551615
  · go_enter Tryd.func3, Tryd.ntmps3
    go_wp2_with fail
    refine (HAw.out _ (Below.refl _ _)).mono ?_
    rintro e w1 ⟨rfl, hb1⟩
    by_cases h1 : n < 1
    · have h1I : (n : Int) < 1 := by omega
      go_wp2
      go_ret
      exact ⟨rfl, hb1⟩
    have h1I : ¬ (n : Int) < 1 := by omega
    by_cases h2 : 5 < n
    · have h2I : (5 : Int) < n := by omega
      go_wp2
      go_ret
      exact ⟨rfl, hb1⟩
    have h2I : ¬ (5 : Int) < n := by omega
    by_cases h3 : 20 < cn
    · have h3I : (20 : Int) < cn := by omega
      go_wp2
      go_ret
      exact ⟨rfl, hb1⟩
    have h3I : ¬ (20 : Int) < cn := by omega
    obtain rfl : nx = 18446744073709551615 := by omega
    go_wp2_with fail
    refine (HN.out _ hb1).mono ?_
    rintro e w2 ⟨rfl, hb2⟩
    have hb2 := belS hb1 hb2
    clear hcs h1 h2 h3
    go_wp2
    go_ret
    exact ⟨rfl, hb2⟩
  have hn1 : 1 ≤ n := by omega
  have hn5 : n ≤ 5 := by omega
  have hc20 : cn ≤ 20 := by omega
  have hnxn : ¬ nx = 18446744073709551615 := by omega
  have hnxB : ((nx : Int) == 18446744073709551615) = false := by simp; omega
  have h1I : ¬ (n : Int) < 1 := by omega
  have h2I : ¬ (5 : Int) < n := by omega
  have h3I : ¬ (20 : Int) < cn := by omega
  replace hnxn := Lib.hid hnxn
  clear hcs
  go_enter Tryd.func3, Tryd.ntmps3
  go_wp2_with fail
  refine (HAw.out _ (Below.refl _ _)).mono ?_
  rintro e w1 ⟨rfl, hb1⟩
  go_wp2_with fail
  refine (HN.out _ hb1).mono ?_
  rintro e w2 ⟨rfl, hb2⟩
  have hb2 := belS hb1 hb2
  have hZ := BlkAt.new w2 30 #[.int .u64 0, .int .i64 0]
  go_wp2_with fail
  refine (allS_any n w2).mono ?_
  rintro e w' ⟨rfl, rfl⟩
  have hbA := hZ.lt
  go_wp2_with (first
    | (refine wpList_blk_alloc rfl rfl Tryd.cofZ w2.heap.size rfl ?_)
    | (refine wpList_blk_store (cs := #[.int .u64 7, .int .i64 0]) rfl (.tmp 6) (.tmp 47) rfl rfl rfl hZ (Tryd.confI 7 0) rfl (by simp [Value.oneCell']) ?_; intro w3 hB3 hK3 hsz3))
  have hb3 := belS hb2 (alloc_store hK3)
  have hT3 := hT0.out.below hb3 hT0.out.1
  have hr3 := Lib.hid (hr0.out.below hb3)
  have hC3 := Lib.hid (hC0.out.below hb3 (Nat.le_refl _))
  obtain ⟨cb, hcb⟩ : ∃ z, z = w2.heap.size := ⟨_, rfl⟩
  rw [← hcb] at hB3 ⊢
  have hcl := hB3.lt
  replace hB3 := Lib.hid hB3
  replace hb3 := Lib.hid hb3
  replace hcb := Lib.hid hcb
  have hS0 := Lib.hid (OS.start hT3)
  obtain ⟨al, hal⟩ : ∃ z, z = allN (n : Nat) := ⟨_, rfl⟩
  rw [← hal]
  have hal64 : al < 18446744073709551616 := by rw [hal]; exact allN_lt _
  replace hal := Lib.hid hal
  have hpos := Lib.hid hT3.1
  clear hZ hK3 hsz3 hbA hb1 hb2 HAw HN hT0 hr0 hC0 hT3 h1I h2I h3I hnxB
  go_loopw [7, 8, 9, 10, 11] (fun fv rv mv iv _ wr => ∃ (i : Nat) (F : Nat → Prop) (fl : List (Nat × Fw)) (ps : List Nat) (xs : List Iw) (fm : List Nat), i ≤ n ∧ iv = .int .i64 i ∧ Hid (OS w3 wr F fl fv rv mv (.slice none 0 0) ps xs fm []) ∧ Hid (L1 l n i fl ps xs fm)) (fun _ _ _ iv _ _ => n - (RowKit.intOf iv).toNat)
  case atStart => exact ⟨0, _, [], [], [], [], Nat.zero_le _, rfl, hS0, Lib.hid (L1.start l n)⟩
  case round =>
    clear hS0
    obtain ⟨i, F, fl, ps, xs, fm, hi, rfl, hS, hL⟩ := hrel
    obtain ⟨wi, rfl⟩ : ∃ z, z = wr := ⟨_, rfl⟩
    have hbi := hS.out.fl.bel
    obtain ⟨ra', rc', rfl, hrd⟩ := Rd.own hS.out.it.own
    obtain ⟨ma', mc', rfl, hmd⟩ := Rd.own hS.out.fm.own
    obtain ⟨fa', fc', rfl, hfd⟩ := Rd.own hS.out.fr.own
    have hxl := hL.out.xsl
    have hpl := hL.out.psl
    have hml := hL.out.fml
    rw [hxl] at hrd ⊢
    rw [hpl] at hfd ⊢
    rw [hml] at hmd ⊢
    replace hS := hS.out
    rw [hxl, hpl, hml] at hS
    replace hS := Lib.hid hS
    by_cases hin : i < n
    · -- L1 BEGIN
      have hiI : (i : Int) < n := by omega
      have hil : i < l.length := by rw [hln.out]; exact hin
      obtain ⟨g, off, rfl, hgl, hat⟩ := (hr3.out.below hbi).addr (by omega)
      obtain ⟨pa, pn, pc, hrg, c4, hpv⟩ := (hat i hil).range
      have hrc := Lib.hid (show rcD l i = l[i] from by unfold rcD; rw [List.getD_eq_getElem?_getD, List.getElem?_eq_getElem hil]; rfl)
      have hwi := hwf _ (List.getElem_mem hil)
      have hpn := RdV.len hpv
      have hpm := Rd.le_max hpv
      unfold maxLen at hpm
      generalize l[i] = r at *
      have hrL := Tryd.recL r.last (.slice pa pn pc)
      by_cases h40 : pn ≤ 40
      · have h40I : ¬ (40 : Int) < pn := by omega
        have HN := Lib.hid (hS.out.fl.fresh r pa pn pc hwi (by omega) hpv)
        clear hat hpv hfd hmd hrd
        go_wp2_with (first
          | (refine wpList_load_mid rfl _ (.tmp 64) rfl g (off + i * 5) rfl [.int .u64 r.last.num, .int .u64 r.last.ce, .int .i64 r.last.cr, .int .u64 r.last.mem, .slice pa pn pc] _ hrg Tryd.underlying38 rfl hrL ?_))
        refine HN.out.mono ?_
        rintro e w4 ⟨b, s4, F4, rfl, hL4, hs4, h14, h24, hb4⟩
        replace hs4 := Lib.hid hs4
        have hS4 := hS.out.more h14 h24 hL4 hb4
        have hS5 := hS4.below (alloc_below w4 (.cells #[.pointer (some ⟨b, 0, none⟩)] 39))
        have hfo5 : World.ownsRow _ _ _ _ _ i _ := hpl ▸ hS5.fr.own
        have hsz5 := hS5.fl.bel.size
        clear HN hS hrg c4
        go_wp2_with (first
          | (at_builtin; refine wpList_append_apart Tryd.fpE rfl (.tmp 61) (.tmp 67) rfl hfo5 rfl (Rd.lit1 (cs := [.pointer (some ⟨b, 0, none⟩)]) rfl rfl) (by decide) rfl (by intro u hu; obtain rfl := List.mem_singleton.1 hu; rfl) (by unfold maxLen; omega) (by omega) hsz5 ?_; intro v' w8 ho8 hg8 hv8; obtain ⟨fa8, fc8, rfl, _⟩ := Rd.own ho8))
        obtain ⟨F8, hS8⟩ : ∃ F8, OS w3 w8 F8 (fl ++ [(b, s4)]) (.slice fa8 (i + 1) fc8) (.slice ra' i rc') (.slice ma' i mc') (.slice none 0 0) (ps ++ [b]) xs fm [] := ⟨_, hS5.pushFr b (by rw [hpl]; exact ho8) hg8 hv8⟩
        clear hS5 hfo5 hsz5 hS4 hb4 hL4 h14 h24 ho8 hg8 hv8
        have hpl8 : (ps ++ [b]).length = i + 1 := by rw [List.length_append, hpl]; rfl
        have hfd8 := hS8.fr.rd.2
        rw [hpl8] at hfd8
        obtain ⟨fg, fo, rfl, _⟩ := hfd8.addr (by omega)
        have hp8 : ((ps ++ [b]).map ptrC)[i]? = some (.pointer (some ⟨b, 0, none⟩)) := by rw [List.getElem?_map, ← hpl, List.getElem?_append_right (Nat.le_refl _), Nat.sub_self]; rfl
        have hSt : Hid (∀ W F l' os, OS w3 W F l' (.slice (some ⟨fg, fo, none⟩) (i + 1) fc8) (.slice ra' i rc') (.slice ma' i mc') (.slice none 0 0) (ps ++ [b]) xs fm os → W.cell? ⟨fg, fo + i, none⟩ = some (.pointer (some ⟨b, 0, none⟩)) ∧ W.rangeAt cb 0 [.int .u64 7, .int .i64 0]) := Lib.hid (fun W F l' os h => ⟨h.fr.rd.2.at hp8, (hB3.out.below h.fl.bel hcl).range (fun j u hj => by rw [Nat.zero_add]; simpa using hj)⟩)
        have hget : (fl ++ [(b, s4)])[i]? = some (b, s4) := by rw [List.getElem?_append_right (by have := hL.out.len; omega), hL.out.len, Nat.sub_self]; rfl
        have hset : ∀ s9, (fl ++ [(b, s4)]).set i (b, s9) = fl ++ [(b, s9)] := fun s9 => by rw [List.set_append_right _ _ (by have := hL.out.len; omega), hL.out.len, Nat.sub_self]; rfl
        have hS8d := hS8.below ((Below.refl w8.heap.size w8).drew)
        have HR := Lib.hid (hS8d.fl.regularK hget (X0 i) 7 0 al hal64 vz_wf)
        have hst0 := hSt.out _ _ _ _ hS8d
        replace hS8d := Lib.hid hS8d
        replace hset := Lib.hid hset
        replace hget := Lib.hid hget
        clear hfd8 hp8 hS8
        refine wp_region_held_drew (S := fun W => W.cell? ⟨fg, fo + i, none⟩ = some (.pointer (some ⟨b, 0, none⟩)) ∧ W.rangeAt cb 0 [.int .u64 7, .int .i64 0]) (by kernel_rfl) hst0 ?_
        intro hHeld
        clear hst0
        have hii : (i : Int) < (i : Int) + 1 := by omega
        (refine wpAnyH_take (i := 0) (v := ?_) rfl (by kernel_rfl) (by kernel_rfl) (by kernel_rfl) (fun _ _ _ h => h) (Or.inl ⟨by rfl, ?_⟩) (by assumption) ?_; rotate_left; (focus (intro w hSw; clear hSw; go_simp; (try with_reducible rfl))); (try simp only [Act.put, List.getElem_toArray, List.getElem_cons_zero, List.getElem_cons_succ, List.setIfInBounds_toArray, List.set_cons_zero, List.set_cons_succ]))
        (refine wpAnyH_take (i := 1) (v := ?_) rfl (by kernel_rfl) (by kernel_rfl) (by kernel_rfl) (fun _ _ _ h => h) (Or.inl ⟨by rfl, ?_⟩) (by assumption) ?_; rotate_left; (focus (intro w hSw; clear hSw; go_simp; (try with_reducible rfl))); (try simp only [Act.put, List.getElem_toArray, List.getElem_cons_zero, List.getElem_cons_succ, List.setIfInBounds_toArray, List.set_cons_zero, List.set_cons_succ]))
        (refine wpAnyH_take (i := 2) (v := ?_) rfl (by kernel_rfl) (by kernel_rfl) (by kernel_rfl) (fun _ _ _ h => h) (Or.inl ⟨by rfl, ?_⟩) (by assumption) ?_; rotate_left; (focus (intro w hSw; clear hSw; go_simp; (try with_reducible rfl))); (try simp only [Act.put, List.getElem_toArray, List.getElem_cons_zero, List.getElem_cons_succ, List.setIfInBounds_toArray, List.set_cons_zero, List.set_cons_succ]))
        (refine wpAnyH_take (i := 3) (v := ?_) rfl (by kernel_rfl) (by kernel_rfl) (by kernel_rfl) (fun _ _ _ h => h) (Or.inl ⟨by rfl, ?_⟩) (by assumption) ?_; rotate_left; (focus (intro w hSw; have hc := hSw.1; clear hSw; go_simp; (try with_reducible rfl))); (try simp only [Act.put, List.getElem_toArray, List.getElem_cons_zero, List.getElem_cons_succ, List.setIfInBounds_toArray, List.set_cons_zero, List.set_cons_succ]))
        (refine wpAnyH_take (i := 4) (v := .agg #[.int .u64 7, .int .i64 0]) rfl (by kernel_rfl) (by kernel_rfl) (by kernel_rfl) (fun _ _ _ h => h) (yieldsIf_load_mid (by rfl) 30 (.tmp 6) rfl cb 0 rfl [.int .u64 7, .int .i64 0] _ (fun W hW => hW.2) Tryd.underlying30 rfl (Tryd.confL 7 0)) (by assumption) ?_; (try simp only [Act.put, List.getElem_toArray, List.getElem_cons_zero, List.getElem_cons_succ, List.setIfInBounds_toArray, List.set_cons_zero, List.set_cons_succ]))
        (refine wpAnyH_take (i := 5) (v := ?_) rfl (by kernel_rfl) (by kernel_rfl) (by kernel_rfl) (fun _ _ _ h => h) (Or.inl ⟨by rfl, ?_⟩) (by assumption) ?_; rotate_left; (focus (intro w hSw; clear hSw; go_simp; (try with_reducible rfl))); (try simp only [Act.put, List.getElem_toArray, List.getElem_cons_zero, List.getElem_cons_succ, List.setIfInBounds_toArray, List.set_cons_zero, List.set_cons_succ]))
        (refine wpAnyH_take (i := 6) (v := ?_) rfl (by kernel_rfl) (by kernel_rfl) (by kernel_rfl) (fun _ _ _ h => h) (Or.inl ⟨by rfl, ?_⟩) (by assumption) ?_; rotate_left; (focus (intro w hSw; clear hSw; go_simp; (try with_reducible rfl))); (try simp only [Act.put, List.getElem_toArray, List.getElem_cons_zero, List.getElem_cons_succ, List.setIfInBounds_toArray, List.set_cons_zero, List.set_cons_succ]))
        (refine wpAnyH_take (i := 7) (v := .int .u32 (i : Int)) rfl (by kernel_rfl) (by kernel_rfl) (by kernel_rfl) (fun _ _ _ h => h) (Or.inl ⟨by rfl, ?_⟩) (by assumption) ?_; focus (intro w hSw; clear hSw; go_simp; exact u32_small (by omega)); (try simp only [Act.put, List.getElem_toArray, List.getElem_cons_zero, List.getElem_cons_succ, List.setIfInBounds_toArray, List.set_cons_zero, List.set_cons_succ]))
        (refine wpAnyH_take (i := 8) (v := .agg (iwA (X0 i))) rfl (by kernel_rfl) (by kernel_rfl) (by kernel_rfl) (fun _ _ _ h => h) (yieldsIf_build (by rfl) 45 #[(2, .tmp 76)] rfl (by rw [List.map_toArray]; exact Tryd.bldX0 i)) (by assumption) ?_; (try simp only [Act.put, List.getElem_toArray, List.getElem_cons_zero, List.getElem_cons_succ, List.setIfInBounds_toArray, List.set_cons_zero, List.set_cons_succ]))
        (refine wpAnyH_ready (rs := [9]) (by kernel_rfl) (by simp) ?_; refine AllReadyH.cons rfl (fun K hK => ?_) AllReadyH.nil)
        go_simp
        refine HR.out.mono ?_
        rintro e w9 ⟨s9, F9, oa, oc, o, rfl, hL9, hs9, h19, h29, hO9, hv9, hk9⟩
        replace hs9 := Lib.hid hs9
        replace hv9 := Lib.hid hv9
        rw [hset.out] at hL9
        have hS9 := hS8d.out.act hget.out h19 h29 hL9 hk9
        refine hK.out _ _ (hSt.out _ _ _ _ hS9) (fun hHeld => ?_)
        clear hK K
        (refine wpAnyH_take (i := 10) (v := ?_) rfl (by kernel_rfl) (by kernel_rfl) (by kernel_rfl) (fun _ _ _ h => h) (Or.inl ⟨by rfl, ?_⟩) (by assumption) ?_; rotate_left; (focus (intro w hSw; clear hSw; go_simp; (try with_reducible rfl))); (try simp only [Act.put, List.getElem_toArray, List.getElem_cons_zero, List.getElem_cons_succ, List.setIfInBounds_toArray, List.set_cons_zero, List.set_cons_succ]))
        refine wpAnyH_done (by kernel_rfl) ?_ _
        have hit := (hO9.2 o (List.mem_singleton.2 rfl)).it
        have hiw := (hO9.2 o (List.mem_singleton.2 rfl)).iwf
        obtain ⟨og, oo, rfl, _⟩ := hO9.1.1.addr (by decide)
        have hrgo : w9.rangeAt og (oo + 1) (iwC o.it) := by
          have := range_sub (ow_range hO9.1.1 0 (Nat.zero_lt_one)) 1 (owC_it o)
          rwa [Nat.zero_mul, Nat.add_zero] at this
        have hiL := Tryd.iwL o.it
        have hS10 := hS9.below (alloc_below w9 (.cells (iwC o.it).toArray 45))
        have hi10 := hit.below (alloc_below w9 (.cells (iwC o.it).toArray 45))
        have hro10 : World.ownsRow _ _ _ _ _ i _ := hxl ▸ hS10.it.own
        have hsz10 := hS10.fl.bel.size
        clear hHeld hS9 hO9 hL9 hk9 h19 h29 hit HR hS8d hSt hset hget
        go_upto_region 20 with (first
          | (refine wpList_load_mid rfl _ (.tmp 85) rfl og (oo + 1) rfl (iwC o.it) _ hrgo Tryd.underlying45 rfl hiL ?_)
          | (refine wpList_buildSlice1 rfl 32 45 (.tmp 86) rfl Tryd.iwE (by decide) rfl rfl ?_)
          | (at_builtin; refine wpList_append_apart Tryd.iwE rfl (.tmp 82) (.tmp 87) rfl hro10 rfl (Rd.lit1 (cs := iwC o.it) rfl rfl) (by decide) rfl (iwC_one _) (by unfold maxLen; omega) (by omega) hsz10 ?_; intro v' w11 ho11 hg11 hv11; obtain ⟨ra11, rc11, rfl, _⟩ := Rd.own ho11))
        obtain ⟨F11, hS11⟩ : ∃ F11, OS w3 w11 F11 (fl ++ [(b, s9)]) (.slice (some ⟨fg, fo, none⟩) (i + 1) fc8) (.slice ra11 (i + 1) rc11) (.slice ma' i mc') (.slice none 0 0) (ps ++ [b]) (xs ++ [o.it]) fm [] := ⟨_, hS10.pushIt o.it hi10 hiw (by rw [hxl]; exact ho11) hg11 hv11⟩
        have hS12 := hS11.below (alloc_below w11 (.cells #[.int .i64 i] 3))
        have hmo12 : World.ownsRow _ _ _ _ _ i _ := hml ▸ hS12.fm.own
        have hsz12 := hS12.fl.bel.size
        clear hS10 hi10 hro10 hsz10 hS11 hrgo ho11 hg11 hv11
        go_wp2_with (first
          | (at_builtin; refine wpList_append_apart Tryd.fintE rfl (.tmp 89) (.tmp 91) rfl hmo12 rfl (Rd.lit1 (cs := [.int .i64 i]) rfl rfl) (by decide) rfl (by intro u hu; obtain rfl := List.mem_singleton.1 hu; rfl) (by unfold maxLen; omega) (by omega) hsz12 ?_; intro v' w13 ho13 hg13 hv13; obtain ⟨ma13, mc13, rfl, _⟩ := Rd.own ho13))
        obtain ⟨F13, hS13⟩ : ∃ F13, OS w3 w13 F13 (fl ++ [(b, s9)]) (.slice (some ⟨fg, fo, none⟩) (i + 1) fc8) (.slice ra11 (i + 1) rc11) (.slice ma13 (i + 1) mc13) (.slice none 0 0) (ps ++ [b]) (xs ++ [o.it]) (fm ++ [i]) [] := ⟨_, hS12.pushFm i (by rw [hml]; exact ho13) hg13 hv13⟩
        replace hS13 := Lib.hid hS13
        clear hS12 hmo12 hsz12 ho13 hg13 hv13
        go_roundw
        case rel => exact ⟨i + 1, F13, fl ++ [(b, s9)], ps ++ [b], xs ++ [o.it], fm ++ [i], by omega, by go_num, hS13, Lib.hid (hL.out.push b s9 o.it (by rw [hs9.out, hs4.out, hal.out, hrc.out]) (congrArg Ov.it (hv9.out.trans (regO_one l i (by rw [hs4.out, hrc.out])))) (by rw [hrc.out, hpn]; exact h40))⟩
        case measure => simp [RowKit.intOf]; omega
      · have h40I : (40 : Int) < pn := by omega
        have hbF := belS hb3.out hbi
        clear hat hpv hfd hmd hrd hrg
        go_wp2
        go_ret
        exact ⟨rfl, hbF⟩
    -- L1 END
    · have hiI : ¬ (i : Int) < n := by omega
      obtain rfl : n = i := by omega
      have hLn := hL.out
      rw [← hln.out] at hLn
      have htot := Lib.hid (tot40 hLn.pd (by rw [hln.out]; exact hn5))
      have hT2 := Lib.hid (TW.start hLn (by rw [hln.out]; exact hn5) hS.out)
      obtain ⟨fg, fo, rfl, _⟩ := hfd.addr (by omega)
      clear hS hL hLn hfd hmd hrd hxl hml hbi
      go_wp2
      go_loopw [8, 9, 12, 13, 14, 15, 16, 17] (fun rv mv ov wv kv _ _ _ wr => ∃ (k wn : Nat) (F : Nat → Prop) (tr : List Nat) (fl : List (Nat × Fw)) (xs : List Iw) (fm : List Nat) (os : List Ow), k ≤ 40 ∧ kv = .int .i64 k ∧ wv = .int .i64 wn ∧ Hid (TW w3 wr F l tr k 0 fl (.slice (some ⟨fg, fo, none⟩) n fc') rv mv ov ps xs fm os wn)) (fun _ _ _ _ kv _ _ _ _ => 40 - (RowKit.intOf kv).toNat)
      case atStart => exact ⟨0, 0, F, [], fl, xs, fm, [], by omega, rfl, rfl, hT2⟩
      case round =>
        clear hT2 fl xs fm F
        obtain ⟨k, wn, F, tr, fl, xs, fm, os, hk, rfl, rfl, hT⟩ := hrel
        obtain ⟨wk, rfl⟩ : ∃ z, z = wr := ⟨_, rfl⟩
        obtain ⟨ra, rc, rfl, hrd⟩ := Rd.own hT.out.st.it.own
        obtain ⟨ma, mc, rfl, hmd⟩ := Rd.own hT.out.st.fm.own
        obtain ⟨oa, oc, rfl, -⟩ := Rd.own hT.out.st.fo.own
        have htl := hT.out.trl
        have hxl := hT.out.xsl
        have hml := hT.out.fml
        have hol := hT.out.fo
        rw [hln.out] at htl hxl hml
        obtain ⟨m, hm⟩ : ∃ z, z = n + tr.length := ⟨_, rfl⟩
        rw [← hm] at hxl hml
        have hT' := hT.out
        rw [hxl, hml] at hT'
        replace hT := Lib.hid hT'
        clear hT'
        rw [hxl] at hrd ⊢
        rw [hml] at hmd ⊢
        have hm10 : m ≤ 10 := by omega
        obtain ⟨on, hon⟩ : ∃ z, z = os.length := ⟨_, rfl⟩
        have hT' := hT.out
        rw [← hon] at hT' hol ⊢
        replace hT := Lib.hid hT'
        clear hT'
        replace hm := Lib.hid hm
        replace hon := Lib.hid hon
        by_cases hkm : k < m ∧ k < 40
        · have hk1 : (k : Int) < m := by omega
          have hk2 : (k : Int) < 40 := by omega
          have hkm1 : k < n + tr.length := by rw [← hm.out]; exact hkm.1
          clear hrd hmd
          go_wp2
          go_loopw [8, 9, 12, 13, 15, 16, 17] (fun rv mv ov wv iv _ _ wr => ∃ (i wn : Nat) (F : Nat → Prop) (tr : List Nat) (fl : List (Nat × Fw)) (xs : List Iw) (fm : List Nat) (os : List Ow), i ≤ n ∧ iv = .int .i64 i ∧ wv = .int .i64 wn ∧ k < n + tr.length ∧ Hid (TW w3 wr F l tr k i fl (.slice (some ⟨fg, fo, none⟩) n fc') rv mv ov ps xs fm os wn)) (fun _ _ _ _ iv _ _ _ => n - (RowKit.intOf iv).toNat)
          case atStart => exact ⟨0, wn, F, tr, fl, xs, fm, os, by omega, rfl, rfl, hkm1, hT⟩
          case round =>
            clear hT fl xs fm F hxl hml hol hon hm hm10 hkm hkm1 htl tr os
            obtain ⟨i, wn, F, tr, fl, xs, fm, os, hi, rfl, rfl, hkm, hT⟩ := hrel
            obtain ⟨wi, rfl⟩ : ∃ z, z = wr := ⟨_, rfl⟩
            obtain ⟨ra, rc, rfl, hrd⟩ := Rd.own hT.out.st.it.own
            obtain ⟨ma, mc, rfl, hmd⟩ := Rd.own hT.out.st.fm.own
            obtain ⟨oa, oc, rfl, -⟩ := Rd.own hT.out.st.fo.own
            have htl := hT.out.trl
            have hxl := hT.out.xsl
            have hml := hT.out.fml
            have hol := hT.out.fo
            rw [hln.out] at htl hxl hml
            obtain ⟨m, hm⟩ : ∃ z, z = n + tr.length := ⟨_, rfl⟩
            rw [← hm] at hxl hml hkm
            have hT' := hT.out
            rw [hxl, hml] at hT'
            replace hT := Lib.hid hT'
            clear hT'
            rw [hxl] at hrd ⊢
            rw [hml] at hmd ⊢
            have hm10 : m ≤ 10 := by omega
            obtain ⟨on, hon⟩ : ∃ z, z = os.length := ⟨_, rfl⟩
            have hT' := hT.out
            rw [← hon] at hT' hol ⊢
            replace hT := Lib.hid hT'
            clear hT'
            replace hm := Lib.hid hm
            replace hon := Lib.hid hon
            by_cases hin : i < n
            · have hiI : (i : Int) < n := by omega
              have hfll := hT.out.fll
              rw [hln.out] at hfll
              obtain ⟨⟨b, s⟩, hget⟩ : ∃ q, fl[i]? = some q := ⟨_, List.getElem?_eq_getElem (by omega)⟩
              have hfd := hT.out.st.fr.rd.2
              have hp : (ps.map ptrC)[i]? = some (.pointer (some ⟨b, 0, none⟩)) := by rw [hT.out.ps, List.getElem?_map, List.getElem?_map, hget]; rfl
              have hfc := hfd.at hp
              replace hp := Lib.hid hp
              have hclose := Lib.hid (hT.out.st.fl.closeK hget)
              have hbi := hT.out.st.fl.bel
              replace hget := Lib.hid hget
              clear hfd hrd hmd
              go_upto_region 29 with (fail)
              go_cut [122] from 103 to 121 (fun t wx => ∃ q, t = .bool q ∧ wx = wi)
              case first => as_aux_lemma =>
                -- A BEGIN
                by_cases hic : i < cn
                · have hicI : (i : Int) < cn := by omega
                  have hCi := hC3.out.below hbi (Nat.le_refl _)
                  have hyl : i < ys.length := by have := hCi.length_eq; simp at this; omega
                  obtain ⟨cg, co, rfl, _⟩ := hCi.addr (by omega)
                  have cc1 : wi.cell? ⟨cg, co + i, none⟩ = some (.int .u8 ys[i]) := hCi.at (by rw [List.getElem?_map, List.getElem?_eq_getElem hyl]; rfl)
                  have hz := hy _ (List.getElem_mem hyl)
                  generalize ys[i] = z at *
                  clear hCi
                  go_wp2
                  go_meet
                  exact ⟨_, rfl, rfl⟩
                · have hicI : ¬ (i : Int) < cn := by omega
                  go_wp2
                  go_meet
                  exact ⟨_, rfl, rfl⟩
                -- A END
              case rest => as_aux_lemma =>
                obtain ⟨q, rfl, rfl⟩ := hcut
                obtain ⟨wi, rfl⟩ : ∃ z, z = wc := ⟨_, rfl⟩
                go_upto_if 122 with (fail)
                go_cut [17] from 103 to 127 (fun _ wx => ∃ (s1 : Fw), Hid (TW w3 wx F l tr k i (fl.set i (b, s1)) (.slice (some ⟨fg, fo, none⟩) n fc') (.slice ra m rc) (.slice ma m mc) (.slice oa on oc) ps xs fm os wn))
                case first => as_aux_lemma =>
                  cases q with
                  | true =>
                    go_wp2_with fail
                    refine hclose.out.mono ?_
                    rintro e w5 ⟨rfl, hL5, hk5⟩
                    have hT5 := Lib.hid (hT.out.close hget.out hL5 hk5)
                    clear hL5 hk5
                    go_wp2
                    go_meet
                    exact ⟨_, hT5⟩
                  | false =>
                    go_wp2
                    go_meet
                    exact ⟨s, by rw [set_same hget.out]; exact hT⟩
                case rest => as_aux_lemma =>
                  obtain ⟨s1, hT1⟩ := hcut
                  obtain ⟨wj, rfl⟩ : ∃ z, z = wc := ⟨_, rfl⟩
                  have hget1 : (fl.set i (b, s1))[i]? = some (b, s1) := List.getElem?_set_self (by omega)
                  clear hclose hT hget
                  obtain ⟨fl1, hfl1⟩ : ∃ z, z = fl.set i (b, s1) := ⟨_, rfl⟩
                  rw [← hfl1] at hT1 hget1
                  clear hfl1
                  obtain ⟨x, hx⟩ : ∃ x, xs[k]? = some x := ⟨_, List.getElem?_eq_getElem (by omega)⟩
                  obtain ⟨a1, ha⟩ : ∃ x, fm[k]? = some x := ⟨_, List.getElem?_eq_getElem (by omega)⟩
                  have hxI := hT1.out.st.itI x (List.mem_of_getElem? hx)
                  have hrd := hT1.out.st.it.rd.2
                  have hmd := hT1.out.st.fm.rd.2
                  rw [hxl] at hrd
                  rw [hml] at hmd
                  obtain ⟨rg, ro, rfl, _⟩ := hrd.addr (by omega)
                  obtain ⟨mg, mo, rfl, _⟩ := hmd.addr (by omega)
                  have hma : (fm.map intC)[k]? = some (.int .i64 a1) := by rw [List.getElem?_map, ha]; rfl
                  have hSt : Hid (∀ W F fl' os, OS w3 W F fl' (.slice (some ⟨fg, fo, none⟩) n fc') (.slice (some ⟨rg, ro, none⟩) m rc) (.slice (some ⟨mg, mo, none⟩) m mc) (.slice oa on oc) ps xs fm os → W.cell? ⟨fg, fo + i, none⟩ = some (.pointer (some ⟨b, 0, none⟩)) ∧ W.cell? ⟨mg, mo + k, none⟩ = some (.int .i64 a1) ∧ W.rangeAt rg (ro + k * 18) (iwC x)) := Lib.hid (fun W F fl' os h => ⟨h.fr.rd.2.at hp.out, h.fm.rd.2.at hma, iw_range2 h.it.rd.2 hx⟩)
                  have hS1d := hT1.out.st.below ((Below.refl wj.heap.size wj).drew)
                  have HD := Lib.hid (hS1d.fl.deliverK hget1 a1 x (hS1d.itI x (List.mem_of_getElem? hx)).1.rd hxI.2)
                  have hst0 := hSt.out _ _ _ _ hS1d
                  have hSTEP := Lib.hid (One.step (s := s1.s) (x := x.v) (a := a1) (by rw [hln.out]; exact hn5) hT1.out.one (by rw [List.getElem?_map, hget1]; rfl) (by show (xs.map (·.v))[k]? = _; rw [List.getElem?_map, hx]; rfl) ha)
                  have hiL := Tryd.iwL x
                  replace hS1d := Lib.hid hS1d
                  replace hget1 := Lib.hid hget1
                  have hkmI : (k : Int) < m := by omega
                  clear hxI hrd hmd hma hx ha hfc
                  -- D BEGIN
                  go_upto_region 31 with (fail)
                  refine wp_region_held_drew (S := fun W => W.cell? ⟨fg, fo + i, none⟩ = some (.pointer (some ⟨b, 0, none⟩)) ∧ W.cell? ⟨mg, mo + k, none⟩ = some (.int .i64 a1) ∧ W.rangeAt rg (ro + k * 18) (iwC x)) (by kernel_rfl) hst0 ?_
                  intro hHeld
                  clear hst0
                  (refine wpAnyH_take (i := 0) (v := ?_) rfl (by kernel_rfl) (by kernel_rfl) (by kernel_rfl) (fun _ _ _ h => h) (Or.inl ⟨by rfl, ?_⟩) (by assumption) ?_; rotate_left; (focus (intro w hSw; clear hSw; go_simp; (try with_reducible rfl))); (try simp only [Act.put, List.getElem_toArray, List.getElem_cons_zero, List.getElem_cons_succ, List.setIfInBounds_toArray, List.set_cons_zero, List.set_cons_succ]))
                  (refine wpAnyH_take (i := 1) (v := ?_) rfl (by kernel_rfl) (by kernel_rfl) (by kernel_rfl) (fun _ _ _ h => h) (Or.inl ⟨by rfl, ?_⟩) (by assumption) ?_; rotate_left; (focus (intro w hSw; clear hSw; go_simp; (try with_reducible rfl))); (try simp only [Act.put, List.getElem_toArray, List.getElem_cons_zero, List.getElem_cons_succ, List.setIfInBounds_toArray, List.set_cons_zero, List.set_cons_succ]))
                  (refine wpAnyH_take (i := 2) (v := ?_) rfl (by kernel_rfl) (by kernel_rfl) (by kernel_rfl) (fun _ _ _ h => h) (Or.inl ⟨by rfl, ?_⟩) (by assumption) ?_; rotate_left; (focus (intro w hSw; clear hSw; go_simp; (try with_reducible rfl))); (try simp only [Act.put, List.getElem_toArray, List.getElem_cons_zero, List.getElem_cons_succ, List.setIfInBounds_toArray, List.set_cons_zero, List.set_cons_succ]))
                  (refine wpAnyH_take (i := 3) (v := ?_) rfl (by kernel_rfl) (by kernel_rfl) (by kernel_rfl) (fun _ _ _ h => h) (Or.inl ⟨by rfl, ?_⟩) (by assumption) ?_; rotate_left; (focus (intro w hSw; have hc := hSw.1; clear hSw; go_simp; (try with_reducible rfl))); (try simp only [Act.put, List.getElem_toArray, List.getElem_cons_zero, List.getElem_cons_succ, List.setIfInBounds_toArray, List.set_cons_zero, List.set_cons_succ]))
                  (refine wpAnyH_take (i := 4) (v := ?_) rfl (by kernel_rfl) (by kernel_rfl) (by kernel_rfl) (fun _ _ _ h => h) (Or.inl ⟨by rfl, ?_⟩) (by assumption) ?_; rotate_left; (focus (intro w hSw; clear hSw; go_simp; (try with_reducible rfl))); (try simp only [Act.put, List.getElem_toArray, List.getElem_cons_zero, List.getElem_cons_succ, List.setIfInBounds_toArray, List.set_cons_zero, List.set_cons_succ]))
                  (refine wpAnyH_take (i := 5) (v := ?_) rfl (by kernel_rfl) (by kernel_rfl) (by kernel_rfl) (fun _ _ _ h => h) (Or.inl ⟨by rfl, ?_⟩) (by assumption) ?_; rotate_left; (focus (intro w hSw; clear hSw; go_simp; (try with_reducible rfl))); (try simp only [Act.put, List.getElem_toArray, List.getElem_cons_zero, List.getElem_cons_succ, List.setIfInBounds_toArray, List.set_cons_zero, List.set_cons_succ]))
                  (refine wpAnyH_take (i := 6) (v := ?_) rfl (by kernel_rfl) (by kernel_rfl) (by kernel_rfl) (fun _ _ _ h => h) (Or.inl ⟨by rfl, ?_⟩) (by assumption) ?_; rotate_left; (focus (intro w hSw; clear hSw; go_simp; (try with_reducible rfl))); (try simp only [Act.put, List.getElem_toArray, List.getElem_cons_zero, List.getElem_cons_succ, List.setIfInBounds_toArray, List.set_cons_zero, List.set_cons_succ]))
                  (refine wpAnyH_take (i := 7) (v := ?_) rfl (by kernel_rfl) (by kernel_rfl) (by kernel_rfl) (fun _ _ _ h => h) (Or.inl ⟨by rfl, ?_⟩) (by assumption) ?_; rotate_left; (focus (intro w hSw; have hc := hSw.2.1; clear hSw; go_simp; (try with_reducible rfl))); (try simp only [Act.put, List.getElem_toArray, List.getElem_cons_zero, List.getElem_cons_succ, List.setIfInBounds_toArray, List.set_cons_zero, List.set_cons_succ]))
                  (refine wpAnyH_take (i := 8) (v := ?_) rfl (by kernel_rfl) (by kernel_rfl) (by kernel_rfl) (fun _ _ _ h => h) (Or.inl ⟨by rfl, ?_⟩) (by assumption) ?_; rotate_left; (focus (intro w hSw; clear hSw; go_simp; (try with_reducible rfl))); (try simp only [Act.put, List.getElem_toArray, List.getElem_cons_zero, List.getElem_cons_succ, List.setIfInBounds_toArray, List.set_cons_zero, List.set_cons_succ]))
                  (refine wpAnyH_take (i := 9) (v := ?_) rfl (by kernel_rfl) (by kernel_rfl) (by kernel_rfl) (fun _ _ _ h => h) (Or.inl ⟨by rfl, ?_⟩) (by assumption) ?_; rotate_left; (focus (intro w hSw; clear hSw; go_simp; (try with_reducible rfl))); (try simp only [Act.put, List.getElem_toArray, List.getElem_cons_zero, List.getElem_cons_succ, List.setIfInBounds_toArray, List.set_cons_zero, List.set_cons_succ]))
                  (refine wpAnyH_take (i := 10) (v := ?_) rfl (by kernel_rfl) (by kernel_rfl) (by kernel_rfl) (fun _ _ _ h => h) (Or.inl ⟨by rfl, ?_⟩) (by assumption) ?_; rotate_left; (focus (intro w hSw; clear hSw; go_simp; (try with_reducible rfl))); (try simp only [Act.put, List.getElem_toArray, List.getElem_cons_zero, List.getElem_cons_succ, List.setIfInBounds_toArray, List.set_cons_zero, List.set_cons_succ]))
                  (refine wpAnyH_take (i := 11) (v := .agg (iwC x).toArray) rfl (by kernel_rfl) (by kernel_rfl) (by kernel_rfl) (fun _ _ _ h => h) (yieldsIf_load_mid (by rfl) 45 (.tmp 138) rfl rg (ro + k * 18) rfl (iwC x) _ (fun W hW => hW.2.2) Tryd.underlying45 rfl hiL) (by assumption) ?_; (try simp only [Act.put, List.getElem_toArray, List.getElem_cons_zero, List.getElem_cons_succ, List.setIfInBounds_toArray, List.set_cons_zero, List.set_cons_succ]))
                  (refine wpAnyH_ready (rs := [12]) (by kernel_rfl) (by simp) ?_; refine AllReadyH.cons rfl (fun K hK => ?_) AllReadyH.nil)
                  go_simp
                  refine HD.out.mono ?_
                  rintro e w9 ⟨s9, qa, qn, qc, po, rfl, hL9, hs9, hO9, hv9, hk9⟩
                  have hS9 := hS1d.out.act hget1.out (fun _ hg => hg) (fun _ hg => .inl hg) hL9 hk9
                  refine hK.out _ _ (hSt.out _ _ _ _ hS9) (fun hHeld => ?_)
                  clear hK K
                  (refine wpAnyH_take (i := 13) (v := ?_) rfl (by kernel_rfl) (by kernel_rfl) (by kernel_rfl) (fun _ _ _ h => h) (Or.inl ⟨by rfl, ?_⟩) (by assumption) ?_; rotate_left; (focus (intro w hSw; clear hSw; go_simp; (try with_reducible rfl))); (try simp only [Act.put, List.getElem_toArray, List.getElem_cons_zero, List.getElem_cons_succ, List.setIfInBounds_toArray, List.set_cons_zero, List.set_cons_succ]))
                  refine wpAnyH_done (by kernel_rfl) ?_ _
                  obtain ⟨tr', hOne⟩ := hSTEP.out
                  rw [← hs9, ← hv9] at hOne
                  have hqn : qn ≤ 2 := by
                    have h1 := hO9.len
                    have h2 := congrArg List.length hv9
                    rw [List.length_map] at h2
                    have := del_few s1.s (a1 : Int) x.v
                    omega
                  have hps9 : ps = (fl1.set i (b, s9)).map (·.1) := by rw [set_fst hget1.out]; exact hT1.out.ps
                  have hOne9 := Lib.hid hOne
                  have hwn : wn ≤ 10 := by
                    have h1 := hT1.out.one.wr
                    have h2 : wn = tr.length := h1
                    omega
                  obtain ⟨fl9, hfl9⟩ : ∃ z, z = fl1.set i (b, s9) := ⟨_, rfl⟩
                  rw [← hfl9] at hS9 hps9
                  have hmap9 : Hid ((fl1.map (·.2.s)).set i s9.s = fl9.map (·.2.s)) := Lib.hid (by rw [hfl9]; exact set_snd.symm)
                  replace hps9 := Lib.hid hps9
                  replace hfl9 := Lib.hid hfl9
                  replace hS9 := Lib.hid hS9
                  replace hO9 := Lib.hid hO9
                  clear hHeld HD hSt hS1d hT1 hSTEP hL9 hk9 hs9 hv9 hget1 hOne
                  go_wp2
                  go_loopw [8, 9, 12, 13, 17] (fun rv mv ov wv jv wr => ∃ (j wn' : Nat) (F' : Nat → Prop) (xs' : List Iw) (fm' : List Nat) (os' : List Ow), j ≤ qn ∧ jv = .int .i64 j ∧ wv = .int .i64 wn' ∧ Hid (OS w3 wr F' fl9 (.slice (some ⟨fg, fo, none⟩) n fc') rv mv ov ps xs' fm' os') ∧ Hid (RdO F' wr qa qn qc po) ∧ Hid (Sim.mk (xs'.map (·.v)) fm' (os'.map (·.v)) wn' = ((po.take j).map (·.v)).foldl (apO i) ⟨xs.map (·.v), fm, os.map (·.v), wn⟩) ∧ xs'.length ≤ 10 + j ∧ fm'.length ≤ 10 + j ∧ os'.length ≤ on + j ∧ wn' ≤ 10 + j ∧ m ≤ fm'.length) (fun _ _ _ _ jv _ => qn - (RowKit.intOf jv).toNat)
                  case atStart => exact ⟨0, wn, F, xs, fm, os, Nat.zero_le _, rfl, rfl, hS9, hO9, Lib.hid rfl, by omega, by omega, by rw [hon.out]; exact Nat.le_refl _, by omega, by omega⟩
                  case round =>
                    clear hS9 hO9
                    obtain ⟨j, wn', F', xs', fm', os', hj, rfl, rfl, hS, hO, hV, hx', hm', ho', hw', hmm⟩ := hrel
                    obtain ⟨wj, rfl⟩ : ∃ z, z = wr := ⟨_, rfl⟩
                    obtain ⟨ra', rc', rfl, -⟩ := Rd.own hS.out.it.own
                    obtain ⟨ma', mc', rfl, -⟩ := Rd.own hS.out.fm.own
                    obtain ⟨oa', oc', rfl, -⟩ := Rd.own hS.out.fo.own
                    obtain ⟨nx', hnx'⟩ : ∃ z, z = xs'.length := ⟨_, rfl⟩
                    obtain ⟨nm', hnm'⟩ : ∃ z, z = fm'.length := ⟨_, rfl⟩
                    obtain ⟨no', hno'⟩ : ∃ z, z = os'.length := ⟨_, rfl⟩
                    replace hS := hS.out
                    rw [← hnx', ← hnm', ← hno'] at hS
                    rw [← hnx'] at hx' ⊢
                    rw [← hnm'] at hm' hmm ⊢
                    rw [← hno'] at ho' ⊢
                    replace hS := Lib.hid hS
                    replace hnx' := Lib.hid hnx'
                    replace hnm' := Lib.hid hnm'
                    replace hno' := Lib.hid hno'
                    by_cases hjq : j < qn
                    · have hjI : (j : Int) < qn := by omega
                      have hpl : j < po.length := by rw [hO.out.len]; exact hjq
                      obtain ⟨qg, qo, rfl, _⟩ := hO.out.1.1.addr (by omega)
                      have hro := ow_range hO.out.1.1 j hpl
                      have hof := hO.out.2 _ (List.getElem_mem hpl)
                      have hst := Lib.hid (show ((po.take (j + 1)).map (·.v)).foldl (apO i) ⟨xs.map (·.v), fm, os.map (·.v), wn⟩ = apO i (Sim.mk (xs'.map (·.v)) fm' (os'.map (·.v)) wn') po[j].v from by rw [List.take_succ_eq_append_getElem hpl, List.map_append, List.foldl_append, ← hV.out]; rfl)
                      generalize po[j] = o at *
                      have c0 : wj.cell? ⟨qg, qo + j * 29, none⟩ = some (.int .i64 o.kind) := by have := hro 0 _ rfl; rwa [Nat.add_zero] at this
                      have hri := range_sub hro 1 (owC_it o)
                      have hiL := Tryd.iwL o.it
                      have howL := Tryd.owL o
                      by_cases e2 : o.kind = 2
                      · have e2b : (o.kind == 2) = true := by simpa using e2
                        have hz := Lib.hid (show apO i (Sim.mk (xs'.map (·.v)) fm' (os'.map (·.v)) wn') o.v = ⟨xs'.map (·.v), fm', os'.map (·.v), wn' + 1⟩ from if_pos e2)
                        clear e2
                        go_wp2
                        go_roundw
                        case rel => exact ⟨j + 1, wn' + 1, F', xs', fm', os', by omega, by go_num, by go_num, hS, hO, Lib.hid (by rw [hst.out, hz.out]), by rw [← hnx'.out]; omega, by rw [← hnm'.out]; omega, by rw [← hno'.out]; omega, by omega, by rw [← hnm'.out]; omega⟩
                        case measure => simp [RowKit.intOf]; omega
                      have e2b : (o.kind == 2) = false := by simpa using e2
                      by_cases e1 : o.kind = 1
                      · have e1b : (o.kind == 1) = true := by simpa using e1
                        have hz := Lib.hid (show apO i (Sim.mk (xs'.map (·.v)) fm' (os'.map (·.v)) wn') o.v = ⟨xs'.map (·.v) ++ [o.it.v], fm' ++ [i], os'.map (·.v), wn'⟩ from by unfold apO; rw [if_neg (show ¬ o.v.kind = 2 from e2), if_pos (show o.v.kind = 1 from e1)]; rfl)
                        have hS5 := hS.out.below (alloc_below wj (.cells (iwC o.it).toArray 45))
                        have hO5 := hO.out.below (alloc_below wj (.cells (iwC o.it).toArray 45))
                        have hi5 := hof.it.below (alloc_below wj (.cells (iwC o.it).toArray 45))
                        have hxo5 : World.ownsRow _ _ _ _ _ nx' _ := hnx'.out.symm ▸ hS5.it.own
                        have hsz5 := hS5.fl.bel.size
                        clear e1 e2
                        go_upto_region 40 with (first
                          | (refine wpList_load_mid rfl _ (.tmp 162) rfl qg (qo + j * 29 + 1) rfl (iwC o.it) _ hri Tryd.underlying45 rfl hiL ?_)
                          | (refine wpList_buildSlice1 rfl 32 45 (.tmp 163) rfl Tryd.iwE (by decide) rfl rfl ?_)
                          | (at_builtin; refine wpList_append_apart Tryd.iwE rfl (.tmp 158) (.tmp 164) rfl hxo5 rfl (Rd.lit1 (cs := iwC o.it) rfl rfl) (by decide) rfl (iwC_one _) (by unfold maxLen; omega) (by omega) hsz5 ?_; intro v' w11 ho11 hg11 hv11; obtain ⟨ra11, rc11, rfl, _⟩ := Rd.own ho11))
                        obtain ⟨F11, hS11, hO11⟩ := hS5.pushItK hO5 o.it hi5 hof.iwf (by rw [← hnx'.out]; exact ho11) hg11 hv11
                        have hS12 := hS11.below (alloc_below w11 (.cells #[.int .i64 i] 3))
                        have hO12 := hO11.below (alloc_below w11 (.cells #[.int .i64 i] 3))
                        have hmo12 : World.ownsRow _ _ _ _ _ nm' _ := hnm'.out.symm ▸ hS12.fm.own
                        have hsz12 := hS12.fl.bel.size
                        clear hS5 hO5 hi5 hxo5 hsz5 hS11 hO11 hri hro ho11 hg11 hv11 c0
                        go_wp2_with (first
                          | (at_builtin; refine wpList_append_apart Tryd.fintE rfl (.tmp 166) (.tmp 168) rfl hmo12 rfl (Rd.lit1 (cs := [.int .i64 i]) rfl rfl) (by decide) rfl (by intro u hu; obtain rfl := List.mem_singleton.1 hu; rfl) (by unfold maxLen; omega) (by omega) hsz12 ?_; intro v' w13 ho13 hg13 hv13; obtain ⟨ma13, mc13, rfl, _⟩ := Rd.own ho13))
                        obtain ⟨F13, hS13, hO13⟩ := hS12.pushFmK hO12 i (by rw [← hnm'.out]; exact ho13) hg13 hv13
                        replace hS13 := Lib.hid hS13
                        replace hO13 := Lib.hid hO13
                        clear hS12 hO12 hmo12 hsz12 ho13 hg13 hv13
                        go_roundw
                        case rel => exact ⟨j + 1, wn', F13, xs' ++ [o.it], fm' ++ [i], os', by omega, by go_num, rfl, hS13, hO13, Lib.hid (by rw [hst.out, hz.out, List.map_append]; rfl), by rw [List.length_append, ← hnx'.out]; show nx' + 1 ≤ _; omega, by rw [List.length_append, ← hnm'.out]; show nm' + 1 ≤ _; omega, by rw [← hno'.out]; omega, by omega, by rw [List.length_append, ← hnm'.out]; omega⟩
                        case measure => simp [RowKit.intOf]; omega
                      have e1b : (o.kind == 1) = false := by simpa using e1
                      by_cases e3 : o.kind = 3
                      · have e3b : (o.kind == 3) = true := by simpa using e3
                        have hz := Lib.hid (show apO i (Sim.mk (xs'.map (·.v)) fm' (os'.map (·.v)) wn') o.v = ⟨xs'.map (·.v), fm', os'.map (·.v) ++ [o.v], wn'⟩ from by unfold apO; rw [if_neg (show ¬ o.v.kind = 2 from e2), if_neg (show ¬ o.v.kind = 1 from e1), if_pos (show o.v.kind = 3 from e3)])
                        have hS5 := hS.out.below (alloc_below wj (.cells (owC o).toArray 47))
                        have hO5 := hO.out.below (alloc_below wj (.cells (owC o).toArray 47))
                        have hi5 := hof.below (alloc_below wj (.cells (owC o).toArray 47))
                        have hoo5 : World.ownsRow _ _ _ _ _ no' _ := hno'.out.symm ▸ hS5.fo.own
                        have hsz5 := hS5.fl.bel.size
                        clear e1 e2 e3
                        go_wp2_with (first
                          | (refine wpList_load_mid rfl _ (.tmp 175) rfl qg (qo + j * 29) rfl (owC o) _ hro Tryd.underlying47 rfl howL ?_)
                          | (refine wpList_buildSlice1 rfl 41 47 (.tmp 176) rfl Tryd.owE (by decide) rfl rfl ?_)
                          | (at_builtin; refine wpList_append_apart Tryd.owE rfl (.tmp 172) (.tmp 177) rfl hoo5 rfl (Rd.lit1 (cs := owC o) rfl rfl) (by decide) rfl (owC_one _) (by unfold maxLen; omega) (by omega) hsz5 ?_; intro v' w11 ho11 hg11 hv11; obtain ⟨oa11, oc11, rfl, _⟩ := Rd.own ho11))
                        obtain ⟨F11, hS11, hO11⟩ := hS5.pushFoK hO5 o hi5 (by rw [← hno'.out]; exact ho11) hg11 hv11
                        replace hS11 := Lib.hid hS11
                        replace hO11 := Lib.hid hO11
                        clear hS5 hO5 hi5 hoo5 hsz5 hri hro ho11 hg11 hv11 c0
                        go_roundw
                        case rel => exact ⟨j + 1, wn', F11, xs', fm', os' ++ [o], by omega, by go_num, rfl, hS11, hO11, Lib.hid (by rw [hst.out, hz.out, List.map_append]; rfl), by rw [← hnx'.out]; omega, by rw [← hnm'.out]; omega, by rw [List.length_append, ← hno'.out]; show no' + 1 ≤ _; omega, by omega, by rw [← hnm'.out]; omega⟩
                        case measure => simp [RowKit.intOf]; omega
                      have e3b : (o.kind == 3) = false := by simpa using e3
                      have hz := Lib.hid (show apO i (Sim.mk (xs'.map (·.v)) fm' (os'.map (·.v)) wn') o.v = ⟨xs'.map (·.v), fm', os'.map (·.v), wn'⟩ from by unfold apO; rw [if_neg (show ¬ o.v.kind = 2 from e2), if_neg (show ¬ o.v.kind = 1 from e1), if_neg (show ¬ o.v.kind = 3 from e3)])
                      clear e1 e2 e3
                      go_wp2
                      go_roundw
                      case rel => exact ⟨j + 1, wn', F', xs', fm', os', by omega, by go_num, rfl, hS, hO, Lib.hid (by rw [hst.out, hz.out]), by rw [← hnx'.out]; omega, by rw [← hnm'.out]; omega, by rw [← hno'.out]; omega, by omega, by rw [← hnm'.out]; omega⟩
                      case measure => simp [RowKit.intOf]; omega
                    · have hjI : ¬ (j : Int) < qn := by omega
                      have hjl : po.take j = po := List.take_of_length_le (by rw [hO.out.len]; omega)
                      rw [hjl] at hV
                      have hfin : ∃ tr2, k < n + tr2.length ∧ Hid (TW w3 wj F' l tr2 k (i + 1) fl9 (.slice (some ⟨fg, fo, none⟩) n fc') (.slice ra' nx' rc') (.slice ma' nm' mc') (.slice oa' no' oc') ps xs' fm' os' wn') := by
                        have h9 : One l tr' k (i + 1) (fl9.map (·.2.s)) ⟨xs'.map (·.v), fm', os'.map (·.v), wn'⟩ := by
                          rw [hV.out, ← hmap9.out]
                          exact hOne9.out
                        refine ⟨tr', ?_, Lib.hid ⟨hS.out, hps9.out, h9, ?_⟩⟩
                        · have h1 := congrArg List.length h9.frm
                          have h2 : fm'.length = l.length + tr'.length := by simpa using h1
                          have h3 := hnm'.out
                          have h4 := hln.out
                          omega
                        · have := hno'.out
                          omega
                      obtain ⟨tr2, hk2', hT2'⟩ := hfin
                      clear hO hV hS
                      go_wp2
                      go_roundw
                      case rel => exact ⟨i + 1, wn', F', tr2, fl9, xs', fm', os', by omega, by go_num, rfl, hk2', hT2'⟩
                      case measure => simp [RowKit.intOf]; omega
                  -- D END
            · have hiI : ¬ (i : Int) < n := by omega
              have hR := Lib.hid (hT.out.round (by rw [hln.out]; omega) (by rw [hln.out]; exact hn5))
              clear hT hrd hmd
              go_wp2
              go_roundw
              case rel => exact ⟨k + 1, wn, F, tr, fl, xs, fm, os, by omega, by go_num, rfl, hR⟩
              case measure => simp [RowKit.intOf]; omega
        · have hbF := belS hb3.out hT.out.st.fl.bel
          have hm40 : Hid (m ≤ 10) := Lib.hid hm10
          clear hrd hmd
          by_cases hkm2 : k < m
          · obtain rfl : k = 40 := by omega
            omega
          · have hk1 : ¬ (k : Int) < m := by omega
            by_cases ho0 : on = 0
            · subst ho0
              go_wp2
              go_ret
              exact ⟨rfl, hbF⟩
            · have honI : ((on : Int) == 0) = false := by simpa using ho0
              have honI2 : (0 : Int) < on := by omega
              -- E BEGIN
              have hL1 := Lib.hid (One.last (by rw [hln.out]; exact hn1) (by rw [← hnx.out]; exact hnxn.out) (show One l tr k 0 _ _ from hT.out.one) (by intro e; have h1 := congrArg List.length e; rw [List.length_map] at h1; have h2 := hon.out; have h3 : ([] : List Ov).length = 0 := rfl; omega))
              have hod := hT.out.st.fo.own
              rw [← hon.out] at hod
              obtain ⟨_, _, e9, hod⟩ := Rd.own hod
              injection e9 with e9 _ e10
              subst e9 e10
              obtain ⟨og, oo, rfl, _⟩ := hod.addr (by omega)
              obtain ⟨o, ho⟩ : ∃ o, os[0]? = some o := ⟨_, List.getElem?_eq_getElem (by have := hon.out; omega)⟩
              have hov : o.v = oneO l := hT.out.one.fo o.v (List.mem_map.2 ⟨o, List.mem_of_getElem? ho, rfl⟩)
              have hvw : o.view = oneV l := congrArg Ov.view hov
              obtain ⟨v, hv⟩ : ∃ z, z = o.view := ⟨_, rfl⟩
              have hro : wk.rangeAt og (oo + 24) [.int .u64 v.num, .int .u64 v.ce, .int .i64 v.cr, .int .u64 v.mem] := by
                rw [hv]
                have h1 : 0 < os.length := by have := hon.out; omega
                have h2 := ow_range hod 0 h1
                have h3 : os[0] = o := by rw [List.getElem?_eq_getElem h1] at ho; exact Option.some.inj ho
                rw [h3, Nat.zero_mul, Nat.add_zero] at h2
                exact range_sub h2 24 (fun j u hu => by
                  rcases j with _ | _ | _ | _ | j
                  · exact hu
                  · exact hu
                  · exact hu
                  · exact hu
                  · simp at hu)
              have hvL : (Tryd.prog.info? 35).map (·.size) = some ([.int .u64 v.num, .int .u64 v.ce, .int .i64 v.cr, .int .u64 v.mem] : List Value).length := by show _ = some 4; kernel_rfl
              have hZ := BlkAt.new wk 35 (vwA .zero)
              have hvE := Lib.hid (hv.trans hvw)
              clear hov hvw ho hod hv
              go_upto_region 46 with (first
                | (refine wpList_load_mid rfl _ (.tmp 184) rfl og (oo + 24) rfl [.int .u64 v.num, .int .u64 v.ce, .int .i64 v.cr, .int .u64 v.mem] _ hro Tryd.underlying35 rfl hvL ?_)
                | (refine wpList_blk_alloc rfl rfl Tryd.viewZ wk.heap.size rfl ?_)
                | (refine wpList_blk_store (cs := vwA v) rfl (.tmp 18) (.tmp 185) rfl rfl rfl hZ (Tryd.viewI _) rfl (vwA_one _) ?_; intro w4 hV4 hK4 hsz4))
              simp only [Act.put, List.setIfInBounds_toArray, List.set_cons_zero, List.set_cons_succ]
              have hb4 := alloc_store hK4
              have hb34 := belS hT.out.st.fl.bel hb4
              obtain ⟨hx1, hx2, hx3⟩ := hL1.out
              have hwn : wn = n := Eq.trans hx1 hln.out
              have hr4 := hr3.out.below hb34
              have hB4 := hB3.out.below hb34 hcl
              have hv2 : v = ⟨nx, 7, 0, al⟩ := by rw [hvE.out, oneV, ← hnx.out, hal.out, hln.out]
              have hvE2 := Lib.hid (hv2.symm.trans hvE.out)
              have hx2' : mayB al l = true := by rw [hal.out, ← hln.out]; exact hx2
              have hS4 := Lib.hid (hT.out.st.below hb4)
              have hps4 := Lib.hid hT.out.ps
              have hfll := Lib.hid (hT.out.fll.trans hln.out)
              have hfv : Hid (∀ o ∈ os, o.v = oneO l) := Lib.hid (fun o ho => hT.out.one.fo o.v (List.mem_map.2 ⟨o, ho, rfl⟩))
              replace hx3 := Lib.hid (show ∀ (p : Nat) (q : Nat × Fw), fl[p]? = some q → (veq q.2.s.rc.last (oneV l) = q.2.s.formed) ∧ (q.2.s.formed = true ∨ oneV l ∈ q.2.s.rc.pend) from fun p q hq => hx3 p q.2.s (by rw [List.getElem?_map, hq]; rfl))
              clear hvE hx1 hx2 hL1 hT hro hvL hZ hK4 hsz4 hm htl hr3 hB3 hC3 hm40
              subst hv2 hwn
              obtain ⟨vb, hvb⟩ : ∃ z, z = wk.heap.size := ⟨_, rfl⟩
              rw [← hvb] at hV4 ⊢
              have c0 : w4.cell? ⟨vb, 0, none⟩ = some (.int .u64 nx) := hV4.cell rfl
              have c3 : w4.cell? ⟨vb, 3, none⟩ = some (.int .u64 al) := hV4.cell rfl
              have r1 : w4.rangeAt vb 1 [.int .u64 7, .int .i64 0] := hV4.range (fun j u hj => by
                rcases j with _ | _ | j
                · exact hj
                · exact hj
                · simp at hj)
              have r6 : w4.rangeAt cb 0 [.int .u64 7, .int .i64 0] := hB4.range (fun j u hj => by rw [Nat.zero_add]; simpa using hj)
              have kM := fun d os => Calls.regrown_of (may_any al hal64 a wn c l hwf htot.out (grow (redrawn w4 d) os) (hr4.below (below_regrown w4 d os)))
              have kN := fun d os => Calls.regrown_of (next_any a wn c l hwf (grow (redrawn w4 d) os) (hr4.below (below_regrown w4 d os)))
              rw [hx2'] at kM
              rw [← hnx.out] at kN
              have k0 := cell_regrown c0
              have k3 := cell_regrown c3
              have hvlt := hV4.lt
              have hcL := Tryd.confL 7 0
              have hclt := hB4.lt
              have n1 : ((wn : Int) != (wn : Int)) = false := by simp
              have n2 : ((nx : Int) != (nx : Int)) = false := by simp
              have n3 : ((al : Int) != (al : Int)) = false := by simp
              clear hr4 hB4 hx2' htot hvb
              go_cut [214] from 186 to 213 (fun t wx => t = .bool false ∧ Below w4.heap.size w4 wx)
              case first => as_aux_lemma =>
                -- G BEGIN
                go_wp2_with fail
                refine wp_region_quiet_below (by kernel_rfl) (by kernel_rfl) ?_
                iterate 29 (first
                  | (refine wpQuiet_mid_load (by rfl) _ (.tmp 210) rfl vb 1 rfl [.int .u64 7, .int .i64 0] _ r1 hvlt Tryd.underlying30 rfl hcL ?_; (try simp only [Act.put, List.getElem_toArray, List.getElem_cons_zero, List.getElem_cons_succ, List.setIfInBounds_toArray, List.set_cons_zero, List.set_cons_succ]))
                  | (refine wpQuiet_mid_load (by rfl) _ (.tmp 6) rfl cb 0 rfl [.int .u64 7, .int .i64 0] _ r6 hclt Tryd.underlying30 rfl hcL ?_; (try simp only [Act.put, List.getElem_toArray, List.getElem_cons_zero, List.getElem_cons_succ, List.setIfInBounds_toArray, List.set_cons_zero, List.set_cons_succ]))
                  | (refine wpQuiet_agg (by rfl) Tryd.confGb (.tmp 211) (.tmp 212) _ rfl rfl rfl (fun W => run_neq_c7 W) ?_; (try simp only [Act.put, List.getElem_toArray, List.getElem_cons_zero, List.getElem_cons_succ, List.setIfInBounds_toArray, List.set_cons_zero, List.set_cons_succ]))
                  | go_big_quiet_step (first | (with_reducible exact kM _ _) | (with_reducible exact kN _ _)))
                refine wpQuiet_nil ?_; intro w4' hw'; obtain ⟨⟨dq, osq⟩, hw''⟩ := hw'; subst hw''
                go_wp2_with fail
                go_meet
                exact ⟨rfl, below_regrown _ _ _⟩
                -- G END
              case rest => as_aux_lemma =>
                obtain ⟨rfl, hb45⟩ := hcut
                obtain ⟨w5, rfl⟩ : ∃ z, z = wc := ⟨_, rfl⟩
                have hS5 := Lib.hid (hS4.out.below hb45)
                have hV5 := Lib.hid (hV4.below hb45 hvlt)
                have hbase := Lib.hid (belS hb3.out (belS hb34 hb45))
                have hfo5 := hS5.out.fo
                rw [← hon.out] at hfo5
                have hoc : on ≤ oc := hfo5.rdO.1.1.1.2.1
                have hom := Rd.le_max hfo5.rdO.1.1
                unfold maxLen at hom
                replace hfo5 := Lib.hid hfo5.rdO
                clear c0 c3 r1 r6 kM kN k0 k3 n1 n2 n3 hod hb4 hb34 hS4 hV4 hvlt hclt hcL hcl hb45 hbF
                go_wp2
                go_loopw [19] (fun iv wr => ∃ (i : Nat), i ≤ on ∧ iv = .int .i64 i ∧ Hid (Below w5.heap.size w5 wr)) (fun iv _ => on - (RowKit.intOf iv).toNat)
                case atStart => exact ⟨0, Nat.zero_le _, rfl, Lib.hid (Below.refl _ _)⟩
                case round =>
                  obtain ⟨i, hi5, rfl, hbr⟩ := hrel
                  obtain ⟨w6, rfl⟩ : ∃ z, z = wr := ⟨_, rfl⟩
                  by_cases hio : i < on
                  · -- H BEGIN
                    have hioI : (i : Int) < on := by omega
                    have hio1 : (i : Int) + 1 ≤ oc := by omega
                    have hio2 : i + 1 ≤ oc := by omega
                    have hoc1 : (1 : Int) ≤ oc := by omega
                    have hii1 : (i : Int) ≤ (i : Int) + 1 := by omega
                    have hii2 : i ≤ i + 1 := by omega
                    have hoc2 : 1 ≤ oc := by omega
                    have hil : i < os.length := by rw [← hon.out]; exact hio
                    have h0l : 0 < os.length := by rw [← hon.out]; omega
                    have hOd := hfo5.out.below (belS hbr.out (Below.refl w6.heap.size w6).drew)
                    have hOi := hOd.part hil
                    have hO0 := hOd.part h0l
                    have hb6 : Hid (Below w5.heap.size w5 w6.drew) := Lib.hid (belS hbr.out (Below.refl w6.heap.size w6).drew)
                    have hveq : Hid ([os[i]].map (·.v) = [os[0]].map (·.v)) := Lib.hid (by
                      show [os[i].v] = [os[0].v]
                      rw [hfv.out _ (List.getElem_mem hil), hfv.out _ (List.getElem_mem h0l)])
                    have HO1 := Lib.hid (of_any _ _ _ _ (by decide : 1 ≤ 1000000) w6.drew (fun g hg => hg.elim) hOi)
                    replace hO0 := Lib.hid hO0
                    clear hOd hOi
                    have hwr : IntKind.i64.wrap ((i : Int) + 1) = (i : Int) + 1 := by rw [IntKind.wrap_i64]; omega
                    have hne : ¬ oc = i := by omega
                    have hsub : ((i : Int) + 1).toNat - i = 1 := by omega
                    have hto : ((i : Int) + 1).toNat = i + 1 := by omega
                    have hip : (0 : Int) ≤ (i : Int) + 1 := by omega
                    go_upto_region 51 with (fail)
                    refine wp_region_held_drew (S := fun _ => True) (by kernel_rfl) trivial ?_
                    intro hHeld
                    (refine wpAnyH_take (i := 0) (v := ?_) rfl (by kernel_rfl) (by kernel_rfl) (by kernel_rfl) (fun _ _ _ h => h) (Or.inl ⟨by rfl, ?_⟩) (by assumption) ?_; rotate_left; (focus (intro w hSw; clear hSw; go_simp; (try with_reducible rfl))); (try simp only [Act.put, List.getElem_toArray, List.getElem_cons_zero, List.getElem_cons_succ, List.setIfInBounds_toArray, List.set_cons_zero, List.set_cons_succ]))
                    (refine wpAnyH_take (i := 1) (v := ?_) rfl (by kernel_rfl) (by kernel_rfl) (by kernel_rfl) (fun _ _ _ h => h) (Or.inl ⟨by rfl, ?_⟩) (by assumption) ?_; rotate_left; (focus (intro w hSw; clear hSw; go_simp; (try with_reducible rfl))); (try simp only [Act.put, List.getElem_toArray, List.getElem_cons_zero, List.getElem_cons_succ, List.setIfInBounds_toArray, List.set_cons_zero, List.set_cons_succ]))
                    (refine wpAnyH_take (i := 2) (v := ?_) rfl (by kernel_rfl) (by kernel_rfl) (by kernel_rfl) (fun _ _ _ h => h) (Or.inl ⟨by rfl, ?_⟩) (by assumption) ?_; rotate_left; (focus (intro w hSw; clear hSw; go_simp; (try with_reducible rfl))); (try simp only [Act.put, List.getElem_toArray, List.getElem_cons_zero, List.getElem_cons_succ, List.setIfInBounds_toArray, List.set_cons_zero, List.set_cons_succ]))
                    (refine wpAnyH_take (i := 3) (v := .int .i64 ((i : Int) + 1)) rfl (by kernel_rfl) (by kernel_rfl) (by kernel_rfl) (fun _ _ _ h => h) (Or.inl ⟨by rfl, ?_⟩) (by assumption) ?_; focus (intro w hSw; clear hSw; go_simp; (try rw [hwr]); (try rfl)); (try simp only [Act.put, List.getElem_toArray, List.getElem_cons_zero, List.getElem_cons_succ, List.setIfInBounds_toArray, List.set_cons_zero, List.set_cons_succ]))
                    (refine wpAnyH_take (i := 4) (v := .slice (some ⟨og, oo + i * 29, none⟩) 1 (oc - i)) rfl (by kernel_rfl) (by kernel_rfl) (by kernel_rfl) (fun _ _ _ h => h) (Or.inl ⟨by rfl, ?_⟩) (by assumption) ?_; focus (intro w hSw; clear hSw; go_simp; (try simp [hne, hsub, hto, hip, hio1, hii2])); (try simp only [Act.put, List.getElem_toArray, List.getElem_cons_zero, List.getElem_cons_succ, List.setIfInBounds_toArray, List.set_cons_zero, List.set_cons_succ]))
                    (refine wpAnyH_take (i := 6) (v := ?_) rfl (by kernel_rfl) (by kernel_rfl) (by kernel_rfl) (fun _ _ _ h => h) (Or.inl ⟨by rfl, ?_⟩) (by assumption) ?_; rotate_left; (focus (intro w hSw; clear hSw; go_simp; (try with_reducible rfl))); (try simp only [Act.put, List.getElem_toArray, List.getElem_cons_zero, List.getElem_cons_succ, List.setIfInBounds_toArray, List.set_cons_zero, List.set_cons_succ]))
                    (refine wpAnyH_take (i := 7) (v := .slice (some ⟨og, oo + 0 * 29, none⟩) 1 (oc - 0)) rfl (by kernel_rfl) (by kernel_rfl) (by kernel_rfl) (fun _ _ _ h => h) (Or.inl ⟨by rfl, ?_⟩) (by assumption) ?_; focus (intro w hSw; clear hSw; go_simp; (try simp)); (try simp only [Act.put, List.getElem_toArray, List.getElem_cons_zero, List.getElem_cons_succ, List.setIfInBounds_toArray, List.set_cons_zero, List.set_cons_succ]))
                    (refine wpAnyH_ready (rs := [5]) (by kernel_rfl) (by simp) ?_; refine AllReadyH.cons rfl (fun K hK => ?_) AllReadyH.nil)
                    go_simp
                    refine HO1.out.mono ?_
                    rintro e w7 ⟨a1, c1, os1, rfl, hR1, hv1, hb7⟩
                    replace hv1 := Lib.hid hv1
                    have HO2 := Lib.hid (of_any _ _ _ _ (by decide : 1 ≤ 1000000) w7 (fun g hg => hg.elim) (hO0.out.below hb7))
                    have hb67 := Lib.hid (belS hb6.out hb7)
                    replace hR1 := Lib.hid hR1
                    refine hK.out _ _ trivial (fun hHeld => ?_)
                    clear hK K hb7 HO1 hO0
                    (refine wpAnyH_ready (rs := [8]) (by kernel_rfl) (by simp) ?_; refine AllReadyH.cons rfl (fun K hK => ?_) AllReadyH.nil)
                    go_simp
                    refine HO2.out.mono ?_
                    rintro e w8 ⟨a2, c2, os2, rfl, hR2, hv2, hb8⟩
                    have HSm := Lib.hid (sameO_any _ _ _ _ _ _ _ w8 (hR1.out.below hb8) hR2 (hv1.out.trans (hveq.out.trans hv2.symm)))
                    have hb68 := Lib.hid (belS hb67.out hb8)
                    refine hK.out _ _ trivial (fun hHeld => ?_)
                    clear hK K hb8 HO2 hR2 hv2 hR1 hv1 hveq
                    (refine wpAnyH_ready (rs := [9]) (by kernel_rfl) (by simp) ?_; refine AllReadyH.cons rfl (fun K hK => ?_) AllReadyH.nil)
                    go_simp
                    refine HSm.out.mono ?_
                    rintro e w9 ⟨rfl, hb9⟩
                    have hb69 := Lib.hid (belS hb68.out hb9)
                    refine hK.out _ _ trivial (fun hHeld => ?_)
                    clear hK K hb9 HSm
                    (refine wpAnyH_take (i := 10) (v := ?_) rfl (by kernel_rfl) (by kernel_rfl) (by kernel_rfl) (fun _ _ _ h => h) (Or.inl ⟨by rfl, ?_⟩) (by assumption) ?_; rotate_left; (focus (intro w hSw; clear hSw; go_simp; (try with_reducible rfl))); (try simp only [Act.put, List.getElem_toArray, List.getElem_cons_zero, List.getElem_cons_succ, List.setIfInBounds_toArray, List.set_cons_zero, List.set_cons_succ]))
                    refine wpAnyH_done (by kernel_rfl) ?_ _
                    clear hHeld hb68 hb67 hb6
                    go_wp2
                    go_roundw
                    case rel => exact ⟨i + 1, by omega, by go_num, hb69⟩
                    case measure => simp [RowKit.intOf]; omega
                    -- H END
                  · have hioI : ¬ (i : Int) < on := by omega
                    have hS6 := Lib.hid (hS5.out.below hbr.out)
                    have hV6 := Lib.hid (hV5.out.below hbr.out hV5.out.lt)
                    have hbase6 := Lib.hid (belS hbase.out hbr.out)
                    obtain ⟨v, hv⟩ : ∃ v : Vw, v = ⟨nx, 7, 0, al⟩ := ⟨_, rfl⟩
                    rw [← hv] at hV6 hvE2
                    replace hx3 := Lib.hid (show ∀ (p : Nat) (q : Nat × Fw), fl[p]? = some q → (veq q.2.s.rc.last v = q.2.s.formed) ∧ (q.2.s.formed = true ∨ v ∈ q.2.s.rc.pend) from by rw [hvE2.out]; exact hx3.out)
                    clear hS5 hV5 hbase hbr hfo5 hfv hv hvE2
                    go_wp2
                    go_loopw [20, 21, 22, 23] (fun iv _ _ _ wr => ∃ (i : Nat), i ≤ wn ∧ iv = .int .i64 i ∧ Hid (Below w6.heap.size w6 wr)) (fun iv _ _ _ _ => wn - (RowKit.intOf iv).toNat)
                    case atStart => exact ⟨0, Nat.zero_le _, rfl, Lib.hid (Below.refl _ _)⟩
                    case round =>
                      obtain ⟨p, hp5, rfl, hbr⟩ := hrel
                      obtain ⟨w7, rfl⟩ : ∃ z, z = wr := ⟨_, rfl⟩
                      by_cases hpn : p < wn
                      · -- I BEGIN
                        have hpI : (p : Int) < wn := by omega
                        have hS7 := hS6.out.below hbr.out
                        obtain ⟨⟨b, s⟩, hget⟩ : ∃ q, fl[p]? = some q := ⟨_, List.getElem?_eq_getElem (by rw [hfll.out]; exact hpn)⟩
                        obtain ⟨hq1, hq2⟩ : (veq s.rc.last v = s.formed) ∧ (s.formed = true ∨ v ∈ s.rc.pend) := hx3.out p _ hget
                        have hth : thereB s.rc v = true := there_of hq1 hq2
                        have hp : (ps.map ptrC)[p]? = some (.pointer (some ⟨b, 0, none⟩)) := by rw [hps4.out, List.getElem?_map, List.getElem?_map, hget]; rfl
                        have hfc : w7.cell? ⟨fg, fo + p, none⟩ = some (.pointer (some ⟨b, 0, none⟩)) := hS7.fr.rd.2.at hp
                        have hA7 := hS7.fl.at_ p _ hget
                        have hrec := Lib.hid (recordA s b w7 hA7)
                        have hfgl : fg < w7.heap.size := (hS7.fr.own.lt fg rfl).2
                        have hV7 := hV6.out.below hbr.out hV6.out.lt
                        have hrn : s.rn = s.rc.pend.length := hA7.len.symm
                        replace hA7 := Lib.hid hA7
                        clear hS7 hget hp hq2
                        go_wp2_with fail
                        refine hrec.out.mono ?_
                        rintro e w8 ⟨rb, rj, rfl, hr8, hge8, hb8⟩
                        have hrnm := Rd.le_max hr8
                        unfold maxLen at hrnm
                        have hR9 := BlkAt.new w8 38 #[.int .u64 s.rc.last.num, .int .u64 s.rc.last.ce, .int .i64 s.rc.last.cr, .int .u64 s.rc.last.mem, .slice rb s.rn rj]
                        have hb9 := alloc_below w8 (.cells #[.int .u64 s.rc.last.num, .int .u64 s.rc.last.ce, .int .i64 s.rc.last.cr, .int .u64 s.rc.last.mem, .slice rb s.rn rj] 38)
                        replace hrn := Lib.hid hrn
                        go_upto_region 57 with (first
                          | (refine wpList_blk_alloc rfl rfl Tryd.recZ w8.heap.size rfl ?_))
                        obtain ⟨w9, hw9⟩ : ∃ z, z = w8.alloc (.cells #[.int .u64 s.rc.last.num, .int .u64 s.rc.last.ce, .int .i64 s.rc.last.cr, .int .u64 s.rc.last.mem, .slice rb s.rn rj] 38) := ⟨_, rfl⟩
                        rw [← hw9] at hR9 hb9 ⊢
                        clear hw9
                        have hb79 := belS hb8 hb9
                        have hV9 := hV7.below hb79 hV7.lt
                        have hA9 := Lib.hid (hA7.out.below hb79)
                        have hr9 := Lib.hid (RdV.below hr8 hb9 (Nat.le_refl _))
                        have hfc9 : w9.cell? ⟨fg, fo + p, none⟩ = some (.pointer (some ⟨b, 0, none⟩)) := (hb79.cell (p := ⟨fg, _, none⟩) hfgl).trans hfc
                        have hb59 := Lib.hid (belS hbr.out hb79)
                        have hfg9 : fg < w9.heap.size := Nat.lt_of_lt_of_le hfgl hb79.size
                        obtain ⟨rk, hrk⟩ : ∃ z, z = w8.heap.size := ⟨_, rfl⟩
                        rw [← hrk] at hR9 ⊢
                        have hHE := Lib.hid (fun W => run_eql_vw W s.rc.last v)
                        rw [show veq s.rc.last v = s.formed from hq1] at hHE
                        rw [thereB, show veq s.rc.last v = s.formed from hq1] at hth
                        replace hth := Lib.hid hth
                        obtain ⟨fb, hfb⟩ : ∃ z, z = s.formed := ⟨_, rfl⟩
                        rw [← hfb] at hHE hth
                        replace hfb := Lib.hid hfb
                        clear hb8 hb9 hb79 hrec hr8 hge8 hV7 hA7 hfc hq1 hrk
                        go_wp2_with (first
                          | (refine wpList_blk_get (cs := #[.int .u64 s.rc.last.num, .int .u64 s.rc.last.ce, .int .i64 s.rc.last.cr, .int .u64 s.rc.last.mem]) rfl (.tmp 243) rfl rfl hR9 Tryd.underlying35 rfl (Tryd.viewI _) (get4 rfl rfl rfl rfl) ?_)
                          | (refine wpList_blk_get (cs := #[.int .u64 v.num, .int .u64 v.ce, .int .i64 v.cr, .int .u64 v.mem]) rfl (.tmp 18) rfl rfl hV9 Tryd.underlying35 rfl (Tryd.viewI _) (get4 rfl rfl rfl rfl) ?_)
                          | (refine wpList_agg_g (by first | rfl | simp [Region.wanted, go_sem]) Tryd.viewG (.tmp 244) (.tmp 245) _ rfl rfl rfl hHE.out ?_))
                        go_loopw [22, 23] (fun tv kv wr => ∃ (k : Nat) (tt : Bool), k ≤ s.rn ∧ kv = .int .i64 k ∧ tv = .bool tt ∧ Hid (tt = (fb || (s.rc.pend.take k).any (fun u => veq u v))) ∧ Hid (Below w9.heap.size w9 wr)) (fun _ kv _ => s.rn - (RowKit.intOf kv).toNat)
                        case atStart => exact ⟨0, fb, Nat.zero_le _, rfl, rfl, Lib.hid (by simp), Lib.hid (Below.refl _ _)⟩
                        case round =>
                          obtain ⟨q, tt, hq, rfl, rfl, htt, hb10⟩ := hrel
                          obtain ⟨w10, rfl⟩ : ∃ z, z = wr := ⟨_, rfl⟩
                          have hR10 := hR9.below hb10.out hR9.lt
                          have hV10 := hV9.below hb10.out hV9.lt
                          have c4 : w10.cell? ⟨rk, 4, none⟩ = some (.slice rb s.rn rj) := hR10.cell rfl
                          by_cases hqn : q < s.rn
                          · have hqI : (q : Int) < s.rn := by omega
                            have hql : q < s.rc.pend.length := by rw [← hrn.out]; exact hqn
                            cases tt with
                            | true =>
                              have hz := Lib.hid (show true = (fb || (s.rc.pend.take (q + 1)).any (fun u => veq u v)) from by rw [any_take_succ hql, ← Bool.or_assoc, ← htt.out]; rfl)
                              clear htt
                              go_wp2_with fail
                              go_quiet (fail)
                              have hb11 := Lib.hid (belN hb10.out nq)
                              go_wp2
                              go_roundw
                              case rel => exact ⟨q + 1, true, by omega, by go_num, rfl, hz, hb11⟩
                              case measure => simp [RowKit.intOf]; omega
                            | false =>
                              have hr10 := hr9.out.below hb10.out (Nat.le_refl _)
                              obtain ⟨rg, ro, rfl, _⟩ := hr10.addr (by omega)
                              obtain ⟨d0, d1, d2, d3⟩ := hr10.at q hql
                              obtain ⟨e0, e1, e2, e3⟩ : w10.cell? ⟨vb, 0, none⟩ = some (.int .u64 v.num) ∧ w10.cell? ⟨vb, 1, none⟩ = some (.int .u64 v.ce) ∧ w10.cell? ⟨vb, 2, none⟩ = some (.int .i64 v.cr) ∧ w10.cell? ⟨vb, 3, none⟩ = some (.int .u64 v.mem) := ⟨hV10.cell rfl, hV10.cell rfl, hV10.cell rfl, hV10.cell rfl⟩
                              have hE2 := fun W => run_eql_vw W s.rc.pend[q] v
                              have hz := Lib.hid (show veq s.rc.pend[q] v = (fb || (s.rc.pend.take (q + 1)).any (fun u => veq u v)) from by rw [any_take_succ hql, ← Bool.or_assoc, ← htt.out]; simp)
                              generalize veq s.rc.pend[q] v = t2 at *
                              replace hE2 := Lib.hid hE2
                              generalize s.rc.pend[q] = u at *
                              clear htt hr10
                              go_wp2_with fail
                              refine wp_region_quiet_lit (by kernel_rfl) (by kernel_rfl) ?_
                              iterate 8 go_big_quiet_step (fail)
                              refine wpQuiet_agg (by rfl) Tryd.viewG (.tmp 260) (.tmp 261) _ rfl rfl rfl hE2.out ?_
                              (try simp only [Act.put, List.getElem_toArray, List.getElem_cons_zero, List.getElem_cons_succ, List.setIfInBounds_toArray, List.set_cons_zero, List.set_cons_succ])
                              iterate 2 go_big_quiet_step (fail)
                              refine wpQuiet_nil ?_
                              rintro _ ⟨nq, rfl⟩
                              have hb11 := Lib.hid (belN hb10.out nq)
                              go_wp2
                              go_roundw
                              case rel => exact ⟨q + 1, t2, by omega, by go_num, rfl, hz, hb11⟩
                              case measure => simp [RowKit.intOf]; omega
                          · have hqI : ¬ (q : Int) < s.rn := by omega
                            obtain rfl : tt = true := by
                              rw [htt.out, List.take_of_length_le (by rw [← hrn.out]; omega)]
                              exact hth.out
                            have hA10 := hA9.out.below hb10.out
                            have hfc10 : w10.cell? ⟨fg, fo + p, none⟩ = some (.pointer (some ⟨b, 0, none⟩)) := (hb10.out.cell (p := ⟨fg, _, none⟩) hfg9).trans hfc9
                            have kc := cell_regrown hfc10
                            have kF := fun d os => Calls.regrown_of (pureB (formedA s b (grow (redrawn w10 d) os) (hA10.below (below_regrown w10 d os))))
                            rw [show s.formed = fb from hfb.out.symm] at kF
                            have r1 := vw_range (v := s.rc.last) hR10 rfl rfl rfl rfl
                            have r2 := vw_range (v := v) hV10 rfl rfl rfl rfl
                            have hrkl := hR10.lt
                            have hvbl := hV10.lt
                            have hvL1 : (Tryd.prog.info? 35).map (·.size) = some ([.int .u64 s.rc.last.num, .int .u64 s.rc.last.ce, .int .i64 s.rc.last.cr, .int .u64 s.rc.last.mem] : List Value).length := by show _ = some 4; kernel_rfl
                            have hvL2 : (Tryd.prog.info? 35).map (·.size) = some ([.int .u64 v.num, .int .u64 v.ce, .int .i64 v.cr, .int .u64 v.mem] : List Value).length := by show _ = some 4; kernel_rfl
                            have hff : (fb != fb) = false := by cases fb <;> rfl
                            have hb5a := Lib.hid (belS hb59.out hb10.out)
                            clear htt hA10 hfc10 hR10 hV10 hA9 hr9 hR9 hV9 hfc9
                            go_upto_region 62 with (fail)
                            refine wp_region_quiet_below (by kernel_rfl) (by kernel_rfl) ?_
                            iterate 14 (first
                              | (refine wpQuiet_mid_load (by rfl) _ (.tmp 272) rfl rk 0 rfl [.int .u64 s.rc.last.num, .int .u64 s.rc.last.ce, .int .i64 s.rc.last.cr, .int .u64 s.rc.last.mem] _ r1 hrkl Tryd.underlying35 rfl hvL1 ?_; (try simp only [Act.put, List.getElem_toArray, List.getElem_cons_zero, List.getElem_cons_succ, List.setIfInBounds_toArray, List.set_cons_zero, List.set_cons_succ]))
                              | (refine wpQuiet_mid_load (by rfl) _ (.tmp 18) rfl vb 0 rfl [.int .u64 v.num, .int .u64 v.ce, .int .i64 v.cr, .int .u64 v.mem] _ r2 hvbl Tryd.underlying35 rfl hvL2 ?_; (try simp only [Act.put, List.getElem_toArray, List.getElem_cons_zero, List.getElem_cons_succ, List.setIfInBounds_toArray, List.set_cons_zero, List.set_cons_succ]))
                              | (refine wpQuiet_agg (by rfl) Tryd.viewG (.tmp 273) (.tmp 274) _ rfl rfl rfl hHE.out ?_; (try simp only [Act.put, List.getElem_toArray, List.getElem_cons_zero, List.getElem_cons_succ, List.setIfInBounds_toArray, List.set_cons_zero, List.set_cons_succ]))
                              | go_big_quiet_step (first | (with_reducible exact kF _ _)))
                            refine wpQuiet_nil ?_; intro w4' hw'; obtain ⟨⟨dq, osq⟩, hw''⟩ := hw'; subst hw''
                            have hb5b := Lib.hid (belS hb5a.out (below_regrown w10 dq osq))
                            go_wp2
                            go_roundw
                            case rel => exact ⟨p + 1, by omega, by go_num, hb5b⟩
                            case measure => simp [RowKit.intOf]; omega
                        -- I END
                      · have hpI : ¬ (p : Int) < wn := by omega
                        have hbF := belS hbase6.out hbr.out
                        go_wp2
                        go_ret
                        exact ⟨rfl, hbF⟩
              -- E END
theorem fone_claim (a0 : Option Addr) (n0 c0 : Nat) (a1 : Option Addr) (n1 c1 : Nat) (W : World) (hT : Tab W) (r0 : ∃ l, RSl RRec 5 W a0 n0 c0 l ∧ n0 * 56 ≤ reachBytes) (r1 : ∃ l, RSl (RInt .u8) 1 W a1 n1 c1 l ∧ n1 * 1 ≤ reachBytes) :
    Calls Tryd.prog 3 #[.slice a0 n0 c0, .slice a1 n1 c1] W fun e w' => e = .returned (.bool true) ∧ Below W.heap.size W w' := by
  obtain ⟨l, hl, _⟩ := r0
  obtain ⟨ys, hy, _⟩ := r1
  obtain ⟨h1, h2, _⟩ := hl.recs
  exact fone_law a0 n0 c0 (l.map toRc) a1 n1 c1 ys W hT h1 h2 hy.ints (fun y hm => by
    have h := hy.intsWf y hm
    simp [Lit.wf, IntKind.min, IntKind.max, IntKind.bits, IntKind.signed] at h
    omega)
end Go.Proofs.YteeeikkapnchlaaDoor
