/- filter: FilterCopies -/
import Derived.Test.YteeeikkapnchlaaDoorFilQ
namespace Go.Proofs.YteeeikkapnchlaaDoor
set_option linter.unusedSimpArgs false
set_option linter.unusedVariables false
open Go.RowKit Go.Sort
/-- What a script does to a filter, and what it answers. -/
def runP (s : Fs) (l : List Ac) : Fs × List Ov := l.foldl (fun p y => ((doV p.1 y).1, p.2 ++ (doV p.1 y).2)) (s, [])
theorem runP_snoc (s : Fs) (l : List Ac) (y : Ac) : runP s (l ++ [y]) = ((doV (runP s l).1 y).1, (runP s l).2 ++ (doV (runP s l).1 y).2) := by
  unfold runP
  rw [List.foldl_append]
  rfl
theorem take_drop_snoc (l : List Ac) {k j : Nat} (h : k + j < l.length) : (l.drop k).take (j + 1) = (l.drop k).take j ++ [l[k + j]] := by
  rw [List.take_succ_eq_append_getElem (by rw [List.length_drop]; omega), List.getElem_drop]
theorem owFlat_one (os : List Ow) : ∀ u ∈ os.flatMap owC, u.oneCell' = true := by
  intro u hu
  obtain ⟨o, _, ho⟩ := List.mem_flatMap.1 hu
  exact owC_one o u ho
theorem ne_OF : (47 : TypeId) ≠ 71 := by decide
theorem neg_lt0 {k : Nat} : ¬ (k : Int) < 0 := by omega
set_option maxHeartbeats 25600000 in
set_option maxRecDepth 100000 in
theorem fcopies_law (rc : Rc) (pa : Option Addr) (pn pc : Nat) (a : Option Addr) (n c : Nat) (at' : Int) (l : List Ac) (w : World) (hT : Tab w) (hwf : rc.Wf) (hr : RdV w pa pn pc rc.pend) (hA : RdA w a n c l) :
    Calls Tryd.prog 5 #[.agg #[.int .u64 rc.last.num, .int .u64 rc.last.ce, .int .i64 rc.last.cr, .int .u64 rc.last.mem, .slice pa pn pc], .slice a n c, .int .i64 at'] w fun e w' => e = .returned (.bool true) ∧ Below w.heap.size w w' := by
  have hB0 := BlkAt.new w 38 #[.int .u64 rc.last.num, .int .u64 rc.last.ce, .int .i64 rc.last.cr, .int .u64 rc.last.mem, .slice pa pn pc]
  have hb0 := alloc_below w (.cells #[.int .u64 rc.last.num, .int .u64 rc.last.ce, .int .i64 rc.last.cr, .int .u64 rc.last.mem, .slice pa pn pc] 38)
  have HAw := Lib.hid (fun W (hb : Below w.heap.size w W) => awake_any W (hT.below hb hT.1))
  have HF := Lib.hid (fun W (hb : Below w.heap.size w W) t ht => fewA_any a n c l t ht W (hA.below hb))
  have hln := Lib.hid hA.len
  have hmx := hA.le_max
  have hpl := Lib.hid (RdV.len hr)
  have hpm := Rd.le_max hr
  unfold maxLen at hpm
  have hT0 := Lib.hid hT
  have hA0 := Lib.hid hA
  have hr0 := Lib.hid hr
  clear hT hA hr
  obtain ⟨fw, hfw⟩ : ∃ z, z = fewA l := ⟨_, rfl⟩
  have hfi := Lib.hid (fun e : fw = true => fewA_imp (l := l) (by rw [← hfw]; exact e))
  replace HF := Lib.hid (fun W hb => HF.out W hb fw hfw)
  clear hfw
  by_cases hcs : fw = false ∨ 100 < pn ∨ at' < 0 ∨ (n : Int) < at'
  · go_enter Tryd.func5, Tryd.ntmps5
    go_wp2_with (first | (refine wpList_blk_box rfl (.tmp 0) rfl rfl w.heap.size rfl ?_))
    refine (HAw.out _ hb0).mono ?_
    rintro e w1 ⟨rfl, hb1⟩
    have hB1 := hB0.below hb1 hB0.lt
    have hb1 := belS hb0 hb1
    have c4 : w1.cell? ⟨w.heap.size, 4, none⟩ = some (.slice pa pn pc) := hB1.cell rfl
    go_wp2_with fail
    refine (HF.out _ hb1).mono ?_
    rintro e w' ⟨rfl, rfl⟩
    cases fw with
    | false =>
      go_wp2
      go_ret
      exact ⟨rfl, hb1⟩
    | true =>
      by_cases h1 : 100 < pn
      · have h1I : (100 : Int) < pn := by omega
        go_wp2
        go_ret
        exact ⟨rfl, hb1⟩
      · have h1I : ¬ (100 : Int) < pn := by omega
        by_cases h2 : at' < 0
        · go_wp2
          go_ret
          exact ⟨rfl, hb1⟩
        · have h3 : (n : Int) < at' := by
            rcases hcs with h | h | h | h
            · cases h
            · omega
            · omega
            · exact h
          clear hcs
          go_wp2
          go_ret
          exact ⟨rfl, hb1⟩
  have hfe : fw = true := by cases fw with
    | true => rfl
    | false => exact absurd (.inl rfl) hcs
  subst hfe
  obtain ⟨hf1, hf2⟩ := hfi.out rfl
  obtain ⟨k, rfl⟩ : ∃ k : Nat, at' = k := ⟨at'.toNat, by omega⟩
  have hk : k ≤ n := by omega
  have hkI : ¬ (n : Int) < k := by omega
  have hk0 : ¬ (k : Int) < 0 := by omega
  have hpI : ¬ (100 : Int) < pn := by omega
  have hn100 : n ≤ 100 := by rw [← hln.out]; exact hf1
  clear hcs hfi
  go_enter Tryd.func5, Tryd.ntmps5
  go_wp2_with (first | (refine wpList_blk_box rfl (.tmp 0) rfl rfl w.heap.size rfl ?_))
  refine (HAw.out _ hb0).mono ?_
  rintro e w1 ⟨rfl, hb1⟩
  have hB1 := hB0.below hb1 hB0.lt
  have hb1 := belS hb0 hb1
  have c4 : w1.cell? ⟨w.heap.size, 4, none⟩ = some (.slice pa pn pc) := hB1.cell rfl
  go_wp2_with fail
  refine (HF.out _ hb1).mono ?_
  rintro e w' ⟨rfl, rfl⟩
  have hL0 := Lib.hid (FL.start hT0.out hb1)
  have HN := Lib.hid (hL0.out.fresh rc pa pn pc hwf (by rw [hpl.out]; omega) (hr0.out.below hb1 (Nat.le_refl _)))
  clear HAw HF hb0 hB0
  go_wp2_with (first | (refine wpList_blk_load rfl (.tmp 3) rfl Tryd.underlying38 rfl rfl hB1 Tryd.recI ?_))
  refine HN.out.mono ?_
  rintro e w2 ⟨b, s0, F0, rfl, hL2, hs2, _, _, hb2⟩
  replace hL2 := Lib.hid hL2
  clear HN hL0 hb2 c4 hB1 hb1 hs2 hkI hk0 hpI
  go_wp2
  go_loopw [9] (fun iv wr => ∃ (i : Nat) (s : Fw) (F : Nat → Prop), i ≤ k ∧ iv = .int .i64 i ∧ Hid (FL w wr F [(b, s)])) (fun iv _ => k - (RowKit.intOf iv).toNat)
  case atStart => exact ⟨0, s0, F0, Nat.zero_le _, rfl, hL2⟩
  case round =>
    clear hL2
    obtain ⟨i, s, F, hi, rfl, hL⟩ := hrel
    obtain ⟨wi, rfl⟩ : ∃ z, z = wr := ⟨_, rfl⟩
    by_cases hin : i < k
    · have hiI : (i : Int) < k := by omega
      have hil : i < l.length := by rw [hln.out]; omega
      have hAi := hA0.out.below hL.out.bel
      obtain ⟨g, off, rfl, _, hrg⟩ := hAi.at hil
      have hok := hAi.ok _ (List.getElem_mem hil)
      have hfy := hf2 _ (List.getElem_mem hil)
      generalize l[i] = y at *
      have hyL := Tryd.acL y
      have HA := Lib.hid (hL.out.act (i := 0) rfl y hok (hok.wf hfy))
      clear hAi hok
      go_wp2_with (first
        | (refine wpList_load_mid rfl _ (.tmp 47) rfl g (off + i * 24) rfl (acC y) _ hrg Tryd.underlying58 rfl hyL ?_))
      refine HA.out.mono ?_
      rintro e w4 ⟨s4, F4, oa, on, oc, os, rfl, hL4, _⟩
      replace hL4 := Lib.hid hL4
      clear HA hrg hL
      go_wp2
      go_roundw
      case rel => exact ⟨i + 1, s4, F4, by omega, by go_num, hL4⟩
      case measure => simp [RowKit.intOf]; omega
    · have hiI : ¬ (i : Int) < k := by omega
      obtain rfl : i = k := by omega
      have HC := Lib.hid (hL.out.copy (i := 0) rfl)
      clear hL
      go_wp2_with fail
      refine HC.out.mono ?_
      rintro e w5 ⟨cb, sc, F5, rfl, hL5, hsc, _, _, hb5⟩
      replace hL5 := Lib.hid hL5
      obtain ⟨sA, hsA⟩ : ∃ z, z = s.s := ⟨_, rfl⟩
      rw [← hsA] at hsc
      replace hsA := Lib.hid hsA.symm
      replace hsc := Lib.hid hsc
      clear HC hb5
      go_wp2
      go_loopw [11, 13] (fun xv iv wr => ∃ (j m : Nat) (xa : Option Addr) (xc : Nat) (F : Nat → Prop) (s : Fw) (os : List Ow), i + j ≤ n ∧ iv = .int .i64 ((i + j : Nat) : Int) ∧ xv = .slice xa m xc ∧ m ≤ 2 * j ∧ Hid (FL w wr F [(b, s), (cb, sc)]) ∧ Hid (s.s = (runP sA ((l.drop i).take j)).1) ∧ Hid (OwG F w.heap.size wr (.slice xa m xc) m os) ∧ Hid (os.map (·.v) = (runP sA ((l.drop i).take j)).2)) (fun _ iv _ => n - (RowKit.intOf iv).toNat)
      case atStart => exact ⟨0, 0, none, 0, F5, s, [], by omega, rfl, rfl, by omega, hL5, Lib.hid hsA.out, Lib.hid OwG.nil, Lib.hid rfl⟩
      case round =>
        clear hL5 hsA
        obtain ⟨j, m, xa, xc, F, s, os, hj, rfl, rfl, hm, hL, hs, hX, hV⟩ := hrel
        obtain ⟨wj, rfl⟩ : ∃ z, z = wr := ⟨_, rfl⟩
        by_cases hjn : i + j < n
        · have hjI : ((i + j : Nat) : Int) < n := by omega
          have hil : i + j < l.length := by rw [hln.out]; omega
          have hAi := hA0.out.below hL.out.bel
          obtain ⟨g, off, rfl, _, hrg⟩ := hAi.at hil
          have hok := hAi.ok _ (List.getElem_mem hil)
          have hfy := hf2 _ (List.getElem_mem hil)
          have hst := Lib.hid (take_drop_snoc l hil)
          generalize l[i + j] = y at *
          have hyL := Tryd.acL y
          have HA := Lib.hid (hL.out.act (i := 0) rfl y hok (hok.wf hfy))
          have hap := Lib.hid (fun g e => (hL.out.at_ 0 _ rfl).apart ne_OF hX.out.own (g := g) e)
          have hoF := Lib.hid (hL.out.at_ 0 _ rfl).ownF
          clear hAi hok
          obtain ⟨ij, hij⟩ : ∃ z, z = i + j := ⟨_, rfl⟩
          rw [← hij] at hrg hjI ⊢
          replace hij := Lib.hid hij
          go_wp2_with (first
            | (refine wpList_load_mid rfl _ (.tmp 64) rfl g (off + ij * 24) rfl (acC y) _ hrg Tryd.underlying58 rfl hyL ?_))
          refine HA.out.mono ?_
          rintro e w4 ⟨s4, F4, oa, on, oc, ps, rfl, hL4, hs4, h14, h24, hO4, hv4, hk4⟩
          have hX4 := (hX.out.more h14 h24).kpO hk4 (fun g e => h14 g (hoF.out g e)) hap.out
          have hon : on ≤ 2 := by
            have h1 := hO4.len
            have h2 := congrArg List.length hv4
            rw [List.length_map] at h2
            have := do_few s.s y
            omega
          have hL4' : FL w w4 F4 [(b, s4), (cb, sc)] := hL4
          have hap4 : ∀ g, (Value.slice xa m xc).ownBlock = some g → ∀ (i : Nat) (p : Nat × Fw), [(b, s4), (cb, sc)][i]? = some p → ¬ OwnF p.1 p.2.mb g := fun g e i p hp => (hL4'.at_ i p hp).apart ne_OF hX4.own e
          have hbs4 := hL4'.bel.size
          replace hL4' := Lib.hid hL4'
          replace hX4 := Lib.hid hX4
          have hps := owFlat_one ps
          have hO41 := hO4.1.1
          replace hap4 := Lib.hid hap4
          have hO42 := Lib.hid hO4.2
          clear HA hrg hL hX hap hoF hk4 hO4 hL4 h14 h24
          go_wp2_with (first
            | (at_builtin; refine wpList_append_gen Tryd.owE rfl (.tmp 59) (.tmp 66) rfl hX4.out.own rfl hO41 rfl hps (by unfold maxLen; omega) (by omega) hbs4 ?_; intro v' w8 ho8 hg8 hv8; obtain ⟨xa', xc', rfl, _⟩ := Rd.own ho8))
          have hX8 := Lib.hid (hX4.out.push hO42.out ho8 hg8 hv8)
          have hL8 := Lib.hid (hL4'.out.grown (v' := .slice xa' (m + on) xc') hg8 hX4.out.inF hap4.out (fun g e => ⟨(ho8.lt g e).2, by
            rcases hv8 with h | h
            · exact .inl (hX4.out.inF g (h ▸ e))
            · exact .inr (h g e)⟩))
          have hs8 := Lib.hid (show s4.s = (runP sA ((l.drop i).take (j + 1))).1 from by rw [hst.out, runP_snoc, hs4, hs.out])
          have hV8 := Lib.hid (show (os ++ ps).map (·.v) = (runP sA ((l.drop i).take (j + 1))).2 from by rw [List.map_append, hst.out, runP_snoc, hv4, hV.out, hs.out])
          go_roundw
          case rel => exact ⟨j + 1, m + on, xa', xc', _, s4, os ++ ps, by omega, by rw [hij.out]; go_num, rfl, by omega, hL8, hs8, hX8, hV8⟩
          case measure => rw [hij.out]; simp [RowKit.intOf]; omega
        · have hjI : ¬ ((i + j : Nat) : Int) < n := by omega
          have hje : i + j = n := by omega
          have hfull : (l.drop i).take j = l.drop i := List.take_of_length_le (by rw [List.length_drop, hln.out]; omega)
          rw [hfull] at hs hV
          have hxlt := Lib.hid (fun g e => (hX.out.own.lt g e).2)
          have hbs := hL.out.bel.size
          have hmx4 : m ≤ 400 := by omega
          clear hm
          go_wp2
          go_loopw [12, 14] (fun yv iv wr => ∃ (q r : Nat) (ya : Option Addr) (yc : Nat) (F : Nat → Prop) (t : Fw) (rs : List Ow), i + q ≤ n ∧ iv = .int .i64 ((i + q : Nat) : Int) ∧ yv = .slice ya r yc ∧ r ≤ 2 * q ∧ Hid (FL w wr F [(b, s), (cb, t)]) ∧ Hid (t.s = (runP sA ((l.drop i).take q)).1) ∧ Hid (OwG F wj.heap.size wr (.slice ya r yc) r rs) ∧ Hid (rs.map (·.v) = (runP sA ((l.drop i).take q)).2) ∧ Hid (OwG F w.heap.size wr (.slice xa m xc) m os) ∧ wj.heap.size ≤ wr.heap.size) (fun _ iv _ => n - (RowKit.intOf iv).toNat)
          case atStart => exact ⟨0, 0, none, 0, F, sc, [], by omega, rfl, rfl, by omega, hL, Lib.hid hsc.out, Lib.hid OwG.nil, Lib.hid rfl, hX, Nat.le_refl _⟩
          case round =>
            clear hL hX
            obtain ⟨q, r, ya, yc, F, t, rs, hq, rfl, rfl, hr2, hL, ht, hY, hV2, hX, hwk⟩ := hrel
            obtain ⟨wk, rfl⟩ : ∃ z, z = wr := ⟨_, rfl⟩
            by_cases hqn : i + q < n
            · have hqI : ((i + q : Nat) : Int) < n := by omega
              have hil : i + q < l.length := by rw [hln.out]; omega
              have hAi := hA0.out.below hL.out.bel
              obtain ⟨g, off, rfl, _, hrg⟩ := hAi.at hil
              have hok := hAi.ok _ (List.getElem_mem hil)
              have hfy := hf2 _ (List.getElem_mem hil)
              have hst := Lib.hid (take_drop_snoc l hil)
              generalize l[i + q] = y at *
              have hyL := Tryd.acL y
              have HA := Lib.hid (hL.out.act (i := 1) rfl y hok (hok.wf hfy))
              have hap := Lib.hid (fun g e => (hL.out.at_ 1 _ rfl).apart ne_OF hY.out.own (g := g) e)
              have hapX := Lib.hid (fun g e => (hL.out.at_ 1 _ rfl).apart ne_OF hX.out.own (g := g) e)
              have hoF := Lib.hid (hL.out.at_ 1 _ rfl).ownF
              clear hAi hok
              obtain ⟨ij, hij⟩ : ∃ z, z = i + q := ⟨_, rfl⟩
              rw [← hij] at hrg hqI ⊢
              replace hij := Lib.hid hij
              go_wp2_with (first
                | (refine wpList_load_mid rfl _ (.tmp 80) rfl g (off + ij * 24) rfl (acC y) _ hrg Tryd.underlying58 rfl hyL ?_))
              refine HA.out.mono ?_
              rintro e w4 ⟨s4, F4, oa, on, oc, ps, rfl, hL4, hs4, h14, h24, hO4, hv4, hk4⟩
              have hY4 := (hY.out.more h14 h24).kpO hk4 (fun g e => h14 g (hoF.out g e)) hap.out
              have hX4 := (hX.out.more h14 h24).kpO hk4 (fun g e => h14 g (hoF.out g e)) hapX.out
              have hon : on ≤ 2 := by
                have h1 := hO4.len
                have h2 := congrArg List.length hv4
                rw [List.length_map] at h2
                have := do_few t.s y
                omega
              have hL4' : FL w w4 F4 [(b, s), (cb, s4)] := hL4
              have hap4 : ∀ g, (Value.slice ya r yc).ownBlock = some g → ∀ (i : Nat) (p : Nat × Fw), [(b, s), (cb, s4)][i]? = some p → ¬ OwnF p.1 p.2.mb g := fun g e i p hp => (hL4'.at_ i p hp).apart ne_OF hY4.own e
              have hks4 := hk4.size
              have hyb := Lib.hid (fun g e => (hY.out.own.lt g e).1)
              have hbs4 : wj.heap.size ≤ w4.heap.size := by omega
              replace hL4' := Lib.hid hL4'
              replace hY4 := Lib.hid hY4
              replace hX4 := Lib.hid hX4
              have hps := owFlat_one ps
              have hO41 := hO4.1.1
              replace hap4 := Lib.hid hap4
              have hO42 := Lib.hid hO4.2
              clear HA hrg hL hX hY hap hapX hoF hk4 hO4 hL4 h14 h24
              go_wp2_with (first
                | (at_builtin; refine wpList_append_gen Tryd.owE rfl (.tmp 75) (.tmp 82) rfl hY4.out.own rfl hO41 rfl hps (by unfold maxLen; omega) (by omega) hbs4 ?_; intro v' w8 ho8 hg8 hv8; obtain ⟨ya', yc', rfl, _⟩ := Rd.own ho8))
              have hY8 := Lib.hid (hY4.out.push hO42.out ho8 hg8 hv8)
              have hvv : ∀ g, (Value.slice ya' (r + on) yc').ownBlock = some g → g < w8.heap.size ∧ (F4 g ∨ w4.heap.size ≤ g) := fun g e => ⟨(ho8.lt g e).2, by
                rcases hv8 with h | h
                · exact .inl (hY4.out.inF g (h ▸ e))
                · exact .inr (h g e)⟩
              have hL8 := Lib.hid (hL4'.out.grown (v' := .slice ya' (r + on) yc') hg8 hY4.out.inF hap4.out hvv)
              have hX8 := Lib.hid ((hX4.out.more (F' := fun g => F4 g ∨ (Value.slice ya' (r + on) yc').ownBlock = some g) (fun g hg => .inl hg) (fun g hg => hg.elim .inl (fun e => (hvv g e).2))).kpO (KpO.ofGrown (O := fun g => (Value.slice ya r yc).ownBlock = some g) hg8 (fun k e => e)) (fun g e => .inl (hY4.out.inF g e)) (fun g e e2 => by have h1 := hxlt.out g e; have h2 := hyb.out g e2; omega))
              have hs8 := Lib.hid (show s4.s = (runP sA ((l.drop i).take (q + 1))).1 from by rw [hst.out, runP_snoc, hs4, ht.out])
              have hV8 := Lib.hid (show (rs ++ ps).map (·.v) = (runP sA ((l.drop i).take (q + 1))).2 from by rw [List.map_append, hst.out, runP_snoc, hv4, hV2.out, ht.out])
              go_roundw
              case rel => exact ⟨q + 1, r + on, ya', yc', _, s4, rs ++ ps, by omega, by rw [hij.out]; go_num, rfl, by omega, hL8, hs8, hY8, hV8, hX8, by have := hg8.size; omega⟩
              case measure => rw [hij.out]; simp [RowKit.intOf]; omega
            · have hqI : ¬ ((i + q : Nat) : Int) < n := by omega
              have hfull2 : (l.drop i).take q = l.drop i := List.take_of_length_le (by rw [List.length_drop, hln.out]; omega)
              rw [hfull2] at ht hV2
              have hR1 := Lib.hid hX.out.rdO
              have hR2 := Lib.hid hY.out.rdO
              have hvv : os.map (·.v) = rs.map (·.v) := by rw [hV.out, hV2.out]
              have hfm : s.formed = t.formed := congrArg Fs.formed (hs.out.trans ht.out.symm)
              have hL9 := hL
              have hrm : r ≤ 400 := by omega
              clear hX hY hL hV hV2 hs ht hr2
              go_wp2_with fail
              refine (of_any xa m xc os (by omega) wk (fun g hg => hg.elim) hR1.out).mono ?_
              rintro e w6 ⟨za, zc, zs, rfl, hZ6, hzv, hb6⟩
              have hR26 := hR2.out.below hb6
              go_wp2_with fail
              refine (of_any ya r yc rs (by omega) w6 (fun g hg => hg.elim) hR26).mono ?_
              rintro e w7 ⟨ua, uc, us, rfl, hU7, huv, hb7⟩
              have hZ7 := hZ6.below hb7
              have hmr : m = r := by
                have h1 := hZ7.len
                have h2 := hU7.len
                have h3 := congrArg List.length (hzv.trans (hvv.trans huv.symm))
                rw [List.length_map, List.length_map] at h3
                omega
              subst hmr
              have hb67 := belS hb6 hb7
              clear hR26 hb6 hb7 hZ6 hR1 hR2
              go_wp2_with fail
              refine (sameO_any za ua m zc uc zs us w7 hZ7 hU7 (hzv.trans (hvv.trans huv.symm))).mono ?_
              rintro e w8 ⟨rfl, hb8⟩
              have hL8 := hL9.out.below (belS hb67 hb8)
              have hf1 := Lib.hid (formedA s b w8 (hL8.at_ 0 _ rfl))
              have hf3 := Lib.hid (formedA t cb w8 (hL8.at_ 1 _ rfl))
              rw [← hfm] at hf3
              have hbF := hL8.bel
              obtain ⟨fm, hfmE⟩ : ∃ z, z = s.formed := ⟨_, rfl⟩
              rw [← hfmE] at hf1 hf3
              have heq : (fm == fm) = true := by simp
              clear hfmE hfm hL8 hL9 hZ7 hU7 hb67 hb8 hzv huv hvv
              go_wp2_with fail
              refine hf1.out.mono ?_
              rintro e w' ⟨rfl, rfl⟩
              go_wp2_with fail
              refine hf3.out.mono ?_
              rintro e w' ⟨rfl, rfl⟩
              go_wp2
              go_ret
              exact ⟨rfl, hbF⟩
theorem fcopies_claim (cs : Array Value) (a : Option Addr) (n c : Nat) (at' : Int) (W : World) (hT : Tab W) (r0 : ∃ x, RRec W cs.toList x) (r1 : ∃ l, RSl RAct 24 W a n c l ∧ n * 208 ≤ reachBytes) (_ : (Lit.int .i64 at').wf = true) :
    Calls Tryd.prog 5 #[.agg cs, .slice a n c, .int .i64 at'] W fun e w' => e = .returned (.bool true) ∧ Below W.heap.size W w' := by
  obtain ⟨x, hx⟩ := r0
  obtain ⟨pa, pn, pc, hcs, h1, h2, _⟩ := hx.rc
  obtain ⟨l, hl, _⟩ := r1
  obtain ⟨ys, hA⟩ := hl.acs
  obtain rfl : cs = #[.int .u64 (toRc x).last.num, .int .u64 (toRc x).last.ce, .int .i64 (toRc x).last.cr, .int .u64 (toRc x).last.mem, .slice pa pn pc] := by
    apply Array.toList_inj.1
    rw [hcs]
    rfl
  exact fcopies_law (toRc x) pa pn pc a n c at' ys W hT h2 h1 hA
end Go.Proofs.YteeeikkapnchlaaDoor
