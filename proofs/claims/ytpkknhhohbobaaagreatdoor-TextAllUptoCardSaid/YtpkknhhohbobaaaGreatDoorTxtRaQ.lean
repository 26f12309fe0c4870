/- text: the reference's value, pieces -/
import Derived.Test.YtpkknhhohbobaaaGreatDoorTxtWQ
namespace Go.Proofs.YtpkknhhohbobaaaGreatDoor
set_option linter.unusedSimpArgs false
set_option linter.unusedVariables false
open Go.RowKit Go.Sort
theorem goV_step (n : Nat) {s : W8} {i : Nat} (h : i < s.length) : goV n (s.drop i) = if s[i].toNat < 48 ∨ 57 < s[i].toNat then none else if (18446744073709551615 - (s[i].toNat - 48)) / 10 < n then none else goV (n * 10 + (s[i].toNat - 48)) (s.drop (i + 1)) := by
  rw [List.drop_eq_getElem_cons h]
  rfl
set_option maxHeartbeats 3200000 in
set_option maxRecDepth 100000 in
theorem rvalue_any (s : W8) (most : Nat) (hm : most ≤ 18446744073709551615) (hs : s.length < 4611686018427387904) (w : World) :
    Calls Tryz.prog 35 #[.string (mkB s), .int .u64 (most : Int)] w fun e w' => e = .returned (.tuple #[.int .u64 ((refV s most).1 : Int), .bool (refV s most).2]) ∧ Below w.heap.size w w' := by
  have hrs := mkB_size s
  have hI0 := Lib.hid (fun (i : Nat) (h : i < s.length) (W : World) => idx_mkB s i s[i] (List.getElem?_eq_getElem h) .i64 W)
  obtain ⟨S, hS⟩ : ∃ z, z = mkB s := ⟨_, rfl⟩
  rw [← hS] at hrs hI0 ⊢
  obtain ⟨L, hL⟩ : ∃ z, z = s.length := ⟨_, rfl⟩
  rw [← hL] at hrs hs
  replace hS := Lib.hid hS
  replace hL := Lib.hid hL
  go_enter Tryz.func35, Tryz.ntmps35
  go_wp2
  go_loopw [6, 7, 8] (fun nv iv _ wr => ∃ (i n : Nat), i ≤ L ∧ iv = .int .i64 i ∧ nv = .int .u64 n ∧ n ≤ 18446744073709551615 ∧ wr = w ∧ Hid (goV 0 s = goV n (s.drop i))) (fun _ iv _ _ => L - (RowKit.intOf iv).toNat)
  case atStart => exact ⟨0, 0, Nat.zero_le _, rfl, rfl, by decide, rfl, Lib.hid rfl⟩
  case round =>
    obtain ⟨i, n, hi, rfl, rfl, hn, rfl, hg⟩ := hrel
    by_cases hin : i < L
    · have hiI : (i : Int) < S.size := by rw [hrs]; omega
      have hiL : i < s.length := by have := hL.out; omega
      have hI := hI0.out i hiL
      have hst := Lib.hid (goV_step n hiL)
      generalize s[i] = c at *
      by_cases hc : c.toNat < 48
      · have hcI : (c.toNat : Int) < 48 := by omega
        have hz : Hid (refV s most = (0, false)) := Lib.hid (by unfold refV; rw [hg.out, hst.out, if_pos (.inl hc)])
        clear hc
        go_wp2
        refine bodyPost_ret (v := .tuple #[.int .u64 0, .bool false]) (by simp [results, Tryz.results35, go_sem]) rfl ?_
        exact ⟨by rw [hz.out]; rfl, Below.refl _ _⟩
      · have hcI : ¬ (c.toNat : Int) < 48 := by omega
        by_cases hc2 : 57 < c.toNat
        · have hcI2 : (57 : Int) < c.toNat := by omega
          have hz : Hid (refV s most = (0, false)) := Lib.hid (by unfold refV; rw [hg.out, hst.out, if_pos (.inr hc2)])
          clear hc hc2
          go_wp2
          refine bodyPost_ret (v := .tuple #[.int .u64 0, .bool false]) (by simp [results, Tryz.results35, go_sem]) rfl ?_
          exact ⟨by rw [hz.out]; rfl, Below.refl _ _⟩
        · have hcI2 : ¬ (57 : Int) < c.toNat := by omega
          obtain ⟨d, hd⟩ : ∃ d : Nat, c.toNat = 48 + d := ⟨c.toNat - 48, by omega⟩
          have hd9 : d ≤ 9 := by omega
          have hw8 : IntKind.u8.wrap ((c.toNat : Int) - 48) = d := by rw [IntKind.wrap_u8]; omega
          have hw64 : IntKind.u64.wrap (d : Int) = d := by rw [IntKind.wrap_u64]; omega
          have hws : IntKind.u64.wrap (18446744073709551615 - (d : Int)) = 18446744073709551615 - d := by rw [IntKind.wrap_u64]; omega
          rw [if_neg (by omega), show c.toNat - 48 = d from by omega] at hst
          replace hd := Lib.hid hd
          by_cases hov : (18446744073709551615 - d) / 10 < n
          · have hovI : (18446744073709551615 - (d : Int)) / 10 < (n : Int) := by omega
            have hz : Hid (refV s most = (0, false)) := Lib.hid (by unfold refV; rw [hg.out, hst.out, if_pos hov])
            clear hov hst
            go_wp2
            refine bodyPost_ret (v := .tuple #[.int .u64 0, .bool false]) (by simp [results, Tryz.results35, go_sem]) rfl ?_
            exact ⟨by rw [hz.out]; rfl, Below.refl _ _⟩
          · have hovI : ¬ (18446744073709551615 - (d : Int)) / 10 < (n : Int) := by omega
            rw [if_neg hov] at hst
            have hn2 : n * 10 + d ≤ 18446744073709551615 := by omega
            have hg2 := Lib.hid (hg.out.trans hst.out)
            have hwm : IntKind.u64.wrap ((n : Int) * 10) = n * 10 := by rw [IntKind.wrap_u64]; omega
            have hwa : IntKind.u64.wrap ((n : Int) * 10 + d) = n * 10 + d := by rw [IntKind.wrap_u64]; omega
            clear hov hst
            go_wp2
            go_roundw
            case rel => exact ⟨i + 1, n * 10 + d, by omega, by go_num, by go_num, hn2, (by first | rfl | trivial), hg2⟩
            case measure => simp [RowKit.intOf]; omega
    · have hiI : ¬ (i : Int) < S.size := by rw [hrs]; omega
      have hgf : goV 0 s = some n := by rw [hg.out, List.drop_of_length_le (by have := hL.out; omega)]; rfl
      have hrv : Hid (refV s most = (n, decide (0 < s.length) && decide (n ≤ most) && decide (Lib.decDigits n = s))) := Lib.hid (by unfold refV; rw [hgf])
      by_cases hL0 : 0 < L
      · have hL0I : (0 : Int) < S.size := by rw [hrs]; omega
        by_cases hnm : n ≤ most
        · have hnmI : (n : Int) ≤ most := by omega
          have HD := Lib.hid (rdig_any n (by omega) wr)
          have hz : Hid (refV s most = (n, decide (Lib.decDigits n = s))) := Lib.hid (by
            rw [hrv.out, decide_eq_true (show 0 < s.length by have := hL.out; omega), decide_eq_true hnm]
            rfl)
          have hqq : ((mkB (Lib.decDigits n)).toList == S.toList) = decide (Lib.decDigits n = s) := by
            rw [hS.out, mkB_toList, mkB_toList]
            by_cases h : Lib.decDigits n = s
            · rw [h, decide_eq_true rfl]; exact beq_self_eq_true _
            · rw [decide_eq_false h]; exact beq_eq_false_iff_ne.2 h
          generalize decide (Lib.decDigits n = s) = q at *
          clear hL0 hnm hgf
          go_wp2_with fail
          refine HD.out.mono ?_
          rintro e w2 ⟨rfl, hb2⟩
          clear HD
          go_wp2
          refine bodyPost_ret (v := .tuple #[.int .u64 (n : Int), .bool q]) (by simp [results, Tryz.results35, go_sem]) rfl ?_
          exact ⟨by rw [hz.out], hb2⟩
        · have hnmI : ¬ (n : Int) ≤ most := by omega
          have hz : Hid (refV s most = (n, false)) := Lib.hid (by
            rw [hrv.out, decide_eq_false hnm, Bool.and_false, Bool.false_and])
          clear hL0 hnm hgf
          go_wp2
          refine bodyPost_ret (v := .tuple #[.int .u64 (n : Int), .bool false]) (by simp [results, Tryz.results35, go_sem]) rfl ?_
          exact ⟨by rw [hz.out], Below.refl _ _⟩
      · have hL0I : ¬ (0 : Int) < S.size := by rw [hrs]; omega
        have hz : Hid (refV s most = (n, false)) := Lib.hid (by
          rw [hrv.out, decide_eq_false (show ¬ 0 < s.length by have := hL.out; omega), Bool.false_and, Bool.false_and])
        clear hL0 hgf
        go_wp2
        refine bodyPost_ret (v := .tuple #[.int .u64 (n : Int), .bool false]) (by simp [results, Tryz.results35, go_sem]) rfl ?_
        exact ⟨by rw [hz.out], Below.refl _ _⟩
theorem run_cU_str {P : Program} {w : World} {t e d : TypeId}
    (hs : P.underlying t = some (.slice e)) (he : P.underlying e = some (.int .u8)) (hd : P.underlying d = some .string)
    {xa : Option Addr} {m c : Nat} {l : W8} (hr : Rd w 1 xa m c (l.map fun b => .int .u8 (b.toNat : Int))) : (convert t d (.slice xa m c)).run P w = .ok (.string (mkB l)) w := by
  rw [cU_ints] at hr
  have hS : strOfNums (l.map fun b => (b.toNat : Int)) = mkB l := by
    apply bL_ext
    rw [bL_strOfNums, bL, list_mkB, List.map_map]
    conv => rhs; rw [← List.map_id l]
    exact List.map_congr_left (fun b _ => by simp)
  rw [← hS]
  generalize (l.map fun b => (b.toNat : Int)) = l at *
  rcases hr with ⟨⟨hl, _, _, _⟩, rfl | ⟨b, off, rfl, _, hc⟩⟩
  · have hn : l = [] := List.eq_nil_of_length_eq_zero (by simpa using hl)
    subst hn
    cases xa with
    | none => exact run_convert_bytes_nil w t e hs he 0 c d hd
    | some ad => rw [run_convert_bytes_string w t d e _ 0 c hs he hd, run_bytesToString w ad 0 c [] (by simpa using run_loadCells_list (P := P) w ad [] (fun j v hj => by simp at hj))]; rfl
  · refine run_convert_bytes_arg w t e hs he b off m c l (by simpa using hl) (fun i hi => ?_) d hd
    have hl' : l.length = m := by simpa using hl
    rw [hc i (.int .u8 (l.getD i 0)) (by rw [List.getElem?_map, List.getD_eq_getElem?_getD, List.getElem?_eq_getElem (by omega)]; rfl)]
theorem step_cU_str {P : Program} {w : World} {ops : Array Oper} {o : Oper} {a : Act} {K : Act → World → Prop} {Q : Exit → Act → World → Prop} {E' : Prop} {t e d : TypeId}
    (hs : P.underlying t = some (.slice e)) (he : P.underlying e = some (.int .u8)) (hd : P.underlying d = some .string) (hgd : o.guard = none) (x : Operand) (ho : o.op = .convert t d x)
    {xa : Option Addr} {m c : Nat} {l : W8} (hx : a.eval x = .slice xa m c) (hr : Rd w 1 xa m c (l.map fun b => .int .u8 (b.toNat : Int)))
    (h : K (a.put o.dst (.string (mkB l))) w) : if Region.wanted o (yielded ops a.tmps) = true then Oper.wp P o a w K Q else E' := by
  rw [if_pos (by simp [Region.wanted, hgd])]
  unfold Oper.wp
  simp only [execOp, ho, hx, Sem.run_bind, Sem.run_pure, run_cU_str hs he hd hr, Result.andThen_ok]
  exact h
-- PIECES
theorem Tryz.byE : Elt Tryz.prog 67 5 (.int .u8 0) 1 1 := ⟨by kernel_rfl, by kernel_rfl, rfl, by decide⟩
theorem own_at {w : World} {base n : Nat} {e : TypeId} {sz : Nat} {v : Value} {xs : List Value} (h : w.ownsRow base e sz v n xs) (hn : 0 < n) : ∃ g cap, v = .slice (some ⟨g, 0, none⟩) n cap := by
  rcases h.2 with ⟨_, h0⟩ | ⟨g, cap, cur, hv, _⟩
  · omega
  · exact ⟨g, cap, hv⟩
set_option maxHeartbeats 6400000 in
set_option maxRecDepth 100000 in
theorem rpieces_any (s : W8) (c : UInt8) (hs : s.length ≤ 4294967296) (w : World) :
    Calls Tryz.prog 17 #[.string (mkB s), .int .u8 (c.toNat : Int)] w fun e w' => ∃ g cap, e = .returned (.slice (some ⟨g, 0, none⟩) (pcs c s).length cap) ∧ w'.ownsRow w.heap.size 9 1 (.slice (some ⟨g, 0, none⟩) (pcs c s).length cap) (pcs c s).length ((pcs c s).map sv) ∧ Below w.heap.size w w' := by
  have hrs := mkB_size s
  have hI0 := Lib.hid (fun (i : Nat) (h : i < s.length) (W : World) => idx_mkB s i s[i] (List.getElem?_eq_getElem h) .i64 W)
  obtain ⟨S, hS⟩ : ∃ z, z = mkB s := ⟨_, rfl⟩
  rw [← hS] at hrs hI0 ⊢
  obtain ⟨L, hL⟩ : ∃ z, z = s.length := ⟨_, rfl⟩
  rw [← hL] at hrs hs
  have ho0 := own_new1 (w := w) (e := 9) (v := .string ⟨#[]⟩)
  have hb0 := alloc_below w (.cells #[.string ⟨#[]⟩] 9)
  replace hS := Lib.hid hS
  replace hL := Lib.hid hL
  replace ho0 := Lib.hid ho0
  replace hb0 := Lib.hid hb0
  obtain ⟨B, hB⟩ : ∃ z, z = w.heap.size := ⟨_, rfl⟩
  go_enter Tryz.func17, Tryz.ntmps17
  go_wp2
  go_loopw [5, 6] (fun ov iv wr => ∃ (i q : Nat) (P : List W8) (g cap : Nat), i ≤ L ∧ iv = .int .i64 i ∧ ov = .slice (some ⟨g, 0, none⟩) (q + 1) cap ∧ q ≤ i ∧ Hid (P.length = q + 1) ∧ Hid (P = pcs c (s.take i)) ∧ Hid (wr.ownsRow B 9 1 (.slice (some ⟨g, 0, none⟩) (q + 1) cap) (q + 1) (P.map sv)) ∧ Hid (Below w.heap.size w wr)) (fun _ iv _ => L - (RowKit.intOf iv).toNat)
  case atStart => exact ⟨0, 0, [[]], w.heap.size, 1, Nat.zero_le _, rfl, rfl, Nat.le_refl 0, Lib.hid rfl, Lib.hid rfl, Lib.hid (by rw [hB]; exact ho0.out), hb0⟩
  case round =>
    obtain ⟨i, q, P, g, cap, hi, rfl, rfl, hq, hP, hPc, ho, hb⟩ := hrel
    obtain ⟨w1, rfl⟩ : ∃ z, z = wr := ⟨_, rfl⟩
    have hBw : Hid (B ≤ w1.heap.size) := Lib.hid (by rw [hB]; exact hb.out.size)
    by_cases hin : i < L
    · have hiI : (i : Int) < S.size := by rw [hrs]; omega
      have hiL : i < s.length := by have := hL.out; omega
      have hI := hI0.out i hiL
      have hsn := Lib.hid (show pcs c (s.take (i + 1)) = if s[i] = c then P ++ [[]] else P.dropLast ++ [P.getLastD [] ++ [s[i]]] from by
        rw [List.take_succ_eq_append_getElem hiL, pcs_snoc, ← hPc.out])
      generalize s[i] = x at *
      by_cases hx : x = c
      · have hxI : (x.toNat : Int) = (c.toNat : Int) := by rw [hx]
        rw [if_pos hx] at hsn
        have hb2 := alloc_below w1 (.cells #[.string ⟨#[]⟩] 9)
        have ho2 := own_belowB ho.out hb2
        have hr2 : Rd (w1.alloc (.cells #[.string ⟨#[]⟩] 9)) 1 (some ⟨w1.heap.size, 0, none⟩) 1 1 ([[]].map sv) := Rd.litn rfl rfl (by decide)
        have hle := Nat.le_trans hBw.out hb2.size
        have hbb := belS hb.out hb2
        clear hx
        go_wp2_with (first
          | (refine wpList_append_apart Tryz.stE rfl (.tmp 19) (.tmp 20) rfl ho2 rfl hr2 (by decide) rfl (by intro u hu; obtain rfl := List.mem_singleton.1 hu; rfl) (by unfold maxLen; omega) (by omega) hle ?_; intro v' w3 ho3 hg3 hv3; have hb3 := Lib.hid (hbb.grown hg3 (hbb.size) (fun k hk => by rw [← hB]; exact (ho2.lt k hk).1))))
        obtain ⟨g', cap', rfl⟩ := own_at ho3 (by omega)
        go_roundw
        case rel => exact ⟨i + 1, q + 1, P ++ [[]], g', cap', by omega, by go_num, rfl, by omega, Lib.hid (by rw [List.length_append, hP.out]; rfl), Lib.hid hsn.out.symm, Lib.hid (by rw [List.map_append]; exact ho3), hb3⟩
        case measure => simp [RowKit.intOf]; omega
      · have hxI : ¬ (x.toNat : Int) = (c.toNat : Int) := fun e => hx (UInt8.toNat_inj.1 (by omega))
        rw [if_neg hx] at hsn
        obtain ⟨old, hold⟩ : ∃ z, z = P.getLastD [] := ⟨_, rfl⟩
        have hPd : P = P.dropLast ++ [old] := by
          have hne : P ≠ [] := fun e => by have := hP.out; rw [e] at this; cases this
          rw [hold, List.getLastD_eq_getLast?, List.getLast?_eq_some_getLast hne]
          exact (List.dropLast_concat_getLast hne).symm
        have hdl : P.dropLast.length = q := by rw [List.length_dropLast, hP.out]; rfl
        have hcq : (P.map sv)[q]? = some (.string (mkB old)) := by
          rw [hPd, List.map_append, List.getElem?_append_right (by rw [List.length_map, hdl]; exact Nat.le_refl _), List.length_map, hdl, Nat.sub_self]
          rfl
        rw [← hold] at hsn
        have hod : w1.drew.ownsRow B 9 1 (.slice (some ⟨g, 0, none⟩) (q + 1) cap) (q + 1) (P.map sv) := own_belowB ho.out (Below.refl _ _).drew
        have hsz : (mkB old).size ≤ 4294967296 := by
          have h1 : old ∈ P := by rw [hPd]; simp
          rw [hPc.out] at h1
          have h2 := pcs_small c _ old h1
          rw [List.length_take] at h2
          have := hL.out
          rw [mkB_size]
          omega
        have hsl : ¬ 9223372036854775807 < (mkB old).size + (mkB [x]).size := by rw [mkB_size [x]]; simp only [List.length_cons, List.length_nil]; omega
        have hcat := mkB_append old [x]
        have hbd : Below w.heap.size w w1.drew := hb.out.drew
        have hset : (P.map sv).set q (.string (mkB (old ++ [x]))) = (P.dropLast ++ [old ++ [x]]).map sv := by
          conv => lhs; rw [hPd]
          rw [List.map_append, List.set_append_right _ _ (by rw [List.length_map, hdl]; exact Nat.le_refl _), List.length_map, hdl, Nat.sub_self, List.map_append]
          rfl
        have hlen2 : (P.dropLast ++ [old ++ [x]]).length = q + 1 := by rw [List.length_append, hdl]; rfl
        have hwq : IntKind.i64.wrap (q : Int) = q := by rw [IntKind.wrap_i64]; omega
        have hq0 : (0 : Int) ≤ q := by omega
        have hq1 : (q : Int) < (q : Int) + 1 := by omega
        replace hPd := Lib.hid hPd
        replace hset := Lib.hid hset
        replace hlen2 := Lib.hid hlen2
        replace hold := Lib.hid hold
        replace hsz := Lib.hid hsz
        replace hdl := Lib.hid hdl
        clear hx
        go_upto_region 7 with (fail)
        obtain ⟨wd, hwd⟩ : ∃ z, z = w1.drew := ⟨_, rfl⟩
        refine wp_region_held_drew (S := fun _ => True) (by kernel_rfl) trivial ?_
        intro hHeld
        rw [← hwd] at hod hbd
        first | rw [← hwd] | (change wpAnyH _ _ _ _ _ _ _ _ w1.drew; rw [← hwd])
        have hle : B ≤ wd.heap.size := by rw [hwd]; exact hBw.out
        clear hwd
        have c31 : wd.cell? ⟨g, q, none⟩ = some (.string (mkB old)) := by rw [hod.cellAt q (by omega)]; exact hcq
        have hbz := alloc_below wd (.cells #[.int .u8 (x.toNat : Int)] 5)
        have hrz : Hid (Rd (wd.alloc (.cells #[.int .u8 (x.toNat : Int)] 5)) 1 (some ⟨wd.heap.size, 0, none⟩) 1 1 (([x] : W8).map fun b => .int .u8 (b.toNat : Int))) := Lib.hid (one_row x)
        have ho8 := own_belowB hod hbz
        have c38 : (wd.alloc (.cells #[.int .u8 (x.toNat : Int)] 5)).cell? ⟨g, q, none⟩ = some (.string (mkB old)) := by rw [ho8.cellAt q (by omega)]; exact hcq
        have f38 := ho8.frozenAt q
        obtain ⟨ho9, hg9⟩ := ho8.stored q (.string (mkB (old ++ [x])))
        rw [hset.out] at ho9
        have hb9 := Lib.hid ((belS hbd hbz).grown hg9 ((belS hbd hbz).size) (fun k hk => by cases hk; rw [← hB]; exact (ho8.lt g rfl).1))
        replace ho9 := Lib.hid ho9
        obtain ⟨w8, hw8⟩ : ∃ z, z = wd.alloc (.cells #[.int .u8 (x.toNat : Int)] 5) := ⟨_, rfl⟩
        obtain ⟨rb, hrb⟩ : ∃ z, z = wd.heap.size := ⟨_, rfl⟩
        rw [← hw8] at c38 f38 ho9 hb9 hrz
        rw [← hrb] at hrz
        replace hw8 := Lib.hid hw8
        replace hrb := Lib.hid hrb
        clear hod ho8 hg9 hbz hcq ho hb hPc hP hBw hle hbd
        (refine wpAnyH_take (i := 0) (v := ?_) rfl (by kernel_rfl) (by kernel_rfl) (by kernel_rfl) (fun _ _ _ h => h) (Or.inl ⟨by rfl, ?_⟩) (by assumption) ?_; rotate_left; (focus (intro w hSw; clear hSw; go_simp; (try with_reducible rfl))); (try simp only [Act.put, List.getElem_toArray, List.getElem_cons_zero, List.getElem_cons_succ, List.setIfInBounds_toArray, List.set_cons_zero, List.set_cons_succ]))
        (refine wpAnyH_take (i := 1) (v := ?_) rfl (by kernel_rfl) (by kernel_rfl) (by kernel_rfl) (fun _ _ _ h => h) (Or.inl ⟨by rfl, ?_⟩) (by assumption) ?_; rotate_left; (focus (intro w hSw; clear hSw; go_simp; (try with_reducible rfl))); (try simp only [Act.put, List.getElem_toArray, List.getElem_cons_zero, List.getElem_cons_succ, List.setIfInBounds_toArray, List.set_cons_zero, List.set_cons_succ]))
        (refine wpAnyH_take (i := 2) (v := ?_) rfl (by kernel_rfl) (by kernel_rfl) (by kernel_rfl) (fun _ _ _ h => h) (Or.inl ⟨by rfl, ?_⟩) (by assumption) ?_; rotate_left; (focus (intro w hSw; clear hSw; go_simp; (try with_reducible rfl))); (try simp only [Act.put, List.getElem_toArray, List.getElem_cons_zero, List.getElem_cons_succ, List.setIfInBounds_toArray, List.set_cons_zero, List.set_cons_succ]))
        (refine wpAnyH_take (i := 3) (v := ?_) rfl (by kernel_rfl) (by kernel_rfl) (by kernel_rfl) (fun _ _ _ h => h) (Or.inl ⟨by rfl, ?_⟩) (by assumption) ?_; rotate_left; (focus (intro w hSw; clear hSw; go_simp; (try with_reducible rfl))); (try simp only [Act.put, List.getElem_toArray, List.getElem_cons_zero, List.getElem_cons_succ, List.setIfInBounds_toArray, List.set_cons_zero, List.set_cons_succ]))
        (refine wpAnyH_take (i := 4) (v := ?_) rfl (by kernel_rfl) (by kernel_rfl) (by kernel_rfl) (fun _ _ _ h => h) (Or.inl ⟨by rfl, ?_⟩) (by assumption) ?_; rotate_left; (focus (intro w hSw; clear hSw; go_simp; (try with_reducible rfl))); (try simp only [Act.put, List.getElem_toArray, List.getElem_cons_zero, List.getElem_cons_succ, List.setIfInBounds_toArray, List.set_cons_zero, List.set_cons_succ]))
        (refine wpAnyH_take (i := 5) (v := ?_) rfl (by kernel_rfl) (by kernel_rfl) (by kernel_rfl) (fun _ _ _ h => h) (Or.inl ⟨by rfl, ?_⟩) (by assumption) ?_; rotate_left; (focus (intro w hSw; clear hSw; go_simp; (try with_reducible rfl))); (try simp only [Act.put, List.getElem_toArray, List.getElem_cons_zero, List.getElem_cons_succ, List.setIfInBounds_toArray, List.set_cons_zero, List.set_cons_succ]))
        (refine wpAnyH_take (i := 6) (v := ?_) rfl (by kernel_rfl) (by kernel_rfl) (by kernel_rfl) (fun _ _ _ h => h) (Or.inl ⟨by rfl, ?_⟩) (by assumption) ?_; rotate_left; (focus (intro w hSw; clear hSw; go_simp; (try with_reducible rfl))); (try simp only [Act.put, List.getElem_toArray, List.getElem_cons_zero, List.getElem_cons_succ, List.setIfInBounds_toArray, List.set_cons_zero, List.set_cons_succ]))
        (refine wpAnyH_take (i := 7) (v := ?_) rfl (by kernel_rfl) (by kernel_rfl) (by kernel_rfl) (fun _ _ _ h => h) (Or.inl ⟨by rfl, ?_⟩) (by assumption) ?_; rotate_left; (focus (intro w hSw; clear hSw; go_simp; (try with_reducible rfl))); (try simp only [Act.put, List.getElem_toArray, List.getElem_cons_zero, List.getElem_cons_succ, List.setIfInBounds_toArray, List.set_cons_zero, List.set_cons_succ]))
        (refine wpAnyH_take (i := 8) (v := ?_) rfl (by kernel_rfl) (by kernel_rfl) (by kernel_rfl) (fun _ _ _ h => h) (Or.inl ⟨by rfl, ?_⟩) (by assumption) ?_; rotate_left; (focus (intro w hSw; clear hSw; go_simp; (try with_reducible rfl))); (try simp only [Act.put, List.getElem_toArray, List.getElem_cons_zero, List.getElem_cons_succ, List.setIfInBounds_toArray, List.set_cons_zero, List.set_cons_succ]))
        (refine wpAnyH_take (i := 10) (v := ?_) rfl (by kernel_rfl) (by kernel_rfl) (by kernel_rfl) (fun _ _ _ h => h) (Or.inl ⟨by rfl, ?_⟩) (by assumption) ?_; rotate_left; (focus (intro w hSw; clear hSw; go_simp; (try with_reducible rfl))); (try simp only [Act.put, List.getElem_toArray, List.getElem_cons_zero, List.getElem_cons_succ, List.setIfInBounds_toArray, List.set_cons_zero, List.set_cons_succ]))
        (refine wpAnyH_take (i := 11) (v := ?_) rfl (by kernel_rfl) (by kernel_rfl) (by kernel_rfl) (fun _ _ _ h => h) (Or.inl ⟨by rfl, ?_⟩) (by assumption) ?_; rotate_left; (focus (intro w hSw; clear hSw; go_simp; (try with_reducible rfl))); (try simp only [Act.put, List.getElem_toArray, List.getElem_cons_zero, List.getElem_cons_succ, List.setIfInBounds_toArray, List.set_cons_zero, List.set_cons_succ]))
        (refine wpAnyH_take (i := 12) (v := ?_) rfl (by kernel_rfl) (by kernel_rfl) (by kernel_rfl) (fun _ _ _ h => h) (Or.inl ⟨by rfl, ?_⟩) (by assumption) ?_; rotate_left; (focus (intro w hSw; clear hSw; go_simp; (try with_reducible rfl))); (try simp only [Act.put, List.getElem_toArray, List.getElem_cons_zero, List.getElem_cons_succ, List.setIfInBounds_toArray, List.set_cons_zero, List.set_cons_succ]))
        refine wpAnyH_ready (rs := [9, 13]) (by kernel_rfl) (by simp) ?_
        refine AllReadyH.cons rfl (fun K hK => ?_) (AllReadyH.cons rfl (fun K hK => ?_) AllReadyH.nil)
        · -- load, build, convert
          go_simp
          refine hK.out _ _ trivial (fun hHeld => ?_)
          clear hK K
          (refine wpAnyH_ready (rs := [13]) (by kernel_rfl) (by simp) ?_; refine AllReadyH.cons rfl (fun K hK => ?_) AllReadyH.nil)
          refine step_buildSlice (some 35) rfl rfl 67 5 1 #[(0, .tmp 34)] rfl Tryz.byE (by decide) (by decide) #[.int .u8 (x.toNat : Int)] (by kernel_rfl) ?_
          rw [← hw8.out, ← hrb.out]
          refine hK.out _ _ trivial (fun hHeld => ?_)
          clear hK K
          (refine wpAnyH_ready (rs := [14]) (by kernel_rfl) (by simp) ?_; refine AllReadyH.cons rfl (fun K hK => ?_) AllReadyH.nil)
          refine step_cU_str Tryz.underlying67 Tryz.underlying5 Tryz.underlying9 rfl (.tmp 35) rfl rfl hrz.out ?_
          refine hK.out _ _ trivial (fun hHeld => ?_)
          clear hK K
          (refine wpAnyH_take (i := 15) (v := ?_) rfl (by kernel_rfl) (by kernel_rfl) (by kernel_rfl) (fun _ _ _ h => h) (Or.inl ⟨by rfl, ?_⟩) (by assumption) ?_; rotate_left; (focus (intro w hSw; clear hSw; go_simp; (try with_reducible rfl))); (try simp only [Act.put, List.getElem_toArray, List.getElem_cons_zero, List.getElem_cons_succ, List.setIfInBounds_toArray, List.set_cons_zero, List.set_cons_succ]))
          try rw [hcat]
          (refine wpAnyH_take (i := 16) (v := ?_) rfl (by kernel_rfl) (by kernel_rfl) (by kernel_rfl) (fun _ _ _ h => h) (Or.inl ⟨by rfl, ?_⟩) (by assumption) ?_; rotate_left; (focus (intro w hSw; clear hSw; go_simp; (try with_reducible rfl))); (try simp only [Act.put, List.getElem_toArray, List.getElem_cons_zero, List.getElem_cons_succ, List.setIfInBounds_toArray, List.set_cons_zero, List.set_cons_succ]))
          (refine wpAnyH_ready (rs := [17]) (by kernel_rfl) (by simp) ?_; refine AllReadyH.cons rfl (fun K hK => ?_) AllReadyH.nil)
          go_simp
          refine hK.out _ _ trivial (fun hHeld => ?_)
          clear hK K
          refine wpAnyH_done (by kernel_rfl) ?_ _
          go_wp2
          go_roundw
          case rel => exact ⟨i + 1, q, P.dropLast ++ [old ++ [x]], g, cap, by omega, by go_num, rfl, by omega, hlen2, Lib.hid hsn.out.symm, ho9, hb9⟩
          case measure => simp [RowKit.intOf]; omega
        · -- build first
          refine step_buildSlice (some 35) rfl rfl 67 5 1 #[(0, .tmp 34)] rfl Tryz.byE (by decide) (by decide) #[.int .u8 (x.toNat : Int)] (by kernel_rfl) ?_
          rw [← hw8.out, ← hrb.out]
          refine hK.out _ _ trivial (fun hHeld => ?_)
          clear hK K
          refine wpAnyH_ready (rs := [9, 14]) (by kernel_rfl) (by simp) ?_
          refine AllReadyH.cons rfl (fun K hK => ?_) (AllReadyH.cons rfl (fun K hK => ?_) AllReadyH.nil)
          · -- load, convert
            go_simp
            refine hK.out _ _ trivial (fun hHeld => ?_)
            clear hK K
            (refine wpAnyH_ready (rs := [14]) (by kernel_rfl) (by simp) ?_; refine AllReadyH.cons rfl (fun K hK => ?_) AllReadyH.nil)
            refine step_cU_str Tryz.underlying67 Tryz.underlying5 Tryz.underlying9 rfl (.tmp 35) rfl rfl hrz.out ?_
            refine hK.out _ _ trivial (fun hHeld => ?_)
            clear hK K
            (refine wpAnyH_take (i := 15) (v := ?_) rfl (by kernel_rfl) (by kernel_rfl) (by kernel_rfl) (fun _ _ _ h => h) (Or.inl ⟨by rfl, ?_⟩) (by assumption) ?_; rotate_left; (focus (intro w hSw; clear hSw; go_simp; (try with_reducible rfl))); (try simp only [Act.put, List.getElem_toArray, List.getElem_cons_zero, List.getElem_cons_succ, List.setIfInBounds_toArray, List.set_cons_zero, List.set_cons_succ]))
            try rw [hcat]
            (refine wpAnyH_take (i := 16) (v := ?_) rfl (by kernel_rfl) (by kernel_rfl) (by kernel_rfl) (fun _ _ _ h => h) (Or.inl ⟨by rfl, ?_⟩) (by assumption) ?_; rotate_left; (focus (intro w hSw; clear hSw; go_simp; (try with_reducible rfl))); (try simp only [Act.put, List.getElem_toArray, List.getElem_cons_zero, List.getElem_cons_succ, List.setIfInBounds_toArray, List.set_cons_zero, List.set_cons_succ]))
            (refine wpAnyH_ready (rs := [17]) (by kernel_rfl) (by simp) ?_; refine AllReadyH.cons rfl (fun K hK => ?_) AllReadyH.nil)
            go_simp
            refine hK.out _ _ trivial (fun hHeld => ?_)
            clear hK K
            refine wpAnyH_done (by kernel_rfl) ?_ _
            go_wp2
            go_roundw
            case rel => exact ⟨i + 1, q, P.dropLast ++ [old ++ [x]], g, cap, by omega, by go_num, rfl, by omega, hlen2, Lib.hid hsn.out.symm, ho9, hb9⟩
            case measure => simp [RowKit.intOf]; omega
          · -- convert, load
            refine step_cU_str Tryz.underlying67 Tryz.underlying5 Tryz.underlying9 rfl (.tmp 35) rfl rfl hrz.out ?_
            refine hK.out _ _ trivial (fun hHeld => ?_)
            clear hK K
            (refine wpAnyH_ready (rs := [9]) (by kernel_rfl) (by simp) ?_; refine AllReadyH.cons rfl (fun K hK => ?_) AllReadyH.nil)
            go_simp
            refine hK.out _ _ trivial (fun hHeld => ?_)
            clear hK K
            (refine wpAnyH_take (i := 15) (v := ?_) rfl (by kernel_rfl) (by kernel_rfl) (by kernel_rfl) (fun _ _ _ h => h) (Or.inl ⟨by rfl, ?_⟩) (by assumption) ?_; rotate_left; (focus (intro w hSw; clear hSw; go_simp; (try with_reducible rfl))); (try simp only [Act.put, List.getElem_toArray, List.getElem_cons_zero, List.getElem_cons_succ, List.setIfInBounds_toArray, List.set_cons_zero, List.set_cons_succ]))
            try rw [hcat]
            (refine wpAnyH_take (i := 16) (v := ?_) rfl (by kernel_rfl) (by kernel_rfl) (by kernel_rfl) (fun _ _ _ h => h) (Or.inl ⟨by rfl, ?_⟩) (by assumption) ?_; rotate_left; (focus (intro w hSw; clear hSw; go_simp; (try with_reducible rfl))); (try simp only [Act.put, List.getElem_toArray, List.getElem_cons_zero, List.getElem_cons_succ, List.setIfInBounds_toArray, List.set_cons_zero, List.set_cons_succ]))
            (refine wpAnyH_ready (rs := [17]) (by kernel_rfl) (by simp) ?_; refine AllReadyH.cons rfl (fun K hK => ?_) AllReadyH.nil)
            go_simp
            refine hK.out _ _ trivial (fun hHeld => ?_)
            clear hK K
            refine wpAnyH_done (by kernel_rfl) ?_ _
            go_wp2
            go_roundw
            case rel => exact ⟨i + 1, q, P.dropLast ++ [old ++ [x]], g, cap, by omega, by go_num, rfl, by omega, hlen2, Lib.hid hsn.out.symm, ho9, hb9⟩
            case measure => simp [RowKit.intOf]; omega
    · have hiI : ¬ (i : Int) < S.size := by rw [hrs]; omega
      have ht : s.take i = s := List.take_of_length_le (by have := hL.out; omega)
      have hPs : Hid (pcs c s = P) := Lib.hid (by rw [hPc.out, ht])
      go_wp2
      go_ret
      refine ⟨g, cap, ?_, ?_, hb.out⟩
      · rw [hPs.out, hP.out]; rfl
      · rw [hPs.out, hP.out, ← hB]; exact ho.out
end Go.Proofs.YtpkknhhohbobaaaGreatDoor
