/- text: the reference's PrintAll and ParseAll -/
import Derived.Test.YtpkknhhohbobaaaGreatDoorTxtRiQ
import Derived.Test.YtpkknhhohbobaaaGreatDoorG7
namespace Go.Proofs.YtpkknhhohbobaaaGreatDoor
set_option linter.unusedSimpArgs false
set_option linter.unusedVariables false
open Go.RowKit Go.Sort
set_option maxHeartbeats 6400000 in
set_option maxRecDepth 100000 in
theorem rprintall_any (l : List Er) (a : Option Addr) (n c : Nat) (w : World) (hr : Rd w 19 a n c (l.flatMap erC)) (hE : ∀ e ∈ l, EvR w e.x e.da e.dn e.dc e.na e.nn e.nc) (hn : n ≤ 1000) :
    Calls Tryz.prog 11 #[.slice a n c] w fun e w' => e = .returned (.tuple #[.string (prAllS (l.map (·.x))), .int .i64 (prAllE (l.map (·.x)))]) ∧ Below w.heap.size w w' := by
  have hl : Hid (l.length = n) := Lib.hid (by have := hr.length_eq; rw [flatMap_len erC_len] at this; omega)
  replace hr := Lib.hid hr
  replace hE := Lib.hid hE
  go_enter Tryz.func11, Tryz.ntmps11
  go_wp2
  go_loopw [4, 5, 6, 7] (fun tv iv _ _ wr => ∃ (i : Nat) (T : ByteArray), i ≤ n ∧ iv = .int .i64 i ∧ tv = .string T ∧ Hid (T = mkB (prAllW ((l.take i).map (·.x)))) ∧ Hid (∀ x ∈ (l.take i).map (·.x), evE x = 0) ∧ Hid (Below w.heap.size w wr)) (fun _ iv _ _ _ => n - (RowKit.intOf iv).toNat)
  case atStart => exact ⟨0, ⟨#[]⟩, Nat.zero_le _, rfl, rfl, Lib.hid rfl, Lib.hid (fun x h => by cases h), Lib.hid (Below.refl _ _)⟩
  case round =>
    obtain ⟨i, T, hi, rfl, rfl, hTT, hz, hb⟩ := hrel
    obtain ⟨w2, rfl⟩ : ∃ z, z = wr := ⟨_, rfl⟩
    by_cases hin : i < n
    · have hiI : (i : Int) < n := by omega
      have hkl : i < l.length := by rw [hl.out]; exact hin
      obtain ⟨g, off, rfl, hg⟩ := hr.out.addr (by omega)
      have hts := Lib.hid (show (l.take (i + 1)).map (·.x) = (l.take i).map (·.x) ++ [l[i].x] from by rw [List.take_succ_eq_append_getElem hkl, List.map_append]; rfl)
      have hdr := Lib.hid (show (l.map (·.x)).drop i = l[i].x :: (l.drop (i + 1)).map (·.x) from by rw [← List.map_drop, List.drop_eq_getElem_cons hkl]; rfl)
      have hEi := hE.out l[i] (List.getElem_mem hkl)
      have r1 : w2.rangeAt g (off + i * 19) (erC l[i]) := fun j v hj => erC_at (hr.out.below hb.out (Nat.le_refl _)) i hkl j (by have := (List.getElem?_eq_some_iff.1 hj).1; rw [erC_len] at this; exact this) v hj
      have hlen0 := prAllW_len (w := w) (l.take i) (fun e he => ⟨hE.out e (List.mem_of_mem_take he), hz.out _ (List.mem_map_of_mem (f := fun x : Er => x.x) he)⟩)
      have hln0 : (l.take i).length ≤ 1000 := by rw [List.length_take]; omega
      have hTs : T.size ≤ 300000000000 := by rw [hTT.out, mkB_size]; omega
      have HP : Hid (Calls Tryz.prog 27 #[.agg (erC l[i]).toArray] w2 fun e w' => e = .returned (.tuple #[.string (prS l[i].x), .int .i64 (evE l[i].x)]) ∧ Below w2.heap.size w2 w') := Lib.hid (by
        rw [show (erC l[i]).toArray = evC l[i].x l[i].da l[i].dn l[i].dc l[i].na l[i].nn l[i].nc from Array.toArray_toList]
        exact rprint_any (hEi.below hb.out))
      have hIL : (Tryz.prog.info? 34).map (·.size) = some (erC l[i]).length := Tryz.evI (x := l[i].x) (da := l[i].da) (dn := l[i].dn) (dc := l[i].dc) (na := l[i].na) (nn := l[i].nn) (nc := l[i].nc)
      have hsl := Lib.hid (fun (h0 : evE l[i].x = 0) => line_short hEi h0)
      generalize l[i] = y at *
      generalize erC y = L at *
      clear hlen0 hln0
      go_wp2_with (first
        | (refine wpList_load_mid rfl _ (.tmp 17) rfl g (off + i * 19) rfl L _ r1 Tryz.underlying34 rfl hIL ?_))
      refine HP.out.mono ?_
      rintro e w4 ⟨rfl, hb4⟩
      have hB4 := Lib.hid (belS hb.out hb4)
      clear HP hb4 hIL r1 hb
      by_cases h0 : evE y.x = 0
      · have hps : prS y.x = mkB (lineW y.x) := if_pos h0
        have h0b : (evE y.x != 0) = false := by simpa using h0
        have hsl2 := hsl.out h0
        have hsz : (prS y.x).size ≤ 300000000000 := by rw [hps, mkB_size]; omega
        have hs1 : ¬ 9223372036854775807 < T.size + (prS y.x).size := by omega
        have hs2 : ¬ 9223372036854775807 < (T ++ prS y.x).size + 1 := by rw [ByteArray.size_append]; omega
        have hs3 : ¬ 9223372036854775807 < T.size + (prS y.x).size + 1 := by omega
        have hT2 : Hid (T ++ prS y.x ++ (⟨#[10]⟩ : ByteArray) = mkB (prAllW ((l.take (i + 1)).map (·.x)))) := Lib.hid (by
          rw [hts.out, hTT.out, hps]
          unfold prAllW
          rw [List.flatMap_append, List.flatMap_singleton]
          apply ByteArray.ext
          simp [mkB, ByteArray.data_append])
        have hz2 : Hid (∀ x ∈ (l.take (i + 1)).map (·.x), evE x = 0) := Lib.hid (by
          rw [hts.out]
          intro x hx
          rcases List.mem_append.1 hx with h | h
          · exact hz.out x h
          · rw [List.mem_singleton.1 h]; exact h0)
        clear hps h0 hsl2
        generalize prS y.x = S at *
        clear hsl hdr
        go_wp2
        go_roundw
        case rel => exact ⟨i + 1, _, by omega, by go_num, rfl, hT2, hz2, hB4⟩
        case measure => simp [RowKit.intOf]; omega
      · have h0b : (evE y.x != 0) = true := by simpa using h0
        have hze : Hid (prAllE (l.map (·.x)) = evE y.x) := Lib.hid (by
          rw [prAllE_drop (l.map (·.x)) i (by rw [← List.map_take]; exact hz.out), hdr.out]
          show (if evE y.x = 0 then _ else _) = _
          rw [if_neg h0])
        have hzs : Hid (prAllS (l.map (·.x)) = ⟨#[]⟩) := Lib.hid (by unfold prAllS; rw [hze.out, if_neg h0])
        clear h0
        go_wp2
        refine bodyPost_ret (v := .tuple #[.string ⟨#[]⟩, .int .i64 (evE y.x)]) (by simp [results, Tryz.results11, go_sem]) rfl ?_
        exact ⟨by rw [hze.out, hzs.out], hB4.out⟩
    · have hiI : ¬ (i : Int) < n := by omega
      obtain rfl : i = n := by omega
      have ht : l.take i = l := List.take_of_length_le (by rw [hl.out]; exact Nat.le_refl _)
      rw [ht] at hz hTT
      have hze : Hid (prAllE (l.map (·.x)) = 0) := Lib.hid (by rw [prAllE_drop (l.map (·.x)) i (by rw [← List.map_take, ht]; exact hz.out), List.drop_of_length_le (by rw [List.length_map, hl.out]; exact Nat.le_refl _)]; rfl)
      have hzs : Hid (prAllS (l.map (·.x)) = mkB (prAllW (l.map (·.x)))) := Lib.hid (if_pos hze.out)
      go_wp2
      refine bodyPost_ret (v := .tuple #[.string T, .int .i64 0]) (by simp [results, Tryz.results11, go_sem]) rfl ?_
      exact ⟨by rw [hze.out, hzs.out, ← hTT.out], hb.out⟩
set_option maxHeartbeats 6400000 in
set_option maxRecDepth 100000 in
theorem rparseall_any (s : W8) (hs : s.length < 4294967200) (w : World) :
    Calls Tryz.prog 13 #[.string (mkB s)] w fun e w' => PAll s w.heap.size e w' ∧ Below w.heap.size w w' := by
  have HP0 := Lib.hid (rpieces_any s 10 (by omega) w)
  go_enter Tryz.func13, Tryz.ntmps13
  go_wp2_with fail
  refine HP0.out.mono ?_
  rintro e wA ⟨g, cap, rfl, hoL, hbA⟩
  clear HP0
  obtain ⟨ga, gc, hge, hrL⟩ := Rd.own hoL
  injection hge with e1 e2 e3
  subst e1 e3
  have hpl := Lib.hid (fun (u : W8) (hu : u ∈ pcs 10 s) => Nat.lt_of_le_of_lt (pcs_small 10 s u hu) hs)
  have hple := pcs_le 10 s
  obtain ⟨M, hM⟩ : ∃ M, (pcs 10 s).length = M + 1 := ⟨(pcs 10 s).length - 1, by have := List.length_pos_iff.2 (pcs_ne 10 s); omega⟩
  obtain ⟨ws, hws⟩ : ∃ z, z = pcs 10 s := ⟨_, rfl⟩
  rw [← hws] at hrL hple hM hpl ⊢
  obtain ⟨N, hN⟩ : ∃ z, z = ws.length := ⟨_, rfl⟩
  rw [← hN] at hrL hple hM ⊢
  have hMw : IntKind.i64.wrap ((N : Int) - 1) = (M : Int) := by rw [IntKind.wrap_i64]; omega
  have hN32 : N ≤ 4294967296 := by omega
  replace hws := Lib.hid hws
  replace hN := Lib.hid hN
  replace hM := Lib.hid hM
  replace hrL := Lib.hid hrL
  have hbA' := Lib.hid hbA
  have hle0 := Lib.hid hbA.size
  clear hoL hple hbA hs
  go_wp2
  go_loopw [6, 7, 8, 9] (fun lv iv _ _ wr => ∃ (i : Nat) (l : List Er), i < N ∧ iv = .int .i64 i ∧ Hid (l.length = i) ∧ Hid (allT ws 1 = conA (l.map (·.x)) (allT (ws.drop i) (i + 1))) ∧ Hid (wr.ownsRow wA.heap.size 34 19 lv l.length (l.flatMap erC)) ∧ Hid (∀ x ∈ l, ErF wr w.heap.size lv x) ∧ Hid (Below wA.heap.size wA wr)) (fun _ iv _ _ _ => N - (RowKit.intOf iv).toNat)
  case atStart => exact ⟨0, [], by have := hM.out; omega, rfl, Lib.hid rfl, Lib.hid (conA_nil _).symm, Lib.hid (World.ownsRow_nil _ _ _ _), Lib.hid (fun x h => by cases h), Lib.hid (Below.refl _ _)⟩
  case round =>
    obtain ⟨i, l, hi, rfl, hli, hal, ho, hF, hb⟩ := hrel
    obtain ⟨w1, rfl⟩ : ∃ z, z = wr := ⟨_, rfl⟩
    have hiI : (i : Int) < N := by omega
    have hiL : i < ws.length := by have := hN.out; omega
    have hbw := Lib.hid (belS hbA'.out hb.out)
    have c1 : w1.cell? ⟨g, i, none⟩ = some (.string (mkB ws[i])) := by
      have := (hrL.out.below hb.out (Nat.le_refl _)).at (j := i) (u := sv ws[i]) (by rw [List.getElem?_map, List.getElem?_eq_getElem hiL]; rfl)
      simpa [sv] using this
    have hpi := Lib.hid (hpl.out ws[i] (List.getElem_mem hiL))
    rw [List.drop_eq_getElem_cons hiL] at hal
    have hnI : IntKind.i64.wrap ((i : Int) + 1) = (i : Int) + 1 := by rw [IntKind.wrap_i64]; omega
    by_cases hiM : i = M
    · have hq : ((i : Int) == (M : Int)) = true := by rw [hiM]; simp
      have hd : ws.drop (i + 1) = [] := List.drop_of_length_le (by have := hN.out; have := hM.out; omega)
      rw [hd] at hal
      obtain ⟨p, hp⟩ : ∃ z, z = ws[i] := ⟨_, rfl⟩
      rw [← hp] at c1 hal
      by_cases hp0 : p = []
      · have hqq : (mkB p).toList.isEmpty = true := by rw [hp0, mkB_toList]; rfl
        obtain ⟨a, c, rfl, hrd⟩ := Rd.own ho.out
        have hz : Hid (allT (pcs 10 s) 1 = (some (l.map (·.x)), 0)) := Lib.hid (by rw [← hws.out, hal.out, hp0]; simp [allT, conA])
        have hlt := Lib.hid ho.out.lt
        replace hrd := Lib.hid hrd
        replace hiM := Lib.hid hiM
        replace hp0 := Lib.hid hp0
        replace hp := Lib.hid hp
        clear hal hd
        go_wp2
        refine bodyPost_ret (v := .tuple #[.slice a l.length c, .int .i64 0, .int .i64 0]) (by simp [results, Tryz.results13, go_sem]) rfl ?_
        refine ⟨?_, hbw.out⟩
        unfold PAll
        rw [hz.out]
        exact ⟨a, c, l, rfl, rfl, hrd.out, hF.out, fun h0 g off e => by subst e; exact Nat.le_trans hle0.out (hlt.out g rfl).1⟩
      · have hqq : (mkB p).toList.isEmpty = false := by
          rw [mkB_toList]
          cases p with
          | nil => exact absurd rfl hp0
          | cons x l => rfl
        have hz : Hid (allT (pcs 10 s) 1 = (none, i + 1)) := Lib.hid (by rw [← hws.out, hal.out]; simp [allT, hp0, conA])
        replace hiM := Lib.hid hiM
        replace hp0 := Lib.hid hp0
        replace hp := Lib.hid hp
        clear hal hd ho hF
        go_wp2
        refine bodyPost_ret (v := .tuple #[.slice none 0 0, .int .i64 ((i : Int) + 1), .int .i64 4]) (by simp [results, Tryz.results13, go_sem]) rfl ?_
        exact ⟨PAll.no hz.out (by simp), hbw.out⟩
    · have hq : ((i : Int) == (M : Int)) = false := by simp; omega
      have hi2 : Hid (i + 1 < N) := Lib.hid (by have := hM.out; omega)
      have hne : ws.drop (i + 1) ≠ [] := by
        intro h
        have := congrArg List.length h
        rw [List.length_drop] at this
        have := hi2.out
        have := hN.out
        simp at *
        omega
      rw [allT_cons _ hne] at hal
      obtain ⟨p, hp⟩ : ∃ z, z = ws[i] := ⟨_, rfl⟩
      rw [← hp] at c1 hal hpi
      have HP := Lib.hid (rparse_any p hpi.out w1)
      replace hiM := Lib.hid hiM
      replace hp := Lib.hid hp
      clear hne
      go_upto_region 9 with (fail)
      go_wp2_with fail
      refine HP.out.mono ?_
      rintro e w3 ⟨⟨da, dc, na, nc, rfl, hf⟩, hb3⟩
      obtain ⟨cs, hcs⟩ : ∃ z, z = (evC (parX p) da (parX p).m.deps.length dc na (parX p).names.length nc) := ⟨_, rfl⟩
      have hIE : (Tryz.prog.info? 34).map (·.size) = some cs.size := by rw [hcs]; exact Tryz.evI
      have h1c : cs.all (·.oneCell') = true := by rw [hcs]; exact evC_one _ _ _ _ _ _ _
      have h19 : 0 + cs.size ≤ 19 := by rw [hcs, evC_size]; decide
      have hset : setArr #[.int .i64 0, .int .i64 0, .int .u64 0, .int .i64 0, .int .u64 0, .int .i64 0, .int .u64 0, .int .i64 0, .int .u32 0, .int .u64 0, .int .i64 0, .slice none 0 0, .string ⟨#[]⟩, .int .u64 0, .int .u64 0, .int .i64 0, .int .u64 0, .slice none 0 0, .string ⟨#[]⟩] 0 cs.toList = cs := by rw [hcs]; exact evC_set _ _ _ _ _ _ _
      have hcl : cs.toList.length = 19 := by rw [hcs]; rfl
      rw [← hcs]
      replace hcs := Lib.hid hcs
      have hN3 := BlkAt.new w3 34 #[.int .i64 0, .int .i64 0, .int .u64 0, .int .i64 0, .int .u64 0, .int .i64 0, .int .u64 0, .int .i64 0, .int .u32 0, .int .u64 0, .int .i64 0, .slice none 0 0, .string ⟨#[]⟩, .int .u64 0, .int .u64 0, .int .i64 0, .int .u64 0, .slice none 0 0, .string ⟨#[]⟩]
      have hb3a := alloc_below w3 (.cells #[.int .i64 0, .int .i64 0, .int .u64 0, .int .i64 0, .int .u64 0, .int .i64 0, .int .u64 0, .int .i64 0, .int .u32 0, .int .u64 0, .int .i64 0, .slice none 0 0, .string ⟨#[]⟩, .int .u64 0, .int .u64 0, .int .i64 0, .int .u64 0, .slice none 0 0, .string ⟨#[]⟩] 34)
      replace hb3 := Lib.hid hb3
      replace hf := Lib.hid hf
      clear HP c1
      by_cases h0 : parE p = 0
      · obtain ⟨y, hy⟩ := parE_eq h0
        have hxy : Hid (parX p = y) := Lib.hid (by unfold parX; rw [hy]; rfl)
        rw [hy] at hal
        replace hal := Lib.hid hal.out
        replace hy := Lib.hid hy
        rw [h0]
        clear h0
        go_upto_region 10 with (first
          | (refine wpList_blk_put (cs := cs) rfl (.tmp 8) (.tmp 36) rfl rfl rfl hN3 hIE h19 h1c ?_; intro w4 hX4 hK4 hs4; rw [hset] at hX4; have hb4 := Lib.hid (Kp.below hb3a hK4 (Nat.le_refl _) hb3a.size)))
        have hb14 := Lib.hid (belS hb3.out hb4.out)
        have ho4 := own_belowB ho.out hb14.out
        have hb5 := alloc_below w4 (.cells cs 34)
        have ho5 := own_belowB ho4 hb5
        have hr5 : Rd (w4.alloc (.cells cs 34)) 19 (some ⟨w4.heap.size, 0, none⟩) 1 1 cs.toList := rd_newn rfl hcl
        have hlen : l.length ≤ 4294967296 := by have := hli.out; omega
        have h1l : ∀ u ∈ cs.toList, u.oneCell' = true := by
          have := h1c
          rw [← Array.all_toList] at this
          exact fun u hu => List.all_eq_true.1 this u hu
        have hF5 := Lib.hid (fun (x : Er) (hx : x ∈ l) => ((hF.out x hx).below hb14.out).below hb5)
        have hN5 : Hid (ErF (w4.alloc (.cells cs 34)) w.heap.size u6 ⟨parX p, da, (parX p).m.deps.length, dc, na, (parX p).names.length, nc⟩) := Lib.hid
          ⟨((hf.out.below hb4.out).below hb5).mono (by have := hbw.out.size; omega), rfl, rfl,
            fun h0 g off e h9 => by have := (ho.out.lt g h9).2; have := hf.out.db h0 g off e; omega,
            fun h0 g off e h9 => by have := (ho.out.lt g h9).2; have := hf.out.nb h0 g off e; omega⟩
        have hbz : Hid (Below wA.heap.size wA (w4.alloc (.cells cs 34))) := Lib.hid (belS (belS hb.out hb14.out) hb5)
        have hle : wA.heap.size ≤ (w4.alloc (.cells cs 34)).heap.size := hbz.out.size
        have hlo := Lib.hid (fun k hk => (ho5.lt k hk).1)
        clear ho4 hb5 hb14 hb3a hN3 hK4 hs4
        go_wp2_with (first
          | (refine wpList_blk_load rfl (.tmp 8) rfl Tryz.underlying34 rfl rfl hX4 hIE ?_)
          | (refine wpList_buildSlice1 rfl 42 34 (.tmp 43) rfl Tryz.eveE (by decide) rfl hcl ?_)
          | (refine wpList_append_apart Tryz.eveE rfl (.tmp 42) (.tmp 44) rfl ho5 rfl hr5 (by decide) rfl h1l (by unfold maxLen; omega) (by omega) hle ?_; intro v' w6 ho6 hg6 hv6))
        obtain ⟨ne, hne⟩ : ∃ z : Er, z = ⟨parX p, da, (parX p).m.deps.length, dc, na, (parX p).names.length, nc⟩ := ⟨_, rfl⟩
        have hne2 : erC ne = cs.toList := by rw [hne, hcs.out]; rfl
        rw [← hne] at hN5
        have hnx : ne.x = y := by rw [hne]; exact hxy.out
        rw [← hne2] at ho6
        have hb7 := Lib.hid (hbz.out.grown hg6 hle hlo.out)
        have hF6 := Lib.hid (fun (x : Er) (hx : x ∈ l ++ [ne]) => by
          rcases List.mem_append.1 hx with hx | hx
          · exact (hF5.out x hx).grown hg6 hv6
          · obtain rfl := List.mem_singleton.1 hx
            exact hN5.out.grown hg6 hv6)
        replace ho6 := Lib.hid ho6
        replace hnx := Lib.hid hnx
        clear ho5 hr5 hle h1l hIE h1c h19 hset hcl hg6 hv6 hne hne2 hX4 hN5
        go_roundw
        case rel => exact ⟨i + 1, l ++ [ne], hi2.out, by go_num, Lib.hid (by rw [List.length_append, hli.out]; rfl), Lib.hid (by
          rw [hal.out]
          show conA _ (conA [y] _) = _
          rw [conA_conA, List.map_append, List.map_singleton, hnx.out]
          try rfl), Lib.hid (by rw [List.length_append, List.flatMap_append, List.flatMap_singleton]; exact ho6.out), hF6, hb7⟩
        case measure => simp [RowKit.intOf]; omega
      · obtain ⟨hp0, hp4⟩ := parE_ne h0
        have hz : Hid (allT (pcs 10 s) 1 = (none, i + 1)) := Lib.hid (by rw [← hws.out, hal.out, hp0]; try rfl)
        clear hal h0
        rw [hp4]
        go_wp2_with (first
          | (refine wpList_blk_put (cs := cs) rfl (.tmp 8) (.tmp 36) rfl rfl rfl hN3 hIE h19 h1c ?_; intro w4 hX4 hK4 hs4; rw [hset] at hX4; have hb4 := Lib.hid (Kp.below hb3a hK4 (Nat.le_refl _) hb3a.size)))
        refine bodyPost_ret (v := .tuple #[.slice none 0 0, .int .i64 ((i : Int) + 1), .int .i64 4]) (by simp [results, Tryz.results13, go_sem]) rfl ?_
        exact ⟨PAll.no hz.out (by simp), belS hbw.out (belS hb3.out hb4.out)⟩
end Go.Proofs.YtpkknhhohbobaaaGreatDoor
