/- text: TextLines -/
import Derived.Test.YtpkknhhohbobaaaDoorTxtZj
namespace Go.Proofs.YtpkknhhohbobaaaDoor
set_option linter.unusedSimpArgs false
set_option linter.unusedVariables false
open Go.RowKit Go.Sort
/-- 'append(v, x...)', x from anywhere: where the row lies then. -/
theorem wpList_append_gen {P : Program} {w : World} {ops : Array Oper} {rest : List Oper} {o : Oper} {a : Act} {Q : Exit → Act → World → Prop} {t e : TypeId} {z : Value} {size bytes : Nat} (E : Elt P t e z size bytes) (hgd : o.guard = none) (s x : Operand)
    (ho : o.op = .call { callee := .builtin .append, args := #[s, x], argTypes := #[t, t] })
    {base : Nat} {v : Value} {n : Nat} {xs : List Value} (hown : w.ownsRow base e size v n xs) (hs : a.eval s = v)
    {xa : Option Addr} {m c : Nat} {news : List Value} (hr : Rd w size xa m c news) (hx : a.eval x = .slice xa m c) (h1 : ∀ u ∈ news, u.oneCell' = true)
    (h63 : n + m ≤ maxLen) (hbytes : (n + m) * bytes ≤ 140737488355328) (hbase : base ≤ w.heap.size)
    (h : ∀ v' w', w'.ownsRow base e size v' (n + m) (xs ++ news) → w.grownBy w' v.ownBlock → (v'.ownBlock = v.ownBlock ∨ ∀ k, v'.ownBlock = some k → w.heap.size ≤ k) → wpList P ops Q rest (a.put o.dst v') w') : wpList P ops Q (o :: rest) a w := by
  by_cases hm : m = 0
  · subst hm
    have hn : news = [] := List.eq_nil_of_length_eq_zero (by simpa using hr.length_eq)
    subst hn
    obtain ⟨i, hi, hz0, hz1, hz2⟩ := info_parts E.info
    cases xa with
    | none =>
      obtain ⟨_, rfl⟩ := hr.1.2.2.2 rfl
      refine wpList_append_own_none hgd s x t ho base e i size E.ty hi v n xs hs hown hx ?_
      exact h v w (by simpa using hown) ⟨rfl, rfl, rfl, Nat.le_refl _, fun _ _ _ => rfl⟩ (.inl rfl)
    | some ad =>
      have hown' := hown
      obtain ⟨hl, h2⟩ := hown
      rcases h2 with ⟨rfl, rfl⟩ | ⟨g, cap, cur, rfl, hb, hg, hle, hmx, hsz, htk⟩
      · refine wpList_append_own w hgd s x t ho base e i z size bytes E.ty hi hz0 hz1 hz2 E.cells E.pos _ _ xs hs hown' ad 0 c [] hx (by simp) (fun j u hu => by simp at hu) h1 h63 hbytes hbase ?_
        intro v' w' r1 r2 r3
        have := r3.2 ⟨rfl, rfl⟩
        subst this
        exact h _ _ r1 r2 (.inl rfl)
      · refine wpList_plain hgd fun K hK' => ?_
        obtain ⟨v', w', hr', h2, h3, _⟩ := run_append_own (P := P) w base t o.type e i z size bytes E.ty hi hz0 hz1 hz2 E.cells E.pos _ n xs hown' ad 0 c [] (by simp) (fun j u hu => by simp at hu) h1 h63 hbytes hbase
        have hr2 := run_append_room_cells (P := P) w t o.type e i E.ty hi g 0 n cap ad 0 c [] (by simp) (fun j u hu => by simp at hu) h1 (by omega) (fun j hj => by
            rw [hz1, cell_of_row w g _ _ _ _ hg, Array.getElem?_eq_getElem]
            · rfl
            · rw [hsz]
              have : (n + 0) * size ≤ cap * size := Nat.mul_le_mul_right _ (by omega)
              simp at hj) (fun j _ => frozen_of_row w g _ _ _ hg)
        rw [hr'] at hr2
        injection hr2 with e1 e2
        unfold Oper.wp
        simp [execOp, ho, resolve, invoke, builtin, hs, hx, hr', Result.andThen]
        exact hK' _ _ (h v' w' h2 h3 (.inl (by rw [e1]; rfl)))
  · obtain ⟨b, off, rfl, _⟩ := Rd.addr hr (by omega)
    exact wpList_append_apart E hgd s x ho hown hs hr (by omega) hx h1 h63 hbytes hbase h
theorem erC_one (e : Er) : ∀ u ∈ erC e, u.oneCell' = true := by
  have := evC_one e.x e.da e.na e.dn e.dc e.nn e.nc
  rw [← Array.all_toList] at this
  exact fun u hu => List.all_eq_true.1 this u hu
theorem erC_ones (l : List Er) : ∀ u ∈ l.flatMap erC, u.oneCell' = true := fun u hu => by
  obtain ⟨e, _, he⟩ := List.mem_flatMap.1 hu
  exact erC_one e u he
theorem own_empty (w : World) (e : TypeId) (sz : Nat) : World.ownsRow (w.alloc (.cells #[] e)) w.heap.size e sz (.slice (some ⟨w.heap.size, 0, none⟩) 0 0) 0 [] :=
  ⟨by simp, .inr ⟨w.heap.size, 0, #[], rfl, Nat.le_refl _, BlkAt.new w e #[], Nat.le_refl 0, Nat.zero_le _, by simp, by simp⟩⟩
theorem yieldsIf_rng {P : Program} {ops : Array Oper} {S : World → Prop} {op : Oper} {a : Act} (hw : Region.wanted op (yielded ops a.tmps) = true) (ty : TypeId) (x : Operand) (ho : op.op = .load ty x)
    (b o : Nat) (hx : a.eval x = .pointer (some ⟨b, o, none⟩)) (cs : Array Value) (d : TypeDesc) (hS : ∀ w, S w → w.rangeAt b o cs.toList)
    (hu : P.underlying ty = some d) (hd : d.isRow = true) (hi : (P.info? ty).map (·.size) = some cs.size) : YieldsIf P ops S op (.agg cs) a := by
  have := yieldsIf_load_mid (S := S) hw ty x ho b o hx cs.toList d hS hu hd (by simpa using hi)
  simpa using this
theorem rng_below {w w' : World} {b o : Nat} {cs : List Value} (h : w.rangeAt b o cs) (hb : b < w.heap.size) (k : Below w.heap.size w w') : w'.rangeAt b o cs := fun j v hj => by
  rw [World.cell?_of_block (w := w) (k.block b hb)]
  exact h j v hj
theorem rd_rng {w : World} {g off n c : Nat} {l : List Er} (h : Rd w 19 (some ⟨g, off, none⟩) n c (l.flatMap erC)) (i : Nat) (hi : i < l.length) : w.rangeAt g (off + i * 19) (erC l[i]) :=
  fun j v hj => erC_at h i hi j (by have := (List.getElem?_eq_some_iff.1 hj).1; rw [erC_len] at this; exact this) v hj
set_option maxHeartbeats 6400000 in
set_option maxRecDepth 100000 in
theorem lines_law (l m : List Er) (a : Option Addr) (n c : Nat) (a' : Option Addr) (n' c' : Nat) (w : World) (hr : Rd w 19 a n c (l.flatMap erC)) (hr' : Rd w 19 a' n' c' (m.flatMap erC)) (hE : ∀ e ∈ l, EvR w e.x e.da e.dn e.dc e.na e.nn e.nc) (hE' : ∀ e ∈ m, EvR w e.x e.da e.dn e.dc e.na e.nn e.nc) (hT : TL w) :
    Calls Tryd.prog 5 #[.slice a n c, .slice a' n' c'] w fun e w' => e = .returned (.bool true) ∧ Below w.heap.size w w' := by
  have hl : Hid (l.length = n) := Lib.hid (by have := hr.length_eq; rw [flatMap_len erC_len] at this; omega)
  have hl' : Hid (m.length = n') := Lib.hid (by have := hr'.length_eq; rw [flatMap_len erC_len] at this; omega)
  have HA := Lib.hid (awake_any w hT)
  have HF := Lib.hid (fun (W : World) (hb : Below w.heap.size w W) => few2_any a n c l W (hr.below hb (Nat.le_refl _)))
  have HF' := Lib.hid (fun (W : World) (hb : Below w.heap.size w W) => few2_any a' n' c' m W (hr'.below hb (Nat.le_refl _)))
  have HP := Lib.hid (fun (W : World) (hb : Below w.heap.size w W) (h : n ≤ 1000) => printall_any l a n c W (hr.below hb (Nat.le_refl _)) (fun e he => (hE e he).below hb) h (hT.on hb))
  have HP' := Lib.hid (fun (W : World) (hb : Below w.heap.size w W) (h : n' ≤ 1000) => printall_any m a' n' c' W (hr'.below hb (Nat.le_refl _)) (fun e he => (hE' e he).below hb) h (hT.on hb))
  replace hr := Lib.hid hr
  replace hr' := Lib.hid hr'
  replace hE := Lib.hid hE
  replace hE' := Lib.hid hE'
  replace hT := Lib.hid hT
  go_enter Tryd.func5, Tryd.ntmps5
  go_wp2_with fail
  refine HA.out.mono ?_
  rintro e w1 ⟨rfl, hb1⟩
  have HF1 := Lib.hid (HF.out _ hb1)
  replace hb1 := Lib.hid hb1
  clear HA HF
  go_wp2_with fail
  refine HF1.out.mono ?_
  rintro e w2 ⟨⟨rfl, hf1⟩ | rfl, hb2⟩
  · have hB2 := Lib.hid (belS hb1.out hb2)
    have HF2 := Lib.hid (HF'.out _ hB2.out)
    replace hf1 := Lib.hid hf1
    clear HF1 hb2 hb1 HF'
    go_wp2_with fail
    refine HF2.out.mono ?_
    rintro e w3 ⟨⟨rfl, hf2⟩ | rfl, hb3⟩
    · have hB3 := Lib.hid (belS hB2.out hb3)
      replace hf2 := Lib.hid hf2
      clear HF2 hb3 hB2
      by_cases h1 : 60 < n
      · have h1I : (60 : Int) < n := by omega
        clear HP HP' h1
        go_wp2
        go_ret
        exact ⟨rfl, hB3.out⟩
      · have h1I : ¬ (60 : Int) < n := by omega
        by_cases h2 : 60 < n'
        · have h2I : (60 : Int) < n' := by omega
          clear HP HP' h2 h1
          go_wp2
          go_ret
          exact ⟨rfl, hB3.out⟩
        · have h2I : ¬ (60 : Int) < n' := by omega
          have HP3 := Lib.hid (HP.out _ hB3.out (by omega))
          clear HP
          go_wp2_with fail
          refine HP3.out.mono ?_
          rintro e w4 ⟨rfl, hb4⟩
          have hB4 := Lib.hid (belS hB3.out hb4)
          have HP4 := Lib.hid (HP'.out _ hB4.out (by omega))
          clear HP3 HP' hb4 hB3
          go_wp2_with fail
          refine HP4.out.mono ?_
          rintro e w5 ⟨rfl, hb5⟩
          have hB5 := Lib.hid (belS hB4.out hb5)
          clear HP4 hb5 hB4
          have hn60 : n ≤ 60 := by omega
          have hn60' : n' ≤ 60 := by omega
          clear h1 h2 h1I h2I
          by_cases hz : prAllE (l.map (·.x)) = 0
          · by_cases hz' : prAllE (m.map (·.x)) = 0
            · have hzb : (prAllE (l.map (·.x)) != 0) = false := by simpa using hz
              have hzb' : (prAllE (m.map (·.x)) != 0) = false := by simpa using hz'
              have hS : prAllS (l.map (·.x)) = mkB (prAllW (l.map (·.x))) := if_pos hz
              have hS' : prAllS (m.map (·.x)) = mkB (prAllW (m.map (·.x))) := if_pos hz'
              replace hz := Lib.hid hz
              replace hz' := Lib.hid hz'
              replace hS := Lib.hid hS
              replace hS' := Lib.hid hS'
              go_upto_region 9 with (fail)
              have hb6 := alloc_below w5 (.cells #[] 33)
              have ho6 := own_empty w5 33 19
              have hle6 := hb6.size
              have hB6 := Lib.hid (belS hB5.out hb6)
              have hr6 := hr.out.below hB6.out (Nat.le_refl _)
              have hm1 : 0 + n ≤ maxLen := by unfold maxLen; omega
              have hm2 : (0 + n) * 200 ≤ 140737488355328 := by omega
              have hm3 : n + n' ≤ maxLen := by unfold maxLen; omega
              have hm4 : (n + n') * 200 ≤ 140737488355328 := by omega
              go_wp2_with (first
                | (refine wpList_append_gen Tryd.eveE rfl (.tmp 53) (.tmp 54) rfl ho6 rfl hr6 rfl (erC_ones l) hm1 hm2 hle6 ?_; intro v7 w7 ho7 hg7 hv7; rw [Nat.zero_add] at ho7; have hk7 := (Below.refl w5.heap.size _).grown hg7 hle6 (fun k hk => (ho6.lt k hk).1); have hB7 := Lib.hid (hB6.out.trans (hk7.mono hB5.out.size)); have hle7 := hk7.size; have hle7' := Nat.le_trans hle6 hle7; have hr7 := hr'.out.below hB7.out (Nat.le_refl _))
                | (refine wpList_append_gen Tryd.eveE rfl (.tmp 55) (.tmp 56) rfl ho7 rfl hr7 rfl (erC_ones m) hm3 hm4 hle7' ?_; intro v8 w8 ho8 hg8 hv8; have hk8 := (Below.refl w5.heap.size _).grown hg8 hle7' (fun k hk => (ho7.lt k hk).1); have hB8 := Lib.hid (hB7.out.trans (hk8.mono hB5.out.size))))
              obtain ⟨a8, c8, rfl, hrd8⟩ := Rd.own ho8
              rw [List.nil_append, ← List.flatMap_append] at hrd8
              have hEE : ∀ e ∈ l ++ m, EvR w e.x e.da e.dn e.dc e.na e.nn e.nc := fun e he => by
                rcases List.mem_append.1 he with h | h
                · exact hE.out e h
                · exact hE'.out e h
              have hz0 : ∀ x ∈ (l ++ m).map (·.x), evE x = 0 := fun x hx => by
                rw [List.map_append] at hx
                rcases List.mem_append.1 hx with h | h
                · exact prAllE_zero.1 hz.out x h
                · exact prAllE_zero.1 hz'.out x h
              have hze : prAllE ((l ++ m).map (·.x)) = 0 := prAllE_zero.2 hz0
              have hzs : prAllS ((l ++ m).map (·.x)) = mkB (prAllW ((l ++ m).map (·.x))) := if_pos hze
              have HP8 := Lib.hid (printall_any (l ++ m) a8 (n + n') c8 w8 hrd8 (fun e he => (hEE e he).below hB8.out) (by omega) (hT.out.on hB8.out))
              rw [hze, hzs] at HP8
              have hcat : mkB (prAllW ((l ++ m).map (·.x))) = prAllS (l.map (·.x)) ++ prAllS (m.map (·.x)) := by rw [hS.out, hS'.out, mkB_append, List.map_append, text_app]
              have hlen8 := text_len (w := w) (l ++ m) (fun e he => ⟨hEE e he, hz0 e.x (List.mem_map_of_mem he)⟩)
              have hlm : (l ++ m).length = n + n' := by rw [List.length_append, hl.out, hl'.out]
              rw [fewS_append, hlm] at hlen8
              have hf1' := hf1.out
              have hf2' := hf2.out
              have hUs : (prAllW ((l ++ m).map (·.x))).length ≤ 2200000000 := by omega
              have HQ := Lib.hid (fun (W : World) (hb : Below w.heap.size w W) => parseall_any (prAllW ((l ++ m).map (·.x))) (by omega) W (hT.out.on hb))
              have hst : ¬ 9223372036854775807 < (prAllS (l.map (·.x))).size + (prAllS (m.map (·.x))).size := by
                have h1 : (mkB (prAllW ((l ++ m).map (·.x)))).size = (prAllS (l.map (·.x))).size + (prAllS (m.map (·.x))).size := by rw [hcat, ByteArray.size_append]
                rw [mkB_size] at h1
                omega
              rw [hcat] at HP8 HQ
              have hap := text_parse ((l ++ m).map (·.x)) 1 (fun x hx => by
                obtain ⟨e, he, rfl⟩ := List.mem_map.1 hx
                exact ⟨(hEE e he).wf, hz0 e.x hx⟩)
              replace hap := Lib.hid hap
              replace hEE := Lib.hid hEE
              replace hlm := Lib.hid hlm
              generalize prAllS (l.map (·.x)) = S1 at *
              generalize prAllS (m.map (·.x)) = S2 at *
              generalize prAllE (l.map (·.x)) = E1 at *
              generalize prAllE (m.map (·.x)) = E2 at *
              clear hb6 ho6 hle6 hB6 hr6 hm1 hm2 hm3 hm4 ho7 hg7 hv7 hk7 hB7 hle7 hle7' hr7 ho8 hg8 hv8 hk8 hrd8 hz0 hze hzs hlen8 hUs hf1' hf2' hf1 hf2 hS hS' hcat hE hE' hB5
              refine HP8.out.mono ?_
              rintro e w9 ⟨rfl, hb9⟩
              have hB9 := Lib.hid (belS hB8.out hb9)
              have HQ9 := Lib.hid (HQ.out _ hB9.out)
              clear HP8 HQ hb9 hB8
              go_wp2_with fail
              refine HQ9.out.mono ?_
              rintro e w10 ⟨hp, hb10⟩
              unfold PAll at hp
              rw [hap.out] at hp
              obtain ⟨a9, c9, L9, rfl, hmx, hrd9, hF9, -⟩ := hp
              have hl9 : L9.length = n + n' := by rw [← hlm.out, ← List.length_map (f := fun x : Er => x.x), hmx, List.length_map, List.length_map]
              have hB10 := Lib.hid (belS hB9.out hb10)
              obtain ⟨N, hN⟩ : ∃ z, z = L9.length := ⟨_, rfl⟩
              rw [← hN] at hrd9 hF9 ⊢
              have hNI : (N : Int) = (n : Int) + n' := by omega
              have hNw : IntKind.i64.wrap ((n : Int) + n') = (n : Int) + n' := by rw [IntKind.wrap_i64]; omega
              replace hN := Lib.hid hN
              replace hl9 := Lib.hid hl9
              replace hmx := Lib.hid hmx
              replace hrd9 := Lib.hid hrd9
              replace hF9 := Lib.hid hF9
              clear HQ9 hb10 hB9 hap
              go_upto_region 13 with (fail)
              have hNb : N ≤ 120 := by omega
              have hNn := Lib.hid (show N = n + n' from by omega)
              clear hNI hNw hst hzb hzb' hz hz'
              replace hn60 := Lib.hid hn60
              replace hn60' := Lib.hid hn60'
              go_wp2
              go_loopw [14, 15] (fun iv _ wr => ∃ (i : Nat), i ≤ N ∧ iv = .int .i64 i ∧ Hid (Below w10.heap.size w10 wr)) (fun iv _ _ => N - (RowKit.intOf iv).toNat)
              case atStart => exact ⟨0, Nat.zero_le _, rfl, Lib.hid (Below.refl _ _)⟩
              case round =>
                obtain ⟨i, hi, rfl, hb⟩ := hrel
                obtain ⟨w11, rfl⟩ : ∃ z, z = wr := ⟨_, rfl⟩
                by_cases hin : i < N
                · have hiI : (i : Int) < N := by omega
                  have hiL : i < L9.length := by have := hN.out; omega
                  have hiM : i < (l ++ m).length := by have := hlm.out; have := hNn.out; omega
                  obtain ⟨g9, o9, rfl, hg9⟩ := hrd9.out.addr (by omega)
                  have r9 := rd_rng (hrd9.out.below hb.out (Nat.le_refl _)) i hiL
                  have hF := hF9.out L9[i] (List.getElem_mem hiL)
                  have hx9 : L9[i].x = cleanE (l ++ m)[i].x := by
                    have h1 : (L9.map (·.x))[i]? = some L9[i].x := by rw [List.getElem?_map, List.getElem?_eq_getElem hiL]; rfl
                    rw [hmx.out, List.getElem?_map, List.getElem?_map, List.getElem?_eq_getElem hiM] at h1
                    exact (Option.some.inj h1).symm
                  have hEy := hEE.out (l ++ m)[i] (List.getElem_mem hiM)
                  have hlow : ∀ (h : i < n), ∃ h' : i < l.length, (l ++ m)[i] = l[i] := fun h => ⟨by have := hl.out; omega, List.getElem_append_left _⟩
                  have hhigh : ∀ (j : Nat) (h : i = n + j), ∃ h' : j < m.length, (l ++ m)[i] = m[j] := fun j h => ⟨by have := hl'.out; have := hNn.out; omega, by
                    have hln := hl.out
                    rw [List.getElem_append_right (by omega)]
                    congr 1
                    omega⟩
                  generalize (l ++ m)[i] = y at *
                  generalize L9[i] = z at *
                  obtain ⟨cE, hcE⟩ : ∃ q, q = evC y.x y.da y.dn y.dc y.na y.nn y.nc := ⟨_, rfl⟩
                  have hEc : erC y = cE.toList := by rw [hcE]; rfl
                  have hIE : (Tryd.prog.info? 33).map (·.size) = some cE.size := by rw [hcE]; exact Tryd.evI
                  have hIL : (Tryd.prog.info? 33).map (·.size) = some cE.toList.length := by rw [hcE]; exact Tryd.evI
                  have h1c : cE.all (·.oneCell') = true := by rw [hcE]; exact evC_one _ _ _ _ _ _ _
                  have h19 : 0 + cE.size ≤ 19 := by rw [hcE, evC_size]; decide
                  have hset : setArr #[.int .i64 0, .int .i64 0, .int .u64 0, .int .i64 0, .int .u64 0, .int .i64 0, .int .u64 0, .int .i64 0, .int .u32 0, .int .u64 0, .int .i64 0, .slice none 0 0, .string ⟨#[]⟩, .int .u64 0, .int .u64 0, .int .i64 0, .int .u64 0, .slice none 0 0, .string ⟨#[]⟩] 0 cE.toList = cE := by rw [hcE]; exact evC_set _ _ _ _ _ _ _
                  have hca : cE.toList.toArray = cE := Array.toArray_toList
                  obtain ⟨c9z, hc9⟩ : ∃ q, q = evC z.x z.da z.dn z.dc z.na z.nn z.nc := ⟨_, rfl⟩
                  have hI9 : (Tryd.prog.info? 33).map (·.size) = some c9z.size := by rw [hc9]; exact Tryd.evI
                  rw [show erC z = c9z.toList from by rw [hc9]; rfl] at r9
                  replace hcE := Lib.hid hcE
                  replace hc9 := Lib.hid hc9
                  replace r9 := Lib.hid r9
                  replace hlow := Lib.hid hlow
                  replace hhigh := Lib.hid hhigh
                  replace hEy := Lib.hid hEy
                  replace hF := Lib.hid hF
                  replace hx9 := Lib.hid hx9
                  have hN11 := BlkAt.new w11 33 #[.int .i64 0, .int .i64 0, .int .u64 0, .int .i64 0, .int .u64 0, .int .i64 0, .int .u64 0, .int .i64 0, .int .u32 0, .int .u64 0, .int .i64 0, .slice none 0 0, .string ⟨#[]⟩, .int .u64 0, .int .u64 0, .int .i64 0, .int .u64 0, .slice none 0 0, .string ⟨#[]⟩]
                  have hbA := alloc_below w11 (.cells #[.int .i64 0, .int .i64 0, .int .u64 0, .int .i64 0, .int .u64 0, .int .i64 0, .int .u64 0, .int .i64 0, .int .u32 0, .int .u64 0, .int .i64 0, .slice none 0 0, .string ⟨#[]⟩, .int .u64 0, .int .u64 0, .int .i64 0, .int .u64 0, .slice none 0 0, .string ⟨#[]⟩] 33)
                  have hBw := Lib.hid (belS hB10.out hb.out)
                  have hg9' : g9 < w11.heap.size := Nat.lt_of_lt_of_le hg9 hb.out.size
                  go_upto_if 103 with (fail)
                  go_cut [] from 103 to 114 (fun wx => Hid (BlkAt wx w11.heap.size 33 cE) ∧ Hid (Below w11.heap.size w11 wx))
                  case first => as_aux_lemma =>
                    by_cases hlo : i < n
                    · have hloI : (i : Int) < n := by omega
                      obtain ⟨h1, h2⟩ := hlow.out hlo
                      obtain ⟨g, off, rfl, hg⟩ := hr.out.addr (by omega)
                      have r := rd_rng (hr.out.below (belS hBw.out hbA) (Nat.le_refl _)) i h1
                      rw [← h2, hEc] at r
                      clear h2 hlo
                      go_wp2_with (first
                        | (refine wpList_load_mid rfl _ (.tmp 106) rfl g (off + i * 19) rfl cE.toList _ r Tryd.underlying33 rfl hIL ?_)
                        | (refine wpList_blk_put (cs := cE) rfl (.tmp 15) (.tmp 107) rfl rfl (by first | rfl | (show Value.agg _ = Value.agg _; rw [hca]) | simp) hN11 hIE h19 h1c ?_; intro w12 hX hK hs; rw [hset] at hX))
                      go_meet
                      exact ⟨Lib.hid hX, Lib.hid (Kp.below hbA hK (Nat.le_refl _) hbA.size)⟩
                    · have hloI : ¬ (i : Int) < n := by omega
                      obtain ⟨j, hj⟩ : ∃ j, i = n + j := ⟨i - n, by omega⟩
                      obtain ⟨h1, h2⟩ := hhigh.out j hj
                      obtain ⟨g, off, rfl, hg⟩ := hr'.out.addr (by have := hl'.out; omega)
                      have r := rd_rng (hr'.out.below (belS hBw.out hbA) (Nat.le_refl _)) j h1
                      rw [← h2, hEc] at r
                      have hjn : (j : Int) < n' := by have := hl'.out; omega
                      have hsub : (i : Int) - n = j := by omega
                      replace hj := Lib.hid hj
                      have hwj : IntKind.i64.wrap (j : Int) = j := by have := hn60'.out; rw [IntKind.wrap_i64]; omega
                      clear h2 hlo
                      go_wp2_with (first
                        | (refine wpList_load_mid rfl _ (.tmp 113) rfl g (off + j * 19) rfl cE.toList _ r Tryd.underlying33 rfl hIL ?_)
                        | (refine wpList_blk_put (cs := cE) rfl (.tmp 15) (.tmp 114) rfl rfl (by first | rfl | (show Value.agg _ = Value.agg _; rw [hca]) | simp) hN11 hIE h19 h1c ?_; intro w12 hX hK hs; rw [hset] at hX))
                      go_meet
                      exact ⟨Lib.hid hX, Lib.hid (Kp.below hbA hK (Nat.le_refl _) hbA.size)⟩
                  case rest => as_aux_lemma =>
                    obtain ⟨hX12, hb12⟩ := hcut
                    obtain ⟨w12, rfl⟩ : ∃ q, q = wc := ⟨_, rfl⟩
                    have hBd : Hid (Below w12.heap.size w12 w12.drew) := Lib.hid (Below.refl _ _).drew
                    have r12 := rng_below r9.out hg9' hb12.out
                    have hB12 := Lib.hid (belS (belS hBw.out hb12.out) hBd.out)
                    have hb13 := Lib.hid (belS (belS hb.out hb12.out) hBd.out)
                    have hf12 := Lib.hid (hF.out.f.below hb13.out)
                    have HCl := Lib.hid (fun (W : World) (hb : Below w12.drew.heap.size w12.drew W) => rclean_any y.x y.da y.dn y.dc y.na y.nn y.nc W (hEy.out.dr.below (belS hB12.out hb) (Nat.le_refl _)) (hEy.out.nr.below (belS hB12.out hb) (Nat.le_refl _)))
                    rw [← hcE.out] at HCl
                    have hdn := hF.out.dn
                    have hnn := hF.out.nn
                    rw [hdn, hnn] at hc9
                    replace hdn := Lib.hid hdn
                    replace hnn := Lib.hid hnn
                    generalize w11.heap.size = yb at *
                    have hst : w12.drew.rangeAt g9 (o9 + i * 19) c9z.toList ∧ BlkAt w12.drew yb 33 cE := ⟨r12, hX12.out⟩
                    have hgl : g9 < w12.drew.heap.size := Nat.lt_of_lt_of_le hg9 hb13.out.size
                    clear hN11 hbA h1c h19 hset hca hIL hlow hhigh r12
                    go_upto_region 20 with (fail)
                    refine wp_region_held_drew (S := fun W => W.rangeAt g9 (o9 + i * 19) c9z.toList ∧ BlkAt W yb 33 cE) (by kernel_rfl) hst ?_
                    intro hHeld
                    (refine wpAnyH_take (i := 0) (v := ?_) rfl (by kernel_rfl) (by kernel_rfl) (by kernel_rfl) (fun _ _ _ h => h) (Or.inl ⟨by rfl, ?_⟩) (by assumption) ?_; rotate_left; (focus (intro w hSw; clear hSw; go_simp; (try with_reducible rfl))); (try simp only [Act.put, List.getElem_toArray, List.getElem_cons_zero, List.getElem_cons_succ, List.setIfInBounds_toArray, List.set_cons_zero, List.set_cons_succ]))
                    (refine wpAnyH_take (i := 1) (v := ?_) rfl (by kernel_rfl) (by kernel_rfl) (by kernel_rfl) (fun _ _ _ h => h) (Or.inl ⟨by rfl, ?_⟩) (by assumption) ?_; rotate_left; (focus (intro w hSw; clear hSw; go_simp; (try with_reducible rfl))); (try simp only [Act.put, List.getElem_toArray, List.getElem_cons_zero, List.getElem_cons_succ, List.setIfInBounds_toArray, List.set_cons_zero, List.set_cons_succ]))
                    (refine wpAnyH_take (i := 2) (v := ?_) rfl (by kernel_rfl) (by kernel_rfl) (by kernel_rfl) (fun _ _ _ h => h) (Or.inl ⟨by rfl, ?_⟩) (by assumption) ?_; rotate_left; (focus (intro w hSw; clear hSw; go_simp; (try with_reducible rfl))); (try simp only [Act.put, List.getElem_toArray, List.getElem_cons_zero, List.getElem_cons_succ, List.setIfInBounds_toArray, List.set_cons_zero, List.set_cons_succ]))
                    (refine wpAnyH_take (i := 3) (v := .agg (c9z)) rfl (by kernel_rfl) (by kernel_rfl) (by kernel_rfl) (fun _ _ _ h => h) (yieldsIf_rng (by rfl) 33 (.tmp 117) rfl g9 (o9 + i * 19) rfl c9z _ (fun W hW => hW.1) Tryd.underlying33 rfl hI9) (by assumption) ?_; (try simp only [Act.put, List.getElem_toArray, List.getElem_cons_zero, List.getElem_cons_succ, List.setIfInBounds_toArray, List.set_cons_zero, List.set_cons_succ]))
                    (refine wpAnyH_take (i := 4) (v := .agg (cE)) rfl (by kernel_rfl) (by kernel_rfl) (by kernel_rfl) (fun _ _ _ h => h) (yieldsIf_blk (by rfl) 33 (.tmp 15) rfl yb rfl cE _ (fun W hW => hW.2) Tryd.underlying33 rfl hIE) (by assumption) ?_; (try simp only [Act.put, List.getElem_toArray, List.getElem_cons_zero, List.getElem_cons_succ, List.setIfInBounds_toArray, List.set_cons_zero, List.set_cons_succ]))
                    (refine wpAnyH_ready (rs := [5]) (by kernel_rfl) (by simp) ?_; refine AllReadyH.cons rfl (fun K hK => ?_) AllReadyH.nil)
                    go_simp
                    refine (HCl.out _ (Below.refl _ _)).mono ?_
                    rintro e w13 ⟨ga, gn, gc, ha, hn, hc, rfl, q1, q2, hb14⟩
                    obtain rfl : gn = (cleanE y.x).m.deps.length := by have := q1.length_eq; unfold c32 at this; rw [List.length_map] at this; omega
                    obtain rfl : hn = (cleanE y.x).names.length := by have := q2.length_eq; rw [flatMap_len nmC_len] at this; omega
                    have hst13 : w13.rangeAt g9 (o9 + i * 19) c9z.toList ∧ BlkAt w13 yb 33 cE := ⟨rng_below hst.1 hgl hb14, hst.2.below hb14 hst.2.lt⟩
                    have hgl13 := Nat.lt_of_lt_of_le hgl hb14.size
                    have hf13 := hf12.out.below hb14
                    have HEv : Hid (Calls Tryd.prog 11 #[.agg c9z, .agg (evC (cleanE y.x) ga (cleanE y.x).m.deps.length gc ha (cleanE y.x).names.length hc)] w13 fun e w' => e = .returned (.bool true) ∧ Below w13.heap.size w13 w') := Lib.hid (by
                      rw [hc9.out]
                      rw [hx9.out] at hf13 ⊢
                      exact revents_same (cleanE y.x) _ _ _ _ _ _ _ _ _ _ _ hf13.dr hf13.nr q1 q2)
                    refine hK.out _ _ hst13 (fun hHeld => ?_)
                    have hb15 := Lib.hid (belS hb13.out hb14)
                    clear hK K q1 q2 hb14 hf13 hst HCl hf12 hgl
                    (refine wpAnyH_ready (rs := [6]) (by kernel_rfl) (by simp) ?_; refine AllReadyH.cons rfl (fun K hK => ?_) AllReadyH.nil)
                    go_simp
                    refine HEv.out.mono ?_
                    rintro e w14 ⟨rfl, hb16⟩
                    refine hK.out _ _ ⟨rng_below hst13.1 hgl13 hb16, hst13.2.below hb16 hst13.2.lt⟩ (fun hHeld => ?_)
                    have hb17 := Lib.hid (belS hb15.out hb16)
                    clear hK K hst13 hb16 HEv
                    (refine wpAnyH_take (i := 7) (v := ?_) rfl (by kernel_rfl) (by kernel_rfl) (by kernel_rfl) (fun _ _ _ h => h) (Or.inl ⟨by rfl, ?_⟩) (by assumption) ?_; rotate_left; (focus (intro w hSw; clear hSw; go_simp; (try with_reducible rfl))); (try simp only [Act.put, List.getElem_toArray, List.getElem_cons_zero, List.getElem_cons_succ, List.setIfInBounds_toArray, List.set_cons_zero, List.set_cons_succ]))
                    refine wpAnyH_done (by kernel_rfl) ?_ _
                    go_wp2
                    go_roundw
                    case rel => exact ⟨i + 1, by omega, by go_num, hb17⟩
                    case measure => simp [RowKit.intOf]; omega
                · have hiI : ¬ (i : Int) < N := by omega
                  go_wp2
                  go_ret
                  exact ⟨rfl, belS hB10.out hb.out⟩
            · have hzb : (prAllE (l.map (·.x)) != 0) = false := by simpa using hz
              have hzb' : (prAllE (m.map (·.x)) != 0) = true := by simpa using hz'
              clear hz hz'
              go_wp2
              go_ret
              exact ⟨rfl, hB5.out⟩
          · have hzb : (prAllE (l.map (·.x)) != 0) = true := by simpa using hz
            clear hz
            go_wp2
            go_ret
            exact ⟨rfl, hB5.out⟩
    · have hB3 := Lib.hid (belS hB2.out hb3)
      clear HF2 HP HP'
      go_wp2
      go_ret
      exact ⟨rfl, hB3.out⟩
  · have hB2 := Lib.hid (belS hb1.out hb2)
    clear HF1 HP HP' HF'
    go_wp2
    go_ret
    exact ⟨rfl, hB2.out⟩
theorem lines_claim (a : Option Addr) (n c : Nat) (a' : Option Addr) (n' c' : Nat) (w : World) (hT : TL w) (h : ∃ l : List Er, Rd w 19 a n c (l.flatMap erC) ∧ (∀ e ∈ l, EvR w e.x e.da e.dn e.dc e.na e.nn e.nc)) (h' : ∃ l : List Er, Rd w 19 a' n' c' (l.flatMap erC) ∧ (∀ e ∈ l, EvR w e.x e.da e.dn e.dc e.na e.nn e.nc)) :
    Calls Tryd.prog 5 #[.slice a n c, .slice a' n' c'] w fun e w' => e = .returned (.bool true) ∧ Below w.heap.size w w' := by
  obtain ⟨l, h1, h2⟩ := h
  obtain ⟨m, h3, h4⟩ := h'
  exact lines_law l m a n c a' n' c' w h1 h3 h2 h4 hT
end Go.Proofs.YtpkknhhohbobaaaDoor
