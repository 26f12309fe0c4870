/- gather: the walk of GatherOnce -/
import Derived.Test.YtlgabjffnjciaaaDoorGatW
namespace Go.Proofs.YtlgabjffnjciaaaDoor
set_option linter.unusedSimpArgs false
set_option linter.unusedVariables false
open Go.RowKit Go.Sort
set_option maxHeartbeats 25600000 in
set_option maxRecDepth 100000 in
theorem once_law (members : Nat) (hmem : members < 18446744073709551616) (a : Option Addr) (n c : Nat) (l : List Ac) (w : World) (hT : Tab w) (hr : RdA w a n c l) (hx : ∀ y ∈ l, ExOk w y.x) (hn : n * 80 ≤ 140737488355328) :
    Calls Tryd.prog 4 #[.int .u64 members, .slice a n c] w fun e w' => e = .returned (.bool true) ∧ Below w.heap.size w w' := by
  have HAw := Lib.hid (awake_any w hT)
  have HR := Lib.hid (fun W (hb : Below w.heap.size w W) => hr.below hb)
  have HF := Lib.hid (fun W (hb : Below w.heap.size w W) t ht => fewA_any a n c l hn t ht W (hr.below hb))
  have HT := Lib.hid (fun W (hb : Below w.heap.size w W) => hT.below hb hT.1)
  have hmx := hr.le_max
  have hl := Lib.hid hr.len
  have hsm := Lib.hid (fun y (hy : y ∈ l) => (hx y hy).2.1)
  have hin0 := Lib.hid hr.inn
  have HS := Lib.hid (fun W => size_any members hmem W)
  have HM := Lib.hid (fun p W => has_any members p hmem W)
  obtain ⟨cd, hcd⟩ : ∃ z, z = cardN members := ⟨_, rfl⟩
  rw [← hcd] at HS
  replace hcd := Lib.hid hcd
  clear hx hr hT
  cases hf : fewA l with
  | false =>
    go_enter Tryd.func4, Tryd.ntmps4
    go_wp2_with fail
    refine HAw.out.mono ?_
    rintro e wA ⟨rfl, hA⟩
    go_wp2_with fail
    refine (HF.out _ hA false hf.symm).mono ?_
    rintro e w2 ⟨rfl, hb2⟩
    go_wp2
    go_ret
    exact ⟨rfl, belS hA hb2⟩
  | true =>
  go_enter Tryd.func4, Tryd.ntmps4
  go_wp2_with fail
  refine HAw.out.mono ?_
  rintro e wA ⟨rfl, hA⟩
  go_wp2_with fail
  refine (HF.out _ hA true hf.symm).mono ?_
  rintro e w2 ⟨rfl, hb2⟩
  have B2 := Lib.hid (belS hA hb2)
  clear HAw HF hA hb2 hf
  go_wp2_with (first | (refine wpList_blk_build rfl #[(0, .const (.int .u64 1))] rfl (by rw [List.map_toArray]; exact Tryd.bldC1 _) ?_))
  refine (g_new 1 0 members hmem w2).mono ?_
  rintro e w3 ⟨b, mb, rfl, hG3, hbl, hml, hb3⟩
  have hP3 : Hid (OnceP w b mb members 0 (.int .i64 0) (.int .i64 0) (.slice none 0 0) (.int .u64 0) w3) := Lib.hid
    ⟨_, 0, 0, 0, none, 0, [], rfl, rfl, rfl, rfl, Nat.le_refl _, Lib.hid ⟨(by
      obtain ⟨s, h1, h2⟩ := hG3
      exact ⟨s, h1, h2, fun x hx g off e hn hf => by cases hf⟩), VInv.start 1 0 hmem, OnceI.start _, rfl, World.ownsRow_nil _ _ _ _, (fun x hx => by cases hx), (fun h => by cases h), (fun h => by cases h), Nat.le_trans B2.out.size hbl, Nat.le_trans B2.out.size hml, belS B2.out hb3⟩, Lib.hid rfl⟩
  clear hG3 hbl hml hb3 B2
  go_wp2
  go_loopw [6, 7, 8, 9, 10, 11, 12, 13] (fun tv dv fv rv iv _ _ _ wr => ∃ (i : Nat), i ≤ n ∧ iv = .int .i64 i ∧ Hid (OnceP w b mb members i tv dv fv rv wr)) (fun _ _ _ _ iv _ _ _ _ => n - (RowKit.intOf iv).toNat)
  case atStart => exact ⟨0, Nat.zero_le _, rfl, hP3⟩
  case round =>
    clear hP3
    obtain ⟨i, hi, rfl, hP⟩ := hrel
    obtain ⟨v, tN, dN, m, fa, fc, fs, rfl, rfl, rfl, rfl, hm, hE, hxs⟩ := hP.out
    clear hP
    obtain ⟨wo, rfl⟩ : ∃ z, z = wr := ⟨_, rfl⟩
    have hfl := Lib.hid hE.out.len
    have hvm := Lib.hid hE.out.mem
    have hV := Lib.hid hE.out.inv
    have hvl := Lib.hid (show v.xs.length = m from by rw [← hxs.out, vX_len]; exact hE.out.len)
    by_cases hin : i < n
    · have hiI : (i : Int) < n := by omega
      have hil : i < l.length := by rw [hl.out]; exact hin
      obtain ⟨g, off, rfl, hg, hrg, _, hinx⟩ := (HR.out _ hE.out.bel).at hil
      have hsy := hsm.out _ (List.getElem_mem hil)
      have hiy := Lib.hid (hin0.out _ (List.getElem_mem hil))
      generalize l[i] = y at *
      have hi8 := Tryd.acI y
      go_upto_region 13 with (first
        | (refine wpList_load_mid rfl _ (.tmp 34) rfl g (off + i * 8) rfl (acC y) _ hrg Tryd.underlying45 rfl hi8 ?_)
        | (refine wpList_blk_alloc rfl rfl Tryd.acZ wo.heap.size rfl ?_)
        | (refine wpList_blk_store (cs := acA y) rfl (.tmp 11) (.tmp 35) rfl rfl rfl (BlkAt.new wo _ _) hi8 rfl (acA_one y) ?_; intro w4 hX hK4 hsz4))
      have hb4 := alloc_store hK4
      have hE4 := Lib.hid (hE.out.below hb4)
      have hoB := Lib.hid (hE.out.bel.size)
      obtain ⟨hob, hom⟩ := hE.out.gat.gat.lt
      have hfo := Lib.hid hE.out.fresh
      have hd1 := hE.out.once.d1
      have ht1 := hE.out.once.t1
      clear hrg hinx hK4 hsz4 hb4 hE
      obtain ⟨x0, x1, x2, xr⟩ := blk8 hX
      obtain ⟨rd, hrd⟩ : ∃ z, z = y.rdy := ⟨_, rfl⟩
      rw [← hrd] at x0
      clear hrd
      go_upto_if 37 with (fail)
      go_cut [6, 7, 8, 9, 12, 13] from 38 to 91 (fun tv dv fv rv _ _ wx => OnceP w b mb members (i + 1) tv dv fv rv wx)
      case first => as_aux_lemma =>
        cases rd with
        | true =>
          obtain ⟨tt, htt⟩ : ∃ z, z = toldV v := ⟨_, rfl⟩
          obtain ⟨rb, hrb⟩ : ∃ z, z = (rdyC v y.p && doneV (rdyV v y.p)) := ⟨_, rfl⟩
          have HTo := Lib.hid (fun W (h : Gat W b mb v) => g_told tt htt h)
          have HRd := Lib.hid (fun W (h : GatC (Fb (.slice fa m fc)) W b mb v) => c_ready y.p rb hrb h)
          have hO' := hE4.out.once.rdy y.p
          rw [← hrb] at hO'
          have hV' := Lib.hid (hV.out.toRdy y.p)
          have hm' := Lib.hid ((rdyV_mem v y.p).1.trans hvm.out)
          have hx' := Lib.hid (hxs.out.trans (rdyV_mem v y.p).2.1.symm)
          have hr' := rdyV_rdy v y.p
          rw [← htt, hvm.out] at hr'
          have hrc : tt = false ∨ hasB members y.p = false → rb = false := fun h => by
            rw [hrb]
            unfold rdyC
            rw [← htt, hvm.out]
            rcases h with h | h <;> rw [h] <;> simp
          have hrl := hE4.out.gat.gat.rdy
          generalize rdyV v y.p = v' at *
          clear hrb htt
          cases tt with
          | false =>
            obtain rfl := hrc (.inl rfl)
            replace hr' := Lib.hid (show v'.rdy = v.rdy from hr')
            replace hO' := Lib.hid (show OnceI v' tN dN from hO')
            clear hrc
            go_wp2_with fail
            refine (HTo.out _ hE4.out.gat.gat).mono ?_
            rintro e w5 ⟨rfl, hb5⟩
            have hE5 := Lib.hid (hE4.out.below hb5)
            have hX5 := hX.below hb5 hX.lt
            clear x0 x1 x2 xr hb5 hE4
            obtain ⟨x0, x1, x2, xr⟩ := blk8 hX5
            go_wp2_with fail
            refine (HRd.out _ hE5.out.gat).mono ?_
            rintro e w6 ⟨rfl, hG6, hk6⟩
            have hE6 := Lib.hid (hE5.out.step hG6 hk6 hV'.out hO'.out hm'.out)
            clear hG6 hk6 hE5 x0 x1 x2 xr
            go_wp2_with fail
            go_meet
            exact ⟨v', tN, dN, m, fa, fc, fs, rfl, rfl, rfl, by rw [hr'.out], by omega, hE6, hx'⟩
          | true =>
          cases hhp : hasB members y.p with
          | false =>
            obtain rfl := hrc (.inr hhp)
            rw [hhp] at hr'
            replace hr' := Lib.hid (show v'.rdy = v.rdy from hr')
            replace hO' := Lib.hid (show OnceI v' tN dN from hO')
            have HMp := Lib.hid (fun W => HM.out y.p W)
            rw [hhp] at HMp
            clear hrc hhp
            go_wp2_with fail
            refine (HTo.out _ hE4.out.gat.gat).mono ?_
            rintro e w5 ⟨rfl, hb5⟩
            have hE5 := Lib.hid (hE4.out.below hb5)
            have hX5 := hX.below hb5 hX.lt
            clear x0 x1 x2 xr hb5 hE4
            obtain ⟨x0, x1, x2, xr⟩ := blk8 hX5
            go_wp2_with fail
            refine (HMp.out _).mono ?_
            rintro e w5' ⟨rfl, rfl⟩
            go_wp2_with fail
            refine (HRd.out _ hE5.out.gat).mono ?_
            rintro e w6 ⟨rfl, hG6, hk6⟩
            have hE6 := Lib.hid (hE5.out.step hG6 hk6 hV'.out hO'.out hm'.out)
            clear hG6 hk6 hE5 x0 x1 x2 xr
            go_wp2_with fail
            go_meet
            exact ⟨v', tN, dN, m, fa, fc, fs, rfl, rfl, rfl, by rw [hr'.out], by omega, hE6, hx'⟩
          | true =>
            rw [hhp] at hr'
            replace hr' := Lib.hid (show v'.rdy = withN v.rdy [y.p] from hr')
            have HMp := Lib.hid (fun W => HM.out y.p W)
            rw [hhp] at HMp
            clear hrc hhp
            go_wp2_with fail
            refine (HTo.out _ hE4.out.gat.gat).mono ?_
            rintro e w5 ⟨rfl, hb5⟩
            have hE5 := Lib.hid (hE4.out.below hb5)
            have hX5 := hX.below hb5 hX.lt
            clear x0 x1 x2 xr hb5 hE4
            obtain ⟨x0, x1, x2, xr⟩ := blk8 hX5
            go_wp2_with fail
            refine (HMp.out _).mono ?_
            rintro e w5' ⟨rfl, rfl⟩
            go_wp2_with fail
            refine (with1a v.rdy y.p w5.heap.size w5 hrl rfl).mono ?_
            rintro e w3' ⟨rfl, rfl⟩
            have hb6 := alloc_below w5 (.cells #[.int .i64 y.p] 3)
            have hE6 := Lib.hid (hE5.out.below hb6)
            have hX6 := hX5.below hb6 hX5.lt
            clear x0 x1 x2 xr hb6 hE5
            generalize w5.alloc _ = w6 at *
            obtain ⟨x0, x1, x2, xr⟩ := blk8 hX6
            rw [← hr'.out]
            go_wp2_with fail
            refine (HRd.out _ hE6.out.gat).mono ?_
            rintro e w7 ⟨rfl, hG7, hk7⟩
            clear x0 x1 x2 xr
            cases rb with
            | true =>
              have hE7 := Lib.hid (hE6.out.step hG7 hk7 hV'.out (show OnceI v' tN (dN + 1) from hO') hm'.out)
              clear hG7 hk7 hE6
              go_wp2_with fail
              go_meet
              exact ⟨v', tN, dN + 1, m, fa, fc, fs, rfl, by go_num, rfl, rfl, by omega, hE7, hx'⟩
            | false =>
              have hE7 := Lib.hid (hE6.out.step hG7 hk7 hV'.out (show OnceI v' tN dN from hO') hm'.out)
              clear hG7 hk7 hE6
              go_wp2_with fail
              go_meet
              exact ⟨v', tN, dN, m, fa, fc, fs, rfl, rfl, rfl, rfl, by omega, hE7, hx'⟩
        | false =>
          have hi := Tryd.exI y.x
          have hno := Lib.hid (show thereV v y.x.v.who = fs.any (fun x => decide (x.v.who = y.x.v.who)) from by
            unfold thereV
            rw [← hxs.out, vX, List.any_map]
            rfl)
          have HMp := Lib.hid (fun W => HM.out y.x.v.who W)
          have hwc := x2
          have hXl := hX.lt
          clear x0 x1
          obtain ⟨hm0, hhm⟩ : ∃ z, z = hasB members y.x.v.who := ⟨_, rfl⟩
          rw [← hhm] at HMp
          have hadC := Lib.hid (show addC v y.x.v.who = (hm0 && !fs.any (fun x => decide (x.v.who = y.x.v.who))) from by
            unfold addC
            rw [hno.out, hvm.out, ← hhm, Bool.and_comm])
          replace hhm := Lib.hid hhm
          go_wp2_with fail
          refine (HMp.out _).mono ?_
          rintro e w5' ⟨rfl, rfl⟩
          go_wp2_with fail
          obtain ⟨who, hwho⟩ : ∃ z, z = y.x.v.who := ⟨_, rfl⟩
          rw [← hwho] at hwc x2 hadC
          replace hwho := Lib.hid hwho
          go_loopw [12, 13] (fun fv kv wr2 => ∃ (k : Nat) (f : Bool), k ≤ m ∧ kv = .int .i64 k ∧ fv = .bool f ∧ Hid (f = (hm0 && !(fs.take k).any (fun x => decide (x.v.who = who)))) ∧ Hid (Below w4.heap.size w4 wr2)) (fun _ kv _ => m - (RowKit.intOf kv).toNat)
          case atStart => exact ⟨0, hm0, Nat.zero_le _, rfl, rfl, Lib.hid (by simp), Lib.hid (Below.refl _ _)⟩
          case round =>
            obtain ⟨k, f, hk, rfl, rfl, hff, hbk⟩ := hrel
            obtain ⟨wk, rfl⟩ : ∃ z, z = wr := ⟨_, rfl⟩
            have hXk := hX.below hbk.out hX.lt
            have hEk := Lib.hid (hE4.out.below hbk.out)
            clear xr x2 hwc
            obtain ⟨_, _, x2, xr⟩ := blk8 hXk
            rw [show Value.int .i64 y.x.v.who = .int .i64 who from by rw [hwho.out]] at x2
            by_cases hkm : k < m
            · have hkI : (k : Int) < m := by omega
              have hkl : k < fs.length := by rw [hfl.out]; exact hkm
              obtain ⟨gf, of, rfl, hgf, ⟨c0, _⟩, _⟩ := hEk.out.rd.at hkl
              have hst := Lib.hid (show ((fs.take (k + 1)).any fun x => decide (x.v.who = who)) = (((fs.take k).any fun x => decide (x.v.who = who)) || decide (fs[k].v.who = who)) from by rw [List.take_succ_eq_append_getElem hkl, List.any_append]; simp)
              generalize fs[k].v.who = q at *
              clear xr
              cases f with
              | false =>
                have hz := Lib.hid (show false = (hm0 && !(fs.take (k + 1)).any (fun x => decide (x.v.who = who))) from by
                  rw [hst.out, Bool.not_or, ← Bool.and_assoc, ← hff.out, Bool.false_and])
                clear hst hff
                go_wp2_with fail
                go_quiet (fail)
                have hb2 := Lib.hid (belN hbk.out nq)
                go_wp2
                go_roundw
                case rel => exact ⟨k + 1, false, by omega, by go_num, rfl, hz, hb2⟩
                case measure => simp [RowKit.intOf]; omega
              | true =>
                by_cases hqw : q = who
                · have hne : (q != who) = false := by rw [bne_eq_false_iff_eq]; exact hqw
                  have hz := Lib.hid (show false = (hm0 && !(fs.take (k + 1)).any (fun x => decide (x.v.who = who))) from by
                    rw [hst.out, decide_eq_true hqw]; simp)
                  clear hst hff hqw
                  go_wp2_with fail
                  go_quiet (fail)
                  have hb2 := Lib.hid (belN hbk.out nq)
                  go_wp2
                  go_roundw
                  case rel => exact ⟨k + 1, false, by omega, by go_num, rfl, hz, hb2⟩
                  case measure => simp [RowKit.intOf]; omega
                · have hne : (q != who) = true := by rw [bne_iff_ne]; exact hqw
                  have hz := Lib.hid (show true = (hm0 && !(fs.take (k + 1)).any (fun x => decide (x.v.who = who))) from by
                    rw [hst.out, decide_eq_false hqw, Bool.or_false]; exact hff.out)
                  clear hst hff hqw
                  go_wp2_with fail
                  go_quiet (fail)
                  have hb2 := Lib.hid (belN hbk.out nq)
                  go_wp2
                  go_roundw
                  case rel => exact ⟨k + 1, true, by omega, by go_num, rfl, hz, hb2⟩
                  case measure => simp [RowKit.intOf]; omega
            · have hkI : (m : Int) ≤ k := by omega
              obtain rfl : k = m := by omega
              have hac := Lib.hid (show addC v y.x.v.who = f from by
                rw [← hwho.out, hadC.out, hff.out, List.take_of_length_le (by rw [hfl.out]; exact Nat.le_refl _)])
              obtain ⟨tb, htb⟩ : ∃ z, z = (addC v y.x.v.who && toldV (addV v y.x.v)) := ⟨_, rfl⟩
              have hO' := hEk.out.once.add hV.out y.x.v
              rw [← htb] at hO'
              have hV' := Lib.hid (hV.out.toAdd y.x.v)
              have hm' := Lib.hid ((addV_mem v y.x.v).1.trans hvm.out)
              have hr' := Lib.hid (addV_mem v y.x.v).2.1
              have hx' := show (addV v y.x.v).xs = if f = true then v.xs ++ [y.x.v] else v.xs from by
                unfold addV
                rw [hac.out]
                split <;> rfl
              have htf : f = false → tb = false := fun h => by rw [htb, hac.out, h]; rfl
              have HAd := Lib.hid (fun fa' m' fc' W (hlt : ∀ g, Fb (.slice fa' m' fc') g → g < W.heap.size) (h : GatC (Fb (.slice fa' m' fc')) W b mb v) (hb : Below w.heap.size w W) => c_add hlt y.x tb htb h (hiy.out.below hb) hsy)
              generalize addV v y.x.v = v' at *
              clear htb hadC hno hff HMp
              cases f with
              | false =>
                obtain rfl := htf rfl
                replace hx' := Lib.hid (hxs.out.trans (show v.xs = v'.xs from hx'.symm))
                replace hO' := Lib.hid (show OnceI v' tN dN from hO')
                clear htf
                go_wp2_with (refine wpList_load_mid rfl _ (.tmp 87) rfl wo.heap.size 2 rfl (xcC y.x) _ xr Tryd.underlying43 rfl hi ?_)
                refine (HAd.out fa k fc _ hEk.out.fresh hEk.out.gat hEk.out.bel).mono ?_
                rintro e w6 ⟨rfl, hG6, hk6⟩
                have hE6 := Lib.hid (hEk.out.step hG6 hk6 hV'.out hO'.out hm'.out)
                clear hG6 hk6 hEk x2 xr
                go_wp2_with fail
                go_meet
                exact ⟨v', tN, dN, k, fa, fc, fs, rfl, rfl, rfl, by rw [hr'.out], by omega, hE6, hx'⟩
              | true =>
                replace hx' := Lib.hid (show vX (fs ++ [y.x]) = v'.xs from by rw [show v'.xs = v.xs ++ [y.x.v] from hx', ← hxs.out]; simp [vX])
                clear htf
                have hbA := alloc_below wk (.cells (xcA y.x) 43)
                have hEA := Lib.hid (hEk.out.below hbA)
                have hXA := hXk.below hbA hXk.lt
                have hlv := Rd.blk1 (w := wk) (e := 43) (cs := xcC y.x) (sz := 6) (b := wk.heap.size) rfl rfl
                have hoA := hEA.out.own
                have hsA := hEA.out.bel.size
                have hx1 := xcC_one [y.x]
                simp only [List.flatMap_cons, List.flatMap_nil, List.append_nil] at hx1
                go_upto_region 25 with (first
                  | (refine wpList_load_mid rfl _ (.tmp 82) rfl wo.heap.size 2 rfl (xcC y.x) _ xr Tryd.underlying43 rfl hi ?_)
                  | (refine wpList_buildSlice1 (cs := xcA y.x) rfl 38 43 (.tmp 83) rfl Tryd.exE (by decide) (by rfl) rfl ?_)
                  | (at_builtin; refine wpList_append_apart Tryd.exE rfl (.tmp 81) (.tmp 84) rfl hoA rfl hlv (by decide) rfl hx1 (by unfold maxLen; omega) (by omega) hsA ?_; intro v7 w7 hown7 hg7 hloc7; obtain ⟨a7, c7, rfl, _⟩ := Rd.own hown7))
                have hE7 := Lib.hid (hEA.out.push (x := y.x) hiy.out hown7 hg7 hloc7)
                have hX7 := KpO.blk (O := Fb (.slice fa k fc)) (KpO.ofGrown hg7 (fun _ h => h)) hXA (fun h => by have := hfo.out _ h; omega)
                clear xr
                obtain ⟨_, _, _, xr⟩ := blk8 hX7
                clear hown7 hg7 hloc7
                go_wp2_with (refine wpList_load_mid rfl _ (.tmp 87) rfl wo.heap.size 2 rfl (xcC y.x) _ xr Tryd.underlying43 rfl hi ?_)
                refine (HAd.out a7 (k + 1) c7 _ hE7.out.fresh hE7.out.gat hE7.out.bel).mono ?_
                rintro e w8 ⟨rfl, hG8, hk8⟩
                clear xr x2 hlv hoA
                cases tb with
                | true =>
                  have hE8 := Lib.hid (hE7.out.step hG8 hk8 hV'.out (show OnceI v' (tN + 1) dN from hO') hm'.out)
                  clear hG8 hk8 hE7
                  go_wp2_with fail
                  go_meet
                  exact ⟨v', tN + 1, dN, k + 1, a7, c7, _, by go_num, rfl, rfl, by rw [hr'.out], by omega, hE8, hx'⟩
                | false =>
                  have hE8 := Lib.hid (hE7.out.step hG8 hk8 hV'.out (show OnceI v' tN dN from hO') hm'.out)
                  clear hG8 hk8 hE7
                  go_wp2_with fail
                  go_meet
                  exact ⟨v', tN, dN, k + 1, a7, c7, _, rfl, rfl, rfl, by rw [hr'.out], by omega, hE8, hx'⟩
      case rest => as_aux_lemma =>
        obtain ⟨w7, rfl⟩ : ∃ z, z = wc := ⟨_, rfl⟩
        clear x0 x1 x2 xr hX hE4 hV hvm hvl hxs hfl
        obtain ⟨v, tN, dN, m, fa, fc, fs, rfl, rfl, rfl, rfl, hm, hE, hxs⟩ := hcut
        have hvm := hE.out.mem
        have hvl := show v.xs.length = m from by rw [← hxs.out, vX_len]; exact hE.out.len
        obtain ⟨tt, htt⟩ : ∃ z, z = toldV v := ⟨_, rfl⟩
        obtain ⟨dv, hdv⟩ : ∃ z, z = doneV v := ⟨_, rfl⟩
        have e1 : ((m : Int) == (cd : Int)) = tt := by
          rw [htt, toldV, hvl, hvm, ← hcd.out]
          by_cases h : m = cd
          · rw [decide_eq_true h, beq_iff_eq]; omega
          · rw [decide_eq_false h, beq_eq_false_iff_ne]; omega
        have e2 : (m == cd) = tt := by
          rw [← e1]
          by_cases h : m = cd
          · subst h; simp
          · rw [beq_eq_false_iff_ne.2 h]; symm; rw [beq_eq_false_iff_ne]; omega
        have e3 : tt = true → ((v.rdy : Int) == (members : Int)) = dv := fun h => by
          rw [hdv, doneV, ← htt, h, hvm, Bool.true_and]
          by_cases h : v.rdy = members
          · rw [decide_eq_true h, beq_iff_eq]; omega
          · rw [decide_eq_false h, beq_eq_false_iff_ne]; omega
        have e5 : tt = false → dv = false := fun h => by rw [hdv, doneV, ← htt, h]; rfl
        have HTo := Lib.hid (fun W (h : Gat W b mb v) => g_told tt htt h)
        have HDo := Lib.hid (fun W (h : Gat W b mb v) => g_done dv hdv h)
        replace hvl := Lib.hid hvl
        replace hvm := Lib.hid hvm
        clear htt hdv
        cases tt with
        | false =>
          obtain rfl := e5 rfl
          clear e3 e5
          go_wp2_with fail
          refine (HDo.out _ hE.out.gat.gat).mono ?_
          rintro e w8 ⟨rfl, hb⟩
          have hE8 := Lib.hid (hE.out.below hb)
          clear hb hE
          go_wp2_with fail
          refine (HTo.out _ hE8.out.gat.gat).mono ?_
          rintro e w9 ⟨rfl, hb⟩
          have hE9 := Lib.hid (hE8.out.below hb)
          clear hb hE8
          go_wp2_with fail
          refine (HTo.out _ hE9.out.gat.gat).mono ?_
          rintro e w10 ⟨rfl, hb⟩
          have hE10 := Lib.hid (hE9.out.below hb)
          clear hb hE9
          go_wp2_with fail
          refine (HS.out _).mono ?_
          rintro e w11 ⟨rfl, rfl⟩
          go_wp2
          go_roundw
          case rel => first | exact ⟨i + 1, by omega, by go_num, Lib.hid ⟨v, tN, dN, m, fa, fc, fs, rfl, rfl, rfl, rfl, hm, hE10, hxs⟩⟩ | ((repeat apply Exists.intro); exact ⟨⟨by omega, by go_num, Lib.hid ⟨v, tN, dN, m, fa, fc, fs, rfl, rfl, rfl, rfl, hm, hE10, hxs⟩⟩, rfl⟩)
          case measure => simp [RowKit.intOf]; omega
        | true =>
          replace e3 := e3 rfl
          have e4 : (v.rdy == members) = dv := by
            rw [← e3]
            by_cases h : v.rdy = members
            · rw [h]; simp
            · rw [beq_eq_false_iff_ne.2 h]; symm; rw [beq_eq_false_iff_ne]; omega
          have e6 : (dv != dv) = false := by cases dv <;> rfl
          clear e5
          go_wp2_with fail
          refine (HDo.out _ hE.out.gat.gat).mono ?_
          rintro e w8 ⟨rfl, hb⟩
          have hE8 := Lib.hid (hE.out.below hb)
          clear hb hE
          go_wp2_with fail
          refine (HTo.out _ hE8.out.gat.gat).mono ?_
          rintro e w9 ⟨rfl, hb⟩
          have hE9 := Lib.hid (hE8.out.below hb)
          clear hb hE8
          go_wp2_with fail
          refine (HTo.out _ hE9.out.gat.gat).mono ?_
          rintro e w10 ⟨rfl, hb⟩
          have hE10 := Lib.hid (hE9.out.below hb)
          clear hb hE9
          go_wp2_with fail
          refine (HS.out _).mono ?_
          rintro e w11 ⟨rfl, rfl⟩
          go_wp2
          go_roundw
          case rel => first | exact ⟨i + 1, by omega, by go_num, Lib.hid ⟨v, tN, dN, m, fa, fc, fs, rfl, rfl, rfl, rfl, hm, hE10, hxs⟩⟩ | ((repeat apply Exists.intro); exact ⟨⟨by omega, by go_num, Lib.hid ⟨v, tN, dN, m, fa, fc, fs, rfl, rfl, rfl, rfl, hm, hE10, hxs⟩⟩, rfl⟩)
          case measure => simp [RowKit.intOf]; omega
    · have hiI : (n : Int) ≤ i := by omega
      have hd1 := hE.out.once.d1
      have ht1 := hE.out.once.t1
      have hfresh := Lib.hid (fun x (hx : x ∈ exsV v) => show ∃ y ∈ fs, y.v = x from by
        have h1 := exsV_in hx
        rw [← hxs.out] at h1
        obtain ⟨y, hy, e⟩ := List.mem_map.1 h1
        exact ⟨y, hy, e⟩)
      have huni := Lib.hid (fun x (hx : x ∈ exsV v) (y : Xc) (hy : y ∈ fs) (e : x.who = y.v.who) => show x = y.v from
        nodup_eq (·.who) hV.out.nd (exsV_in hx) (by rw [← hxs.out]; exact List.mem_map.2 ⟨y, hy, rfl⟩) e)
      have hel := Lib.hid ((exsV_len hV.out).trans hvl.out)
      have hes := Lib.hid (exsV_sorted v)
      go_wp2_with fail
      refine (g_exs (HT.out _ hE.out.bel) hE.out.gat.gat).mono ?_
      rintro e w7 ⟨la, ln, lc, xs, rfl, hrow, hxx, _, hb7⟩
      have hX := Lib.hid hrow.rd
      have hFr := Lib.hid ((hE.out.below hb7).rd)
      have B7 := Lib.hid (belS hE.out.bel hb7)
      have hlx := hX.out.len
      have hlm : ln = m := by rw [← hlx, ← vX_len, hxx, hel.out]
      have hcap := hX.out.row.le_cap
      have hcap2 := hFr.out.row.le_cap
      have hmx2 := hFr.out.le_max
      rw [← hxx] at hfresh huni hes
      replace hlx := Lib.hid hlx
      obtain rfl := hlm
      clear hrow hb7 hxx hel hE hV hvm hvl hxs
      go_wp2
      go_loopw [15, 16, 17] (fun iv _ _ wr => ∃ (q : Nat), q ≤ ln ∧ iv = .int .i64 q ∧ Hid (Below w7.heap.size w7 wr)) (fun iv _ _ _ => ln - (RowKit.intOf iv).toNat)
      case atStart => exact ⟨0, Nat.zero_le _, rfl, Lib.hid (Below.refl _ _)⟩
      case round =>
        obtain ⟨q, hq, rfl, hbq⟩ := hrel
        obtain ⟨wq, rfl⟩ : ∃ z, z = wr := ⟨_, rfl⟩
        by_cases hqn : q < ln
        · have hqI : (q : Int) < ln := by omega
          have hql : q < xs.length := by rw [hlx.out]; exact hqn
          have hmem : xs[q].v ∈ vX xs := List.mem_map.2 ⟨_, List.getElem_mem hql, rfl⟩
          have hfq := Lib.hid (hfresh.out _ hmem)
          have huq := Lib.hid (huni.out _ hmem)
          obtain ⟨bl, ol, rfl, hbl, ⟨c0, _⟩, _⟩ := (hX.out.below hbq.out).at hql
          obtain ⟨bf, of, rfl, hbf⟩ := Rd.addr hFr.out.row (by omega)
          have hXq := Lib.hid (hX.out.part hql)
          have hsrt := Lib.hid (fun d (hd : q = d + 1) => show ∃ p, xs[d]?.map (·.v.who) = some p ∧ p < xs[q].v.who from by
            subst hd
            have h1 := List.pairwise_iff_getElem.1 hes.out d (d + 1) (by rw [vX_len]; omega) (by rw [vX_len]; omega) (by omega)
            refine ⟨xs[d].v.who, by rw [List.getElem?_eq_getElem (by omega)]; rfl, ?_⟩
            simpa [vX] using h1)
          generalize hxq : xs[q] = x at *
          replace hxq := Lib.hid hxq
          clear hmem
          go_wp2_with fail
          go_loopw [16, 17] (fun fv kv wr2 => ∃ (k : Nat) (f : Bool), k ≤ ln ∧ kv = .int .i64 k ∧ fv = .bool f ∧ Hid (∀ j (hj : j < fs.length), j < k → fs[j].v.who = x.v.who → f = true) ∧ Hid (Below wq.heap.size wq wr2)) (fun _ kv _ => ln - (RowKit.intOf kv).toNat)
          case atStart => exact ⟨0, false, Nat.zero_le _, rfl, rfl, Lib.hid (fun j _ h => by omega), Lib.hid (Below.refl _ _)⟩
          case round =>
            obtain ⟨k, f, hk, rfl, rfl, hff, hbk⟩ := hrel
            obtain ⟨wk, rfl⟩ : ∃ z, z = wr := ⟨_, rfl⟩
            by_cases hkm : k < ln
            · have hkI : (k : Int) < ln := by omega
              have hkl : k < fs.length := by have := hFr.out.len; omega
              cases f with
              | true =>
                go_wp2_with fail
                go_quiet (fail)
                have hb2 := Lib.hid (belN hbk.out nq)
                go_wp2
                go_roundw
                case rel => exact ⟨k + 1, true, by omega, by go_num, rfl, Lib.hid (fun _ _ _ _ => rfl), hb2⟩
                case measure => simp [RowKit.intOf]; omega
              | false =>
                have hXk := (hXq.out.below hbq.out).below hbk.out
                have hFk := ((hFr.out.below hbq.out).below hbk.out).part hkl
                have kR := fun d os => Calls.regrown_of (rexs_one bl (ol + q * 6) (lc - q) bf (of + k * 6) (fc - k) x fs[k] (huq.out _ (List.getElem_mem hkl)) (grow (redrawn wk d) os) (hXk.below (below_regrown wk d os)) (hFk.below (below_regrown wk d os)))
                have hz := Lib.hid (show ∀ j (hj : j < fs.length), j < k + 1 → fs[j].v.who = x.v.who → decide (x.v.who = fs[k].v.who) = true from fun j hj hj1 he => by
                  by_cases hjk : j = k
                  · subst hjk; exact decide_eq_true he.symm
                  · exact absurd (hff.out j hj (by omega) he) (by decide))
                generalize decide (x.v.who = fs[k].v.who) = ff at *
                have hq1 : (q : Int) + 1 ≤ lc := by omega
                have hk1 : (k : Int) + 1 ≤ fc := by omega
                clear hXk hFk hff
                go_wp2_with fail
                refine wp_region_quiet_below (by kernel_rfl) (by kernel_rfl) ?_
                repeat (go_big_quiet_step (first | (with_reducible exact kR _ _)))
                refine wpQuiet_nil ?_; intro w4' hw'; obtain ⟨⟨dq, osq⟩, hw''⟩ := hw'; subst hw''
                have hb2 := Lib.hid (belS hbk.out (below_regrown wk dq osq))
                clear kR
                generalize grow (redrawn wk dq) osq = w8 at *
                go_wp2
                go_roundw
                case rel => exact ⟨k + 1, ff, by omega, by go_num, rfl, hz, hb2⟩
                case measure => simp [RowKit.intOf]; omega
            · have hkI : (ln : Int) ≤ k := by omega
              obtain rfl : k = ln := by omega
              obtain rfl : f = true := by
                obtain ⟨y, hy, e⟩ := hfq.out
                obtain ⟨j, hj, rfl⟩ := List.getElem_of_mem hy
                exact hff.out j hj (by have := hFr.out.len; omega) (by rw [e])
              have hB2 := Lib.hid (belS hbq.out hbk.out)
              have c0k : wk.cell? ⟨bl, ol + q * 6, none⟩ = some (.int .i64 x.v.who) := (hbk.out.cell (p := ⟨bl, _, none⟩) hbl).trans c0
              by_cases hq0 : q = 0
              · have c1k : wk.cell? ⟨bl, ol, none⟩ = some (.int .i64 x.v.who) := by simpa [hq0] using c0k
                have hq1 : ¬ (0 : Int) < q := by omega
                have hq2 : decide ((0 : Int) < q) = false := decide_eq_false hq1
                clear c0k c0
                go_wp2_with fail
                go_quiet (fail)
                have hb2 := Lib.hid (belN hB2.out nq)
                go_wp2
                go_roundw
                case rel => first | exact ⟨q + 1, by omega, by go_num, hb2⟩ | ((repeat apply Exists.intro); exact ⟨⟨by omega, by go_num, hb2⟩, rfl⟩)
                case measure => simp [RowKit.intOf]; omega
              · obtain ⟨d, rfl⟩ : ∃ d, q = d + 1 := ⟨q - 1, by omega⟩
                have hdl : d < xs.length := by omega
                obtain ⟨b', o', e', hlt', ⟨d0, _⟩, _⟩ := (hX.out.below hB2.out).at hdl
                injection e' with e'
                injection e' with e1 e2
                subst e1 e2
                obtain ⟨p, hp1, hp2⟩ := hsrt.out d rfl
                rw [List.getElem?_eq_getElem hdl] at hp1
                simp only [Option.map_some, Option.some.injEq] at hp1
                rw [hp1] at d0
                have hq1 : (0 : Int) < (d : Int) + 1 := by omega
                have hq2 : (d : Int) + 1 < k := by omega
                have hq3 : (d : Int) < k := by omega
                have hple : ¬ x.v.who ≤ p := by omega
                have hpld : decide (x.v.who ≤ p) = false := decide_eq_false hple
                clear c0 hp1
                go_wp2_with fail
                go_quiet (fail)
                have hb2 := Lib.hid (belN hB2.out nq)
                go_wp2
                go_roundw
                case rel => first | exact ⟨d + 1 + 1, by omega, by go_num, hb2⟩ | ((repeat apply Exists.intro); exact ⟨⟨by omega, by go_num, hb2⟩, rfl⟩)
                case measure => simp [RowKit.intOf]; omega
        · have hqI : (ln : Int) ≤ q := by omega
          have hle1 : decide ((tN : Int) ≤ 1) = true := by rw [decide_eq_true_eq]; omega
          have hle2 : decide ((dN : Int) ≤ 1) = true := by rw [decide_eq_true_eq]; omega
          have hle3 : (tN : Int) ≤ 1 := by omega
          have hle4 : (dN : Int) ≤ 1 := by omega
          go_wp2
          go_ret
          exact ⟨rfl, belS B7.out hbq.out⟩
theorem once_claim (members : Int) (a : Option Addr) (n c : Nat) (W : World) (hT : Tab W) (hw : (Lit.int .u64 members).wf = true) (r : ∃ l, RSl RAc 8 W a n c l ∧ n * 80 ≤ reachBytes) :
    Calls Tryd.prog 4 #[.int .u64 members, .slice a n c] W fun e w' => e = .returned (.bool true) ∧ Below W.heap.size W w' := by
  obtain ⟨l, h1, h2⟩ := r
  obtain ⟨ys, hy, hyo⟩ := h1.acs
  obtain ⟨g0, g1⟩ := wf_u64_bounds hw
  obtain ⟨m, rfl⟩ : ∃ k : Nat, members = k := ⟨members.toNat, by omega⟩
  exact once_law m (by omega) a n c ys W hT hy hyo (by unfold reachBytes at h2; omega)
end Go.Proofs.YtlgabjffnjciaaaDoor
