/- plan: the walk of PlanOwn -/
import Derived.Test.YtikhpafdnohhkaaDoorPlanS1
import Derived.Test.YtikhpafdnohhkaaDoorPlanOa
import Derived.Test.YtikhpafdnohhkaaDoorPlanK
import Derived.Deep.Cut
import Derived.Deep.CutRange
namespace Go.Proofs.YtikhpafdnohhkaaDoor
set_option linter.unusedSimpArgs false
set_option linter.unusedVariables false
open Go.RowKit
theorem Tryd.bldK1 (a : Int) : Tryd.prog.built 41 [(0, .int .u64 a)] = some #[.int .u64 a, .int .i64 0] := by kernel_rfl
theorem Tryd.bldO (a : Int) (sa : Option Addr) (n k : Nat) (d e : Int) : Tryd.prog.built 64 [(0, .int .i64 a), (2, .slice sa n k), (3, .agg #[.int .u64 d, .int .i64 e])] = some #[.int .i64 a, .int .u64 0, .int .i64 0, .slice sa n k, .int .u64 d, .int .i64 e] := by kernel_rfl
theorem Tryd.bldP (a b c : Int) (sa : Option Addr) (n k : Nat) : Tryd.prog.built 59 [(0, .int .i64 a), (1, .int .u32 b), (2, .int .u64 c), (4, .slice sa n k)] = some #[.int .i64 a, .int .u32 b, .int .u64 c, .int .i64 0, .slice sa n k, .string (ByteArray.mk #[])] := by kernel_rfl
theorem own_slice {w : World} {B : Nat} {e : TypeId} {sz : Nat} {v : Value} {n : Nat} {xs : List Value} (h : w.ownsRow B e sz v n xs) (hn : 0 < n) : ∃ g c, v = .slice (some ⟨g, 0, none⟩) n c := by
  rcases h.2 with ⟨_, h0⟩ | ⟨g, cap, cur, e, _⟩
  · omega
  · exact ⟨g, cap, e⟩
theorem own_fz {w : World} {B : Nat} {e : TypeId} {sz g n c : Nat} {xs : List Value} (h : w.ownsRow B e sz (.slice (some ⟨g, 0, none⟩) n c) n xs) (j : Nat) : w.frozen? ⟨g, j, none⟩ = false := by
  rcases h.2 with ⟨h0, _⟩ | ⟨g', cap, cur, e, _, hb, _⟩
  · simp at h0
  · simp only [Value.slice.injEq, Option.some.injEq, Addr.mk.injEq, and_true, true_and] at e
    obtain ⟨rfl, _⟩ := e
    exact frozen_of_row w g _ _ _ hb
theorem own_cell {w : World} {B : Nat} {e : TypeId} {g n c : Nat} {l : List Nat} (h : w.ownsRow B e 1 (.slice (some ⟨g, 0, none⟩) n c) n (u32s l)) (j : Nat) (hj : j < l.length) : w.cell? ⟨g, j, none⟩ = some (.int .u32 (l[j] : Nat)) := by
  obtain ⟨a, c', e, hr⟩ := Rd.own h
  injection e with e1 e2 e3
  subst e1
  have := Rd.at hr (j := j) (u := .int .u32 (l[j] : Nat)) (by rw [u32s, List.getElem?_map, List.getElem?_eq_getElem hj]; rfl)
  simpa using this
theorem own_rdu {w : World} {B : Nat} {e : TypeId} {v : Value} {n : Nat} {l : List Nat} (h : w.ownsRow B e 1 v n (u32s l)) : ∃ a c, v = .slice a n c ∧ RdU w a n c l := by
  obtain ⟨a, c', e, hr⟩ := Rd.own h
  exact ⟨a, c', e, hr⟩
def lenV (v : Value) : Nat := match v with | .slice _ n _ => n | _ => 0
set_option maxHeartbeats 12800000 in
set_option maxRecDepth 100000 in
theorem own_law (da : Option Addr) (n1 c1 : Nat) (D : List Nat) (sa : Option Addr) (n2 c2 : Nat) (S : List Nat) (me : Int) (w : World) (hT : Tab w)
    (hd : RdU w da n1 c1 D) (hs : RdU w sa n2 c2 S) :
    Calls Tryd.prog 7 #[.slice da n1 c1, .slice sa n2 c2, .int .i64 me] w fun e w' => e = .returned (.bool true) ∧ Below w.heap.size w w' := by
  have HAw := Lib.hid (awake_any w hT)
  have hmd := hd.le_max
  have hms := hs.le_max
  by_cases h1 : 8 < n1
  · have h1I : (8 : Int) < n1 := by omega
    go_enter Tryd.func7, Tryd.ntmps7
    go_wp2_with fail
    (refine (HAw.out).mono ?_; rintro e wA ⟨rfl, hA⟩)
    go_wp2
    go_ret
    exact ⟨rfl, hA⟩
  have h1I : (n1 : Int) ≤ 8 := by omega
  by_cases h2 : 8 < n2
  · have h2I : (8 : Int) < n2 := by omega
    go_enter Tryd.func7, Tryd.ntmps7
    go_wp2_with fail
    (refine (HAw.out).mono ?_; rintro e wA ⟨rfl, hA⟩)
    go_wp2
    go_ret
    exact ⟨rfl, hA⟩
  have h2I : (n2 : Int) ≤ 8 := by omega
  by_cases h3 : me < 0
  · go_enter Tryd.func7, Tryd.ntmps7
    go_wp2_with fail
    (refine (HAw.out).mono ?_; rintro e wA ⟨rfl, hA⟩)
    go_wp2
    go_ret
    exact ⟨rfl, hA⟩
  by_cases h4 : (n2 : Int) ≤ me
  · go_enter Tryd.func7, Tryd.ntmps7
    go_wp2_with fail
    (refine (HAw.out).mono ?_; rintro e wA ⟨rfl, hA⟩)
    go_wp2
    go_ret
    exact ⟨rfl, hA⟩
  obtain ⟨mk, rfl⟩ : ∃ k : Nat, me = k := ⟨me.toNat, by omega⟩
  have hmk : mk < n2 := by omega
  have hmkI : (mk : Int) < n2 := by omega
  have HD := Lib.hid (fun W (hb : Below w.heap.size w W) => hd.below hb)
  have HS := Lib.hid (fun W (hb : Below w.heap.size w W) => hs.below hb)
  have hdl := Lib.hid hd.len
  have hsl := Lib.hid hs.len
  have HTb := Lib.hid (fun W (hb : Below w.heap.size w W) => hT.below hb hT.1)
  obtain ⟨N, hN⟩ : ∃ N, N = max n1 n2 := ⟨_, rfl⟩
  have hN8 : N ≤ 8 := by omega
  have hN1 : n1 ≤ N := by omega
  have hN2 : n2 ≤ N := by omega
  replace hN := Lib.hid hN
  obtain ⟨C, hC⟩ : ∃ C, C = modK (padL D N) N := ⟨_, rfl⟩
  have hpl := Lib.hid (show (padL D N).length = N from padL_len (by rw [hdl.out]; exact hN1))
  have hCl := Lib.hid (show C.length = N from by rw [hC, modK_len, hpl.out])
  have hC5 := Lib.hid (show ∀ c ∈ C, c < 5 from by rw [hC]; have := modK_end (padL D N); rw [hpl.out] at this; exact this)
  replace hC := Lib.hid hC
  have d1 : decide (n2 ≤ mk) = false := decide_eq_false (by omega)
  have d2 : decide (8 < n1) = false := decide_eq_false (by omega)
  have d3 : decide (8 < n2) = false := decide_eq_false (by omega)
  clear h1 h2 h3 h4 hd hs
  go_enter Tryd.func7, Tryd.ntmps7
  go_wp2_with fail
  (refine (HAw.out).mono ?_; rintro e wA ⟨rfl, hA⟩)
  have hbA := Lib.hid hA
  clear HAw hA
  go_wp2
  go_loopw [7, 8, 9, 10, 11, 12, 13, 14, 15, 16] (fun lv rv sv iv _ _ _ _ _ _ wr => ∃ (i st k : Nat) (la ra : Option Addr) (lc rc : Nat) (ol : List Xc) (rl : List Mc), i ≤ n2 ∧ iv = .int .i64 i ∧ sv = .int .u64 st ∧ lv = .slice la i lc ∧ rv = .slice ra k rc ∧ st ≤ 4 * i ∧ k ≤ 4 * i ∧ Hid (vX ol = olV C S i) ∧ Hid (∀ x ∈ rl, MOk C S i x.m) ∧ Hid (OInv w wr lv i ol rv k rl)) (fun _ _ _ i _ _ _ _ _ _ _ => n2 - (intOf i).toNat)
  case atStart => exact ⟨0, 0, 0, none, none, 0, 0, [], [], Nat.zero_le _, rfl, rfl, rfl, rfl, Nat.le_refl _, Nat.le_refl _, rfl, Lib.hid (fun x hx => by cases hx), Lib.hid (OInv.start hbA.out)⟩
  case round =>
    obtain ⟨i, st, k, la, ra, lc, rc, ol, rl, hi, rfl, rfl, rfl, rfl, hst, hk, hvx, hmo, hO⟩ := hrel
    by_cases hin : i < n2
    · have hiI : (i : Int) < n2 := by omega
      have hil : i < S.length := by rw [hsl.out]; exact hin
      obtain ⟨wo, rfl⟩ : ∃ z, z = wr := ⟨_, rfl⟩
      have hbo := Lib.hid hO.out.bel
      obtain ⟨sb, so, rfl, hsb⟩ := (HS.out _ hbo.out).addr (by omega)
      have hcs := (HS.out _ hbo.out).at hil
      have hSd := Lib.hid (show S.getD i 0 % 5 = S[i] % 5 from by rw [List.getD_eq_getElem?_getD, List.getElem?_eq_getElem hil]; rfl)
      generalize S[i] = s at *
      obtain ⟨sn, hsn⟩ : ∃ sn, sn = s % 5 := ⟨_, rfl⟩
      have hrem : ((s : Int) % 5) = (sn : Int) := by omega
      have hrem2 : (s : Int).tmod 5 = (sn : Int) := by rw [Int.tmod_eq_emod_of_nonneg (by omega)]; exact hrem
      have hsn5 : sn < 5 := by omega
      rw [← hsn] at hSd
      replace hsn := Lib.hid hsn
      have ho := World.ownsRow_made (base := wo.heap.size) (e := 35) (size := 1) wo #[] 0 (Nat.le_refl _) (Nat.zero_le _) rfl
      have hba := alloc_below wo (.cells #[] 35)
      have hrd := (HD.out _ hbo.out).below hba
      have h1o : ∀ (l : List Nat), ∀ u ∈ u32s l, u.oneCell' = true := by intro l u hu; obtain ⟨x, _, rfl⟩ := List.mem_map.1 hu; rfl
      replace h1o := Lib.hid h1o
      go_upto_region 13 with (at_builtin; refine wpList_append_rd Tryd.u32E rfl (.tmp 50) (.tmp 51) rfl ho rfl hrd rfl (h1o.out _) (by unfold maxLen; omega) (by omega) (by simp) ?_; intro v1 w1 hown1 hg1; rw [Nat.zero_add, List.nil_append] at hown1; obtain ⟨ca, cc, rfl, _⟩ := own_rdu hown1)
      have hb1 := Lib.hid (hba.grown hg1 (by simp) (fun g hg => (ho.lt g hg).1))
      replace hown1 := Lib.hid hown1
      clear ho hba hrd hg1 hcs
      go_wp2
      go_loopw [12] (fun cv wr => ∃ (j : Nat) (ca : Option Addr) (cc : Nat), cv = .slice ca j cc ∧ n1 ≤ j ∧ j ≤ N ∧ Hid (wr.ownsRow wo.heap.size 35 1 (.slice ca j cc) j (u32s (padL D j))) ∧ Hid (Below wo.heap.size wo wr)) (fun cv _ => 8 - lenV cv)
      case atStart => exact ⟨n1, ca, cc, rfl, Nat.le_refl _, hN1, by rw [← hdl.out, padL_self, hdl.out]; exact hown1, hb1⟩
      case round =>
        clear hown1 hb1
        obtain ⟨j, ca, cc, rfl, hj1, hjN, hown2, hb2⟩ := hrel
        by_cases hjn : j < n2
        · have hjI : (j : Int) < n2 := by omega
          have hsz2 := hb2.out.size
          go_wp2_with (at_builtin; refine wpList_app1 Tryd.u32E rfl (.tmp 58) (.tmp 59) rfl hown2.out rfl rfl rfl (by unfold maxLen; omega) (by omega) hsz2 ?_; intro v' w' hown' hg')
          have hown3 : w'.ownsRow wo.heap.size 35 1 v' (j + 1) (u32s (padL D (j + 1))) := by
            rw [padL_step (by rw [hdl.out]; exact hj1), u32s, List.map_append]
            exact hown'
          have hb3 := (hb2.out.alloc hsz2 (.cells #[.int .u32 0] 35)).grown hg' (by simp; omega) (fun g hg => (hown2.out.lt g hg).1)
          obtain ⟨ca', cc', rfl, _⟩ := own_rdu hown3
          go_roundw
          case rel => exact ⟨j + 1, ca', cc', rfl, by omega, by omega, Lib.hid hown3, Lib.hid hb3⟩
          case measure => simp [lenV]; omega
        · obtain rfl : N = j := by have := hN.out; omega
          have hjI : (n2 : Int) ≤ N := by omega
          obtain ⟨w2, rfl⟩ : ∃ z, z = wr := ⟨_, rfl⟩
          obtain ⟨g, c', e⟩ := own_slice hown2.out (by omega)
          injection e with e1 _ e3
          subst e1
          clear e3
          have hgo := ((hown2.out.lt g rfl).1)
          have hmod0 : Hid (w2.ownsRow wo.heap.size 35 1 (.slice (some ⟨g, 0, none⟩) N cc) N (u32s (modK (padL D N) 0))) := Lib.hid (by rw [show modK (padL D N) 0 = padL D N from by simp [modK]]; exact hown2.out)
          have hb2' := Lib.hid hb2.out
          clear hown2 hb2 hjn hj1 hjN
          go_wp2
          go_loopw [13] (fun kv wr => ∃ k3 : Nat, k3 ≤ N ∧ kv = .int .i64 k3 ∧ Hid (wr.ownsRow wo.heap.size 35 1 (.slice (some ⟨g, 0, none⟩) N cc) N (u32s (modK (padL D N) k3))) ∧ Hid (Below wo.heap.size wo wr)) (fun kv _ => N - (intOf kv).toNat)
          case atStart => exact ⟨0, Nat.zero_le _, rfl, hmod0, hb2'⟩
          case round =>
            clear hmod0 hb2'
            obtain ⟨k3, hk3, rfl, hown3, hb3⟩ := hrel
            by_cases hkn : k3 < N
            · have hkI : (k3 : Int) < N := by omega
              have hkl : k3 < (padL D N).length := by rw [hpl.out]; exact hkn
              have hc := own_cell hown3.out k3 (by rw [modK_len]; exact hkl)
              rw [modK_at hkl] at hc
              have hf := own_fz hown3.out k3
              have hst := Lib.hid (modK_step hkl)
              obtain ⟨q5, hq5⟩ : ∃ q, q = (padL D N)[k3] % 5 := ⟨_, rfl⟩
              rw [← hq5] at hst
              have hH1 := Lib.hid (show Below wo.heap.size wo (wr.setCell ⟨g, k3, none⟩ (.int .u32 (q5 : Nat))) from hb3.out.setCell (p := ⟨g, k3, none⟩) hgo _)
              have hH2 := Lib.hid (show (wr.setCell ⟨g, k3, none⟩ (.int .u32 (q5 : Nat))).ownsRow wo.heap.size 35 1 (.slice (some ⟨g, 0, none⟩) N cc) N (u32s (modK (padL D N) (k3 + 1))) from by
                have := (hown3.out.stored k3 (.int .u32 (q5 : Nat))).1
                rw [u32s_set, ← hst.out] at this
                exact this)
              generalize (padL D N)[k3] = p5 at *
              have hr1 : ((p5 : Int) % 5) = (q5 : Int) := by omega
              have hr2 : (p5 : Int).tmod 5 = (q5 : Int) := by rw [Int.tmod_eq_emod_of_nonneg (by omega)]; exact hr1
              clear hq5 hst hown3 hb3
              go_wp2
              go_roundw
              case rel => exact ⟨k3 + 1, by omega, by go_num, hH2, hH1⟩
              case measure => simp [intOf]; omega
            · obtain rfl : N = k3 := by omega
              have hkI : (N : Int) ≤ N := by omega
              obtain ⟨w3, rfl⟩ : ∃ z, z = wr := ⟨_, rfl⟩
              have hownC : Hid (w3.ownsRow wo.heap.size 35 1 (.slice (some ⟨g, 0, none⟩) N cc) N (u32s C)) := Lib.hid (by rw [hC.out]; exact hown3.out)
              have hb3' := Lib.hid hb3.out
              have hsz3 := hb3'.out.size
              clear hown3 hb3 hkn hk3
              have hiC : i < C.length := by rw [hCl.out]; omega
              obtain ⟨_, _, e, hrC⟩ := own_rdu hownC.out
              injection e with e1 _ e3
              subst e1 e3
              have hgl := (hownC.out.lt g rfl).2
              have hbi : C.getD i 0 = C[i] := by rw [List.getD_eq_getElem?_getD, List.getElem?_eq_getElem hiC]; rfl
              have hb5 : C[i] < 5 := hC5.out _ (List.getElem_mem hiC)
              go_upto_region 21 with (at_builtin; refine wpList_append_rd Tryd.u32E rfl (.tmp 75) (.tmp 76) rfl (World.ownsRow_nil w3 w3.heap.size 35 1) rfl hrC rfl (h1o.out _) (by unfold maxLen; omega) (by omega) (Nat.le_refl _) ?_; intro v4 w4 hown4 hg4; rw [Nat.zero_add, List.nil_append] at hown4; obtain ⟨xa, xc, rfl, hx4⟩ := own_rdu hown4)
              have hb34 : Below w3.heap.size w3 w4 := (Below.refl _ _).grown hg4 (Nat.le_refl _) (fun g hg => by cases hg)
              have hownC4 := own_belowB hownC.out hb34
              have hcb := own_cell hownC4 i hiC
              have hfb := own_fz hownC4 i
              obtain ⟨t5, ht5⟩ : ∃ t, t = C[i] + sn := ⟨_, rfl⟩
              have hH1 := Lib.hid (show Below wo.heap.size wo (w4.setCell ⟨g, i, none⟩ (.int .u32 (t5 : Nat))) from (hb3'.out.trans (hb34.mono hsz3)).setCell (p := ⟨g, i, none⟩) hgo _)
              have hH2 := Lib.hid (show RdU (w4.setCell ⟨g, i, none⟩ (.int .u32 (t5 : Nat))) (some ⟨g, 0, none⟩) N cc (C.set i t5) from by
                have := (hownC4.stored i (.int .u32 (t5 : Nat))).1
                rw [u32s_set] at this
                obtain ⟨_, _, e, hr⟩ := own_rdu this
                injection e with e1 _ e3
                subst e1 e3
                exact hr)
              have hH3 := Lib.hid (show RdU (w4.setCell ⟨g, i, none⟩ (.int .u32 (t5 : Nat))) xa N xc C from Kp.rd (Kp.setCell (Kp.refl g w4) ⟨g, i, none⟩ rfl _) hx4 (fun g' off e => by subst e; have := (hown4.lt g' rfl).1; omega))
              have hxage := Lib.hid (show ∀ g' off, xa = some ⟨g', off, none⟩ → wo.heap.size ≤ g' from fun g' off e => by subst e; have := (hown4.lt g' rfl).1; omega)
              have hxv := Lib.hid (show exV C S i = ⟨(i : Int), 0, 0, C.set i t5, 1, 0⟩ from by rw [exV, hbi, hSd.out, ht5])
              replace hbi := Lib.hid hbi
              generalize C[i] = b5 at *
              have hsum : (b5 : Int) + (sn : Int) = (t5 : Int) := by omega
              clear hown4 hg4 hx4 hb34 hownC4 hownC hrC hb3' ht5
              go_upto_region 23 with (fail)
              generalize w4.setCell ⟨g, i, none⟩ (.int .u32 (t5 : Nat)) = w5 at *
              clear hcb hfb hsum hsz3 hgl
              have hO5 := Lib.hid (hO.out.below hH1.out)
              have hlow := Lib.hid (show ∀ g', (Value.slice la i lc).ownBlock = some g' → g' < wo.heap.size from fun g' h => (hO.out.lown.lt g' h).2)
              have hrow := Lib.hid (show ∀ g', (Value.slice ra k rc).ownBlock = some g' → g' < wo.heap.size from fun g' h => (hO.out.rown.lt g' h).2)
              have hapc : Hid (Ap w5 (.slice la i lc) (.slice ra k rc) (some ⟨g, 0, none⟩) N cc (C.set i t5)) := Lib.hid ⟨hH2.out, fun g' off e hn => by
                injection e with e; injection e with e1; subst e1
                exact ⟨fun e2 => by have := hlow.out _ e2; omega, fun e2 => by have := hrow.out _ e2; omega⟩⟩
              have hapd : Hid (Ap w5 (.slice la i lc) (.slice ra k rc) xa N xc C) := Lib.hid ⟨hH3.out, fun g' off e hn => by
                have := hxage.out g' off e
                exact ⟨fun e2 => by have := hlow.out _ e2; omega, fun e2 => by have := hrow.out _ e2; omega⟩⟩
              have hbA6 := alloc_below w5 (.cells (xcA ⟨⟨(i : Int), 0, 0, C.set i t5, 1, 0⟩, some ⟨g, 0, none⟩, N, cc⟩) 64)
              have hlv := Rd.blk1 (w := w5) (e := 64) (cs := xcC ⟨⟨(i : Int), 0, 0, C.set i t5, 1, 0⟩, some ⟨g, 0, none⟩, N, cc⟩) (sz := 6) (b := w5.heap.size) rfl rfl
              have hO6 := hO5.out.below hbA6
              have hap6 := Lib.hid (hapc.out.below hbA6)
              have hdp6 := Lib.hid (hapd.out.below hbA6)
              have hsz6 := hO6.bel.size
              have hx1 := xcC_one [⟨⟨(i : Int), 0, 0, C.set i t5, 1, 0⟩, some ⟨g, 0, none⟩, N, cc⟩]
              simp only [List.flatMap_cons, List.flatMap_nil, List.append_nil] at hx1
              clear hO hH1 hH2 hH3 hapc hapd hO5
              go_upto_region 24 with (first
                | (refine wpList_blk_build rfl #[(0, .const (.int .u64 1))] rfl (by rw [List.map_toArray]; exact Tryd.bldK1 _) ?_)
                | (refine wpList_blk_build rfl #[(0, .tmp 89), (2, .tmp 90), (3, .tmp 91)] rfl (by rw [List.map_toArray]; exact Tryd.bldO _ _ _ _ _ _) ?_)
                | (refine wpList_buildSlice1 (cs := xcA ⟨⟨(i : Int), 0, 0, C.set i t5, 1, 0⟩, some ⟨g, 0, none⟩, N, cc⟩) rfl 22 64 (.tmp 92) rfl Tryd.exE (by decide) (by rfl) rfl ?_)
                | (at_builtin; refine wpList_append_apart Tryd.exE rfl (.tmp 88) (.tmp 93) rfl hO6.lown rfl hlv (by decide) rfl hx1 (by unfold maxLen; omega) (by omega) hsz6 ?_; intro v7 w7 hown7 hg7 hloc7))
              obtain ⟨la7, lc7, rfl, _⟩ := Rd.own hown7
              have hO7 := Lib.hid (hO6.pushL (x := ⟨⟨(i : Int), 0, 0, C.set i t5, 1, 0⟩, some ⟨g, 0, none⟩, N, cc⟩) hap6.out hown7 hg7 hloc7)
              have hdp7 := Lib.hid (hdp6.out.grown hg7 hloc7)
              have hvx7 := Lib.hid (show vX (ol ++ [⟨⟨(i : Int), 0, 0, C.set i t5, 1, 0⟩, some ⟨g, 0, none⟩, N, cc⟩]) = olV C S (i + 1) from by
                rw [olV_snoc, hxv.out, ← hvx.out]; simp [vX])
              generalize ol ++ [⟨⟨(i : Int), 0, 0, C.set i t5, 1, 0⟩, some ⟨g, 0, none⟩, N, cc⟩] = ol7 at *
              have hmo7 : Hid (∀ x ∈ rl, MOk C S (i + 1) x.m) := Lib.hid (fun x hx => (hmo.out x hx).mono (by omega))
              clear hown7 hg7 hloc7 hO6 hlv hbA6 hap6 hdp6 hsz6 hx1 hlow hrow hxage hxv hvx hmo
              go_wp2
              go_loopw [8, 9, 16] (fun rv sv kv wr => ∃ (q st' k' : Nat) (ra' : Option Addr) (rc' : Nat) (rl' : List Mc), q ≤ sn ∧ kv = .int .u32 q ∧ sv = .int .u64 st' ∧ rv = .slice ra' k' rc' ∧ st' ≤ 4 * i + q ∧ k' ≤ 4 * i + q ∧ Hid (∀ x ∈ rl', MOk C S (i + 1) x.m) ∧ Hid (OInv w wr (.slice la7 (i + 1) lc7) (i + 1) ol7 rv k' rl') ∧ Hid (Ap wr (.slice la7 (i + 1) lc7) rv xa N xc C)) (fun _ _ kv _ => sn - (intOf kv).toNat)
              case atStart => exact ⟨0, st, k, ra, rc, rl, Nat.zero_le _, rfl, rfl, rfl, hst, hk, hmo7, hO7, hdp7⟩
              case round =>
                clear hmo7 hO7 hdp7
                obtain ⟨q, st', k', ra', rc', rl', hq, rfl, rfl, rfl, hst', hk', hmo8, hO8, hdp8⟩ := hrel
                by_cases hqn : q < sn
                · have hqI : (q : Int) < sn := by omega
                  obtain ⟨s1, hs1⟩ : ∃ x : Nat, x = st' + 1 := ⟨_, rfl⟩
                  obtain ⟨s2, hs2⟩ : ∃ x : Nat, x = s1 + 1 := ⟨_, rfl⟩
                  obtain ⟨u1, hu1⟩ : ∃ x : Nat, x = b5 + q := ⟨_, rfl⟩
                  obtain ⟨u2, hu2⟩ : ∃ x : Nat, x = u1 + 1 := ⟨_, rfl⟩
                  have r1 : (st' : Int) + 1 = (s1 : Int) := by omega
                  have r2 : (s1 : Int) + 1 = (s2 : Int) := by omega
                  have r3 : (b5 : Int) + (q : Int) = (u1 : Int) := by omega
                  have r4 : (u1 : Int) + 1 = (u2 : Int) := by omega
                  have hok : Hid (MOk C S (i + 1) ⟨(i : Int), u2, s2, 0, C, ByteArray.mk #[]⟩) := Lib.hid ⟨i, by omega, rfl, by rw [hbi.out]; show b5 < u2; omega, by rw [hbi.out, hSd.out]; show u2 ≤ b5 + sn; omega, rfl⟩
                  have hst2 : s1 ≤ 4 * i + (q + 1) := by omega
                  have hu1b : u1 ≤ 100 := by omega
                  have hs1b : s1 ≤ 100 := by omega
                  clear hs1 hs2 hu1 hu2
                  have hbA9 := alloc_below wr (.cells (mcA ⟨⟨(i : Int), u2, s2, 0, C, ByteArray.mk #[]⟩, xa, N, xc⟩) 59)
                  have hlv := Rd.blk1 (w := wr) (e := 59) (cs := mcC ⟨⟨(i : Int), u2, s2, 0, C, ByteArray.mk #[]⟩, xa, N, xc⟩) (sz := 6) (b := wr.heap.size) rfl rfl
                  have hO9 := hO8.out.below hbA9
                  have hdp9 := Lib.hid (hdp8.out.below hbA9)
                  have hsz9 := hO9.bel.size
                  have hm1 := mcC_one [⟨⟨(i : Int), u2, s2, 0, C, ByteArray.mk #[]⟩, xa, N, xc⟩]
                  simp only [List.flatMap_cons, List.flatMap_nil, List.append_nil] at hm1
                  clear hO8 hdp8
                  go_wp2_with (first
                    | (refine wpList_blk_build rfl #[(0, .tmp 103), (1, .tmp 107), (2, .tmp 109), (4, .tmp 110)] rfl (by rw [List.map_toArray]; exact Tryd.bldP _ _ _ _ _ _) ?_)
                    | (refine wpList_buildSlice1 (cs := mcA ⟨⟨(i : Int), u2, s2, 0, C, ByteArray.mk #[]⟩, xa, N, xc⟩) rfl 50 59 (.tmp 111) rfl Tryd.msE (by decide) (by rfl) rfl ?_)
                    | (at_builtin; refine wpList_append_apart Tryd.msE rfl (.tmp 102) (.tmp 112) rfl hO9.rown rfl hlv (by decide) rfl hm1 (by unfold maxLen; omega) (by omega) hsz9 ?_; intro v10 w10 hown10 hg10 hloc10; obtain ⟨ra10, rc10, rfl, _⟩ := Rd.own hown10))
                  have hO10 := Lib.hid (hO9.pushR (x := ⟨⟨(i : Int), u2, s2, 0, C, ByteArray.mk #[]⟩, xa, N, xc⟩) hdp9.out hown10 hg10 hloc10)
                  have hdp10 := Lib.hid (hdp9.out.swap.grown hg10 hloc10).swap
                  have hmo10 : Hid (∀ x ∈ rl' ++ [⟨⟨(i : Int), u2, s2, 0, C, ByteArray.mk #[]⟩, xa, N, xc⟩], MOk C S (i + 1) x.m) := Lib.hid (fun x hx => by
                    rcases List.mem_append.1 hx with hx | hx
                    · exact hmo8.out x hx
                    · obtain rfl := List.mem_singleton.1 hx; exact hok.out)
                  clear hown10 hg10 hloc10 hO9 hlv hbA9
                  go_roundw
                  case rel => exact ⟨q + 1, s1, k' + 1, ra10, rc10, _, by omega, by go_num, rfl, rfl, by omega, by omega, hmo10, hO10, hdp10⟩
                  case measure => simp [intOf]; omega
                · have hqI : (sn : Int) ≤ q := by omega
                  go_wp2
                  go_roundw
                  case rel => first | exact ⟨i + 1, st', k', la7, ra', lc7, rc', ol7, rl', by omega, by go_num, rfl, rfl, rfl, by omega, by omega, hvx7, hmo8, hO8⟩ | ((repeat apply Exists.intro); exact ⟨⟨by omega, by go_num, rfl, rfl, rfl, by omega, by omega, hvx7, hmo8, hO8⟩, rfl⟩)
                  case measure => simp [intOf]; omega
    · obtain rfl : n2 = i := by omega
      have hiI : (n2 : Int) ≤ n2 := by omega
      obtain ⟨w1, rfl⟩ : ∃ z, z = wr := ⟨_, rfl⟩
      have hbw := Lib.hid hO.out.bel
      obtain ⟨hol, hrl⟩ := hO.out.len
      have hX : Hid (RdX w1 la n2 lc ol) := Lib.hid (by
        obtain ⟨_, _, e, hr⟩ := Rd.own hO.out.lown
        injection e with e1 _ e3
        subst e1 e3
        exact ⟨hr, fun x hx => (hO.out.linn x hx).1⟩)
      have hM : Hid (RdM w1 ra k rc rl) := Lib.hid (by
        obtain ⟨_, _, e, hr⟩ := Rd.own hO.out.rown
        injection e with e1 _ e3
        subst e1 e3
        exact ⟨hr, fun x hx => (hO.out.rinn x hx).1⟩)
      have hpn : ∀ x ∈ ol, x.pn * 4 ≤ 140737488355328 := by
        intro x hx
        have h1 := (hX.out.inn x hx).len
        have h2 : x.v ∈ vX ol := List.mem_map.2 ⟨x, hx, rfl⟩
        rw [hvx.out] at h2
        obtain ⟨j, _, e⟩ := List.mem_map.1 h2
        rw [← e] at h1
        simp only [exV, List.length_set] at h1
        rw [hCl.out] at h1
        omega
      have hokv : true = true ↔ okV (vX ol) ∧ ∃ x ∈ vX ol, x.who = (mk : Int) := by
        rw [hvx.out]
        exact ⟨fun _ => ⟨olV_ok (by omega), _, olV_mem hmk, rfl⟩, fun _ => rfl⟩
      have HNw := Lib.hid (new_any (mk : Int) la n2 lc ol w1 hX.out hpn (by omega) true hokv)
      have hcL := Lib.hid (olV_cnt (S := S) (n := n2) hC5.out)
      have hkp := Lib.hid (show (rl.filter fun x => keptB (wholeV (olV C S n2)) (mX rl) x.m) = rl from List.filter_eq_self.2 (fun x hx => own_kept (by omega) (by rw [hCl.out]; exact hN8) (by rw [hCl.out]; exact hN2) (fun m hm => by obtain ⟨y, hy, rfl⟩ := List.mem_map.1 hm; exact hmo.out y hy) (List.mem_map.2 ⟨x, hx, rfl⟩)))
      have hk32 : k ≤ 32 := by omega
      clear hO hpn hokv hmo
      go_wp2_with fail
      refine HNw.out.mono ?_
      rintro e w5 ⟨p, rfl, _, hpt, hb5⟩
      obtain ⟨b, l', rfl, hp, hpl⟩ := hpt (by trivial)
      rw [hvx.out, comp_olV] at hpl
      replace hpl := Lib.hid hpl
      have hlen' := Lib.hid (show l'.length ≤ 1000000000 from by have := congrArg List.length hpl.out; rw [vX_len] at this; simp [olV] at this; omega)
      have hbw5 := Lib.hid (belS hbw.out hb5)
      have HK := Lib.hid (keep_any b l' ra k rc rl w5 hp (hM.out.below hb5) (by rw [hpl.out]; exact hcL.out) (by omega))
      rw [hpl.out, hkp.out] at HK
      replace hp := Lib.hid hp
      clear hpt hb5 HNw
      go_wp2_with fail
      refine HK.out.mono ?_
      rintro e w6 ⟨x1, m1, y1, rfl, hk1, hb6⟩
      have hm1 : m1 = k := by rw [← hk1.len, hrl]
      subst hm1
      have HB := Lib.hid (bnd_any b l' 1 0 (by rw [hpl.out]; exact bnd_olV C S n2 (by omega)) hlen'.out w6 (hp.out.below hb6))
      have hbw6 := Lib.hid (belS hbw5.out hb6)
      clear hk1 HK hb6
      go_wp2_with fail
      refine HB.out.mono ?_
      rintro e w7 ⟨rfl, hb7⟩
      have hbw7 := Lib.hid (belS hbw6.out hb7)
      clear hb7 HB
      go_wp2_with (first | (refine wpList_blk_build rfl #[(0, .const (.int .u64 1))] rfl (by rw [List.map_toArray]; exact Tryd.bldK1 _) ?_))
      refine (cmp_any 1 0 1 0 w7).mono ?_
      rintro e w8 ⟨rfl, hb8⟩
      rw [show keyC 1 0 1 0 = 0 from keyC_self (1, 0)]
      go_wp2
      go_ret
      exact ⟨rfl, belS hbw7.out hb8⟩
theorem own_claim (a1 : Option Addr) (n1 c1 : Nat) (a2 : Option Addr) (n2 c2 : Nat) (me : Int) (W : World) (hT : Tab W) (r1 : ∃ l, RSl (RInt .u32) 1 W a1 n1 c1 l ∧ n1 * 4 ≤ reachBytes) (r2 : ∃ l, RSl (RInt .u32) 1 W a2 n2 c2 l ∧ n2 * 4 ≤ reachBytes) (_ : (Lit.int .i64 me).wf = true) :
    Calls Tryd.prog 7 #[.slice a1 n1 c1, .slice a2 n2 c2, .int .i64 me] W fun e w' => e = .returned (.bool true) ∧ Below W.heap.size W w' := by
  obtain ⟨l, h1, h2⟩ := r1
  obtain ⟨m, h3, h4⟩ := r2
  obtain ⟨a, n, c, he, hd, _⟩ := RSlz.u32 (w := W) (cs := [.slice a1 n1 c1]) (l := l) ⟨a1, n1, c1, rfl, h1, h2⟩
  injection he with he
  injection he with e1 e2 e3
  subst e1 e2 e3
  obtain ⟨a, n, c, he, hs, _⟩ := RSlz.u32 (w := W) (cs := [.slice a2 n2 c2]) (l := m) ⟨a2, n2, c2, rfl, h3, h4⟩
  injection he with he
  injection he with e1 e2 e3
  subst e1 e2 e3
  exact own_law _ _ _ _ _ _ _ _ me W hT hd hs
end Go.Proofs.YtikhpafdnohhkaaDoor
