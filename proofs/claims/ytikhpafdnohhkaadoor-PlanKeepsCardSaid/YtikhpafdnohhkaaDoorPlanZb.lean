/- plan: the reference's Keep -/
import Derived.Test.YtikhpafdnohhkaaDoorPlanZa
import Derived.Test.YtikhpafdnohhkaaDoorPlanJ
namespace Go.Proofs.YtikhpafdnohhkaaDoor
set_option linter.unusedSimpArgs false
set_option linter.unusedVariables false
open Go.RowKit
/-- 'make([]T, n)', T of one cell: the block as it lies. -/
theorem wpList_mkn {P : Program} {w : World} {ops : Array Oper} {rest : List Oper} {o : Oper} {a : Act} {Q : Exit → Act → World → Prop} {t e : TypeId} {z : Value} {bytes : Nat} (E : Elt P t e z 1 bytes) (hz1 : z.cells = #[z])
    (hg : o.guard = none) (l c : Operand) (hop : o.op = Op.makeSlice t l c) (n : Nat) {L C : Int} (hl : a.eval l = .int .i64 L) (hc : a.eval c = .int .i64 C) (hL : L = (n : Int)) (hC : C = (n : Int)) (b2 : bytes * n ≤ 281474976710656) (b3 : n ≤ maxLen)
    (hK : wpList P ops Q rest (a.put o.dst (.slice (some ⟨w.heap.size, 0, none⟩) n n)) (w.alloc (.cells (List.replicate n z).toArray e))) : wpList P ops Q (o :: rest) a w := by
  obtain ⟨i, hi, hz0, hz, hb⟩ := info_parts E.info
  subst hC hL
  have hm : (n : Int) ≤ 9223372036854775807 := by unfold maxLen at b3; omega
  have hb2 : (i.bytes : Int) * n ≤ 281474976710656 := by
    have h : ((i.bytes * n : Nat) : Int) ≤ 281474976710656 := by rw [hb]; omega
    rwa [Int.natCast_mul] at h
  have hrun := run_make (P := P) w t e i z E.ty hi hz0 .i64 .i64 n n (by omega) (by omega) hb2 hm
  rw [hz, hz1, Nat.mul_one, Int.toNat_natCast] at hrun
  have he : madeCells #[z] n = (List.replicate n z).toArray := by rw [← toList_madeCells_one]
  rw [he] at hrun
  refine wpList_plain hg fun K hK' => ?_
  unfold Oper.wp
  simp [execOp, hop, hl, hc, hrun, Result.andThen]
  exact hK' _ _ (by simpa using hK)
theorem Tryd.boolE : Elt Tryd.prog 78 4 (.bool false) 1 1 := ⟨by kernel_rfl, by kernel_rfl, rfl, by decide⟩
def GAt (w : World) (b : Nat) (g : List Bool) : Prop := BlkAt w b 4 (g.map Value.bool).toArray
section
variable {w w' : World} {b : Nat} {g : List Bool}
theorem GAt.lt (h : GAt w b g) : b < w.heap.size := BlkAt.lt h
theorem GAt.below (h : GAt w b g) (hb : Below w.heap.size w w') : GAt w' b g := BlkAt.below h hb h.lt
theorem GAt.cell (h : GAt w b g) (i : Nat) (hi : i < g.length) : w.cell? ⟨b, i, none⟩ = some (.bool (gAt g i)) := BlkAt.cell h (by rw [List.getElem?_toArray, List.getElem?_map, List.getElem?_eq_getElem hi, gAt_get hi]; rfl)
theorem GAt.fz (h : GAt w b g) (i : Nat) : w.frozen? ⟨b, i, none⟩ = false := BlkAt.fz h i
theorem GAt.set (h : GAt w b g) (k : Nat) : GAt (w.setCell ⟨b, k, none⟩ (.bool true)) b (g.set k true) := by
  have := BlkAt.set h k (.bool true)
  rw [List.setIfInBounds_toArray, ← List.map_set] at this
  exact this
theorem GAt.rd (h : GAt w b g) (hn : g.length ≤ maxLen) : RdB w (some ⟨b, 0, none⟩) g.length g.length g :=
  ⟨⟨by simp, Nat.le_refl _, hn, (fun h => by cases h)⟩, .inr ⟨b, 0, rfl, h.lt, fun j u hu => BlkAt.cell h (by rw [Nat.zero_add, List.getElem?_toArray]; exact hu)⟩⟩
end
theorem takeG_at {W : Int → Nat} {rest : List Ms} {g : List Bool} {i : Nat} {m : Ms} (hi : rest[i]? = some m) : takeG W rest g i = (cntM W m && lostD W rest g m) := by
  unfold takeG
  rw [hi]; rfl
theorem gv_at {W : Int → Nat} {ms : List Ms} {g : List Bool} (hg : g = roundsN W ms (ms.length + 1)) {i : Nat} {m : Ms} (hi : ms[i]? = some m) : keptB W ms m = (cntM W m && !gAt g i) := by
  rw [Bool.eq_iff_iff, keptB_t, Bool.and_eq_true, Bool.not_eq_true', ← Bool.not_eq_true, hg, roundsN_eq W ms i m hi]
set_option maxHeartbeats 6400000 in
set_option maxRecDepth 100000 in
theorem rkeep_any (a : Option Addr) (n c : Nat) (l : List Xc) (a2 : Option Addr) (n2 c2 : Nat) (rs : List Mc) (w : World) (hr : RdX w a n c l) (hm : RdM w a2 n2 c2 rs) (hn2 : n2 ≤ 1000000000) :
    Calls Tryd.prog 27 #[.slice a n c, .slice a2 n2 c2] w fun e w' => ∃ a' m c', e = .returned (.slice a' m c') ∧ RdM w' a' m c' (rs.filter fun x => keptB (wholeV (vX l)) (mX rs) x.m) ∧ Below w.heap.size w w' := by
  have HRX := Lib.hid (fun W (hb : Below w.heap.size w W) => hr.below hb)
  have HRM := Lib.hid (fun W (hb : Below w.heap.size w W) => hm.below hb)
  have hml := Lib.hid hm.len
  have hinn := Lib.hid hm.inn
  have hrr := Lib.hid hm.row
  have hA := BlkAt.new w 4 (List.replicate n2 (Value.bool false)).toArray
  have hb1 := alloc_below w (.cells (List.replicate n2 (Value.bool false)).toArray 4)
  have hA' : GAt (w.alloc (.cells (List.replicate n2 (Value.bool false)).toArray 4)) w.heap.size (List.replicate n2 false) := by
    unfold GAt; rw [List.map_replicate]; exact hA
  have hR0 : Hid (List.replicate n2 false = roundsN (wholeV (vX l)) (mX rs) 0) := Lib.hid (by rw [roundsN, mX, List.length_map, hml.out])
  clear hA hr hm
  obtain ⟨ms, hms⟩ : ∃ z, z = mX rs := ⟨_, rfl⟩
  have hmsl : Hid (ms.length = n2) := Lib.hid (by rw [hms, mX, List.length_map, hml.out])
  have hmsk := Lib.hid (fun k (hk : k < rs.length) => show ms[k]? = some rs[k].m from by rw [hms, mX, List.getElem?_map, List.getElem?_eq_getElem hk]; rfl)
  have hms' := Lib.hid hms
  rw [← hms] at hR0 ⊢
  clear hms
  go_enter Tryd.func27, Tryd.ntmps27
  go_wp2_with (first
    | (refine wpList_mkn Tryd.boolE rfl rfl (.tmp 11) (.tmp 11) rfl n2 rfl rfl rfl rfl (by omega) (by unfold maxLen; omega) ?_; generalize (w.alloc (.cells (List.replicate n2 (Value.bool false)).toArray 4)) = w1 at *))
  go_loopw [6, 7] (fun i _ wr => ∃ (r : Nat) (g : List Bool), r ≤ n2 + 1 ∧ i = .int .i64 r ∧ g.length = n2 ∧ Hid (g = roundsN (wholeV (vX l)) ms r) ∧ GAt wr w.heap.size g ∧ Below w.heap.size w wr) (fun i _ _ => n2 + 1 - (intOf i).toNat)
  case atStart => exact ⟨0, _, Nat.zero_le _, rfl, by simp, hR0, hA', hb1⟩
  case round =>
    clear hA' hb1 hR0
    obtain ⟨r, g, hrn, rfl, hgl, hgr, hG, hbr⟩ := hrel
    by_cases hr2 : r ≤ n2
    · have hrI : (r : Int) ≤ n2 := by omega
      replace hgl := Lib.hid hgl
      go_wp2
      go_loopw [7] (fun j wr => ∃ (k : Nat) (g2 : List Bool), k ≤ n2 ∧ j = .int .i64 k ∧ g2.length = n2 ∧ Hid (g2 = passK (wholeV (vX l)) ms g k) ∧ GAt wr w.heap.size g2 ∧ Below w.heap.size w wr) (fun j _ => n2 - (intOf j).toNat)
      case atStart => exact ⟨0, g, Nat.zero_le _, rfl, hgl.out, rfl, hG, hbr⟩
      case round =>
        clear hG hbr
        obtain ⟨k, g2, hk, rfl, hgl2, hg2, hG, hbr⟩ := hrel
        by_cases hkn : k < n2
        · have hkl : k < rs.length := by rw [hml.out]; exact hkn
          have hkm : k < ms.length := by rw [hmsl.out]; exact hkn
          have hkI : (k : Int) < n2 := by omega
          have hkg : k < g2.length := by omega
          have hst := Lib.hid (show passK (wholeV (vX l)) ms g (k + 1) = if (cntM (wholeV (vX l)) rs[k].m && lostD (wholeV (vX l)) ms g2 rs[k].m) = true then g2.set k true else g2 from by
            rw [passK, ← hg2.out, takeG_at (hmsk.out k hkl)])
          obtain ⟨gm, om, rfl, hgm, ⟨c0, c1, c2', c3, c4, c5⟩, hin⟩ := (HRM.out _ hbr).at hkl
          have hino := Lib.hid (hinn.out _ (List.getElem_mem hkl))
          have hrdB : RdB wr (some ⟨w.heap.size, 0, none⟩) n2 n2 g2 := by have := hG.rd (by unfold maxLen; omega); rwa [hgl2] at this
          have HL0 := Lib.hid (fun W (t : Bool) (ht : t = lostD (wholeV (vX l)) (rs.map (·.m)) g2 (rs[k]'hkl).m) (hb : Below wr.heap.size wr W) => rlost_any a n c l (some ⟨gm, om, none⟩) n2 c2 rs (some ⟨w.heap.size, 0, none⟩) n2 g2 (rs[k]'hkl) t ht W (HRX.out _ (belS hbr hb)) (HRM.out _ (belS hbr hb)) (Rd.below hrdB hb (Nat.le_refl _)) (hin.below hb))
          rw [show rs.map (·.m) = ms from hms'.out.symm] at HL0
          have HC0 := Lib.hid (fun (t : Bool) (ht : t = cntM (wholeV (vX l)) (rs[k]'hkl).m) => rcounts_any a n c l (rs[k]'hkl) t ht wr (HRX.out _ hbr))
          have HCe := Lib.hid (fun (W : World) j (hb : Below wr.heap.size wr W) => hb.cell (p := ⟨gm, j, none⟩) hgm)
          generalize rs[k] = x at *
          obtain ⟨⟨s, seq, stamp, service, deps, payload⟩, xa, xn, xc⟩ := x
          simp only at c0 c1 c2' c3 c4 c5
          clear hrdB hin
          replace hgl2 := Lib.hid hgl2
          cases hcb : cntM (wholeV (vX l)) ⟨s, seq, stamp, service, deps, payload⟩ with
          | false =>
            have hz := Lib.hid (hst.out.trans (if_neg (by rw [hcb]; simp)))
            have HC := Lib.hid (HC0.out false hcb.symm)
            clear hst HC0 HL0 hcb
            go_wp2_with fail
            refine HC.out.mono ?_
            rintro e w2 ⟨rfl, hb⟩
            go_wp2
            go_roundw
            case rel => exact ⟨k + 1, g2, by omega, by go_num, hgl2.out, Lib.hid hz.out.symm, hG.below hb, belS hbr hb⟩
            case measure => simp [intOf]; omega
          | true =>
            have HC := Lib.hid (HC0.out true hcb.symm)
            cases hlb : lostD (wholeV (vX l)) ms g2 ⟨s, seq, stamp, service, deps, payload⟩ with
            | false =>
              have hz := Lib.hid (hst.out.trans (if_neg (by rw [hlb]; simp)))
              have HL := Lib.hid (fun W hb => HL0.out W false hlb.symm hb)
              clear hst HC0 HL0 hcb hlb
              go_wp2_with fail
              refine HC.out.mono ?_
              rintro e w2 ⟨rfl, hb⟩
              rw [← HCe.out w2 _ hb] at c0 c1 c2' c3 c4 c5
              go_wp2_with fail
              refine (HL.out _ hb).mono ?_
              rintro e w3 ⟨rfl, hb3⟩
              have hb4 := belS hb hb3
              go_wp2
              go_roundw
              case rel => exact ⟨k + 1, g2, by omega, by go_num, hgl2.out, Lib.hid hz.out.symm, hG.below hb4, belS hbr hb4⟩
              case measure => simp [intOf]; omega
            | true =>
              have hz := Lib.hid (hst.out.trans (if_pos (by rw [hcb, hlb]; rfl)))
              have HL := Lib.hid (fun W hb => HL0.out W true hlb.symm hb)
              clear hst HC0 HL0 hcb hlb
              go_wp2_with fail
              refine HC.out.mono ?_
              rintro e w2 ⟨rfl, hb⟩
              rw [← HCe.out w2 _ hb] at c0 c1 c2' c3 c4 c5
              go_wp2_with fail
              refine (HL.out _ hb).mono ?_
              rintro e w3 ⟨rfl, hb3⟩
              have hb4 := belS hb hb3
              have hG4 := hG.below hb4
              have kc := hG4.cell k hkg
              have kf := hG4.fz k
              have hG5 := Lib.hid (hG4.set k)
              have hb5 := Lib.hid (Kp.below (belS hbr hb4) (Kp.setCell (Kp.refl w.heap.size w3) ⟨w.heap.size, k, none⟩ rfl (.bool true)) (Nat.le_refl _) (belS hbr hb4).size)
              generalize gAt g2 k = gb at *
              go_wp2
              go_roundw
              case rel => exact ⟨k + 1, g2.set k true, by omega, by go_num, by rw [List.length_set]; exact hgl2.out, Lib.hid hz.out.symm, hG5.out, hb5.out⟩
              case measure => simp [intOf]; omega
        · have hkn' : Hid (k = n2) := Lib.hid (by omega)
          have hkI : (n2 : Int) ≤ k := by omega
          have hz := Lib.hid (show g2 = roundsN (wholeV (vX l)) ms (r + 1) from by
            rw [hg2.out, hkn'.out, roundsN, ← hgr.out, hmsl.out])
          go_wp2
          go_roundw
          case rel => exact ⟨r + 1, g2, by omega, by go_num, hgl2, hz, hG, hbr⟩
          case measure => simp [intOf]; omega
    · have hrI : (n2 : Int) < r := by omega
      have hr1 : Hid (r = n2 + 1) := Lib.hid (by omega)
      have hgf := Lib.hid (show g = roundsN (wholeV (vX l)) ms (ms.length + 1) from by rw [hgr.out, hr1.out, hmsl.out])
      have hglH := Lib.hid hgl
      clear hgl hgr hrn
      go_wp2
      go_loopw [8, 9] (fun o i wr => ∃ (k : Nat) (F : List Mc), k ≤ n2 ∧ i = .int .i64 k ∧ Hid (F = (rs.take k).filter fun x => keptB (wholeV (vX l)) ms x.m) ∧ wr.ownsRow (w.heap.size + 1) 59 6 o F.length (F.flatMap mcC) ∧ GAt wr w.heap.size g ∧ Below w.heap.size w wr) (fun _ i _ => n2 - (intOf i).toNat)
      case atStart => exact ⟨0, [], Nat.zero_le _, rfl, rfl, World.ownsRow_nil _ _ _ _, hG, hbr⟩
      case round =>
        clear hG hbr
        obtain ⟨k, F, hk, rfl, hF, hown, hG, hbr⟩ := hrel
        have hFl : F.length ≤ k := by
          rw [hF.out]
          exact Nat.le_trans (List.length_filter_le _ _) (by rw [List.length_take]; omega)
        have hgt := hG.lt
        by_cases hkn : k < n2
        · have hkl : k < rs.length := by rw [hml.out]; exact hkn
          have hkI : (k : Int) < n2 := by omega
          have hkg : k < g.length := by rw [hglH.out]; exact hkn
          have HFS := Lib.hid (filter_snoc (fun x => keptB (wholeV (vX l)) ms x.m) rs hkl)
          have HKB := Lib.hid (gv_at hgf.out (hmsk.out k hkl))
          rw [← hF.out] at HFS
          obtain ⟨gm, om, rfl, hgm, ⟨c0, c1, c2', c3, c4, c5⟩, hin⟩ := (HRM.out _ hbr).at hkl
          have HC0 := Lib.hid (fun (t : Bool) (ht : t = cntM (wholeV (vX l)) (rs[k]'hkl).m) => rcounts_any a n c l (rs[k]'hkl) t ht wr (HRX.out _ hbr))
          have HCe := Lib.hid (fun (W : World) j (hb : Below wr.heap.size wr W) => hb.cell (p := ⟨gm, j, none⟩) hgm)
          generalize rs[k] = x at *
          obtain ⟨⟨s, seq, stamp, service, deps, payload⟩, xa, xn, xc⟩ := x
          simp only at c0 c1 c2' c3 c4 c5
          clear hin
          cases hcb : cntM (wholeV (vX l)) ⟨s, seq, stamp, service, deps, payload⟩ with
          | false =>
            have hz := Lib.hid (HFS.out.trans (if_neg (by rw [HKB.out, hcb]; simp)))
            have HC := Lib.hid (HC0.out false hcb.symm)
            clear HFS HKB HC0 hcb
            go_wp2_with fail
            refine HC.out.mono ?_
            rintro e w2 ⟨rfl, hb⟩
            go_wp2
            go_roundw
            case rel => exact ⟨k + 1, F, by omega, by go_num, Lib.hid hz.out.symm, own_belowB hown hb, hG.below hb, belS hbr hb⟩
            case measure => simp [intOf]; omega
          | true =>
            have HC := Lib.hid (HC0.out true hcb.symm)
            cases hgk : gAt g k with
            | true =>
              have hz := Lib.hid (HFS.out.trans (if_neg (by rw [HKB.out, hgk]; simp)))
              clear HFS HKB HC0 hcb
              replace hgk := Lib.hid hgk
              go_wp2_with fail
              refine HC.out.mono ?_
              rintro e w2 ⟨rfl, hb⟩
              have kc := (hG.below hb).cell k hkg
              rw [hgk.out] at kc
              go_wp2
              go_roundw
              case rel => exact ⟨k + 1, F, by omega, by go_num, Lib.hid hz.out.symm, own_belowB hown hb, hG.below hb, belS hbr hb⟩
              case measure => simp [intOf]; omega
            | false =>
              have hz := Lib.hid (HFS.out.trans (if_pos (by rw [HKB.out, hcb, hgk]; rfl)))
              clear HFS HKB HC0 hcb
              replace hgk := Lib.hid hgk
              go_wp2_with fail
              refine HC.out.mono ?_
              rintro e w2 ⟨rfl, hb⟩
              have kc := (hG.below hb).cell k hkg
              rw [hgk.out] at kc
              rw [← HCe.out w2 _ hb] at c0 c1 c2' c3 c4 c5
              have hb7 := belS hb (alloc_below w2 (.cells (mcA ⟨⟨s, seq, stamp, service, deps, payload⟩, xa, xn, xc⟩) 59))
              have hown7 := own_belowB hown hb7
              have hlv := Rd.blk1 (w := w2) (e := 59) (cs := mcC ⟨⟨s, seq, stamp, service, deps, payload⟩, xa, xn, xc⟩) (sz := 6) (b := w2.heap.size) rfl rfl
              have hbr7 := belS hbr hb7
              have hG7 := hG.below hb7
              go_wp2_with (first
                | (refine wpList_buildSlice1 (cs := mcA ⟨⟨s, seq, stamp, service, deps, payload⟩, xa, xn, xc⟩) rfl 50 59 (.tmp 67) rfl Tryd.msE (by decide) (by rfl) rfl ?_)
                | (at_builtin; refine wpList_append_rd Tryd.msE rfl (.tmp 63) (.tmp 68) rfl hown7 rfl hlv rfl (fun u hu => mcC_one [⟨⟨s, seq, stamp, service, deps, payload⟩, xa, xn, xc⟩] u (by simpa using hu)) (by unfold maxLen; omega) (by omega) hG7.lt ?_; intro v' w8 hown' hg'))
              have hb8 := Lib.hid (belG hbr7 hg' hbr7.size (fun g hg => by have := (hown7.lt g hg).1; omega))
              have hG8 : GAt w8 w.heap.size g := (hg'.block _ hG7.lt (fun e => by have := (hown7.lt _ e.symm).1; omega)).trans hG7
              go_roundw
              case rel => exact ⟨k + 1, F ++ [⟨⟨s, seq, stamp, service, deps, payload⟩, xa, xn, xc⟩], by omega, by go_num, Lib.hid hz.out.symm, by rw [List.flatMap_append, List.length_append]; simpa using hown', hG8, hb8.out⟩
              case measure => simp [intOf]; omega
        · have hkn' : Hid (k = n2) := Lib.hid (by omega)
          have hkI : (n2 : Int) ≤ k := by omega
          obtain ⟨v, c', rfl, hrd⟩ := Rd.own hown
          have HFF := Lib.hid (show F = rs.filter fun x => keptB (wholeV (vX l)) ms x.m from by rw [hF.out, List.take_of_length_le (by rw [hml.out, hkn'.out]; exact Nat.le_refl _)])
          clear hF
          go_wp2
          go_ret
          refine ⟨_, _, _, rfl, ?_, hbr⟩
          rw [← HFF.out]
          refine ⟨hrd, fun x hx => ?_⟩
          rw [HFF.out] at hx
          exact (hinn.out x (List.mem_filter.1 hx).1).below hbr
end Go.Proofs.YtikhpafdnohhkaaDoor
