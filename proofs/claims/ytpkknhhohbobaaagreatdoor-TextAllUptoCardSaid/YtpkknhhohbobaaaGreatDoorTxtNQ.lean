/- text: the reference's Print -/
import Derived.Test.YtpkknhhohbobaaaGreatDoorTxtMQ
import Derived.Test.YtpkknhhohbobaaaGreatDoorTxtJQ
namespace Go.Proofs.YtpkknhhohbobaaaGreatDoor
set_option linter.unusedSimpArgs false
set_option linter.unusedVariables false
open Go.RowKit Go.Sort
section
variable {b n : Nat} {w w' : World} {ws : List W8} {ok : Bool} {x : TEv} {da na : Option Addr} {dn dc nn nc : Nat}
theorem rfield_any (f : Lt) (hE : EvR w x da dn dc na nn nc) (hN : EvN b da dn na nn) (h : LnT w b ws ok n) (hn : n ≤ 3145728) :
    Calls Tryz.prog 42 #[.pointer (some ⟨b, 0, none⟩), .int .u8 ((ltB f).toNat : Int), .agg (evC x da dn dc na nn nc)] w (PostF f x b ws ok n w) := by
  cases f
  · exact rf_c hE hN h hn
  · exact rf_n hE hN h hn
  · exact rf_s hE hN h hn
  · exact rf_m hE hN h hn
  · exact rf_v hE hN h hn
  · exact rf_a hE hN h hn
  · exact rf_o hE hN h hn
  · exact rf_b hE hN h hn
theorem ev_range {W : World} {mb : Nat} {t : TypeId} (h : BlkAt W mb t (evC x da dn dc na nn nc)) : W.rangeAt mb 0 ((evC x da dn dc na nn nc)).toList := h.range (fun j u hj => by rw [Nat.zero_add]; simpa using hj)
theorem kindW_ne : ∀ k : Fin 13, 1 ≤ k.val → kindW k.val ≠ [] := by decide +kernel
theorem rowL_le : ∀ k : Fin 13, (rowL k.val).length ≤ 3 := by decide +kernel
theorem LnT.new {w : World} : LnT (w.alloc (.cells #[.string ⟨#[]⟩, .bool true] 100)) w.heap.size [] true 0 := ⟨⟨#[]⟩, BlkAt.new w _ _, (fun _ => ⟨rfl, fun u hu => by cases hu⟩), Nat.le_refl 0⟩
set_option maxHeartbeats 6400000 in
set_option maxRecDepth 100000 in
theorem rprint_any (hE : EvR w x da dn dc na nn nc) :
    Calls Tryz.prog 27 #[.agg (evC x da dn dc na nn nc)] w fun e w' => e = .returned (.tuple #[.string (prS x), .int .i64 (evE x)]) ∧ Below w.heap.size w w' := by
  have hb1 := alloc_below w (.cells (evC x da dn dc na nn nc) 34)
  have hM := BlkAt.new w 34 (evC x da dn dc na nn nc)
  have hsz1 : (w.alloc (.cells (evC x da dn dc na nn nc) 34)).heap.size = w.heap.size + 1 := by simp
  obtain ⟨w1, hw1⟩ : ∃ z, z = w.alloc (.cells (evC x da dn dc na nn nc) 34) := ⟨_, rfl⟩
  rw [← hw1] at hb1 hM hsz1
  have hbd := hE.bound
  obtain ⟨mb, hmb⟩ : ∃ z, z = w.heap.size := ⟨_, rfl⟩
  rw [← hmb] at hM hsz1
  have k0 : w1.cell? ⟨mb, 0, none⟩ = some (.int .i64 x.kind) := BlkAt.cell hM rfl
  have hE1 := hE.below hb1
  have hbb := Lib.hid hb1
  replace hw1 := Lib.hid hw1
  replace hmb := Lib.hid hmb
  clear hE hb1
  by_cases hk : x.kind < 1 ∨ 12 < x.kind
  · have hz := Lib.hid (show evE x = 10 from by unfold evE; rw [if_pos hk])
    have hz2 := Lib.hid (show prS x = ⟨#[]⟩ from if_neg (by rw [hz.out]; decide))
    clear hE1 hM hbd
    by_cases hk1 : x.kind < 1
    · clear hk
      go_enter Tryz.func27, Tryz.ntmps27
      go_wp2_with (first | (refine wpList_blk_box rfl (.tmp 0) rfl rfl mb hmb.out.symm ?_; rw [← hw1.out]))
      refine bodyPost_ret (v := .tuple #[.string ⟨#[]⟩, .int .i64 10]) (by simp [results, Tryz.results27, go_sem]) rfl ?_
      exact ⟨by rw [hz.out, hz2.out], hbb.out⟩
    · have hk2 : 12 < x.kind := by omega
      clear hk
      go_enter Tryz.func27, Tryz.ntmps27
      go_wp2_with (first | (refine wpList_blk_box rfl (.tmp 0) rfl rfl mb hmb.out.symm ?_; rw [← hw1.out]))
      refine bodyPost_ret (v := .tuple #[.string ⟨#[]⟩, .int .i64 10]) (by simp [results, Tryz.results27, go_sem]) rfl ?_
      exact ⟨by rw [hz.out, hz2.out], hbb.out⟩
  · obtain ⟨k, hkk⟩ : ∃ k : Nat, x.kind = k := ⟨x.kind.toNat, by omega⟩
    have hk1 : 1 ≤ k := by omega
    have hk12 : k ≤ 12 := by omega
    have hkI1 : ¬ (k : Int) < 1 := by omega
    have hkI2 : ¬ (12 : Int) < k := by omega
    have hkt : x.kind.toNat = k := by omega
    have hEe := Lib.hid (show evE x = if evOk x = true then 0 else 1 from by unfold evE; rw [if_neg (by omega)])
    have hEW := Lib.hid (show evW x = prW x.proc :: kindW k :: (rowL k).flatMap (fieldW · x) from by unfold evW; rw [hkt])
    have hEO := Lib.hid (show evOk x = (prOk x.proc && (rowL k).all (fieldOk · x)) from by unfold evOk; rw [hkt])
    have hkn := Lib.hid (show kindW k ≠ [] from kindW_ne ⟨k, by omega⟩ hk1)
    have hrl : (rowL k).length ≤ 3 := rowL_le ⟨k, by omega⟩
    rw [hkk] at k0
    replace hkk := Lib.hid hkk
    clear hk hkt
    have hL2 := LnT.new (w := w1)
    have hb2 := alloc_below w1 (.cells #[.string ⟨#[]⟩, .bool true] 100)
    obtain ⟨w2, hw2⟩ : ∃ z, z = w1.alloc (.cells #[.string ⟨#[]⟩, .bool true] 100) := ⟨_, rfl⟩
    rw [← hw2] at hL2 hb2
    obtain ⟨b, hbq⟩ : ∃ z, z = w1.heap.size := ⟨_, rfl⟩
    rw [← hbq] at hL2
    have hmbb : mb ≠ b := by omega
    have hmbq := hmb.out
    have hN : EvN b da dn na nn := ⟨fun h0 g off e => by have := hbd.d h0 g off e; omega, fun h0 g off e => by have := hbd.n h0 g off e; omega⟩
    have hM2 := Lib.hid (hM.below hb2 hM.lt)
    have hE2 := Lib.hid (hE1.below hb2)
    have hb02 := Lib.hid (belS hbb.out hb2)
    have c1 : w2.cell? ⟨mb, 1, none⟩ = some (.int .i64 x.proc) := BlkAt.cell hM2.out rfl
    replace hw2 := Lib.hid hw2
    replace hbq := Lib.hid hbq
    replace hN := Lib.hid hN
    clear hM hE1 hb2 hbd hbb hmbq
    have HP := Lib.hid (rproc_R x.proc hL2)
    have hpl := prR_len x.proc
    clear hL2
    go_enter Tryz.func27, Tryz.ntmps27
    go_wp2_with (first
      | (refine wpList_blk_box rfl (.tmp 0) rfl rfl mb hmb.out.symm ?_; rw [← hw1.out])
      | (refine wpList_blk_box rfl (.tmp 15) rfl rfl b hbq.out.symm ?_; rw [← hw2.out]))
    refine HP.out.mono ?_
    rintro e w3 ⟨rfl, hL3, k3⟩
    have HS := Lib.hid (rsay_any (prR x.proc) (prW x.proc) hL3 (by omega) (fun e => by rw [Bool.true_and] at e; exact ⟨prR_ok e, prW_ne _⟩) (by omega))
    clear HP hL3
    go_wp2_with fail
    refine HS.out.mono ?_
    rintro e w4 ⟨rfl, hL4, k4⟩
    have hk24 := Lib.hid (k3.trans k4)
    have hM4 := Lib.hid (hk24.out.blk hM2.out hmbb)
    have c2 : w4.cell? ⟨mb, 0, none⟩ = some (.int .i64 k) := by rw [← hkk.out]; exact BlkAt.cell hM4.out rfl
    have HW := Lib.hid (rword_any k hk1 hk12 w4)
    clear HS k3 k4 c1
    go_wp2_with fail
    refine HW.out.mono ?_
    rintro e w5 ⟨rfl, rfl⟩
    have hkl : (kindW k).length ≤ 7 := kindW_len ⟨k, by omega⟩
    have HS := Lib.hid (rsay_any (kindW k) (kindW k) hL4 (by omega) (fun _ => ⟨rfl, hkn.out⟩) (by omega))
    clear HW hL4
    go_wp2_with fail
    refine HS.out.mono ?_
    rintro e w5 ⟨rfl, hL5, k5⟩
    have hk25 := Lib.hid (hk24.out.trans k5)
    have hM5 := Lib.hid (k5.blk hM4.out hmbb)
    have c3 : w5.cell? ⟨mb, 0, none⟩ = some (.int .i64 k) := by rw [← hkk.out]; exact BlkAt.cell hM5.out rfl
    have HR := Lib.hid (rrow_any k hk1 hk12 w5)
    have hE5 := Lib.hid (hE2.out.kp hN.out hk25.out)
    clear HS k5 hk24 hM4 hM2 hE2 c2
    go_wp2_with fail
    refine HR.out.mono ?_
    rintro e w6 ⟨rfl, hw⟩
    rw [hw]
    clear hw w6
    have hrs := mkB_size (rowW k)
    have hrlen : (rowW k).length = (rowL k).length := List.length_map ..
    have hI0 := Lib.hid (fun (i : Nat) (h : i < (rowL k).length) (W : World) => idx_mkB (rowW k) i (ltB (rowL k)[i]) (by unfold rowW; rw [List.getElem?_map, List.getElem?_eq_getElem h]; rfl) .i64 W)
    obtain ⟨S, hS⟩ : ∃ z, z = mkB (rowW k) := ⟨_, rfl⟩
    rw [← hS] at hrs hI0 ⊢
    rw [hrlen] at hrs
    replace hS := Lib.hid hS
    replace hL5 := Lib.hid hL5
    obtain ⟨L, hLq⟩ : ∃ z, z = rowL k := ⟨_, rfl⟩
    rw [← hLq] at hrs hI0 hEW hEO hrl
    replace hLq := Lib.hid hLq
    have hMI := Tryz.evI (x := x) (da := da) (dn := dn) (dc := dc) (na := na) (nn := nn) (nc := nc)
    clear HR hrlen c3 k0
    go_wp2
    go_loopw [6] (fun iv wr => ∃ (i m : Nat), i ≤ L.length ∧ iv = .int .i64 i ∧ m ≤ 2 + i * 1048586 ∧ Hid (LnT wr b ([prW x.proc, kindW k] ++ (L.take i).flatMap (fieldW · x)) (prOk x.proc && (L.take i).all (fieldOk · x)) m) ∧ Hid (Kp b w5 wr)) (fun iv _ => L.length - (RowKit.intOf iv).toNat)
    case atStart => exact ⟨0, 2, Nat.zero_le _, rfl, by omega, Lib.hid (by rw [List.take_zero, List.flatMap_nil, List.all_nil, Bool.and_true, List.append_nil]; simpa using hL5.out), Lib.hid (Kp.refl _ _)⟩
    case round =>
      clear hL5
      obtain ⟨i, m, hi, rfl, hm, hL, hk⟩ := hrel
      obtain ⟨w6, rfl⟩ : ∃ z, z = wr := ⟨_, rfl⟩
      have hM6 := Lib.hid (hk.out.blk hM5.out hmbb)
      by_cases hin : i < L.length
      · have hiI : (i : Int) < S.size := by rw [hrs]; omega
        have hI := hI0.out i hin
        have hts := Lib.hid (show L.take (i + 1) = L.take i ++ [L[i]] from List.take_succ_eq_append_getElem hin)
        generalize L[i] = f at *
        have hkB : Hid (Kp b w6 w6.drew) := Lib.hid (Kp.refl b w6).drew
        have hM7 := hkB.out.blk hM6.out hmbb
        have HF := Lib.hid (rfield_any f (hE5.out.kp hN.out (hk.out.trans hkB.out)) hN.out (hL.out.below ((Below.refl w6.heap.size w6).drew)) (by omega))
        go_upto_region 10 with (fail)
        refine wp_region_held_drew (S := fun W => W.rangeAt mb 0 ((evC x da dn dc na nn nc)).toList) (by kernel_rfl) (ev_range hM7) ?_
        intro hHeld
        (refine wpAnyH_take (i := 0) (v := ?_) rfl (by kernel_rfl) (by kernel_rfl) (by kernel_rfl) (fun _ _ _ h => h) (Or.inl ⟨by rfl, ?_⟩) (by assumption) ?_; rotate_left; (focus (intro w hSw; clear hSw; go_simp; (try with_reducible rfl))); (try simp only [Act.put, List.getElem_toArray, List.getElem_cons_zero, List.getElem_cons_succ, List.setIfInBounds_toArray, List.set_cons_zero, List.set_cons_succ]))
        (refine wpAnyH_take (i := 1) (v := ?_) rfl (by kernel_rfl) (by kernel_rfl) (by kernel_rfl) (fun _ _ _ h => h) (Or.inl ⟨by rfl, ?_⟩) (by assumption) ?_; rotate_left; (focus (intro w hSw; clear hSw; go_simp; (try with_reducible rfl))); (try simp only [Act.put, List.getElem_toArray, List.getElem_cons_zero, List.getElem_cons_succ, List.setIfInBounds_toArray, List.set_cons_zero, List.set_cons_succ]))
        (refine wpAnyH_take (i := 2) (v := ?_) rfl (by kernel_rfl) (by kernel_rfl) (by kernel_rfl) (fun _ _ _ h => h) (Or.inl ⟨by rfl, ?_⟩) (by assumption) ?_; rotate_left; (focus (intro w hSw; clear hSw; go_simp; (try with_reducible rfl))); (try simp only [Act.put, List.getElem_toArray, List.getElem_cons_zero, List.getElem_cons_succ, List.setIfInBounds_toArray, List.set_cons_zero, List.set_cons_succ]))
        (refine wpAnyH_take (i := 3) (v := ?_) rfl (by kernel_rfl) (by kernel_rfl) (by kernel_rfl) (fun _ _ _ h => h) (Or.inl ⟨by rfl, ?_⟩) (by assumption) ?_; rotate_left; (focus (intro w hSw; clear hSw; go_simp; (try with_reducible rfl))); (try simp only [Act.put, List.getElem_toArray, List.getElem_cons_zero, List.getElem_cons_succ, List.setIfInBounds_toArray, List.set_cons_zero, List.set_cons_succ]))
        (refine wpAnyH_take (i := 4) (v := .agg ((evC x da dn dc na nn nc))) rfl (by kernel_rfl) (by kernel_rfl) (by kernel_rfl) (fun _ _ _ h => h) (yieldsIf_load_mid (by rfl) 34 (.tmp 1) rfl mb 0 rfl ((evC x da dn dc na nn nc)).toList _ (fun W hW => hW) Tryz.underlying34 rfl hMI) (by assumption) ?_; (try simp only [Act.put, List.getElem_toArray, List.getElem_cons_zero, List.getElem_cons_succ, List.setIfInBounds_toArray, List.set_cons_zero, List.set_cons_succ]))
        (refine wpAnyH_ready (rs := [5]) (by kernel_rfl) (by simp) ?_; refine AllReadyH.cons rfl (fun K hK => ?_) AllReadyH.nil)
        go_simp
        refine HF.out.mono ?_
        rintro e w7 ⟨rfl, ⟨m', hm', hL7⟩, k7⟩
        have hk7 := Lib.hid (hk.out.trans (hkB.out.trans k7))
        refine hK.out _ _ (ev_range (k7.blk hM7 hmbb)) (fun hHeld => ?_)
        clear hK K
        refine wpAnyH_done (by kernel_rfl) ?_ _
        have hL8 : Hid (LnT w7 b ([prW x.proc, kindW k] ++ (L.take (i + 1)).flatMap (fieldW · x)) (prOk x.proc && (L.take (i + 1)).all (fieldOk · x)) m') := Lib.hid (by
          rw [hts.out, List.flatMap_append, List.all_append, List.flatMap_singleton, List.all_cons, List.all_nil, Bool.and_true, ← List.append_assoc, ← Bool.and_assoc]
          exact hL7)
        clear hHeld hL7 k7 hM7 HF hkB hI
        go_wp2
        go_roundw
        case rel => exact ⟨i + 1, m', by omega, by go_num, by omega, hL8, hk7⟩
        case measure => simp [RowKit.intOf]; omega
      · have hiI : ¬ (i : Int) < S.size := by rw [hrs]; omega
        have ht : L.take i = L := List.take_of_length_le (by omega)
        rw [ht] at hL
        have hLf : LnT w6 b (evW x) (evOk x) m := by
          rw [hEW.out, hEO.out]
          exact hL.out
        obtain ⟨s, hs1, hs2, hs3⟩ := hLf
        have c0 : w6.cell? ⟨b, 0, none⟩ = some (.string s) := hs1.cell rfl
        have c1 : w6.cell? ⟨b, 1, none⟩ = some (.bool (evOk x)) := hs1.cell rfl
        have hbe := Lib.hid (Kp.below hb02.out (hk25.out.trans hk.out) (by have := hmb.out; have := hbq.out; omega) hb02.out.size)
        clear hL hs1 hs3
        by_cases ho : evOk x = true
        · have hz := Lib.hid (show evE x = 0 from by rw [hEe.out, if_pos ho])
          have hz2 := Lib.hid (show prS x = s from by
            rw [(hs2 ho).1]
            exact if_pos hz.out)
          rw [ho] at c1
          clear hs2
          go_wp2
          refine bodyPost_ret (v := .tuple #[.string s, .int .i64 0]) (by simp [results, Tryz.results27, go_sem]) rfl ?_
          exact ⟨by rw [hz.out, hz2.out], hbe.out⟩
        · have hz := Lib.hid (show evE x = 1 from by rw [hEe.out, if_neg ho])
          have hz2 := Lib.hid (show prS x = ⟨#[]⟩ from if_neg (by rw [hz.out]; decide))
          rw [Bool.eq_false_iff.2 ho] at c1
          clear hs2
          go_wp2
          refine bodyPost_ret (v := .tuple #[.string ⟨#[]⟩, .int .i64 1]) (by simp [results, Tryz.results27, go_sem]) rfl ?_
          exact ⟨by rw [hz.out, hz2.out], hbe.out⟩
end
end Go.Proofs.YtpkknhhohbobaaaGreatDoor
