/- text: the reference's conf, hex, word, row -/
import Derived.Test.YtpkknhhohbobaaaGreatDoorTxtKQ
namespace Go.Proofs.YtpkknhhohbobaaaGreatDoor
set_option linter.unusedSimpArgs false
set_option linter.unusedVariables false
open Go.RowKit Go.Sort
theorem andq_fin : ∀ c : Fin 256, bits BinOp.and IntKind.u8 (((c.val : Nat) : Int) / 16) 15 = ((c.val / 16 : Nat) : Int) := by decide +kernel
theorem andq (x : UInt8) : bits BinOp.and IntKind.u8 ((x.toNat : Int) / 16) 15 = ((x.toNat / 16 : Nat) : Int) := andq_fin ⟨x.toNat, x.toNat_lt⟩
theorem hx_small : ∀ d : Fin 16, d.val < 10 → (hx d.val).toNat = 48 + d.val := by decide +kernel
theorem hx_great : ∀ d : Fin 16, ¬ d.val < 10 → (hx d.val).toNat = 87 + d.val := by decide +kernel
/-- What the reference writes for a process. -/
def prR (p : Int) : W8 := if prOk p = true then prW p else []
theorem prR_len (p : Int) : (prR p).length ≤ 20 := by
  unfold prR
  split
  · exact prW_len (by assumption)
  · simp
section
variable {b n : Nat} {w w' : World} {ws : List W8} {ok : Bool}
set_option maxHeartbeats 1600000 in
set_option maxRecDepth 100000 in
theorem rconf_any (c : TCf) (he : c.ep < 18446744073709551616) (h : LnT w b ws ok n) :
    Calls Tryz.prog 59 #[.pointer (some ⟨b, 0, none⟩), .agg #[.int .u64 c.ep, .int .i64 c.rp]] w fun e w' => e = .returned (.string (mkB (Lib.decDigits c.ep ++ 46 :: prR c.rp))) ∧ LnT w' b ws (ok && prOk c.rp) n ∧ Kp b w w' := by
  have hlt := h.lt
  have hb1 := alloc_below w (.cells #[.int .u64 c.ep, .int .i64 c.rp] 25)
  have hM := BlkAt.new w 25 #[.int .u64 c.ep, .int .i64 c.rp]
  obtain ⟨w1, hw1⟩ : ∃ z, z = w.alloc (.cells #[.int .u64 c.ep, .int .i64 c.rp] 25) := ⟨_, rfl⟩
  rw [← hw1] at hb1 hM
  obtain ⟨mb, hmb⟩ : ∃ z, z = w.heap.size := ⟨_, rfl⟩
  rw [← hmb] at hM
  have hmbb : mb ≠ b := by omega
  have h1 := Lib.hid (h.below hb1)
  have kb := Lib.hid (Kp.ofBelow (b := b) hb1)
  have hS := Lib.hid (fun W (hb : Below w1.heap.size w1 W) => show BlkAt W mb 25 #[.int .u64 c.ep, .int .i64 c.rp] from hM.below hb hM.lt)
  have hB : Hid (Below w1.heap.size w1 w1.drew) := Lib.hid (Below.refl _ _).drew
  have hst := hS.out _ hB.out
  have HD := Lib.hid (fun W => rdig_any c.ep he W)
  have hl1 := num_len he
  have hl2 := prR_len c.rp
  have hs1 := mkB_size (Lib.decDigits c.ep)
  have hs2 := mkB_size (prR c.rp)
  have hz := Lib.hid (show mkB (Lib.decDigits c.ep) ++ (⟨#[46]⟩ : ByteArray) ++ mkB (prR c.rp) = mkB (Lib.decDigits c.ep ++ 46 :: prR c.rp) from by
    rw [show (⟨#[46]⟩ : ByteArray) = mkB [46] from rfl, mkB_append, mkB_append]; simp)
  have hpr := Lib.hid (show prR c.rp = if prOk c.rp = true then prW c.rp else [] from rfl)
  obtain ⟨X, hX⟩ : ∃ z, z = mkB (Lib.decDigits c.ep) := ⟨_, rfl⟩
  obtain ⟨Y, hY⟩ : ∃ z, z = mkB (prR c.rp) := ⟨_, rfl⟩
  rw [← hX] at hz hs1 HD
  rw [← hY] at hz hs2
  have ht1 : ¬ 9223372036854775807 < X.size + 1 := by omega
  have ht2 : ¬ 9223372036854775807 < X.size + 1 + Y.size := by omega
  replace hX := Lib.hid hX
  replace hY := Lib.hid hY
  replace hw1 := Lib.hid hw1
  replace hmb := Lib.hid hmb
  clear h hM hb1 hl1 hl2 hs1 hs2
  go_enter Tryz.func59, Tryz.ntmps59
  go_wp2_with (first | (refine wpList_blk_box rfl (.tmp 1) rfl rfl mb hmb.out.symm ?_; rw [← hw1.out]))
  refine wp_region_held_drew (S := fun W => BlkAt W mb 25 #[.int .u64 c.ep, .int .i64 c.rp]) (by kernel_rfl) hst ?_
  intro hHeld
  clear hst
  (refine wpAnyH_take (i := 0) (v := ?_) rfl (by kernel_rfl) (by kernel_rfl) (by kernel_rfl) (fun _ _ _ h => h) (Or.inl ⟨by rfl, ?_⟩) (by assumption) ?_; rotate_left; (focus (intro w hSw; clear hSw; go_simp; (try with_reducible rfl))); (try simp only [Act.put, List.getElem_toArray, List.getElem_cons_zero, List.getElem_cons_succ, List.setIfInBounds_toArray, List.set_cons_zero, List.set_cons_succ]))
  (refine wpAnyH_take (i := 1) (v := ?_) rfl (by kernel_rfl) (by kernel_rfl) (by kernel_rfl) (fun _ _ _ h => h) (Or.inl ⟨by rfl, ?_⟩) (by assumption) ?_; rotate_left; (focus (intro w hSw; have hc : w.cell? ⟨mb, 0, none⟩ = some (.int .u64 c.ep) := BlkAt.cell hSw rfl; clear hSw; go_simp; (try with_reducible rfl))); (try simp only [Act.put, List.getElem_toArray, List.getElem_cons_zero, List.getElem_cons_succ, List.setIfInBounds_toArray, List.set_cons_zero, List.set_cons_succ]))
  (refine wpAnyH_take (i := 4) (v := ?_) rfl (by kernel_rfl) (by kernel_rfl) (by kernel_rfl) (fun _ _ _ h => h) (Or.inl ⟨by rfl, ?_⟩) (by assumption) ?_; rotate_left; (focus (intro w hSw; clear hSw; go_simp; (try with_reducible rfl))); (try simp only [Act.put, List.getElem_toArray, List.getElem_cons_zero, List.getElem_cons_succ, List.setIfInBounds_toArray, List.set_cons_zero, List.set_cons_succ]))
  (refine wpAnyH_take (i := 5) (v := ?_) rfl (by kernel_rfl) (by kernel_rfl) (by kernel_rfl) (fun _ _ _ h => h) (Or.inl ⟨by rfl, ?_⟩) (by assumption) ?_; rotate_left; (focus (intro w hSw; clear hSw; go_simp; (try with_reducible rfl))); (try simp only [Act.put, List.getElem_toArray, List.getElem_cons_zero, List.getElem_cons_succ, List.setIfInBounds_toArray, List.set_cons_zero, List.set_cons_succ]))
  (refine wpAnyH_take (i := 6) (v := ?_) rfl (by kernel_rfl) (by kernel_rfl) (by kernel_rfl) (fun _ _ _ h => h) (Or.inl ⟨by rfl, ?_⟩) (by assumption) ?_; rotate_left; (focus (intro w hSw; have hc : w.cell? ⟨mb, 1, none⟩ = some (.int .i64 c.rp) := BlkAt.cell hSw rfl; clear hSw; go_simp; (try with_reducible rfl))); (try simp only [Act.put, List.getElem_toArray, List.getElem_cons_zero, List.getElem_cons_succ, List.setIfInBounds_toArray, List.set_cons_zero, List.set_cons_succ]))
  (refine wpAnyH_ready (rs := [2]) (by kernel_rfl) (by simp) ?_; refine AllReadyH.cons rfl (fun K hK => ?_) AllReadyH.nil)
  go_simp
  refine (HD.out _).mono ?_
  rintro e w3 ⟨rfl, hb3⟩
  replace hB := Lib.hid (belS hB.out hb3)
  clear hb3
  refine hK.out _ _ (hS.out _ hB.out) (fun hHeld => ?_)
  clear hK K
  (refine wpAnyH_take (i := 3) (v := ?_) rfl (by kernel_rfl) (by kernel_rfl) (by kernel_rfl) (fun _ _ _ h => h) (Or.inl ⟨by rfl, ?_⟩) (by assumption) ?_; rotate_left; (focus (intro w hSw; clear hSw; go_simp; (try with_reducible rfl))); (try simp only [Act.put, List.getElem_toArray, List.getElem_cons_zero, List.getElem_cons_succ, List.setIfInBounds_toArray, List.set_cons_zero, List.set_cons_succ]))
  have HP := Lib.hid (rproc_any c.rp (h1.out.below hB.out))
  rw [← hpr.out, ← hY.out] at HP
  have hS3 := Lib.hid (hS.out _ hB.out)
  have kb3 := Lib.hid (kb.out.trans (Kp.ofBelow hB.out))
  (refine wpAnyH_ready (rs := [7]) (by kernel_rfl) (by simp) ?_; refine AllReadyH.cons rfl (fun K hK => ?_) AllReadyH.nil)
  go_simp
  refine HP.out.mono ?_
  rintro e w4 ⟨rfl, h4, k4⟩
  refine hK.out _ _ (k4.blk hS3.out hmbb) (fun hHeld => ?_)
  clear hK K
  (refine wpAnyH_take (i := 8) (v := ?_) rfl (by kernel_rfl) (by kernel_rfl) (by kernel_rfl) (fun _ _ _ h => h) (Or.inl ⟨by rfl, ?_⟩) (by assumption) ?_; rotate_left; (focus (intro w hSw; clear hSw; go_simp; (try with_reducible rfl))); (try simp only [Act.put, List.getElem_toArray, List.getElem_cons_zero, List.getElem_cons_succ, List.setIfInBounds_toArray, List.set_cons_zero, List.set_cons_succ]))
  (refine wpAnyH_take (i := 9) (v := ?_) rfl (by kernel_rfl) (by kernel_rfl) (by kernel_rfl) (fun _ _ _ h => h) (Or.inl ⟨by rfl, ?_⟩) (by assumption) ?_; rotate_left; (focus (intro w hSw; clear hSw; go_simp; (try with_reducible rfl))); (try simp only [Act.put, List.getElem_toArray, List.getElem_cons_zero, List.getElem_cons_succ, List.setIfInBounds_toArray, List.set_cons_zero, List.set_cons_succ]))
  refine wpAnyH_done (by kernel_rfl) ?_ _
  go_wp2
  go_ret
  exact ⟨by rw [← hz.out]; rfl, h4, kb3.out.trans k4⟩
end
set_option maxHeartbeats 3200000 in
set_option maxRecDepth 100000 in
theorem rhex_any (s : W8) (hs : s.length ≤ 1048576) (w : World) :
    Calls Tryz.prog 60 #[.string (mkB s)] w fun e w' => e = .returned (.string (mkB (hexW s))) ∧ Below w.heap.size w w' := by
  have hsz := mkB_size s
  have hi0 := Lib.hid (fun (i : Nat) (h : i < s.length) (W : World) => idx_mkB s i s[i] (List.getElem?_eq_getElem h) .i64 W)
  obtain ⟨S, hS⟩ : ∃ z, z = mkB s := ⟨_, rfl⟩
  rw [← hS] at hsz hi0 ⊢
  replace hS := Lib.hid hS
  replace hsz := Lib.hid hsz
  have h120 : Hid ((⟨#[120]⟩ : ByteArray) = mkB (120 :: (s.take 0).flatMap hx2)) := Lib.hid rfl
  go_enter Tryz.func60, Tryz.ntmps60
  go_wp2
  go_loopw [3, 4, 5, 6] (fun tv iv _ _ wr => ∃ (i : Nat) (T : ByteArray), i ≤ s.length ∧ iv = .int .i64 i ∧ tv = .string T ∧ Hid (T = mkB (120 :: (s.take i).flatMap hx2)) ∧ T.size = 1 + 2 * i ∧ Hid (Below w.heap.size w wr)) (fun _ iv _ _ _ => s.length - (RowKit.intOf iv).toNat)
  case atStart => exact ⟨0, _, Nat.zero_le _, rfl, rfl, h120, rfl, Lib.hid (Below.refl _ _)⟩
  case round =>
    clear h120
    obtain ⟨i, T, hi, rfl, rfl, hT, hTs, hb⟩ := hrel
    obtain ⟨w1, rfl⟩ : ∃ z, z = wr := ⟨_, rfl⟩
    by_cases hin : i < s.length
    · have hiI : (i : Int) < S.size := by rw [hsz.out]; omega
      have hI := hi0.out i hin
      have hnx := Lib.hid (hex_take s hin)
      generalize s[i] = x at *
      have hx1 : x.toNat / 16 < 16 := by have := x.toNat_lt; omega
      have hx2' : x.toNat % 16 < 16 := by omega
      have hA1 := andq x
      have hA2 := and15 x
      obtain ⟨q1, hq1⟩ : ∃ z, z = x.toNat / 16 := ⟨_, rfl⟩
      obtain ⟨q2, hq2⟩ : ∃ z, z = x.toNat % 16 := ⟨_, rfl⟩
      rw [← hq1] at hA1 hx1
      rw [← hq2] at hA2 hx2'
      replace hq1 := Lib.hid hq1
      replace hq2 := Lib.hid hq2
      go_wp2
      go_loopw [3, 5, 6] (fun tv kv _ wr => ∃ (j : Nat) (U : ByteArray), j ≤ 2 ∧ kv = .int .i64 (1 - (j : Int)) ∧ tv = .string U ∧ Hid (U = mkB ((120 :: (s.take i).flatMap hx2) ++ [hx (x.toNat / 16), hx (x.toNat % 16)].take j)) ∧ U.size = 1 + 2 * i + j ∧ Hid (Below w.heap.size w wr)) (fun _ kv _ _ => (RowKit.intOf kv + 1).toNat)
      case atStart => exact ⟨0, T, by omega, rfl, rfl, Lib.hid (by rw [hT.out]; simp), by omega, hb⟩
      case round =>
        obtain ⟨j, U, hj, rfl, rfl, hU, hUs, hb2⟩ := hrel
        obtain ⟨w2, rfl⟩ : ∃ z, z = wr := ⟨_, rfl⟩
        have hUb : ¬ 9223372036854775807 < U.size + 1 := by omega
        obtain rfl | rfl | rfl : j = 0 ∨ j = 1 ∨ j = 2 := by omega
        · by_cases hq : q1 < 10
          · have hqI : (q1 : Int) < 10 := by omega
            have hc := Lib.hid (hx_small ⟨q1, hx1⟩ hq)
            have hr := one_row (w := w2) (hx q1)
            rw [show ((hx q1).toNat : Int) = 48 + (q1 : Int) from by have := hc.out; simp only at this; omega] at hr
            have hw8 : IntKind.u8.wrap (48 + (q1 : Int)) = 48 + q1 := by rw [IntKind.wrap_u8]; omega
            have hb3 := Lib.hid (hb2.out.alloc hb2.out.size (.cells #[.int .u8 (48 + (q1 : Int))] 5))
            have hs1 : (mkB [hx q1]).size = 1 := mkB_size _
            have hUn : Hid (U ++ mkB [hx q1] = mkB ((120 :: (s.take i).flatMap hx2) ++ [hx (x.toNat / 16), hx (x.toNat % 16)].take 1)) := Lib.hid (by rw [hU.out, mkB_append, hq1.out]; simp)
            have hUz : Hid ((U ++ mkB [hx q1]).size = 1 + 2 * i + 1) := Lib.hid (by rw [ByteArray.size_append, hUs, mkB_size]; rfl)
            clear hc
            go_wp2_with (first | (refine wpList_cU_str Tryz.underlying67 Tryz.underlying5 Tryz.underlying9 rfl (.tmp 29) rfl rfl hr ?_))
            go_roundw
            case rel => exact ⟨1, _, by omega, rfl, rfl, hUn, hUz.out, hb3⟩
            case measure => simp [RowKit.intOf]
          · have hqI : ¬ (q1 : Int) < 10 := by omega
            have hc := Lib.hid (hx_great ⟨q1, hx1⟩ hq)
            have hr := one_row (w := w2) (hx q1)
            rw [show ((hx q1).toNat : Int) = 87 + (q1 : Int) from by have := hc.out; simp only at this; omega] at hr
            have hw8 : IntKind.u8.wrap (87 + (q1 : Int)) = 87 + q1 := by rw [IntKind.wrap_u8]; omega
            have hb3 := Lib.hid (hb2.out.alloc hb2.out.size (.cells #[.int .u8 (87 + (q1 : Int))] 5))
            have hs1 : (mkB [hx q1]).size = 1 := mkB_size _
            have hUn : Hid (U ++ mkB [hx q1] = mkB ((120 :: (s.take i).flatMap hx2) ++ [hx (x.toNat / 16), hx (x.toNat % 16)].take 1)) := Lib.hid (by rw [hU.out, mkB_append, hq1.out]; simp)
            have hUz : Hid ((U ++ mkB [hx q1]).size = 1 + 2 * i + 1) := Lib.hid (by rw [ByteArray.size_append, hUs, mkB_size]; rfl)
            clear hc
            go_wp2_with (first | (refine wpList_cU_str Tryz.underlying67 Tryz.underlying5 Tryz.underlying9 rfl (.tmp 35) rfl rfl hr ?_))
            go_roundw
            case rel => exact ⟨1, _, by omega, rfl, rfl, hUn, hUz.out, hb3⟩
            case measure => simp [RowKit.intOf]
        · by_cases hq : q2 < 10
          · have hqI : (q2 : Int) < 10 := by omega
            have hc := Lib.hid (hx_small ⟨q2, hx2'⟩ hq)
            have hr := one_row (w := w2) (hx q2)
            rw [show ((hx q2).toNat : Int) = 48 + (q2 : Int) from by have := hc.out; simp only at this; omega] at hr
            have hw8 : IntKind.u8.wrap (48 + (q2 : Int)) = 48 + q2 := by rw [IntKind.wrap_u8]; omega
            have hb3 := Lib.hid (hb2.out.alloc hb2.out.size (.cells #[.int .u8 (48 + (q2 : Int))] 5))
            have hs1 : (mkB [hx q2]).size = 1 := mkB_size _
            have hUn : Hid (U ++ mkB [hx q2] = mkB ((120 :: (s.take i).flatMap hx2) ++ [hx (x.toNat / 16), hx (x.toNat % 16)].take 2)) := Lib.hid (by rw [hU.out, mkB_append, hq2.out]; simp)
            have hUz : Hid ((U ++ mkB [hx q2]).size = 1 + 2 * i + 2) := Lib.hid (by rw [ByteArray.size_append, hUs, mkB_size]; rfl)
            clear hc
            go_wp2_with (first | (refine wpList_cU_str Tryz.underlying67 Tryz.underlying5 Tryz.underlying9 rfl (.tmp 29) rfl rfl hr ?_))
            go_roundw
            case rel => exact ⟨2, _, by omega, rfl, rfl, hUn, hUz.out, hb3⟩
            case measure => simp [RowKit.intOf]
          · have hqI : ¬ (q2 : Int) < 10 := by omega
            have hc := Lib.hid (hx_great ⟨q2, hx2'⟩ hq)
            have hr := one_row (w := w2) (hx q2)
            rw [show ((hx q2).toNat : Int) = 87 + (q2 : Int) from by have := hc.out; simp only at this; omega] at hr
            have hw8 : IntKind.u8.wrap (87 + (q2 : Int)) = 87 + q2 := by rw [IntKind.wrap_u8]; omega
            have hb3 := Lib.hid (hb2.out.alloc hb2.out.size (.cells #[.int .u8 (87 + (q2 : Int))] 5))
            have hs1 : (mkB [hx q2]).size = 1 := mkB_size _
            have hUn : Hid (U ++ mkB [hx q2] = mkB ((120 :: (s.take i).flatMap hx2) ++ [hx (x.toNat / 16), hx (x.toNat % 16)].take 2)) := Lib.hid (by rw [hU.out, mkB_append, hq2.out]; simp)
            have hUz : Hid ((U ++ mkB [hx q2]).size = 1 + 2 * i + 2) := Lib.hid (by rw [ByteArray.size_append, hUs, mkB_size]; rfl)
            clear hc
            go_wp2_with (first | (refine wpList_cU_str Tryz.underlying67 Tryz.underlying5 Tryz.underlying9 rfl (.tmp 35) rfl rfl hr ?_))
            go_roundw
            case rel => exact ⟨2, _, by omega, rfl, rfl, hUn, hUz.out, hb3⟩
            case measure => simp [RowKit.intOf]
        · have hz := Lib.hid (show U = mkB (120 :: (s.take (i + 1)).flatMap hx2) from by rw [hU.out, hnx.out]; rfl)
          go_wp2
          go_roundw
          case rel => exact ⟨i + 1, U, by omega, by go_num, rfl, hz, by omega, hb2⟩
          case measure => simp [RowKit.intOf]; omega
    · have hiI : ¬ (i : Int) < S.size := by rw [hsz.out]; omega
      obtain rfl : i = s.length := by omega
      have hz := Lib.hid (show T = mkB (hexW s) from by rw [hT.out, List.take_length]; rfl)
      go_wp2
      go_ret
      exact ⟨by rw [← hz.out]; rfl, hb.out⟩
theorem wpList_index_run {P : Program} {w : World} {ops : Array Oper} {rest : List Oper} {o : Oper} {a : Act} {Q : Exit → Act → World → Prop} {t : TypeId} (hg : o.guard = none) (x y : Operand) (ho : o.op = .index t x y) {u k v : Value} (hx : a.eval x = u) (hy : a.eval y = k)
    (hrun : (Instr.index t u k).run P w = .ok v w) (h : wpList P ops Q rest (a.put o.dst v) w) : wpList P ops Q (o :: rest) a w := by
  refine wpList_plain hg fun K hK => ?_
  unfold Oper.wp
  simp only [execOp, ho, hx, hy, Sem.run_bind, Sem.run_pure, hrun, Result.andThen_ok]
  exact hK _ _ h
def ltB : Lt → UInt8
  | .c => 99 | .n => 110 | .s => 115 | .m => 109 | .v => 118 | .a => 97 | .o => 111 | .b => 98
def rowW (k : Nat) : W8 := (rowL k).map ltB
def rowWs : List W8 := (List.range 13).map rowW
theorem word_ix (k : Nat) (h1 : 1 ≤ k) (h2 : k ≤ 12) (w : World) : (Instr.index 91 (.agg (kindWs.map sv).toArray) (.int .i64 k)).run Tryz.prog w = .ok (.string (mkB (kindW k))) w := by
  obtain rfl | rfl | rfl | rfl | rfl | rfl | rfl | rfl | rfl | rfl | rfl | rfl : k = 1 ∨ k = 2 ∨ k = 3 ∨ k = 4 ∨ k = 5 ∨ k = 6 ∨ k = 7 ∨ k = 8 ∨ k = 9 ∨ k = 10 ∨ k = 11 ∨ k = 12 := by omega
  all_goals kernel_rfl
theorem row_ix (k : Nat) (h1 : 1 ≤ k) (h2 : k ≤ 12) (w : World) : (Instr.index 91 (.agg (rowWs.map sv).toArray) (.int .i64 k)).run Tryz.prog w = .ok (.string (mkB (rowW k))) w := by
  obtain rfl | rfl | rfl | rfl | rfl | rfl | rfl | rfl | rfl | rfl | rfl | rfl : k = 1 ∨ k = 2 ∨ k = 3 ∨ k = 4 ∨ k = 5 ∨ k = 6 ∨ k = 7 ∨ k = 8 ∨ k = 9 ∨ k = 10 ∨ k = 11 ∨ k = 12 := by omega
  all_goals kernel_rfl
set_option maxHeartbeats 800000 in
set_option maxRecDepth 100000 in
theorem rword_any (k : Nat) (h1 : 1 ≤ k) (h2 : k ≤ 12) (w : World) : Calls Tryz.prog 20 #[.int .i64 k] w fun e w' => e = .returned (.string (mkB (kindW k))) ∧ w' = w := by
  have hI := Lib.hid (word_ix k h1 h2)
  clear h1 h2
  go_enter Tryz.func20, Tryz.ntmps20
  go_wp2_with (first
    | (refine wpList_blk_build rfl _ rfl (cs := (kindWs.map sv).toArray) (by kernel_rfl) ?_)
    | (refine wpList_index_run rfl (.tmp 3) (.tmp 4) rfl rfl rfl (hI.out _) ?_))
  go_ret
  exact ⟨rfl, rfl⟩
set_option maxHeartbeats 800000 in
set_option maxRecDepth 100000 in
theorem rrow_any (k : Nat) (h1 : 1 ≤ k) (h2 : k ≤ 12) (w : World) : Calls Tryz.prog 21 #[.int .i64 k] w fun e w' => e = .returned (.string (mkB (rowW k))) ∧ w' = w := by
  have hI := Lib.hid (row_ix k h1 h2)
  clear h1 h2
  go_enter Tryz.func21, Tryz.ntmps21
  go_wp2_with (first
    | (refine wpList_blk_build rfl _ rfl (cs := (rowWs.map sv).toArray) (by kernel_rfl) ?_)
    | (refine wpList_index_run rfl (.tmp 3) (.tmp 4) rfl rfl rfl (hI.out _) ?_))
  go_ret
  exact ⟨rfl, rfl⟩
end Go.Proofs.YtpkknhhohbobaaaGreatDoor
